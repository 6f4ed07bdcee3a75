/-
  The abstract machine's operations are sound: those that change nothing.
-/
import Derived.Test.YtpcngdlglejgeaaGreatDoorNy3
namespace Go.Mx
set_option linter.unusedVariables false
set_option linter.unusedSimpArgs false

section
variable {P : Program} {T : TypeId → Option TI} {w : World} {m : MM} {c : Nat} {bad : Nat → Prop}

theorem live_spec {h : Hp} (hh : HeapRep bad h w m c) {b s : Nat} (hl : liveB h b s = true) : ∃ l, m b = some l ∧ l.s = s := by
  unfold liveB at hl
  split at hl
  · rename_i B hg
    simp at hl
    obtain ⟨l, h1, h2, _⟩ := hh.get b B hg
    exact ⟨l, h1, h2.trans hl⟩
  · cases hl

theorem rep_box {h : Hp} (hh : HeapRep bad h w m c) {b s i off : Nat} {x : Value} (hl : liveB h b s = true) (hr : Rep bad w m c (.box b s i off) x) :
    s < c ∧ ∃ l β, m b = some l ∧ l.s = s ∧ l.blk = some β ∧ x = .pointer (some ⟨β, i * l.w + off, none⟩) := by
  obtain ⟨l, h1, h2⟩ := live_spec hh hl
  cases hr with
  | pure hr => cases hr
  | box hs hx hb =>
    obtain ⟨β', h4, h5⟩ := hb l h1 h2
    exact ⟨hs, l, β', h1, h2, h4, h5⟩

theorem mk_box {b s i off : Nat} {l : Loc} {β : Nat} (hs : s < c) (h1 : m b = some l) (h2 : l.s = s) (h3 : l.blk = some β) {a : Addr} (ha : a = ⟨β, i * l.w + off, none⟩) :
    Rep bad w m c (.box b s i off) (.pointer (some a)) := by
  subst ha
  refine .box hs rfl fun l' h4 _ => ?_
  rw [h1] at h4; cases h4
  exact ⟨β, h3, rfl⟩

theorem evFieldAddr_sound (hT : TabOk P T) {h : Hp} (hh : HeapRep bad h w m c) {s : TypeId} {pv v : V} {f : Nat} {x : Value} (hr : Rep bad w m c pv x) (he : evFieldAddr T h s pv f = some v) :
    ∃ y, (Instr.fieldAt s x f).run P w = .ok y w ∧ Rep bad w m c v y := by
  unfold evFieldAddr at he
  split at he
  · rename_i _ _ fs _ hTs
    obtain ⟨_, _, _, _, _, hu, _⟩ := hT s _ hTs
    split at he
    · rename_i fl hf
      split at he
      · rename_i i hTi
        obtain ⟨info, z, hi, hsz, _⟩ := hT _ i hTi
        split at he
        · cases he
        · rename_i h0
          have hrun : ∀ β o, (Instr.fieldAt s (.pointer (some ⟨β, o, none⟩)) f).run P w = .ok (.pointer (some ⟨β, o + fl.offset, none⟩)) w := by
            intro β o
            simp only [] at hu
            simp [Instr.fieldAt, run_underlying hu, hf, Instr.sureAddr, fieldPlace, sizeOf_run hi, hsz, h0, Addr.add_lit]
          split at he
          · rename_i v0 off
            split at he
            · rename_i hlt
              cases he
              cases hr with
              | pure hr => cases hr with
                | ref hβ hoff hc hr =>
                  refine ⟨_, hrun _ _, .pure ?_⟩
                  rw [Nat.add_assoc]
                  exact .ref hβ hlt hc hr
            · cases he
          · rename_i b st i' off
            split at he
            · rename_i hl
              cases he
              obtain ⟨hs, l, β, h1, h2, h3, rfl⟩ := rep_box hh hl hr
              exact ⟨_, hrun _ _, mk_box hs h1 h2 h3 (by rw [Nat.add_assoc])⟩
            · cases he
          · cases he
      · cases he
    · cases he
  · cases he

theorem asI_spec {ix : V} {n : Int} (h : asI ix = some n) : ∃ k, ix = .p (.int k n) := by
  unfold asI at h
  split at h
  · cases h; exact ⟨_, rfl⟩
  · cases h

theorem rep_p {x y : Value} (h : Rep bad w m c (.p x) y) : y = x := by
  cases h with
  | pure h => cases h; rfl

theorem evIndexAddr_sound (hT : TabOk P T) {h : Hp} (hh : HeapRep bad h w m c) {t : TypeId} {xv iv v : V} {x ix : Value} (hr : Rep bad w m c xv x) (hri : Rep bad w m c iv ix) (he : evIndexAddr T h t xv iv = some v) :
    ∃ y, (Instr.indexAt t x ix).run P w = .ok y w ∧ Rep bad w m c v y := by
  unfold evIndexAddr at he
  split at he
  · rename_i _ _ e _ n hTt hai
    obtain ⟨_, _, _, _, _, hu, _⟩ := hT t _ hTt
    simp only [] at hu
    obtain ⟨k, rfl⟩ := asI_spec hai
    obtain rfl := rep_p hri
    split at he
    · cases he
    · rename_i hn
      split at he
      · rename_i i c' xs hTe
        obtain ⟨info, z, hi, hsz, _⟩ := hT _ i hTe
        split at he
        · rename_i v0 hx
          split at he
          · rename_i hcond
            obtain ⟨hcl, hpos, hcn⟩ := hcond
            cases he
            obtain ⟨hlt, hv⟩ := List.getElem?_eq_some_iff.1 hx
            cases hr with
            | pure hr => cases hr with
              | psNil => simp at hx
              | ps hn' hcap hfull hβ hw hc hr hq =>
                rename_i β o k' cap q val
                obtain rfl : q = none := by
                  cases q with
                  | none => rfl
                  | some z => have := hq (by simp); omega
                have hk : k' = i.size := by rw [← hw n.toNat hlt, hv]; exact hcl
                subst hk
                have hlt' : n < (xs.length : Int) := by omega
                have hβ := hβ (by intro h; rw [h] at hlt; simp at hlt)
                refine ⟨.pointer (some ⟨β, o + n.toNat * i.size, none⟩), ?_, .pure ?_⟩
                · simp [Instr.indexAt, asIntOf, run_underlying hu, sizeOf_run hi, hsz, show 0 ≤ n by omega, hlt', Addr.add_lit]
                · have := RepP.ref (w := w) (ok := okOf bad w m) (v := v0) (off := 0) (β := β) (o := o + n.toNat * i.size) (val := fun j => val n.toNat j) hβ (by omega)
                    (fun j hj => hc n.toNat j hlt (by omega)) (fun j hj => by subst hv; exact hr n.toNat hlt j hj)
                  simpa using this
          · cases he
        · cases he
      · rename_i i b s off len tip hTe
        obtain ⟨info, z, hi, hsz, _⟩ := hT _ i hTe
        split at he
        · rename_i B hg
          split at he
          · rename_i hcond
            obtain ⟨⟨hs, hw, hlt⟩, hBw0⟩ := hcond
            cases he
            obtain ⟨l, β, cs, hm, hls, hlw, _, hblk, _⟩ := rep_blockX hh hg hs (.inr hBw0) (sl_blk hr (by omega))
            cases hr with
            | pure hr => cases hr
            | sl hs' hx hb =>
              rcases hb l hm hls with ⟨h0, _⟩ | ⟨β', cap, h1, rfl, h2, _⟩
              · rw [hblk] at h0; cases h0
              · rw [hblk] at h1; cases h1
                have hlt' : n < (len : Int) := by omega
                refine ⟨.pointer (some ⟨β, off * l.w + n.toNat * i.size, none⟩), ?_, mk_box hs' hm hls hblk ?_⟩
                · simp [Instr.indexAt, asIntOf, run_underlying hu, sizeOf_run hi, hsz, show 0 ≤ n by omega, hlt', Addr.add_lit]
                · rw [hlw, hw, Nat.add_mul]; rfl
          · cases he
        · cases he
      · cases he
  · rename_i _ _ len e _ n hTt hai
    obtain ⟨_, _, _, _, _, hu, _⟩ := hT t _ hTt
    simp only [] at hu
    obtain ⟨k, rfl⟩ := asI_spec hai
    obtain rfl := rep_p hri
    split at he
    · cases he
    · rename_i hn
      split at he
      · rename_i hlt
        have hlt' : n < (len : Int) := by omega
        split at he
        · rename_i i v0 off hTe
          obtain ⟨info, z, hi, hsz, _⟩ := hT _ i hTe
          split at he
          · rename_i hoff
            cases he
            cases hr with
            | pure hr => cases hr with
              | ref hβ ho hc hr =>
                rename_i β o val
                refine ⟨.pointer (some ⟨β, o + off + n.toNat * i.size, none⟩), ?_, .pure ?_⟩
                · simp [Instr.indexAt, asIntOf, run_underlying hu, sizeOf_run hi, hsz, show 0 ≤ n by omega, hlt', Addr.add_lit, Instr.sureAddr]
                · rw [Nat.add_assoc]; exact .ref hβ hoff hc hr
          · cases he
        · rename_i i b s j off hTe
          obtain ⟨info, z, hi, hsz, _⟩ := hT _ i hTe
          split at he
          · rename_i hl
            cases he
            obtain ⟨hs, l, β, h1, h2, h3, rfl⟩ := rep_box hh hl hr
            refine ⟨.pointer (some ⟨β, j * l.w + off + n.toNat * i.size, none⟩), ?_, mk_box hs h1 h2 h3 (by rw [Nat.add_assoc])⟩
            simp [Instr.indexAt, asIntOf, run_underlying hu, sizeOf_run hi, hsz, show 0 ≤ n by omega, hlt', Addr.add_lit, Instr.sureAddr]
          · cases he
        · cases he
      · cases he
  · cases he

/-- A part of a value's cells. -/
theorem part_run (hT : TabOk P T) {t : TypeId} {i : TI} (hTi : T t = some i) {vs : List V} {cs : Array Value} (hl : vs.length = cs.size) (hr : ∀ j (h1 : j < vs.length) (h2 : j < cs.size), Rep bad w m c vs[j] cs[j])
    {off : Nat} {v : V} (hp : partV i vs off = some v) : ∃ y, (part t cs off).run P w = .ok y w ∧ Rep bad w m c v y := by
  obtain ⟨info, z, hi, hsz, _, hu, _⟩ := hT t i hTi
  unfold partV at hp
  split at hp
  · rename_i ha
    split at hp
    · rename_i hle
      cases hp
      refine ⟨.agg (cs.extract off (off + i.size)), by simp [part, isAgg_run hu, ha, sizeOf_run hi, hsz], .agg (by simp; omega) fun j h1 h2 => ?_⟩
      simp only [List.length_take, List.length_drop] at h1
      have e1 : ((vs.drop off).take i.size)[j]'(by simp; omega) = vs[off + j]'(by omega) := by simp
      rw [e1]
      simpa using hr (off + j) (by omega) (by omega)
    · cases hp
  · rename_i ha
    obtain ⟨hlt, hv⟩ := List.getElem?_eq_some_iff.1 hp
    have hlt' : off < cs.size := by omega
    refine ⟨cs[off], by simp [part, isAgg_run hu, ha, hlt'], hv ▸ hr off hlt hlt'⟩

theorem rep_agg {vs : List V} {x : Value} (h : Rep bad w m c (.agg vs) x) : ∃ cs, x = .agg cs ∧ vs.length = cs.size ∧ ∀ i (h1 : i < vs.length) (h2 : i < cs.size), Rep bad w m c vs[i] cs[i] := by
  cases h with
  | pure h => cases h with
    | agg hl h => exact ⟨_, rfl, hl, fun i h1 h2 => .pure (h i h1 h2)⟩
  | agg hl h => exact ⟨_, rfl, hl, h⟩

theorem rep_tup {vs : List V} {x : Value} (h : Rep bad w m c (.tup vs) x) : ∃ cs, x = .tuple cs ∧ vs.length = cs.size ∧ ∀ i (h1 : i < vs.length) (h2 : i < cs.size), Rep bad w m c vs[i] cs[i] := by
  cases h with
  | pure h => cases h with
    | tup hl h => exact ⟨_, rfl, hl, fun i h1 h2 => .pure (h i h1 h2)⟩
  | tup hl h => exact ⟨_, rfl, hl, h⟩

theorem evField_sound (hT : TabOk P T) {s : TypeId} {xv v : V} {f : Nat} {x : Value} (hr : Rep bad w m c xv x) (he : evField T s xv f = some v) :
    ∃ y, (Instr.field s x f).run P w = .ok y w ∧ Rep bad w m c v y := by
  unfold evField at he
  split at he
  · rename_i _ _ fs _ hTs
    obtain ⟨_, _, _, _, _, hu, _⟩ := hT s _ hTs
    simp only [] at hu
    split at he
    · rename_i fl hf
      split at he
      · rename_i i cs hTi
        obtain ⟨cs', rfl, hl, hr'⟩ := rep_agg hr
        obtain ⟨y, h1, h2⟩ := part_run hT hTi hl hr' he
        exact ⟨y, by simp [Instr.field, run_underlying hu, hf, asAgg, h1], h2⟩
      · cases he
    · cases he
  · cases he

theorem evIndex_sound (hT : TabOk P T) {t : TypeId} {xv iv v : V} {x ix : Value} (hr : Rep bad w m c xv x) (hri : Rep bad w m c iv ix) (he : evIndex T t xv iv = some v) :
    ∃ y, (Instr.index t x ix).run P w = .ok y w ∧ Rep bad w m c v y := by
  unfold evIndex at he
  split at he
  · rename_i _ _ len e _ n hTt hai
    obtain ⟨_, _, _, _, _, hu, _⟩ := hT t _ hTt
    simp only [] at hu
    obtain ⟨k, rfl⟩ := asI_spec hai
    obtain rfl := rep_p hri
    split at he
    · cases he
    · rename_i hn
      split at he
      · rename_i hlt
        split at he
        · rename_i i cs hTi
          obtain ⟨info, z, hi, hsz, _⟩ := hT _ i hTi
          obtain ⟨cs', rfl, hl, hr'⟩ := rep_agg hr
          obtain ⟨y, h1, h2⟩ := part_run hT hTi hl hr' he
          refine ⟨y, ?_, h2⟩
          have hlt' : n < (len : Int) := by omega
          simp [Instr.index, asIntOf, run_underlying hu, show 0 ≤ n by omega, hlt', sizeOf_run hi, hsz, h1]
        · cases he
      · cases he
  · rename_i _ _ _ n hTt hai
    obtain ⟨_, _, _, _, _, hu, _⟩ := hT t _ hTt
    simp only [] at hu
    obtain ⟨k, rfl⟩ := asI_spec hai
    obtain rfl := rep_p hri
    split at he
    · rename_i s
      obtain rfl := rep_p hr
      split at he
      · cases he
      · rename_i hn
        split at he
        · rename_i b hb
          cases he
          refine ⟨.int .u8 b.toNat, ?_, .pure (.p _)⟩
          simp [Instr.index, asIntOf, run_underlying hu, show 0 ≤ n by omega, hb]
        · cases he
    · cases he
  · cases he

end
end Go.Mx
