/-
  The abstract machine's operations are sound: reading.
-/
import Derived.Test.YtpcngdlglejgeaaGreatDoorNy2
import Derived.Deep.AppendSrc
import Derived.Laws.CopyRow
namespace Go.Mx
set_option linter.unusedVariables false
set_option linter.unusedSimpArgs false

section
variable {P : Program} {T : TypeId → Option TI} {w : World} {m : MM} {c : Nat} {bad : Nat → Prop}

theorem RepP.one {ok : Nat → Prop} {v : V} {x : Value} (h : RepP w ok v x) (h1 : v.one = true) : x.oneCell' = true := by
  cases h <;> first | rfl | (simp [V.one] at h1; done) | exact h1

theorem Rep.one {v : V} {x : Value} (h : Rep bad w m c v x) (h1 : v.one = true) : x.oneCell' = true := by
  cases h with
  | pure h => exact h.one h1
  | agg => simp [V.one] at h1
  | tup => simp [V.one] at h1
  | fn => rfl
  | box _ hx _ => exact hx
  | sl _ hx _ => exact hx
  | mp _ hx _ => exact hx

theorem cells_one {x : Value} (h : x.oneCell' = true) : x.cells = #[x] := by
  cases x <;> first | rfl | simp [Value.oneCell'] at h

theorem one_of_cells {v : V} (h : v.cells.all V.one = true) (ha : v.isAgg = false) : v.one = true ∧ v.cells = [v] := by
  cases v <;> simp_all [V.cells, V.isAgg, V.one]

theorem Rep.cells {v : V} {x : Value} (h : Rep bad w m c v x) (h1 : v.cells.all V.one = true) :
    x.cells.size = v.cells.length ∧ ∀ i (a : i < v.cells.length) (b : i < x.cells.size), Rep bad w m c v.cells[i] x.cells[i] := by
  cases ha : v.isAgg
  · obtain ⟨ho, hc⟩ := one_of_cells h1 ha
    have hx := cells_one (h.one ho)
    refine ⟨by rw [hx, hc]; rfl, fun i a b => ?_⟩
    have hi : i = 0 := by rw [hc] at a; simpa using a
    subst hi
    have e1 : v.cells[0] = v := by simp [hc]
    have e2 : x.cells[0] = x := by simp [hx]
    rw [e1, e2]; exact h
  · cases v <;> simp [V.isAgg] at ha
    cases h with
    | pure h => cases h with
      | agg hl h => exact ⟨hl.symm, fun i a b => .pure (h i a b)⟩
    | agg hl h => exact ⟨hl.symm, h⟩

theorem RepP.cells {ok : Nat → Prop} {v : V} {x : Value} (h : RepP w ok v x) (h1 : v.cells.all V.one = true) :
    x.cells.size = v.cells.length ∧ ∀ i (a : i < v.cells.length) (b : i < x.cells.size), RepP w ok v.cells[i] x.cells[i] := by
  cases ha : v.isAgg
  · obtain ⟨ho, hc⟩ := one_of_cells h1 ha
    have hx := cells_one (h.one ho)
    refine ⟨by rw [hx, hc]; rfl, fun i a b => ?_⟩
    have hi : i = 0 := by rw [hc] at a; simpa using a
    subst hi
    have e1 : v.cells[0] = v := by simp [hc]
    have e2 : x.cells[0] = x := by simp [hx]
    rw [e1, e2]; exact h
  · cases v <;> simp [V.isAgg] at ha
    cases h with
    | agg hl h => exact ⟨hl.symm, h⟩

theorem repC0 (ok : Nat → Prop) (x : Value) : RepP w ok (ofC0 x) x := by
  unfold ofC0; split
  · exact .psNil (by simp)
  · exact .p _

theorem repC (ok : Nat → Prop) (x : Value) : RepP w ok (ofC x) x := by
  unfold ofC; split
  · exact .psNil (by simp)
  · exact .agg (by simp) fun i h1 h2 => by simpa using repC0 ok _
  · exact .p _

/-- What the frame's slots hold. -/
def RepT (bad : Nat → Prop) (w : World) (m : MM) (c : Nat) (t : List V) (tmps : Array Value) : Prop :=
  t.length = tmps.size ∧ ∀ i, Rep bad w m c (t.getD i .undef) (tmps.getD i Go.undef)

theorem RepT.mono {w' : World} {m' : MM} {c' : Nat} (hle : Le w m c w' m' c') {t : List V} {tmps : Array Value} (h : RepT bad w m c t tmps) : RepT bad w' m' c' t tmps :=
  ⟨h.1, fun i => (h.2 i).mono hle⟩

theorem RepT.eval {t : List V} {a : Act} (h : RepT bad w m c t a.tmps) (o : Operand) : Rep bad w m c (evalO t o) (a.eval o) := by
  cases o with
  | tmp k => exact h.2 k
  | const v => exact .pure (repC _ v)
  | global g => exact .pure (.undef _)
  | func f => exact .pure (.fn rfl rfl (fun i h => by simp at h) (fun i h => by simp at h))

theorem RepT.put {t : List V} {a : Act} (h : RepT bad w m c t a.tmps) {v : V} {x : Value} (hv : Rep bad w m c v x) (d : Option Tmp) :
    RepT bad w m c (match d with | some k => t.set k v | none => t) (a.put d x).tmps := by
  cases d with
  | none => exact h
  | some k =>
    refine ⟨by simp [Act.put, h.1], fun i => ?_⟩
    have h2 := h.2 i
    have hl : t.length = a.tmps.size := h.1
    simp only [Act.put, List.getD_eq_getElem?_getD, List.getElem?_set, Array.getD_eq_getD_getElem?, Array.getElem?_setIfInBounds] at h2 ⊢
    by_cases hk : k = i
    · subst hk
      by_cases hlt : k < a.tmps.size
      · simp [hlt, hl]; exact hv
      · have hge : t.length ≤ k := by rw [hl]; exact Nat.le_of_not_lt hlt
        simpa [hl, hlt, Array.getElem?_eq_none (Nat.le_of_not_lt hlt), List.getElem?_eq_none hge] using h2
    · simpa [hk] using h2

theorem rep_block {h : Hp} (hh : HeapRep bad h w m c) {b s : Nat} {B : Blk} (hg : h.get b = some B) (hs : B.s = s) (hn : B.nl = false) :
    ∃ l β cs, m b = some l ∧ l.s = s ∧ l.w = B.w ∧ l.T = B.T ∧ l.blk = some β ∧ w.heap[β]? = some (.cells cs B.T (0, 0)) ∧ cs.size = l.n ∧ B.es.length * B.w ≤ l.n ∧
      (∀ i (h : i < B.es.length), B.es[i].cells.length = B.w) ∧
      ∀ i (h : i < B.es.length) j (h2 : j < B.es[i].cells.length), ∃ x, cs[i * B.w + j]? = some x ∧ RepC bad B.var w m c B.es[i].cells[j] x := by
  obtain ⟨l, hm, h1, h2, h3, _, h4⟩ := hh.get b B hg
  rcases h4 with ⟨hn', _⟩ | ⟨hn', _⟩ | ⟨_, β, cs, h5⟩
  · rw [hn] at hn'; cases hn'
  · rw [hn] at hn'; cases hn'
  · exact ⟨l, β, cs, hm, h1.trans hs, h2, h3, h5⟩

theorem rep_blockX {h : Hp} (hh : HeapRep bad h w m c) {b s : Nat} {B : Blk} (hg : h.get b = some B) (hs : B.s = s) (hq : B.var = false ∨ 0 < B.w) (hx : ∀ l, m b = some l → l.s = s → l.blk ≠ none) :
    ∃ l β cs, m b = some l ∧ l.s = s ∧ l.w = B.w ∧ l.T = B.T ∧ l.blk = some β ∧ w.heap[β]? = some (.cells cs B.T (0, 0)) ∧ cs.size = l.n ∧ B.es.length * B.w ≤ l.n ∧
      (∀ i (h : i < B.es.length), B.es[i].cells.length = B.w) ∧
      ∀ i (h : i < B.es.length) j (h2 : j < B.es[i].cells.length), ∃ x, cs[i * B.w + j]? = some x ∧ RepC bad B.var w m c B.es[i].cells[j] x := by
  obtain ⟨l, hm, h1, h2, h3, _, h4⟩ := hh.get b B hg
  rcases h4 with ⟨_, hn', _⟩ | ⟨_, h6, h7, _⟩ | ⟨_, β, cs, h5⟩
  · exact absurd hn' (hx l hm (h1.trans hs))
  · rcases hq with hq | hq
    · rw [h7] at hq; cases hq
    · omega
  · exact ⟨l, β, cs, hm, h1.trans hs, h2, h3, h5⟩

theorem box_blk {b s i off : Nat} {x : Value} (hr : Rep bad w m c (.box b s i off) x) : ∀ l, m b = some l → l.s = s → l.blk ≠ none := by
  intro l hl hls
  cases hr with
  | pure hr => cases hr
  | box _ _ h =>
    obtain ⟨β, h1, _⟩ := h l hl hls
    rw [h1]; simp

theorem sl_blk {b s off len : Nat} {tip : Bool} {x : Value} (hr : Rep bad w m c (.sl b s off len tip) x) (hn : len ≠ 0) : ∀ l, m b = some l → l.s = s → l.blk ≠ none := by
  intro l hl hls
  cases hr with
  | pure hr => cases hr
  | sl _ _ h =>
    rcases h l hl hls with ⟨_, _, h1, _⟩ | ⟨β, _, h1, _⟩
    · exact absurd h1 hn
    · rw [h1]; simp

theorem elemAt_sound {h : Hp} (hh : HeapRep bad h w m c) {pv : V} {x : Value} (hr : Rep bad w m c pv x) {e : V} {off : Nat} (he : elemAt h pv = some (e, off)) :
    ∃ (β o : Nat) (val : Nat → Value), x = .pointer (some ⟨β, o + off, none⟩) ∧ (∀ j, j < e.cells.length → w.cell? ⟨β, o + j, none⟩ = some (val j)) ∧ ∀ j (h : j < e.cells.length), Rep bad w m c e.cells[j] (val j) := by
  cases pv <;> simp only [elemAt] at he <;> try (cases he; done)
  case ref v f =>
    simp only [Option.some.injEq, Prod.mk.injEq] at he
    obtain ⟨rfl, rfl⟩ := he
    cases hr with
    | pure hr => cases hr with
      | ref hβ hoff hc hr => exact ⟨_, _, _, rfl, hc, fun j h => .pure (hr j h)⟩
  case box b s i f =>
    split at he
    · rename_i B hg
      split at he
      · rename_i hcond
        have hs := hcond.1
        obtain ⟨l, β, cs, hm, hls, hlw, _, hblk, hcs, hsz, hle, hwd, hall⟩ := rep_blockX hh hg hs (.inr hcond.2) (box_blk hr)
        cases hi : B.es[i]? with
        | none => simp [hi] at he
        | some v =>
          simp [hi] at he
          obtain ⟨rfl, rfl⟩ := he
          obtain ⟨hlt, hv⟩ := List.getElem?_eq_some_iff.1 hi
          cases hr with
          | pure hr => cases hr
          | box hs' hx hb =>
            obtain ⟨β', hb', rfl⟩ := hb l hm hls
            rw [hblk] at hb'; cases hb'
            refine ⟨β, i * B.w, fun j => (cs[i * B.w + j]?).getD Go.undef, by rw [hlw], fun j hj => ?_, fun j hj => ?_⟩
            · rw [cell_of_row w β _ cs _ _ hcs]
              obtain ⟨y, hy, _⟩ := hall i hlt j (by rw [hv]; exact hj)
              simp [hy]
            · obtain ⟨y, hy, hr⟩ := hall i hlt j (by rw [hv]; exact hj)
              show Rep bad w m c v.cells[j] ((cs[i * B.w + j]?).getD Go.undef)
              rw [hy]
              subst hv
              exact hr.rep
      · cases he
    · cases he

theorem isAgg_run {t : TypeId} {d : TypeDesc} (h : P.underlying t = some d) (w : World) : (isAgg t).run P w = .ok (isAggD d) w := by
  simp only [isAgg, Sem.run_bind, run_underlying h, Result.andThen_ok]
  cases d <;> rfl

theorem sizeOf_run {t : TypeId} {i : TypeInfo} (h : P.info? t = some i) (w : World) : (sizeOf t).run P w = .ok i.size w := by
  simp [sizeOf, typeInfo, h]

/-- A part of known cells. -/
theorem part_cells {i : TI} {cs : List V} {off : Nat} {v : V} (hp : partV i cs off = some v) (f : Nat → Value) (hr : ∀ j (h : j < cs.length), Rep bad w m c cs[j] (f j)) :
    (isAggD i.desc = true ∧ off + i.size ≤ cs.length ∧ Rep bad w m c v (.agg ((List.range i.size).map fun j => f (off + j)).toArray)) ∨
    (isAggD i.desc = false ∧ off < cs.length ∧ Rep bad w m c v (f off)) := by
  unfold partV at hp
  split at hp
  · rename_i ha
    split at hp
    · rename_i hl
      cases hp
      refine .inl ⟨ha, hl, .agg (by simp; omega) fun j h1 h2 => ?_⟩
      simp only [List.length_take, List.length_drop] at h1
      have : ((cs.drop off).take i.size)[j]'(by simp; omega) = cs[off + j]'(by omega) := by simp
      rw [this]
      simpa using hr (off + j) (by omega)
    · cases hp
  · rename_i ha
    obtain ⟨hlt, hv⟩ := List.getElem?_eq_some_iff.1 hp
    exact .inr ⟨by simpa using ha, hlt, hv ▸ hr off hlt⟩

theorem evLoad_sound (hT : TabOk P T) {h : Hp} (hh : HeapRep bad h w m c) {t : TypeId} {pv v : V} {x : Value} (hr : Rep bad w m c pv x) (he : evLoad T h t pv = some v) :
    ∃ y, (Instr.loadAt t x).run P w = .ok y w ∧ Rep bad w m c v y := by
  unfold evLoad at he
  split at he
  · rename_i i e off hTi hel
    obtain ⟨info, z, hi, hsz, _, hu, _⟩ := hT t i hTi
    obtain ⟨β, o, val, rfl, hc, hrep⟩ := elemAt_sound hh hr hel
    have hrun : ∀ n f, (∀ j, j < n → w.cell? ⟨β, o + off + j, none⟩ = some (f j)) → (loadCells ⟨β, o + off, none⟩ n).run P w = .ok ((List.range n).map f).toArray w := fun n f hf =>
      run_loadCells w _ n f fun j hj => by rw [Addr.add_lit]; exact hf j hj
    have agg : isAggD i.desc = true → off + i.size ≤ e.cells.length →
        (Instr.loadAt t (.pointer (some ⟨β, o + off, none⟩))).run P w = .ok (.agg ((List.range i.size).map fun j => val (off + j)).toArray) w := fun ha hle => by
      have := hrun i.size (fun j => val (off + j)) fun j hj => by rw [show o + off + j = o + (off + j) by omega]; exact hc _ (by omega)
      simp [Instr.loadAt, Instr.sureAddr, loadVar, isAgg_run hu, ha, sizeOf_run hi, hsz, this]
    split at he
    · rename_i hcond
      obtain ⟨rfl, ha, hag, hl⟩ := hcond
      cases he
      refine ⟨_, agg ha (by omega), ?_⟩
      cases v <;> simp [V.isAgg] at hag
      rename_i vs
      simp only [V.cells] at hl hrep
      exact .agg (by simp [hl]) fun j h1 h2 => by simpa using hrep j h1
    · rcases part_cells he val hrep with ⟨ha, hle, hv⟩ | ⟨ha, hlt, hv⟩
      · exact ⟨_, agg ha hle, hv⟩
      · refine ⟨_, ?_, hv⟩
        have := hc off hlt
        simp [Instr.loadAt, Instr.sureAddr, loadVar, isAgg_run hu, ha, run_load, this]
  · cases he

end
end Go.Mx
