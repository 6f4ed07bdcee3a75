/-
  The abstract machine's operations are sound: what is cut, built, made.
-/
import Derived.Test.YtpcngdlglejgeaaGreatDoorNy8
namespace Go.Mx
set_option linter.unusedVariables false
set_option linter.unusedSimpArgs false

section
variable {P : Program} {T : TypeId → Option TI} {w : World} {m : MM} {c : Nat} {bad : Nat → Prop}

theorem sliceBound_ok {k : IntKind} {n : Int} {y : Nat} (code : BoundsCode) (h0 : 0 ≤ n) (h1 : n ≤ y) (w : World) : (Instr.sliceBound (.int k n) y code).run P w = .ok n.toNat w := by
  simp [Instr.sliceBound, asIntOf, h0, h1]

/-- An int operand that may be missing. -/
def OptI (bad : Nat → Prop) (w : World) (m : MM) (c : Nat) (v : Option V) (x : Option Value) : Prop :=
  match v, x with
  | none, none => True
  | some v, some x => Rep bad w m c v x
  | _, _ => False

theorem optI_some {v : V} {x : Option Value} {n : Int} (h : OptI bad w m c (some v) x) (ha : asI v = some n) : ∃ k, x = some (.int k n) := by
  cases x with
  | none => exact h.elim
  | some x =>
    obtain ⟨k, rfl⟩ := asI_spec ha
    exact ⟨k, by rw [rep_p h]⟩

theorem optI_none {x : Option Value} (h : OptI bad w m c none x) : x = none := by
  cases x with
  | none => rfl
  | some x => exact h.elim

theorem sliceBounds_ok {lo hi mx : Option V} {lx hx mxx : Option Value} {len cap : Nat} {l hh : Int} {q : Option Int} (isS : Bool) (h1 : OptI bad w m c lo lx) (h2 : OptI bad w m c hi hx) (h3 : OptI bad w m c mx mxx)
    (hl : intOr 0 lo = some l) (hh' : intOr (len : Int) hi = some hh) (hq : intOpt mx = some q)
    (h0 : 0 ≤ l) (hle : l ≤ hh) (hlen : hh ≤ len) (hcap : len ≤ cap) (hqq : ∀ r ∈ q, r = hh) (hmh : mx.isSome = true → hi.isSome = true) :
    (Instr.sliceBounds isS len cap lx hx mxx).run P w = .ok (l.toNat, hh.toNat, if q.isSome then hh.toNat else cap) w := by
  cases mx with
  | none =>
    obtain rfl := optI_none h3
    simp only [intOpt, Option.some.injEq] at hq
    subst hq
    cases hi with
    | none =>
      obtain rfl := optI_none h2
      simp only [intOr, Option.some.injEq] at hh'
      subst hh'
      cases lo with
      | none =>
        obtain rfl := optI_none h1
        simp only [intOr, Option.some.injEq] at hl
        subst hl
        simp [Instr.sliceBounds]
      | some v =>
        obtain ⟨k, rfl⟩ := optI_some h1 hl
        simp [Instr.sliceBounds, sliceBound_ok _ h0 hle]
    | some v2 =>
      obtain ⟨k2, rfl⟩ := optI_some h2 hh'
      have h4 : hh ≤ (cap : Int) := by omega
      have h5 : l ≤ (hh.toNat : Int) := by omega
      cases lo with
      | none =>
        obtain rfl := optI_none h1
        simp only [intOr, Option.some.injEq] at hl
        subst hl
        simp [Instr.sliceBounds, sliceBound_ok _ (by omega : 0 ≤ hh) h4]
      | some v =>
        obtain ⟨k, rfl⟩ := optI_some h1 hl
        simp [Instr.sliceBounds, sliceBound_ok _ (by omega : 0 ≤ hh) h4, sliceBound_ok _ h0 h5]
  | some v3 =>
    simp only [intOpt, Option.map_eq_some_iff] at hq
    obtain ⟨r, hr, rfl⟩ := hq
    obtain rfl := hqq r (by simp)
    obtain ⟨k3, rfl⟩ := optI_some h3 hr
    cases hi with
    | none => simp at hmh
    | some v2 =>
      obtain ⟨k2, rfl⟩ := optI_some h2 hh'
      have h4 : r ≤ (cap : Int) := by omega
      have h6 : r ≤ (r.toNat : Int) := by omega
      have h5 : l ≤ (r.toNat : Int) := by omega
      cases lo with
      | none =>
        obtain rfl := optI_none h1
        simp only [intOr, Option.some.injEq] at hl
        subst hl
        simp [Instr.sliceBounds, sliceBound_ok _ (by omega : 0 ≤ r) h4, sliceBound_ok _ (by omega : 0 ≤ r) h6]
      | some v =>
        obtain ⟨k, rfl⟩ := optI_some h1 hl
        simp [Instr.sliceBounds, sliceBound_ok _ (by omega : 0 ≤ r) h4, sliceBound_ok _ (by omega : 0 ≤ r) h6, sliceBound_ok _ h0 h5]

theorem evSlice_sound (hT : TabOk P T) {h : Hp} (hh : HeapRep bad h w m c) {t : TypeId} {xv v : V} {x : Value} {lo hi mx : Option V} {lx hx mxx : Option Value} (hr : Rep bad w m c xv x) (h1 : OptI bad w m c lo lx) (h2 : OptI bad w m c hi hx) (h3 : OptI bad w m c mx mxx)
    (hmh : mx.isSome = true → hi.isSome = true) (he : evSlice T h t xv lo hi mx = some v) :
    ∃ y, (Instr.sliceAt t x lx hx mxx).run P w = .ok y w ∧ Rep bad w m c v y := by
  unfold evSlice at he
  simp only [exS_eq] at he
  split at he
  · rename_i _ _ e _ hTt
    obtain ⟨_, _, _, _, _, hu, _⟩ := hT t _ hTt
    simp only [] at hu
    split at he
    · rename_i i len hTe hlen
      obtain ⟨info, z, hi', hsz, _⟩ := hT e i hTe
      split at he
      · rename_i l hhh q hl hh' hq
        split at he
        · rename_i hcond
          obtain ⟨h0, hle, hln, hqq⟩ := hcond
          have hrun : ∀ a cap, len ≤ cap → (Instr.sliceAt t (.slice a len cap) lx hx mxx).run P w =
              .ok (.slice (if (if q.isSome then hhh.toNat else cap) = l.toNat then a else a.map (·.add (l.toNat * i.size))) (hhh.toNat - l.toNat) ((if q.isSome then hhh.toNat else cap) - l.toNat)) w := by
            intro a cap hcap
            have := sliceBounds_ok (P := P) true h1 h2 h3 hl hh' hq h0 hle hln hcap hqq hmh
            simp [Instr.sliceAt, run_underlying hu, Instr.slice, this, sizeOf_run hi', hsz]
          split at he
          · rename_i k xs
            split at he
            · rename_i hall
              have hxw : ∀ j (hj : j < xs.length), xs[j].cells.length = i.size := fun j hj => by
                have := List.all_eq_true.1 hall _ (List.getElem_mem hj)
                simpa using this
              simp only [lenV, Option.some.injEq] at hlen
              subst hlen
              cases hr with
              | pure hr =>
                cases hr with
                | psNil hnn =>
                  obtain ⟨c', hc', rfl⟩ : ∃ c' : SC, (c' ≠ .full ∧ c' ≠ .any) ∧ v = .ps c' [] := by
                    cases k <;> simp_all
                    · exact ⟨.nil, by simp, he.symm⟩
                    · subst he; split <;> exact ⟨_, by simp, rfl⟩
                    · subst he; split <;> exact ⟨_, by simp, rfl⟩
                  clear he
                  have e1 : hhh = 0 := by simp at hln; omega
                  have e2 : l = 0 := by omega
                  subst e1 e2
                  refine ⟨_, hrun none 0 (Nat.le_refl _), ?_⟩
                  have : (if q.isSome = true then (0 : Int).toNat else 0) = 0 := by split <;> rfl
                  simp [this]
                  exact .pure (.psNil hc')
                | ps hn hcap hfull hβ hw hc hr' hq' =>
                  rename_i β o k' cap q' val
                  obtain ⟨c', hc1, hc2, hv⟩ : ∃ c' : SC, c' ≠ .nil ∧ ((c' = .full ∨ c' = .fopt) → q.isSome = true) ∧ v = .ps c' ((xs.drop l.toNat).take (hhh.toNat - l.toNat)) := by
                    have hqm : q.isSome = mx.isSome := by
                      cases mx with
                      | none => simp only [intOpt, Option.some.injEq] at hq; rw [← hq]; rfl
                      | some v =>
                        simp only [intOpt, Option.map_eq_some_iff] at hq
                        obtain ⟨_, _, rfl⟩ := hq; rfl
                    cases k
                    · exact absurd rfl hn
                    all_goals
                      simp only [] at he
                      refine ⟨_, ?_, ?_, (Option.some.inj he).symm⟩ <;> cases hmm : mx.isSome <;> simp [hqm, hmm]
                  subst hv
                  refine ⟨_, hrun _ cap hcap, .pure ?_⟩
                  have hlen' : ((xs.drop l.toNat).take (hhh.toNat - l.toNat)).length = hhh.toNat - l.toNat := by simp; omega
                  have hsub : l.toNat + (hhh.toNat - l.toNat) ≤ xs.length := by omega
                  by_cases hM : (if q.isSome = true then hhh.toNat else cap) = l.toNat
                  · -- nothing is left of it
                    have hz : hhh.toNat - l.toNat = 0 := by
                      split at hM
                      · omega
                      · omega
                    rw [if_pos hM, hM, hz]
                    have := RepP.ps (w := w) (ok := okOf bad w m) (c := c') (xs := ([] : List V)) (β := β) (o := o) (k := 0) (cap := 0) (q := q') (val := val)
                      hc1 (by simp) (by simp) (by simp) (by simp) (by simp) (by simp) (by simp)
                    simpa [hz] using this
                  · rw [if_neg hM]
                    obtain rfl : q' = none := by
                      cases q' with
                      | none => rfl
                      | some z =>
                        have := hq' (by simp)
                        exact absurd (by split <;> omega) hM
                    have hk : xs.length = 0 ∨ k' = i.size := by
                      rcases Nat.eq_zero_or_pos xs.length with h5 | h5
                      · exact .inl h5
                      · exact .inr (by rw [← hw 0 h5]; exact hxw 0 h5)
                    have := RepP.ps (w := w) (ok := okOf bad w m) (c := c') (xs := (xs.drop l.toNat).take (hhh.toNat - l.toNat)) (β := β) (o := o + l.toNat * i.size) (k := i.size)
                      (cap := (if q.isSome = true then hhh.toNat else cap) - l.toNat) (val := fun a b => val (l.toNat + a) b)
                      hc1 (by rw [hlen']; split <;> omega) (fun h5 => by rw [hlen', if_pos (hc2 h5)]) (fun h => hβ (by rintro rfl; exact h (by simp))) (fun a ha => by
                        obtain ⟨h', e⟩ := sub_list hsub ha
                        rw [e]; exact hxw _ _) (fun a b ha hb => by
                        obtain ⟨h', e⟩ := sub_list hsub ha
                        have hk' : k' = i.size := by rcases hk with h5 | h5 <;> omega
                        rw [← hk'] at hb ⊢
                        have := hc (l.toNat + a) b h' hb
                        rwa [show o + l.toNat * k' + a * k' + b = o + (l.toNat + a) * k' + b by rw [Nat.add_mul]; omega]) (fun a ha b hb => by
                        obtain ⟨h', e⟩ := sub_list hsub ha
                        have hb' : b < xs[l.toNat + a].cells.length := by rw [← e]; exact hb
                        have e2 : ((xs.drop l.toNat).take (hhh.toNat - l.toNat))[a].cells[b] = xs[l.toNat + a].cells[b] := by simp [e]
                        rw [e2]; exact hr' _ h' b hb') (q := none) (by simp)
                    rw [hlen'] at this
                    simpa [Addr.add_lit] using this
            · cases he
          · rename_i b s off n tip
            simp only [lenV] at hlen
            split at he
            · rename_i B hg
              split at he
              · rename_i hcond2
                obtain ⟨hs, hwB⟩ := hcond2
                simp only [hg, hs, if_true, Option.some.injEq] at hlen
                subst hlen
                split at he
                · rename_i hn
                  cases he
                · rename_i hn
                  have hn' : B.nl = false := by simpa using hn
                  have hBw : B.w = i.size := hwB
                  obtain ⟨l', β, cs, hm, hls, hlw, hlT, hblk, hcs, hcsz, _⟩ := rep_block hh hg hs hn'
                  cases hr with
                  | pure hr => cases hr
                  | sl hs' hx hb =>
                    rcases hb l' hm hls with ⟨h5, _⟩ | ⟨β', cap, h5, rfl, hcap, hroom, hmax, htip⟩
                    · rw [hblk] at h5; cases h5
                    · rw [hblk] at h5; cases h5
                      split at he
                      · rename_i heq
                        cases he
                        subst heq
                        refine ⟨_, hrun _ cap hcap, .pure ?_⟩
                        rw [Nat.sub_self]
                        have key : ∀ ad : Addr, ad.spot = none → ∀ cp, RepP w (okOf bad w m) (.ps .any []) (.slice (some ad) 0 cp) := fun ad hsp cp => by
                          obtain ⟨bb, oo, ss⟩ := ad
                          simp only at hsp
                          subst hsp
                          exact RepP.ps (xs := ([] : List V)) (k := 0) (q := none) (val := fun _ _ => Go.undef) (by simp) (by simp) (by simp) (by simp) (by simp) (by simp) (by simp) (by simp)
                        generalize (if q.isSome = true then l.toNat else cap) = M
                        by_cases hM : M = l.toNat
                        · rw [if_pos hM]; exact key ⟨β, off * l'.w, none⟩ rfl _
                        · rw [if_neg hM]; simp only [Option.map_some, Addr.add_lit]
                          exact key ⟨β, off * l'.w + l.toNat * i.size, none⟩ rfl _
                      rename_i hne
                      cases he
                      refine ⟨_, hrun _ cap hcap, ?_⟩
                      refine .sl hs' rfl fun l2 hl2 _ => ?_
                      rw [hm] at hl2; cases hl2
                      have hMle : (if q.isSome = true then hhh.toNat else cap) ≤ cap := by split <;> omega
                      have hMge : hhh.toNat ≤ (if q.isSome = true then hhh.toNat else cap) := by split <;> omega
                      generalize hMM : (if q.isSome = true then hhh.toNat else cap) = M at hMle hMge ⊢
                      refine .inr ⟨β, M - l.toNat, hblk, ?_, by omega, ?_, by omega, ?_⟩
                      · rw [if_neg (by omega)]
                        simp [Addr.add_lit, hlw, hBw, Nat.add_mul]
                      · refine Nat.le_trans (Nat.mul_le_mul_right _ ?_) hroom
                        omega
                      · intro ht
                        simp only [Bool.and_eq_true, beq_iff_eq] at ht
                        obtain ⟨⟨⟨ht1, ht2⟩, ht3⟩, ht4⟩ := ht
                        subst ht3 ht4
                        have hq0 : q = none := by cases q <;> simp_all
                        subst hq0
                        simp only [Option.isSome_none, Bool.false_eq_true, if_false] at hMM
                        subst hMM
                        simpa using (htip ht1).2
              · cases he
            · cases he
          · cases he
        · cases he
      · cases he
    · cases he
  · rename_i _ _ _ hTt
    obtain ⟨_, _, _, _, _, hu, _⟩ := hT t _ hTt
    simp only [] at hu
    split at he
    · rename_i s
      obtain rfl := rep_p hr
      obtain rfl := optI_none h3
      split at he
      · rename_i l hhh hl hh'
        split at he
        · rename_i hcond
          obtain ⟨h0, hle, hln⟩ := hcond
          cases he
          have := sliceBounds_ok (P := P) (mx := none) (q := none) false h1 h2 h3 hl hh' rfl h0 hle hln (Nat.le_refl _) (by simp) (by simp)
          refine ⟨_, ?_, .pure (.p _)⟩
          simp [Instr.sliceAt, run_underlying hu, Instr.slice, this]
        · cases he
      · cases he
    · cases he
  · cases he

end
end Go.Mx
