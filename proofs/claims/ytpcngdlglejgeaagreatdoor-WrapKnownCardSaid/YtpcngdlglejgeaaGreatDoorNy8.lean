/-
  The abstract machine's operations are sound: what is cut, built, reckoned.
-/
import Derived.Test.YtpcngdlglejgeaaGreatDoorNy7
import Derived.Lib.LazyBuf
namespace Go.Mx
set_option linter.unusedVariables false
set_option linter.unusedSimpArgs false

section
variable {P : Program} {T : TypeId → Option TI} {w : World} {m : MM} {c : Nat} {bad : Nat → Prop}

theorem still_run {α : Type} (P : Program) : ∀ (s : Sem α) (a : α), still P s = some a → ∀ w, s.run P w = .ok a w := by
  intro s
  induction s with
  | pure b => intro a h w; simp only [still, Option.some.injEq] at h; subst h; rfl
  | program k ih => intro a h w; exact ih P a h w
  | _ => intro a h; simp [still] at h

theorem toVals_spec : ∀ {vs : List V} {xs : List Value}, toVals vs = some xs → vs = xs.map .p := by
  intro vs
  induction vs with
  | nil => intro xs h; simp only [toVals, Option.some.injEq] at h; subst h; rfl
  | cons v r ih =>
    intro xs h
    cases v <;> simp only [toVals] at h <;> try (cases h; done)
    rename_i x
    simp only [Option.map_eq_some_iff] at h
    obtain ⟨l, hl, rfl⟩ := h
    rw [ih hl]; rfl

theorem toVal_spec {v : V} {a x : Value} (h : toVal v = some a) (hr : Rep bad w m c v x) : x = a := by
  cases v <;> simp only [toVal] at h <;> try (cases h; done)
  · cases h; exact rep_p hr
  · rename_i vs
    simp only [Option.map_eq_some_iff] at h
    obtain ⟨l, hl, rfl⟩ := h
    obtain ⟨cs, rfl, hsz, hr'⟩ := rep_agg hr
    have := toVals_spec hl
    subst this
    congr 1
    apply Array.ext
    · simpa using hsz.symm
    · intro i h1 h2
      have := hr' i (by rw [hsz]; exact h1) h1
      simp only [List.getElem_map] at this
      simpa using rep_p this

theorem fastBin_run {op : BinOp} {a b r : Value} (h : fastBin op a b = some r) (xt : TypeId) (x y : Operand) (w : World) : (do eqGuard op xt x y a b; binOp op xt a b : Sem Value).run P w = .ok r w := by
  unfold fastBin at h
  split at h
  case h_7 => cases h; simp [eqGuard, binOp, Op.stringOp, bytesEq_eq]
  case h_8 => cases h; simp [eqGuard, binOp, Op.stringOp, bytesEq_eq]
  all_goals (try (split at h)) <;> (try (cases h; done)) <;> (cases h; rename_i hk) <;> (first | (obtain ⟨rfl, hb⟩ := hk) | subst hk) <;> simp [eqGuard, binOp, Op.intArith, Op.intCmp, Op.intDiv, *]

theorem isNil_sound {h : Hp} (hh : HeapRep bad h w m c) {v : V} {x : Value} {b : Bool} (hr : Rep bad w m c v x) (he : isNilV h v = some b) : ∃ a len cap, x = .slice a len cap ∧ a.isNone = b := by
  cases v <;> simp only [isNilV] at he <;> try (cases he; done)
  case ps k xs =>
    cases hr with
    | pure hr => cases hr with
      | psNil hn => exact ⟨_, _, _, rfl, by cases k <;> simp_all⟩
      | ps hn => exact ⟨_, _, _, rfl, by cases k <;> simp_all⟩
  case sl b' s off len tip =>
    split at he
    · rename_i B hg
      split at he
      · rename_i hs
        cases he
        obtain ⟨l, hm, hls, _, _, _, hd⟩ := hh.get b' B hg
        cases hr with
        | pure hr => cases hr
        | sl _ _ hb =>
          rcases hd with ⟨hn, hblk, _⟩ | ⟨hn, _⟩ | ⟨hn, β, cs, hblk, _⟩
          · rw [hs.2] at hn; cases hn
          · rw [hs.2] at hn; cases hn
          · rcases hb l hm (hls.trans hs.1) with ⟨h1, _⟩ | ⟨β, _, h1, rfl, _⟩
            · rw [hblk] at h1; cases h1
            · exact ⟨_, _, _, rfl, by simp⟩
      · cases he
    · cases he

theorem evBin_sound (hT : TabOk P T) {h : Hp} (hh : HeapRep bad h w m c) {op : BinOp} {xt : TypeId} {x y : Operand} {va vb v : V} {a b : Value} (ha : Rep bad w m c va a) (hb : Rep bad w m c vb b) (he : evBin P T h op xt x y va vb = some v) :
    ∃ r, (do eqGuard op xt x y a b; binOp op xt a b : Sem Value).run P w = .ok r w ∧ Rep bad w m c v r := by
  unfold evBin at he
  split at he
  · rename_i a' b' h1 h2
    obtain rfl := toVal_spec h1 ha
    obtain rfl := toVal_spec h2 hb
    split at he
    · rename_i r hf
      cases he
      exact ⟨r, fastBin_run hf _ _ _ _, .pure (.p _)⟩
    · simp only [Option.map_eq_some_iff] at he
      obtain ⟨r, hr, rfl⟩ := he
      exact ⟨r, still_run P _ _ hr w, .pure (.p _)⟩
  · split at he
    · rename_i nb hTt hn hzz
      obtain ⟨_, _, _, _, _, hu, _⟩ := hT xt _ hTt
      simp only [] at hu
      cases he
      obtain ⟨a0, len, cap, rfl, rfl⟩ := isNil_sound hh ha hn
      obtain rfl : b = .slice none 0 0 := by
        cases hb with
        | pure h => cases h with
          | psNil => rfl
          | ps hn => exact absurd rfl hn
      have hg : eqGuard .eql xt x y (.slice a0 len cap) (.slice none 0 0) = pure () := rfl
      exact ⟨_, by rw [hg]; simp [run_eql_slice_nil w xt _ a0 len cap hu], .pure (.p _)⟩
    · rename_i nb hTt hn hzz
      obtain ⟨_, _, _, _, _, hu, _⟩ := hT xt _ hTt
      simp only [] at hu
      cases he
      obtain ⟨a0, len, cap, rfl, rfl⟩ := isNil_sound hh ha hn
      obtain rfl : b = .slice none 0 0 := by
        cases hb with
        | pure h => cases h with
          | psNil => rfl
          | ps hn => exact absurd rfl hn
      have hg : eqGuard .neq xt x y (.slice a0 len cap) (.slice none 0 0) = pure () := rfl
      exact ⟨_, by rw [hg]; simp [run_neq_slice_nil w xt _ a0 len cap hu], .pure (.p _)⟩
    · cases he

theorem evLen_sound (hT : TabOk P T) {h : Hp} (hh : HeapRep bad h w m c) {t ty : TypeId} {v v' : V} {x : Value} (hr : Rep bad w m c v x) (he : evLen T h t v = some v') :
    ∃ r, (Builtin.len_ #[t] ty #[x]).run P w = .ok r w ∧ Rep bad w m c v' r := by
  unfold evLen at he
  split at he
  · rename_i _ _ e _ hTt
    obtain ⟨_, _, _, _, _, hu, _⟩ := hT t _ hTt
    simp only [] at hu
    split at he
    · cases he
    · rename_i hnp
      simp only [Option.map_eq_some_iff] at he
      obtain ⟨n, hn, rfl⟩ := he
      obtain ⟨a, cap, rfl⟩ : ∃ a cap, x = .slice a n cap := by
        cases v <;> simp only [lenV] at hn <;> try (cases hn; done)
        · exact absurd rfl (hnp _)
        · cases hn
          cases hr with
          | pure hr => cases hr with
            | psNil => exact ⟨_, _, rfl⟩
            | ps => exact ⟨_, _, rfl⟩
        · rename_i b s off len tip
          split at hn
          · rename_i B hg
            split at hn
            · rename_i hs
              cases hn
              obtain ⟨l, hm, hls, _⟩ := hh.get b B hg
              cases hr with
              | pure hr => cases hr
              | sl _ _ hb =>
                rcases hb l hm (hls.trans hs) with ⟨_, _, rfl, rfl⟩ | ⟨β, cap, _, rfl, _⟩
                · exact ⟨_, _, rfl⟩
                · exact ⟨_, _, rfl⟩
            · cases hn
          · cases hn
      refine ⟨_, ?_, .pure (.p _)⟩
      simp [Builtin.len_, run_underlying hu]
  · rename_i _ _ _ hTt
    obtain ⟨_, _, _, _, _, hu, _⟩ := hT t _ hTt
    simp only [] at hu
    split at he
    · cases he
      obtain rfl := rep_p hr
      refine ⟨_, ?_, .pure (.p _)⟩
      simp [Builtin.len_, run_underlying hu]
    · cases he
  · rename_i _ _ n e _ hTt
    obtain ⟨_, _, _, _, _, hu, _⟩ := hT t _ hTt
    simp only [] at hu
    cases he
    refine ⟨_, ?_, .pure (.p _)⟩
    simp [Builtin.len_, run_underlying hu]
  · cases he


end
end Go.Mx
