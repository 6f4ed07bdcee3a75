/-
  Regions whose order is open and that end in: an element's address, a store into it, a store of the row: the two stores may come in either order.
-/
import Derived.Test.YtpcngdlglejgeaaGreatDoorNy18
namespace Go.Mx
set_option linter.unusedVariables false

section
variable {P : Program} {T : TypeId → Option TI} {bs : Nat} {bad : Nat → Prop}

/-- Which operations are listed: those below a number, and a list. -/
def LS (ops : Array Oper) (p : Nat) (S : List Nat) (l : Array Bool) : Prop := l.size = ops.size ∧ ∀ i, i < ops.size → (l.getD i false = true ↔ i < p ∨ i ∈ S)

theorem LS.set {ops : Array Oper} {p : Nat} {S : List Nat} {l : Array Bool} (h : LS ops p S l) (i : Nat) (hi : i < ops.size) : LS ops p (i :: S) (l.setIfInBounds i true) := by
  refine ⟨by simp [h.1], fun j hj => ?_⟩
  have hs : j < l.size := by rw [h.1]; exact hj
  have := h.2 j hj
  by_cases e : j = i
  · subst e; simp [hs]
  · rw [getD_set_ne false (Ne.symm e), this]; simp [e]

theorem LS.ready {ops : Array Oper} {p : Nat} {S : List Nat} {l : Array Bool} (h : LS ops p S l) {i : Nat} (hi : i ∈ Region.ready .any ops l) : p ≤ i ∧ i < ops.size ∧ i ∉ S ∧ ∀ o, ops[i]? = some o → ∀ e ∈ o.after, Region.binds .any e = true → l.getD e.on false = true := by
  obtain ⟨h1, o, h2, h3⟩ := mem_ready.1 hi
  have hi' : i < ops.size := (Array.getElem?_eq_some_iff.1 h2).1
  have hs : i < l.size := by rw [h.1]; exact hi'
  have h4 : l.getD i false = false := by simpa [hs] using h1
  have := h.2 i hi'
  rw [h4] at this
  refine ⟨Nat.le_of_not_lt fun hlt => ?_, hi', fun hS => ?_, fun o' ho' => ?_⟩
  · have := this.2 (.inl hlt); cases this
  · have := this.2 (.inr hS); cases this
  · rw [h2] at ho'; cases ho'; exact h3

theorem LS.some {ops : Array Oper} (hed : edgesOk ops = true) {p : Nat} {S : List Nat} {l : Array Bool} (h : LS ops p S l) {i : Nat} (hi : i < ops.size) (hS : i ∉ S) (hp : p ≤ i) (hb : ∀ j, j < i → j < p ∨ j ∈ S) : Region.ready .any ops l ≠ [] := by
  have hs : i < l.size := by rw [h.1]; exact hi
  have h4 : l.getD i false = false := by
    cases hc : l.getD i false with
    | false => rfl
    | true => rcases (h.2 i hi).1 hc with h5 | h5
              · omega
              · exact absurd h5 hS
  have : i ∈ Region.ready .any ops l := mem_ready.2 ⟨by simpa [hs] using h4, ops[i], by simp [hi], fun e he hb' => by
    have h1 := List.all_eq_true.1 hed (ops[i], i) (by rw [List.mem_zipIdx_iff_getElem?]; simp [hi])
    have h2 := List.all_eq_true.1 h1 e (by simpa using he)
    simp only [hb', Bool.not_true, Bool.false_or, decide_eq_true_eq] at h2
    exact (h.2 _ (by omega)).2 (hb _ h2)⟩
  intro h0; rw [h0] at this; cases this

theorem tail3 (hT : TabOk P T) {ops : Array Oper} (hed : edgesOk ops = true) {p : Nat} (hp : ops.size = p + 3) {ox oy oz : Oper} (hx : ops[p]? = some ox) (hy : ops[p + 1]? = some oy) (hz : ops[p + 2]? = some oz) (gx : ox.guard = none) (gy : oy.guard = none) (gz : oz.guard = none)
    (hyd : oy.dst = none) (hzd : oz.dst = none) (hyx : ∃ e ∈ oy.after, Region.binds .any e = true ∧ e.on = p)
    {t : List V} {h : Hp} {c : Nat} {vx vy vz vz' vy' : V} {h8 h89 h9 h98 : Hp} {c8 c89 c9 : Nat}
    (e1 : evOper P T true t ox h c = some (vx, h, c))
    (e2 : evOper P T true (putT t ox.dst vx) oy h c = some (vy, h8, c8))
    (e3 : evOper P T true (putT t ox.dst vx) oz h8 c8 = some (vz, h89, c89))
    (e4 : evOper P T true (putT t ox.dst vx) oz h c = some (vz', h9, c9))
    (e5 : evOper P T true t oz h c = some (vz', h9, c9))
    (e6 : evOper P T true t ox h9 c9 = some (vx, h9, c9))
    (e7 : evOper P T true (putT t ox.dst vx) oy h9 c9 = some (vy', h98, c89))
    (hh : ∀ b, h89.get b = h98.get b)
    {Q : Exit → Act → World → Prop} {a : Act} {w : World} {m : MM} (hs : SR bs bad ⟨t, h, c⟩ a w m) (hQ : ∀ a' w' m', SR bs bad ⟨putT t ox.dst vx, h89, c89⟩ a' w' m' → Le w m c w' m' c89 → Q .normal a' w')
    {l : Array Bool} (hl : LS ops p [] l) : wpAny P .any ops Q 3 l a w := by
  have p0 : ∀ (t : List V) (v : V), putT t oy.dst v = t := fun t v => by rw [hyd]; rfl
  have p9 : ∀ (t : List V) (v : V), putT t oz.dst v = t := fun t v => by rw [hzd]; rfl
  have noty : ∀ {S : List Nat} {l : Array Bool}, LS ops p S l → p ∉ S → p + 1 ∉ Region.ready .any ops l := fun {S l} h hS hi => by
    obtain ⟨_, h2, _, h4⟩ := h.ready hi
    obtain ⟨e, he, hb, hon⟩ := hyx
    have := h4 oy hy e he hb
    rw [hon] at this
    rcases (h.2 p (by omega)).1 this with h5 | h5
    · omega
    · exact hS h5
  have last : ∀ {S : List Nat} {l : Array Bool} {a' : Act} {w' : World}, LS ops p S l → p ∈ S → p + 1 ∈ S → p + 2 ∈ S → Q .normal a' w' → wpAny P .any ops Q 0 l a' w' := fun {S l a' w'} h h1 h2 h3 hq => ⟨List.eq_nil_iff_forall_not_mem.2 fun i hi => by
    obtain ⟨k1, k2, k3, _⟩ := h.ready hi
    have : i = p ∨ i = p + 1 ∨ i = p + 2 := by omega
    rcases this with rfl | rfl | rfl
    · exact k3 h1
    · exact k3 h2
    · exact k3 h3, hq⟩
  -- behind x and z: y is left
  have fin_y : ∀ {l : Array Bool} {S : List Nat} {a' : Act} {w' : World} {m' : MM}, LS ops p S l → p ∈ S → p + 2 ∈ S → p + 1 ∉ S → SR bs bad ⟨putT t ox.dst vx, h9, c9⟩ a' w' m' → Le w m c w' m' c9 → wpAny P .any ops Q 1 l a' w' := fun {l S a' w' m'} h s0 s2 s1 hs' hle => by
    refine ⟨fun hr => absurd hr (h.some hed (i := p + 1) (by omega) s1 (by omega) fun j hj => by
      have : j < p ∨ j = p := by omega
      rcases this with q | rfl
      · exact .inl q
      · exact .inr s0), fun i hi => ?_⟩
    obtain ⟨k1, k2, k3, _⟩ := h.ready hi
    have hi1 : i = p + 1 := by
      have : i = p ∨ i = p + 1 ∨ i = p + 2 := by omega
      rcases this with rfl | rfl | rfl
      · exact absurd s0 k3
      · rfl
      · exact absurd s2 k3
    subst hi1
    refine any_step hT hy gy hs' e7 fun a2 w2 m2 hs2 le2 => last (h.set _ k2) (by simp [s0]) (by simp) (by simp [s2]) ?_
    rw [p0] at hs2
    exact hQ a2 w2 m2 ⟨hs2.t, hs2.h.alike hh, hs2.d⟩ (hle.trans le2)
  refine ⟨fun hr => absurd hr (hl.some hed (i := p) (by omega) (by simp) (Nat.le_refl _) fun j hj => .inl hj), fun i hi => ?_⟩
  obtain ⟨k1, k2, _, _⟩ := hl.ready hi
  have : i = p ∨ i = p + 1 ∨ i = p + 2 := by omega
  rcases this with rfl | rfl | rfl
  · -- x first
    refine any_step hT hx gx hs e1 fun a1 w1 m1 hs1 le1 => ?_
    have l1 := hl.set _ k2
    refine ⟨fun hr => absurd hr (l1.some hed (i := i + 1) (by omega) (by simp) (by omega) fun j hj => by
      have : j < i ∨ j = i := by omega
      rcases this with q | rfl
      · exact .inl q
      · exact .inr (by simp)), fun j hj => ?_⟩
    obtain ⟨q1, q2, q3, _⟩ := l1.ready hj
    have : j = i + 1 ∨ j = i + 2 := by
      have : j = i ∨ j = i + 1 ∨ j = i + 2 := by omega
      rcases this with rfl | q | q
      · exact absurd (by simp) q3
      · exact .inl q
      · exact .inr q
    rcases this with rfl | rfl
    · -- then y
      refine any_step hT hy gy hs1 e2 fun a2 w2 m2 hs2 le2 => ?_
      rw [p0] at hs2
      have l2 := l1.set _ q2
      refine ⟨fun hr => absurd hr (l2.some hed (i := i + 2) (by omega) (by simp) (by omega) fun j hj => by
        have : j < i ∨ j = i ∨ j = i + 1 := by omega
        rcases this with q | rfl | rfl
        · exact .inl q
        · exact .inr (by simp)
        · exact .inr (by simp)), fun j hj => ?_⟩
      obtain ⟨r1, r2, r3, _⟩ := l2.ready hj
      have hj2 : j = i + 2 := by
        have : j = i ∨ j = i + 1 ∨ j = i + 2 := by omega
        rcases this with rfl | rfl | q
        · exact absurd (by simp) r3
        · exact absurd (by simp) r3
        · exact q
      subst hj2
      refine any_step hT hz gz hs2 e3 fun a3 w3 m3 hs3 le3 => last (l2.set _ r2) (by simp) (by simp) (by simp) ?_
      rw [p9] at hs3
      exact hQ a3 w3 m3 hs3 ((le1.trans le2).trans le3)
    · -- then z
      refine any_step hT hz gz hs1 e4 fun a2 w2 m2 hs2 le2 => ?_
      rw [p9] at hs2
      exact fin_y (l1.set _ q2) (by simp) (by simp) (by simp) hs2 (le1.trans le2)
  · exact absurd hi (noty hl (by simp))
  · -- z first
    refine any_step hT hz gz hs e5 fun a1 w1 m1 hs1 le1 => ?_
    rw [p9] at hs1
    have l1 := hl.set _ k2
    refine ⟨fun hr => absurd hr (l1.some hed (i := p) (by omega) (by simp) (Nat.le_refl _) fun j hj => .inl hj), fun j hj => ?_⟩
    obtain ⟨q1, q2, q3, _⟩ := l1.ready hj
    have : j = p := by
      have : j = p ∨ j = p + 1 ∨ j = p + 2 := by omega
      rcases this with q | rfl | rfl
      · exact q
      · exact absurd hj (noty l1 (by simp))
      · exact absurd (by simp) q3
    subst this
    refine any_step hT hx gx hs1 e6 fun a2 w2 m2 hs2 le2 => ?_
    exact fin_y (l1.set _ q2) (by simp) (by simp) (by simp) hs2 (le1.trans le2)

end
end Go.Mx
