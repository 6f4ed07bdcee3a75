/-
  What a function hands back; pure calls.
-/
import Derived.Test.YtpcngdlglejgeaaGreatDoorNy12m
namespace Go.Mx
set_option linter.unusedVariables false
set_option linter.unusedSimpArgs false

def resSem (tmps : Array Value) : ResultVar → Sem Value
  | .tmp t => pure (tmps.getD t Go.undef)
  | .cell k t => do loadVar t (← asAddr (tmps.getD k Go.undef))

theorem results_eq (fn : Func) (tmps : Array Value) : results fn tmps = (fn.results.mapM (resSem tmps) >>= fun vs => pure (if h : vs.size = 1 then vs[0] else .tuple vs)) := by
  unfold results
  congr 1

section
variable {P : Program} {T : TypeId → Option TI} {bad : Nat → Prop} {bs : Nat}

theorem evResult_sound (hT : TabOk P T) {st : St} {a : Act} {w : World} {m : MM} (hs : SR bs bad st a w m) {r : ResultVar} {v : V} (he : evResult T st r = some v) : ∃ x, (resSem a.tmps r).run P w = .ok x w ∧ Rep bad w m st.c v x := by
  cases r with
  | tmp k =>
    simp only [evResult, Option.some.injEq] at he
    subst he
    exact ⟨_, rfl, hs.t.2 k⟩
  | cell k t =>
    simp only [evResult] at he
    obtain ⟨y, h1, h2⟩ := evLoad_sound hT hs.h (hs.t.2 k) he
    refine ⟨y, ?_, h2⟩
    simp only [Instr.loadAt, resSem, Sem.run_bind] at h1 ⊢
    generalize a.tmps.getD k Go.undef = z at h1 ⊢
    cases z <;> simp [Instr.sureAddr] at h1
    rename_i o
    cases o <;> simp [Instr.sureAddr] at h1
    simpa [asAddr] using h1

theorem evResults_sound (hT : TabOk P T) {st : St} {a : Act} {w : World} {m : MM} (hs : SR bs bad st a w m) {fn : Func} {v : V} (he : evResults T st fn.results.toList = some v) :
    ∃ x, (results fn a.tmps).run P w = .ok x w ∧ Rep bad w m st.c v x := by
  have hmap : ∀ (rs : List ResultVar) (vs : List V), rs.mapM (evResult T st) = some vs → ∃ xs : List Value, (rs.mapM (resSem a.tmps)).run P w = .ok xs w ∧ vs.length = xs.length ∧ rs.length = xs.length ∧
      ∀ i (h1 : i < vs.length) (h2 : i < xs.length), Rep bad w m st.c vs[i] xs[i] := by
    intro rs
    induction rs with
    | nil => intro vs h; simp only [List.mapM_nil] at h; cases h; exact ⟨[], rfl, rfl, rfl, fun i h1 => by simp at h1⟩
    | cons r rs ih =>
      intro vs h
      simp only [List.mapM_cons, Option.bind_eq_bind, Option.bind_eq_some_iff, Option.pure_def, Option.some.injEq] at h
      obtain ⟨v1, hv1, vs1, hvs1, rfl⟩ := h
      obtain ⟨x, h1, h2⟩ := evResult_sound hT hs hv1
      obtain ⟨xs, h3, h4, h5, h6⟩ := ih vs1 hvs1
      refine ⟨x :: xs, by rw [List.mapM_cons, Sem.run_bind, h1, Result.andThen_ok, Sem.run_bind, h3]; rfl, by simp [h4], by simp [h5], fun i a1 a2 => ?_⟩
      cases i with
      | zero => exact h2
      | succ i => simpa using h6 i (by simpa using a1) (by simpa using a2)
  rw [results_eq, Array.mapM_eq_mapM_toList]
  unfold evResults at he
  split at he
  · rename_i r hr
    obtain ⟨x, h1, h2⟩ := evResult_sound hT hs he
    exact ⟨x, by rw [hr]; simp [List.mapM_cons, h1], h2⟩
  · rename_i hne
    simp only [Option.map_eq_some_iff] at he
    obtain ⟨vs, hvs, rfl⟩ := he
    obtain ⟨xs, h1, h2, h3, h4⟩ := hmap _ _ hvs
    have hlen : xs.length ≠ 1 := by
      intro h5
      have : fn.results.toList.length = 1 := by omega
      obtain ⟨r, hr⟩ := List.length_eq_one_iff.1 this
      exact hne r hr
    exact ⟨.tuple xs.toArray, by simp [h1, hlen], .tup (by simpa using h2) fun i a1 a2 => by simpa using h4 i a1 (by simpa using a2)⟩

def noM : MM := fun _ => none

/-- A pure function: of what is passed nothing is the caller's to change; what it gives is pure. -/
def PT (P : Program) (g : FuncId) (vs : List V) (r : V) : Prop :=
  ∀ (bad : Nat → Prop) (w : World) (xs : Array Value), (∀ β, bad β → β < w.heap.size) → vs.length = xs.size → (∀ i (h1 : i < vs.length) (h2 : i < xs.size), RepP w (okOf bad w noM) vs[i] xs[i]) →
    Calls P g xs w fun e w' => ∃ x, e = .returned x ∧ RepP w' (okOf bad w' noM) r x ∧ Le w noM 0 w' noM 0

/-- A function that is lent blocks. -/
def GT (P : Program) (g : FuncId) (vs : List V) (h : Hp) (r : V) (h' : Hp) (c' : Nat) : Prop := ∀ bad, CallsA P bad h 1 g vs r h' c'

def start (fn : Func) (vs : List V) (h : Hp) (c : Nat) : St := ⟨vs ++ List.replicate (fn.ntmps - vs.length) (.p Go.undef), h, c⟩

theorem start_rep {w : World} {m : MM} {c : Nat} {vs : List V} {xs : Array Value} (hl : vs.length = xs.size) (hr : ∀ i (h1 : i < vs.length) (h2 : i < xs.size), Rep bad w m c vs[i] xs[i]) (n : Nat) :
    RepT bad w m c (vs ++ List.replicate (n - vs.length) (.p Go.undef)) (xs ++ Array.replicate (n - xs.size) Go.undef) := by
  refine ⟨by simp [hl], fun i => ?_⟩
  rw [List.getD_eq_getElem?_getD, Array.getD_eq_getD_getElem?]
  by_cases h1 : i < vs.length
  · have h2 : i < xs.size := by omega
    rw [List.getElem?_append_left h1, Array.getElem?_append_left h2, List.getElem?_eq_getElem h1, Array.getElem?_eq_getElem h2]
    exact hr i h1 h2
  · rw [List.getElem?_append_right (by omega), Array.getElem?_append_right (by omega), List.getElem?_replicate, Array.getElem?_replicate, hl]
    split
    · exact .pure (.p _)
    · exact .pure (.undef _)

/-- How a body may end. -/
def Ends (Q : St → Prop) : Exit → St → Prop
  | .normal, st => Q st
  | .ret, st => Q st
  | _, _ => False

theorem calls_body (hT : TabOk P T) {g : FuncId} {fn : Func} {code : Code} (hf : P.funcs[g]? = some fn) (hb : fn.body = some code) {w : World} {m : MM} {c : Nat} {h : Hp} {vs : List V} {xs : Array Value} (hh : HeapRep bad h w m c) (hl : vs.length = xs.size)
    (hr : ∀ i (h1 : i < vs.length) (h2 : i < xs.size), Rep bad w m c vs[i] xs[i]) {Q : St → Prop} (hc : ∀ bs, WC bs P bad code (start fn vs h c) (Ends Q)) {R : Ending → World → Prop}
    (hR : ∀ bs st a' w' m', Q st → SR bs bad st a' w' m' → Le w m c w' m' st.c → ∃ x, (results fn a'.tmps).run P w' = .ok x w' ∧ R (.returned x) w') : Calls P g xs w R := by
  refine callsIn_wide (n := 0).1 (callsIn_of_wp_marks (F := Fence.wide) (n := 0) hf hb trivial (wpIn_wide.2 (wp_mono (hc w.heap.size _ w m ⟨start_rep hl hr fn.ntmps, hh, Nat.le_refl _, trivial⟩) ?_)) rfl)
  have fin : ∀ st' a' w' m', Q st' → SR w.heap.size bad st' a' w' m' → Le w m c w' m' st'.c → LeavesInM Fence.wide 0 P fn a'.tmps R a'.defers .returning w' := by
    intro st' a' w' m' h1 h2 h3
    refine leaves_marks a'.defers w' h2.d.2 fun w2 ho hk => ?_
    exact hR w.heap.size st' { a' with defers := [] } w2 m' h1 ⟨⟨h2.t.1, fun i => ho.rep (h2.t.2 i)⟩, ho.heap h2.h, by rw [ho.size]; exact h2.d.1, trivial⟩ (ho.le h3 hk)
  rintro e a' w' ⟨st', m', h1, h2, h3⟩
  cases e <;> simp only [Ends] at h1
  · exact fin st' a' w' m' h1 h2 h3
  · exact fin st' a' w' m' h1 h2 h3

theorem heap_nil {w : World} (hb : ∀ β, bad β → β < w.heap.size) : HeapRep bad [] w noM 0 :=
  ⟨fun b B h => by simp [Hp.get] at h, fun _ _ => rfl, hb, fun b l β h => by simp [noM] at h, fun b b' l l' β h => by simp [noM] at h⟩

/-- The end of a pure function: what it gives is let go. -/
def EndsP (T : TypeId → Option TI) (fn : Func) (r : V) (st : St) : Prop :=
  ∃ r0 h', evResults T st fn.results.toList = some r0 ∧ frz 6 st.h r0 = some (r, h')

theorem PT_body (hT : TabOk P T) {g : FuncId} {fn : Func} {code : Code} (hf : P.funcs[g]? = some fn) (hb : fn.body = some code) {vs : List V} {r : V} (hc : ∀ bad bs, WC bs P bad code (start fn vs [] 0) (Ends (EndsP T fn r))) : PT P g vs r := by
  intro bad w xs hbad hl hr
  refine calls_body hT hf hb (heap_nil hbad) hl (fun i h1 h2 => .pure (hr i h1 h2)) (hc bad) ?_
  rintro bs st a' w' m' ⟨r0, h', h1, h2⟩ hs hle
  obtain ⟨x, h3, h4⟩ := evResults_sound hT hs h1
  obtain ⟨m2, le2, hh2, h5⟩ := frz_sound 6 st.h r0 r h' m' x hs.h h2 h4
  refine ⟨x, h3, x, rfl, h5.mono fun β hβ => ⟨⟨hβ.1, hβ.2.1, fun b l h => by simp [noM] at h⟩, fun _ => rfl⟩, ?_⟩
  exact ⟨Nat.le_refl _, fun b l h => by simp [noM] at h, fun β hβ _ => hle.keep β hβ fun b l h => by simp [noM] at h, hle.size, hle.os, hle.output, hle.tape, fun b l β h => by simp [noM] at h⟩

theorem GT_body (hT : TabOk P T) {g : FuncId} {fn : Func} {code : Code} (hf : P.funcs[g]? = some fn) (hb : fn.body = some code) {vs : List V} {h : Hp} {r : V} {h' : Hp} {c' : Nat}
    (hc : ∀ bad bs, WC bs P bad code (start fn vs h 1) (Ends fun st => evResults T st fn.results.toList = some r ∧ st.h = h' ∧ st.c = c')) : GT P g vs h r h' c' := by
  intro bad w m xs hh hl hr
  refine calls_body hT hf hb hh hl hr (hc bad) ?_
  rintro bs st a' w' m' ⟨h1, rfl, rfl⟩ hs hle
  obtain ⟨x, h3, h4⟩ := evResults_sound hT hs h1
  exact ⟨x, h3, x, m', rfl, h4, hle, hs.h⟩

end
end Go.Mx
