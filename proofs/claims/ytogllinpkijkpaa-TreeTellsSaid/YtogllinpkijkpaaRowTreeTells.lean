/-
  The law TreeTells: what it is handed is read, its code computes true, and what it was handed reads as it did.
-/
import Derived.Test.YtogllinpkijkpaaRowT
import Derived.Test.YtogllinpkijkpaaTTP
import Derived.Test.YtogllinpkijkpaaPlTreeTells
namespace Go.Su.Ytogllinpkijkpaa
open Go.Mx Go.Proofs Go.RowKit
set_option linter.unusedVariables false

theorem law3_TreeTells_walk (W : World) (a0 : Int) (a1 : Int) (a2 : List Act) (v2 : Value) (a3 : List Act) (v3 : Value) (a4 : List Act) (v4 : Value) (a5 : List Act) (v5 : Value) (h0 : okInt .i64 a0) (h1 : okInt .i64 a1) (h2 : okActs a2) (r2 : RepP W (inW W) (el_Act a2) v2) (h3 : okActs a3) (r3 : RepP W (inW W) (el_Act a3) v3) (h4 : okActs a4) (r4 : RepP W (inW W) (el_Act a4) v4) (h5 : okActs a5) (r5 : RepP W (inW W) (el_Act a5) v5) :
    Calls Try.prog 6 #[.int .i64 a0, .int .i64 a1, v2, v3, v4, v5] W fun e w' => e = .returned (.bool true) ∧ Below W.heap.size W w' := by
  obtain ⟨n, h⟩ := law3_TreeTells_true a0 a1 a2 a3 a4 a5 h0 h1 h2 h3 h4 h5
  refine calls_of_PT (law3_TreeTells_ok h) W _ rfl fun i h1 h2 => ?_
  match i, h1, h2 with
  | 0, _, _ => exact .p _
  | 1, _, _ => exact .p _
  | 2, _, _ => exact r2
  | 3, _, _ => exact r3
  | 4, _, _ => exact r4
  | 5, _, _ => exact r5
  | i + 6, h, _ => exact absurd h (by simp)
end Go.Su.Ytogllinpkijkpaa
namespace Go.Proofs.Ytogllinpkijkpaa.treeTells
open Go.ChangeShapes Go.WideShapes Go.ChangeAt Go.RowKit
open Go.ChangeMaps (open_string shut_string)
set_option linter.unusedVariables false

theorem own : ownKnob Try.prog.godebug = none := by kernel_rfl
theorem laidOut : laidOutB Try.prog = true := by kernel_rfl

set_option maxRecDepth 100000 in
theorem lifted (os : Os) (started : os.Started) (H : Type) (enc : TypeId × Value → H) :
    ReturnsInHanded {} Try.checked os 6 .any (Rows.treeTellsSpec.pre6 enc Try.prog Try.f6 Rows.treeTellsRow.domain false) (Rows.treeTellsSpec.post enc Try.prog Try.f6 false true false false) := by
  refine returnsInHanded_of_change_sized (C := Try.checked) own started (by kernel_rfl) Try.func6
    (ChangeSpec.witness6 (enc := enc) (C := Try.checked) false ⟨#[], #[.int .i64 0, .int .i64 0, .slice none 0 0, .slice none 0 0, .slice none 0 0, .slice none 0 0], []⟩ 8 (by kernel_rfl) (by kernel_rfl) (by kernel_rfl) (by kernel_rfl)) ?_
  intro W base args ds gs before hval0 hW hcnd hsz0 _
  have hval : ∀ (j : Nat) t v, Try.f6.params[j]? = some t → args[j]? = some v → Value.okWide Try.prog W .any base t v := hval0
  have hW' := hW
  obtain ⟨p, q, hA0, hV, rfl, hfz, hnd⟩ := hW
  have hA : DataW.TrodAll enc Try.prog W 0 (fun _ => true) true Try.f6.params.toList args.toList ds p := hA0
  rw [Try.params6] at hA hval
  obtain ⟨v0, vs0, d0, ds0, p0, q0, hargs, rfl, rfl, h0, r0⟩ := trodAll_cons hA
  obtain ⟨v1, vs1, d1, ds1, p1, q1, rfl, rfl, rfl, h1, r1⟩ := trodAll_cons r0
  obtain ⟨v2, vs2, d2, ds2, p2, q2, rfl, rfl, rfl, h2, r2⟩ := trodAll_cons r1
  obtain ⟨v3, vs3, d3, ds3, p3, q3, rfl, rfl, rfl, h3, r3⟩ := trodAll_cons r2
  obtain ⟨v4, vs4, d4, ds4, p4, q4, rfl, rfl, rfl, h4, r4⟩ := trodAll_cons r3
  obtain ⟨v5, vs5, d5, ds5, p5, q5, rfl, rfl, rfl, h5, r5⟩ := trodAll_cons r4
  obtain ⟨rfl, rfl, rfl⟩ := trodAll_nil r5
  obtain rfl : args = #[v0, v1, v2, v3, v4, v5] := by cases args; simp_all
  obtain ⟨rfl, rfl⟩ := trodVars_none hV
  obtain ⟨a0, rfl, rfl, rfl, w0⟩ := open_int Try.underlying3 (hval 0 3 v0 rfl rfl) h0
  obtain ⟨a1, rfl, rfl, rfl, w1⟩ := open_int Try.underlying3 (hval 1 3 v1 rfl rfl) h1
  obtain ⟨a2, w2, y2⟩ := Go.Mx.open_slice (g := Go.Su.Ytogllinpkijkpaa.el_Act) Try.underlying22 (fun _ => rfl) (Go.Su.Ytogllinpkijkpaa.opens_acts W) (hval 2 22 v2 rfl rfl) h2
  have lt2 : ∀ x ∈ p2, x.block < W.heap.size := by obtain ⟨m, hm⟩ := h2; exact DataW.trod_lt m _ _ _ hm
  obtain ⟨a3, w3, y3⟩ := Go.Mx.open_slice (g := Go.Su.Ytogllinpkijkpaa.el_Act) Try.underlying22 (fun _ => rfl) (Go.Su.Ytogllinpkijkpaa.opens_acts W) (hval 3 22 v3 rfl rfl) h3
  have lt3 : ∀ x ∈ p3, x.block < W.heap.size := by obtain ⟨m, hm⟩ := h3; exact DataW.trod_lt m _ _ _ hm
  obtain ⟨a4, w4, y4⟩ := Go.Mx.open_slice (g := Go.Su.Ytogllinpkijkpaa.el_Act) Try.underlying22 (fun _ => rfl) (Go.Su.Ytogllinpkijkpaa.opens_acts W) (hval 4 22 v4 rfl rfl) h4
  have lt4 : ∀ x ∈ p4, x.block < W.heap.size := by obtain ⟨m, hm⟩ := h4; exact DataW.trod_lt m _ _ _ hm
  obtain ⟨a5, w5, y5⟩ := Go.Mx.open_slice (g := Go.Su.Ytogllinpkijkpaa.el_Act) Try.underlying22 (fun _ => rfl) (Go.Su.Ytogllinpkijkpaa.opens_acts W) (hval 5 22 v5 rfl rfl) h5
  have lt5 : ∀ x ∈ p5, x.block < W.heap.size := by obtain ⟨m, hm⟩ := h5; exact DataW.trod_lt m _ _ _ hm
  clear hA0 hval0 hsz0
  refine (Go.Su.Ytogllinpkijkpaa.law3_TreeTells_walk W a0 a1 a2 v2 a3 v3 a4 v4 a5 v5 w0 w1 w2 y2 w3 y3 w4 y4 w5 y5).mono fun e W' ⟨he, bel⟩ => ?_
  subst he
  exact ⟨_, rfl, _, _, _, [], _, [], hW', trodAll_mk1 (shut_bool Try.underlying4 _), (trodAll_cons_mk (shut_int Try.underlying3 w0) (trodAll_cons_mk (shut_int Try.underlying3 w1) (trodAll_cons_mk (Below.trod laidOut (by kernel_rfl) (of_decide_eq_true (by kernel_rfl)) h2 bel lt2) (trodAll_cons_mk (Below.trod laidOut (by kernel_rfl) (of_decide_eq_true (by kernel_rfl)) h3 bel lt3) (trodAll_cons_mk (Below.trod laidOut (by kernel_rfl) (of_decide_eq_true (by kernel_rfl)) h4 bel lt4) (trodAll_cons_mk (Below.trod laidOut (by kernel_rfl) (of_decide_eq_true (by kernel_rfl)) h5 bel lt5) trodAll_mk0)))))), rfl, bel.frame _, fun h => by cases h⟩

theorem over : Rows.treeTellsRow.holds Try.pinned (OpenSpec.ofChange Rows.treeTellsSpec) :=
  OpenClaim.holds_of_wide 6 Try.f6 rfl rfl rfl rfl rfl rfl rfl ⟨rfl, rfl, rfl, rfl, rfl⟩ rfl rfl rfl rfl rfl (by kernel_rfl) Try.func6 (by kernel_rfl)
    (of_decide_eq_true (by kernel_rfl)) (by unfold Func.isWrapper; first | (rw [if_pos (by decide +kernel)]; kernel_rfl) | (rw [if_neg (by decide +kernel)]; exact ⟨rfl, rfl⟩))
    (fun os started H enc _ => lifted os started H enc)

end Go.Proofs.Ytogllinpkijkpaa.treeTells
namespace Go.Proofs.Ytogllinpkijkpaa
/-- The row, under a short name, for the claim. -/
theorem treeTells_holds : Rows.TreeTellsSaid := treeTells.over
#print axioms treeTells_holds
end Go.Proofs.Ytogllinpkijkpaa
