/-
  What the laws are handed: numbers, texts, small arrays of numbers.
-/
import Derived.Test.YtfmgnboplbgniaaDx10
import Derived.Test.YtfmgnboplbgniaaRows
namespace Go.Su.Ytfmgnboplbgniaa
open Go.Mx Go.Proofs Go.Proofs.Ytfmgnboplbgniaa Go.ChangeShapes Go.WideShapes Go.RowKit
set_option linter.unusedVariables false

def okInt (k : IntKind) (n : Int) : Prop := (Lit.int k n).wf = true
def okStr (s : ByteArray) : Prop := s.size ≤ maxLen

theorem okInt_iff {n : Int} (h : okInt .i64 n) : -9223372036854775808 ≤ n ∧ n ≤ 9223372036854775807 := by
  unfold okInt at h
  simp [Lit.wf, IntKind.min, IntKind.max, IntKind.signed, IntKind.bits] at h
  omega

/-- An array of four numbers that is handed over. -/
theorem open_arr4 {P : Program} {W : World} {t e : TypeId} {H : Type} {enc : TypeId × Value → H} {r : Reach} {b0 : Nat} {v : Value} {d : DataW H} {ps : List MemPlace} (ht : P.underlying t = some (.array 4 e)) (he : P.underlying e = some (.int .i64)) (hc : P.cellsOf e = 1) (h4 : P.cellsOf t = 4)
    (hval : Value.okWide P W r b0 t v) (h : DataW.Trod enc P W 0 (fun _ => true) true t v d ps) :
    ∃ a0 a1 a2 a3, (okInt .i64 a0 ∧ okInt .i64 a1 ∧ okInt .i64 a2 ∧ okInt .i64 a3) ∧ v = .agg #[.int .i64 a0, .int .i64 a1, .int .i64 a2, .int .i64 a3] := by
  rw [Value.okWide, ht] at hval
  obtain ⟨cs, rfl, hsz, _⟩ := hval
  obtain ⟨fuel, hf⟩ := h
  obtain ⟨xs, m, _, _, hl, hn, hel⟩ := DataW.trod_array ht hf
  have hlen : cs.toList.length = 4 := by simpa [h4] using hsz
  have get : ∀ i, i < 4 → ∃ n, cs.toList[i]? = some (.int .i64 n) ∧ okInt .i64 n := by
    intro i hi
    have h1 := hel i hi
    rw [hc, Nat.mul_one, List.getElem?_eq_getElem (by omega)] at h1
    obtain ⟨n, e1, _, hw⟩ := DataW.trod_int he h1
    refine ⟨n, ?_, hw⟩
    have h0 : ((cs.toList.drop i).take 1)[0]? = some (.int .i64 n) := by
      have e2 : (Value.agg cs).cells.toList = cs.toList := rfl
      rw [e2] at e1
      rw [e1]; rfl
    simpa using h0
  obtain ⟨a0, h0, k0⟩ := get 0 (by omega)
  obtain ⟨a1, h1, k1⟩ := get 1 (by omega)
  obtain ⟨a2, h2, k2⟩ := get 2 (by omega)
  obtain ⟨a3, h3, k3⟩ := get 3 (by omega)
  refine ⟨a0, a1, a2, a3, ⟨k0, k1, k2, k3⟩, ?_⟩
  congr 1
  apply Array.ext'
  show cs.toList = [_, _, _, _]
  generalize cs.toList = l at *
  match l, hlen with
  | [x0, x1, x2, x3], _ => simp_all

theorem rep_arr4 {W : World} {ok : Nat → Prop} (a0 a1 a2 a3 : Int) : RepP W ok (.agg [.p (.int .i64 a0), .p (.int .i64 a1), .p (.int .i64 a2), .p (.int .i64 a3)]) (.agg #[.int .i64 a0, .int .i64 a1, .int .i64 a2, .int .i64 a3]) := by
  refine .agg rfl fun i h1 h2 => ?_
  match i, h1, h2 with
  | 0, _, _ => exact .p _
  | 1, _, _ => exact .p _
  | 2, _, _ => exact .p _
  | 3, _, _ => exact .p _
  | i + 4, h, _ => exact absurd h (by simp)

end Go.Su.Ytfmgnboplbgniaa
