/-
  The program's own tables; closed calls.
-/
import Derived.Test.YtpcngdlglejgeaaGreatDoorNy21
import Derived.Below
open Go.RowKit
namespace Go.Mx
set_option linter.unusedVariables false
set_option linter.unusedSimpArgs false

/-- The row of a type. -/
def tabRowM (P : Program) (t : TypeId) : Option TI :=
  match P.info? t, P.underlying t with
  | some info, some d => match info.zero with
    | some z => if z.cells.size = info.size ∧ t < P.types.size then some ⟨info.size, info.bytes, d, ofC z⟩ else none
    | none => none
  | _, _ => none

/-- Each field of a struct has its row. -/
def fieldsOkM (P : Program) (t : TypeId) : Bool :=
  match tabRowM P t with
  | some ⟨_, _, .struct fs, _⟩ => fs.toList.all fun f => (tabRowM P f.type).isSome
  | _ => true

def tabAll (P : Program) : Bool := (List.range P.types.size).all (fieldsOkM P)

theorem tabRowM_ok {P : Program} (hall : tabAll P = true) : TabOk P (tabRowM P) := by
  intro t i ht
  have ht0 := ht
  unfold tabRowM at ht
  split at ht
  · rename_i info d hi hu
    split at ht
    · rename_i z hz
      split at ht
      · rename_i hsz
        simp only [Option.some.injEq] at ht
        subst ht
        refine ⟨info, z, hi, rfl, rfl, hu, hz, rfl, hsz.1, fun fs hfs f hf => ?_⟩
        have hlt : t < P.types.size := hsz.2
        have := List.all_eq_true.1 hall t (List.mem_range.2 hlt)
        unfold fieldsOkM at this
        rw [ht0] at this
        simp only at hfs
        subst hfs
        exact List.all_eq_true.1 this f hf
      · cases ht
    · cases ht
  · cases ht

def funOf (P : Program) (g : FuncId) : Option Func :=
  match P.funcs[g]? with
  | some fn => if fn.name == "runtime.NumGoroutine" then none else some fn
  | none => none

theorem funOf_ok (P : Program) : FOk P (funOf P) := by
  intro g fn h
  unfold funOf at h
  split at h
  · rename_i f hf
    split at h
    · cases h
    · rename_i hn
      simp only [Option.some.injEq] at h
      subst h
      exact ⟨hf, by simpa using hn⟩
  · cases h

/-- It comes to true. -/
def saysTrue : Option (V × Hp × Nat) → Bool
  | some (.p (.bool true), _, _) => true
  | _ => false

theorem Le.belowM {w w' : World} {c c' : Nat} {m' : MM} (h : Le w noM c w' m' c') : Below w.heap.size w w' :=
  ⟨h.os, h.tape, h.output, h.size, fun k hk => h.keep k hk fun b l hb => by simp [noM] at hb⟩

/-- A CALL THAT COMES TO TRUE. -/
theorem calls_true {P : Program} (hall : tabAll P = true) (hm : P.follows .mixedOrders = true) {dp : TypeId → Bool} {fz bk : FuncId → Bool} {mode : FuncId → Nat} (hbk : BkOk P bk) {fuel n : Nat} {g : FuncId} {vs : List V} (h : saysTrue (yFn P (tabRowM P) dp fz bk (funOf P) mode fuel n g vs [] 0) = true)
    (w : World) (xs : Array Value) (hl : vs.length = xs.size) (hr : ∀ i (h1 : i < vs.length) (h2 : i < xs.size), Rep (fun _ => False) w noM 0 vs[i] xs[i]) : Calls P g xs w fun e w' => e = .returned (.bool true) ∧ Below w.heap.size w w' := by
  unfold saysTrue at h
  split at h
  · rename_i h1 c1 hx
    obtain ⟨_, h4⟩ := yFn_sound (tabRowM_ok hall) hbk (funOf_ok P) hm fuel n _ _ _ _ _ _ _ hx
    refine (h4 (fun _ => False) w noM xs (heap_nil fun β h => h.elim) hl hr).mono ?_
    rintro e w' ⟨x, m', rfl, hrx, hle, _⟩
    exact ⟨by rw [rep_p hrx], hle.belowM⟩
  · cases h

end Go.Mx
