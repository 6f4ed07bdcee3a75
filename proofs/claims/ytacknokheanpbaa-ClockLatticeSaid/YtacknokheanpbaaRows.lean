/-
  No cell of these rows narrows 'for every input' (looked for: loops, veiled, ifaces, maps, wideKeys, modest, calm, conditions, laid).
  DERIVED. THE GIVEN ROWS OF THIS SEAT. 4 by the template 'for every input the law returns true; each argument reads behind the call as it read before'; 0 by the template 'total and deterministic' (their statements: YtacknokheanpbaaTotals.lean).
  GIVEN WITH THE SEED: the statements are not yours to turn. If you find one false, say at which input.
  Laid BY PROGRAM, IN A SANDBOX (cutbox-rows.mjs): the forced cells as the released guide's own fill.sh prints them over the translation 67e63cb1cee02a00… (all of the seat's roots in one cut). By AI agents, Wed Nov 11 2026. No macro, syntax, notation, axiom, sorry.
-/
import Derived.Test.YtacknokheanpbaaChecked
import GoSem.Claim
import GoSem.ClaimJoined
import GoSem.ClaimMapViews
import Derived.JoinedTies
import Derived.KernelRfl
namespace Go.Proofs.Ytacknokheanpbaa
/- THE CELL 'sum', in the pinned program and in every row, IS THE sha256 OF THE DUMP (.gsa) THAT YtacknokheanpbaaProg.lean LOADS. Nothing in Lean hashes anything: it is a label: what it is worth is what the hold of that sum in a sandbox is worth. -/
noncomputable def Try.pinned : Pinned := { name := "ytacknokheanpbaa", sum := "67e63cb1cee02a00259ebfa430823e21a0985388cd51d9d96922dd40928a27dc", checked := Try.checked }
namespace Rows
def none {H : Type} : Left H := { results := [], args := [] }

/-- 'suturelaw18.ClockKnown': WHATEVER THE INPUT: true; the input reads as it did. -/
def clockKnownSpec : ChangeSpec := { name := "clockKnown", fn := fun _ => fun
  | [] => { results := [.lit (.bool true)], args := [] }
  | _ => none }
def clockKnownRow : OpenClaim := { program := "ytacknokheanpbaa", sum := "67e63cb1cee02a00259ebfa430823e21a0985388cd51d9d96922dd40928a27dc", func := "suture/suturelaw18.ClockKnown", spec := "clockKnown", apart := false }
def ClockKnownSaid : Prop := clockKnownRow.holds Try.pinned (OpenSpec.ofChange clockKnownSpec)

/-- ITS FALSE NEIGHBOUR: 'it returns false'. Refute it at one input. -/
def clockKnownWrong : ChangeSpec := { name := "clockKnown", fn := fun _ => fun
  | [] => { results := [.lit (.bool false)], args := [] }
  | _ => none }
def ClockKnownWrongFalsely : Prop := clockKnownRow.holds Try.pinned (OpenSpec.ofChange clockKnownWrong)

/-- 'suturelaw18.ClockTells': WHATEVER THE INPUT: true; the input reads as it did. -/
def clockTellsSpec : ChangeSpec := { name := "clockTells", fn := fun _ => fun
  | [d1, d2, d3, d4] => { results := [.lit (.bool true)], args := [d1, d2, d3, d4] }
  | _ => none }
def clockTellsRow : OpenClaim := { program := "ytacknokheanpbaa", sum := "67e63cb1cee02a00259ebfa430823e21a0985388cd51d9d96922dd40928a27dc", func := "suture/suturelaw18.ClockTells", spec := "clockTells", apart := false }
def ClockTellsSaid : Prop := clockTellsRow.holds Try.pinned (OpenSpec.ofChange clockTellsSpec)

/-- ITS FALSE NEIGHBOUR: 'it returns false'. Refute it at one input. -/
def clockTellsWrong : ChangeSpec := { name := "clockTells", fn := fun _ => fun
  | [d1, d2, d3, d4] => { results := [.lit (.bool false)], args := [d1, d2, d3, d4] }
  | _ => none }
def ClockTellsWrongFalsely : Prop := clockTellsRow.holds Try.pinned (OpenSpec.ofChange clockTellsWrong)

/-- 'suturelaw18.ClockLattice': WHATEVER THE INPUT: true; the input reads as it did. -/
def clockLatticeSpec : ChangeSpec := { name := "clockLattice", fn := fun _ => fun
  | [d1, d2, d3, d4] => { results := [.lit (.bool true)], args := [d1, d2, d3, d4] }
  | _ => none }
def clockLatticeRow : OpenClaim := { program := "ytacknokheanpbaa", sum := "67e63cb1cee02a00259ebfa430823e21a0985388cd51d9d96922dd40928a27dc", func := "suture/suturelaw18.ClockLattice", spec := "clockLattice", apart := false }
def ClockLatticeSaid : Prop := clockLatticeRow.holds Try.pinned (OpenSpec.ofChange clockLatticeSpec)

/-- ITS FALSE NEIGHBOUR: 'it returns false'. Refute it at one input. -/
def clockLatticeWrong : ChangeSpec := { name := "clockLattice", fn := fun _ => fun
  | [d1, d2, d3, d4] => { results := [.lit (.bool false)], args := [d1, d2, d3, d4] }
  | _ => none }
def ClockLatticeWrongFalsely : Prop := clockLatticeRow.holds Try.pinned (OpenSpec.ofChange clockLatticeWrong)

/-- 'suturelaw18.ClockTicks': WHATEVER THE INPUT: true; the input reads as it did. -/
def clockTicksSpec : ChangeSpec := { name := "clockTicks", fn := fun _ => fun
  | [d1, d2, d3] => { results := [.lit (.bool true)], args := [d1, d2, d3] }
  | _ => none }
def clockTicksRow : OpenClaim := { program := "ytacknokheanpbaa", sum := "67e63cb1cee02a00259ebfa430823e21a0985388cd51d9d96922dd40928a27dc", func := "suture/suturelaw18.ClockTicks", spec := "clockTicks", apart := false }
def ClockTicksSaid : Prop := clockTicksRow.holds Try.pinned (OpenSpec.ofChange clockTicksSpec)

/-- ITS FALSE NEIGHBOUR: 'it returns false'. Refute it at one input. -/
def clockTicksWrong : ChangeSpec := { name := "clockTicks", fn := fun _ => fun
  | [d1, d2, d3] => { results := [.lit (.bool false)], args := [d1, d2, d3] }
  | _ => none }
def ClockTicksWrongFalsely : Prop := clockTicksRow.holds Try.pinned (OpenSpec.ofChange clockTicksWrong)

/- THE SECOND FORM. 'bulk': how many values and letters a reading holds, each counted each time it is reached (what is shared counts as often as it is met; a slice's spare places count too). A statement '..UptoSaid' is the law's where the arguments, and the package variables that the reading takes, are together of bulk at most 1048576: NARROWER than '..Said'. Prove '..Said' where nothing that the law and all that it calls make is longer than what came in: it says more and counts as full. Else prove '..UptoSaid'. A law counts once. -/
mutual
def uptoBulk {H : Type} : DataW H → Nat
  | .lit (.string bytes) => bytes.length + 1
  | .lit _ => 1
  | .nil => 1
  | .ptr d => uptoBulk d + 1
  | .slice elems spare => uptoBulkAll elems + uptoBulkAll spare + 1
  | .agg parts => uptoBulkAll parts + 1
  | .iface _ d => uptoBulk d + 1
  | .map entries => uptoBulkEntries entries + 1
  | .held _ => 1
def uptoBulkAll {H : Type} : List (DataW H) → Nat
  | [] => 0
  | d :: r => uptoBulk d + uptoBulkAll r
def uptoBulkEntries {H : Type} : List (Lit × DataW H) → Nat
  | [] => 0
  | x :: r => uptoBulkEntry x + uptoBulkEntries r
def uptoBulkEntry {H : Type} : Lit × DataW H → Nat
  | (.string bytes, d) => bytes.length + uptoBulk d + 1
  | (_, d) => uptoBulk d + 1
 end
def uptoSmall : (H : Type) → List (DataW H) → Bool := fun _ ds => decide (uptoBulkAll ds ≤ 1048576)
def OpenSpec.upto (s : _root_.Go.ChangeSpec) : _root_.Go.OpenSpec := { _root_.Go.OpenSpec.ofChange s with cond := some uptoSmall }

/-- 'suturelaw18.ClockKnown', WHERE WHAT IT READS IS OF BULK AT MOST 1048576: true; the input reads as it did. -/
def clockKnownUptoRow : OpenClaim := { program := "ytacknokheanpbaa", sum := "67e63cb1cee02a00259ebfa430823e21a0985388cd51d9d96922dd40928a27dc", func := "suture/suturelaw18.ClockKnown", spec := "clockKnown", apart := false, narrowed := true }
def ClockKnownUptoSaid : Prop := clockKnownUptoRow.holds Try.pinned (OpenSpec.upto clockKnownSpec)

/-- 'suturelaw18.ClockTells', WHERE WHAT IT READS IS OF BULK AT MOST 1048576: true; the input reads as it did. -/
def clockTellsUptoRow : OpenClaim := { program := "ytacknokheanpbaa", sum := "67e63cb1cee02a00259ebfa430823e21a0985388cd51d9d96922dd40928a27dc", func := "suture/suturelaw18.ClockTells", spec := "clockTells", apart := false, narrowed := true }
def ClockTellsUptoSaid : Prop := clockTellsUptoRow.holds Try.pinned (OpenSpec.upto clockTellsSpec)

/-- 'suturelaw18.ClockLattice', WHERE WHAT IT READS IS OF BULK AT MOST 1048576: true; the input reads as it did. -/
def clockLatticeUptoRow : OpenClaim := { program := "ytacknokheanpbaa", sum := "67e63cb1cee02a00259ebfa430823e21a0985388cd51d9d96922dd40928a27dc", func := "suture/suturelaw18.ClockLattice", spec := "clockLattice", apart := false, narrowed := true }
def ClockLatticeUptoSaid : Prop := clockLatticeUptoRow.holds Try.pinned (OpenSpec.upto clockLatticeSpec)

/-- 'suturelaw18.ClockTicks', WHERE WHAT IT READS IS OF BULK AT MOST 1048576: true; the input reads as it did. -/
def clockTicksUptoRow : OpenClaim := { program := "ytacknokheanpbaa", sum := "67e63cb1cee02a00259ebfa430823e21a0985388cd51d9d96922dd40928a27dc", func := "suture/suturelaw18.ClockTicks", spec := "clockTicks", apart := false, narrowed := true }
def ClockTicksUptoSaid : Prop := clockTicksUptoRow.holds Try.pinned (OpenSpec.upto clockTicksSpec)

end Rows
end Go.Proofs.Ytacknokheanpbaa
