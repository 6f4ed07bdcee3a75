/-
  No cell of these rows narrows 'for every input' (looked for: loops, veiled, ifaces, maps, wideKeys, modest, calm, conditions, laid).
  DERIVED. THE GIVEN ROWS OF THIS SEAT. 12 by the template 'for every input the law returns true; each argument reads behind the call as it read before'; 0 by the template 'total and deterministic' (their statements: YtfmgnboplbgniaaTotals.lean).
  GIVEN WITH THE SEED: the statements are not yours to turn. If you find one false, say at which input.
  Laid BY PROGRAM, IN A SANDBOX (cutbox-rows.mjs): the forced cells as the released guide's own fill.sh prints them over the translation 27dd455227a012a0… (all of the seat's roots in one cut). By AI agents, Wed Nov 11 2026. No macro, syntax, notation, axiom, sorry.
-/
import Derived.Test.YtfmgnboplbgniaaChecked
import GoSem.Claim
import GoSem.ClaimJoined
import GoSem.ClaimMapViews
import Derived.JoinedTies
import Derived.KernelRfl
namespace Go.Proofs.Ytfmgnboplbgniaa
/- THE CELL 'sum', in the pinned program and in every row, IS THE sha256 OF THE DUMP (.gsa) THAT YtfmgnboplbgniaaProg.lean LOADS. Nothing in Lean hashes anything: it is a label: what it is worth is what the hold of that sum in a sandbox is worth. -/
noncomputable def Try.pinned : Pinned := { name := "ytfmgnboplbgniaa", sum := "27dd455227a012a0e1b86bb24e231636f5beb74c7826819626f7317ccffc387e", checked := Try.checked }
namespace Rows
def none {H : Type} : Left H := { results := [], args := [] }

/-- 'suturelaw10.BoundAdds': WHATEVER THE INPUT: true; the input reads as it did. -/
def boundAddsSpec : ChangeSpec := { name := "boundAdds", fn := fun _ => fun
  | [d1, d2, d3] => { results := [.lit (.bool true)], args := [d1, d2, d3] }
  | _ => none }
def boundAddsRow : OpenClaim := { program := "ytfmgnboplbgniaa", sum := "27dd455227a012a0e1b86bb24e231636f5beb74c7826819626f7317ccffc387e", func := "suture/suturelaw10.BoundAdds", spec := "boundAdds", recurses := true, apart := false }
def BoundAddsSaid : Prop := boundAddsRow.holds Try.pinned (OpenSpec.ofChange boundAddsSpec)

/-- ITS FALSE NEIGHBOUR: 'it returns false'. Refute it at one input. -/
def boundAddsWrong : ChangeSpec := { name := "boundAdds", fn := fun _ => fun
  | [d1, d2, d3] => { results := [.lit (.bool false)], args := [d1, d2, d3] }
  | _ => none }
def BoundAddsWrongFalsely : Prop := boundAddsRow.holds Try.pinned (OpenSpec.ofChange boundAddsWrong)

/-- 'suturelaw10.BoundKnown': WHATEVER THE INPUT: true; the input reads as it did. -/
def boundKnownSpec : ChangeSpec := { name := "boundKnown", fn := fun _ => fun
  | [] => { results := [.lit (.bool true)], args := [] }
  | _ => none }
def boundKnownRow : OpenClaim := { program := "ytfmgnboplbgniaa", sum := "27dd455227a012a0e1b86bb24e231636f5beb74c7826819626f7317ccffc387e", func := "suture/suturelaw10.BoundKnown", spec := "boundKnown", recurses := true, apart := false }
def BoundKnownSaid : Prop := boundKnownRow.holds Try.pinned (OpenSpec.ofChange boundKnownSpec)

/-- ITS FALSE NEIGHBOUR: 'it returns false'. Refute it at one input. -/
def boundKnownWrong : ChangeSpec := { name := "boundKnown", fn := fun _ => fun
  | [] => { results := [.lit (.bool false)], args := [] }
  | _ => none }
def BoundKnownWrongFalsely : Prop := boundKnownRow.holds Try.pinned (OpenSpec.ofChange boundKnownWrong)

/-- 'suturelaw10.BoundTells': WHATEVER THE INPUT: true; the input reads as it did. -/
def boundTellsSpec : ChangeSpec := { name := "boundTells", fn := fun _ => fun
  | [d1, d2, d3, d4, d5, d6] => { results := [.lit (.bool true)], args := [d1, d2, d3, d4, d5, d6] }
  | _ => none }
def boundTellsRow : OpenClaim := { program := "ytfmgnboplbgniaa", sum := "27dd455227a012a0e1b86bb24e231636f5beb74c7826819626f7317ccffc387e", func := "suture/suturelaw10.BoundTells", spec := "boundTells", recurses := true, apart := false }
def BoundTellsSaid : Prop := boundTellsRow.holds Try.pinned (OpenSpec.ofChange boundTellsSpec)

/-- ITS FALSE NEIGHBOUR: 'it returns false'. Refute it at one input. -/
def boundTellsWrong : ChangeSpec := { name := "boundTells", fn := fun _ => fun
  | [d1, d2, d3, d4, d5, d6] => { results := [.lit (.bool false)], args := [d1, d2, d3, d4, d5, d6] }
  | _ => none }
def BoundTellsWrongFalsely : Prop := boundTellsRow.holds Try.pinned (OpenSpec.ofChange boundTellsWrong)

/-- 'suturelaw8.NamesKnown': WHATEVER THE INPUT: true; the input reads as it did. -/
def namesKnownSpec : ChangeSpec := { name := "namesKnown", fn := fun _ => fun
  | [] => { results := [.lit (.bool true)], args := [] }
  | _ => none }
def namesKnownRow : OpenClaim := { program := "ytfmgnboplbgniaa", sum := "27dd455227a012a0e1b86bb24e231636f5beb74c7826819626f7317ccffc387e", func := "suture/suturelaw8.NamesKnown", spec := "namesKnown", unfollowed := true, recurses := true, apart := false }
def NamesKnownSaid : Prop := namesKnownRow.holds Try.pinned (OpenSpec.ofChange namesKnownSpec)

/-- ITS FALSE NEIGHBOUR: 'it returns false'. Refute it at one input. -/
def namesKnownWrong : ChangeSpec := { name := "namesKnown", fn := fun _ => fun
  | [] => { results := [.lit (.bool false)], args := [] }
  | _ => none }
def NamesKnownWrongFalsely : Prop := namesKnownRow.holds Try.pinned (OpenSpec.ofChange namesKnownWrong)

/-- 'suturelaw8.NamesTells': WHATEVER THE INPUT: true; the input reads as it did. -/
def namesTellsSpec : ChangeSpec := { name := "namesTells", fn := fun _ => fun
  | [d1, d2, d3, d4, d5, d6, d7] => { results := [.lit (.bool true)], args := [d1, d2, d3, d4, d5, d6, d7] }
  | _ => none }
def namesTellsRow : OpenClaim := { program := "ytfmgnboplbgniaa", sum := "27dd455227a012a0e1b86bb24e231636f5beb74c7826819626f7317ccffc387e", func := "suture/suturelaw8.NamesTells", spec := "namesTells", unfollowed := true, recurses := true, apart := false }
def NamesTellsSaid : Prop := namesTellsRow.holds Try.pinned (OpenSpec.ofChange namesTellsSpec)

/-- ITS FALSE NEIGHBOUR: 'it returns false'. Refute it at one input. -/
def namesTellsWrong : ChangeSpec := { name := "namesTells", fn := fun _ => fun
  | [d1, d2, d3, d4, d5, d6, d7] => { results := [.lit (.bool false)], args := [d1, d2, d3, d4, d5, d6, d7] }
  | _ => none }
def NamesTellsWrongFalsely : Prop := namesTellsRow.holds Try.pinned (OpenSpec.ofChange namesTellsWrong)

/-- 'suturelaw8.NamesWhole': WHATEVER THE INPUT: true; the input reads as it did. -/
def namesWholeSpec : ChangeSpec := { name := "namesWhole", fn := fun _ => fun
  | [d1, d2, d3, d4, d5] => { results := [.lit (.bool true)], args := [d1, d2, d3, d4, d5] }
  | _ => none }
def namesWholeRow : OpenClaim := { program := "ytfmgnboplbgniaa", sum := "27dd455227a012a0e1b86bb24e231636f5beb74c7826819626f7317ccffc387e", func := "suture/suturelaw8.NamesWhole", spec := "namesWhole", unfollowed := true, recurses := true, apart := false }
def NamesWholeSaid : Prop := namesWholeRow.holds Try.pinned (OpenSpec.ofChange namesWholeSpec)

/-- ITS FALSE NEIGHBOUR: 'it returns false'. Refute it at one input. -/
def namesWholeWrong : ChangeSpec := { name := "namesWhole", fn := fun _ => fun
  | [d1, d2, d3, d4, d5] => { results := [.lit (.bool false)], args := [d1, d2, d3, d4, d5] }
  | _ => none }
def NamesWholeWrongFalsely : Prop := namesWholeRow.holds Try.pinned (OpenSpec.ofChange namesWholeWrong)

/-- 'suturelaw8.NamesFirst': WHATEVER THE INPUT: true; the input reads as it did. -/
def namesFirstSpec : ChangeSpec := { name := "namesFirst", fn := fun _ => fun
  | [d1, d2, d3] => { results := [.lit (.bool true)], args := [d1, d2, d3] }
  | _ => none }
def namesFirstRow : OpenClaim := { program := "ytfmgnboplbgniaa", sum := "27dd455227a012a0e1b86bb24e231636f5beb74c7826819626f7317ccffc387e", func := "suture/suturelaw8.NamesFirst", spec := "namesFirst", unfollowed := true, recurses := true, apart := false }
def NamesFirstSaid : Prop := namesFirstRow.holds Try.pinned (OpenSpec.ofChange namesFirstSpec)

/-- ITS FALSE NEIGHBOUR: 'it returns false'. Refute it at one input. -/
def namesFirstWrong : ChangeSpec := { name := "namesFirst", fn := fun _ => fun
  | [d1, d2, d3] => { results := [.lit (.bool false)], args := [d1, d2, d3] }
  | _ => none }
def NamesFirstWrongFalsely : Prop := namesFirstRow.holds Try.pinned (OpenSpec.ofChange namesFirstWrong)

/-- 'suturelaw27.EraseTells': WHATEVER THE INPUT: true; the input reads as it did. -/
def eraseTellsSpec : ChangeSpec := { name := "eraseTells", fn := fun _ => fun
  | [d1, d2, d3, d4, d5] => { results := [.lit (.bool true)], args := [d1, d2, d3, d4, d5] }
  | _ => none }
def eraseTellsRow : OpenClaim := { program := "ytfmgnboplbgniaa", sum := "27dd455227a012a0e1b86bb24e231636f5beb74c7826819626f7317ccffc387e", func := "suture/suturelaw27.EraseTells", spec := "eraseTells", unfollowed := true, recurses := true, apart := false }
def EraseTellsSaid : Prop := eraseTellsRow.holds Try.pinned (OpenSpec.ofChange eraseTellsSpec)

/-- ITS FALSE NEIGHBOUR: 'it returns false'. Refute it at one input. -/
def eraseTellsWrong : ChangeSpec := { name := "eraseTells", fn := fun _ => fun
  | [d1, d2, d3, d4, d5] => { results := [.lit (.bool false)], args := [d1, d2, d3, d4, d5] }
  | _ => none }
def EraseTellsWrongFalsely : Prop := eraseTellsRow.holds Try.pinned (OpenSpec.ofChange eraseTellsWrong)

/-- 'suturelaw27.EraseTwice': WHATEVER THE INPUT: true; the input reads as it did. -/
def eraseTwiceSpec : ChangeSpec := { name := "eraseTwice", fn := fun _ => fun
  | [d1, d2, d3, d4, d5] => { results := [.lit (.bool true)], args := [d1, d2, d3, d4, d5] }
  | _ => none }
def eraseTwiceRow : OpenClaim := { program := "ytfmgnboplbgniaa", sum := "27dd455227a012a0e1b86bb24e231636f5beb74c7826819626f7317ccffc387e", func := "suture/suturelaw27.EraseTwice", spec := "eraseTwice", unfollowed := true, recurses := true, apart := false }
def EraseTwiceSaid : Prop := eraseTwiceRow.holds Try.pinned (OpenSpec.ofChange eraseTwiceSpec)

/-- ITS FALSE NEIGHBOUR: 'it returns false'. Refute it at one input. -/
def eraseTwiceWrong : ChangeSpec := { name := "eraseTwice", fn := fun _ => fun
  | [d1, d2, d3, d4, d5] => { results := [.lit (.bool false)], args := [d1, d2, d3, d4, d5] }
  | _ => none }
def EraseTwiceWrongFalsely : Prop := eraseTwiceRow.holds Try.pinned (OpenSpec.ofChange eraseTwiceWrong)

/-- 'suturelaw22.CostHolds': WHATEVER THE INPUT: true; the input reads as it did. -/
def costHoldsSpec : ChangeSpec := { name := "costHolds", fn := fun _ => fun
  | [d1, d2, d3, d4, d5, d6] => { results := [.lit (.bool true)], args := [d1, d2, d3, d4, d5, d6] }
  | _ => none }
def costHoldsRow : OpenClaim := { program := "ytfmgnboplbgniaa", sum := "27dd455227a012a0e1b86bb24e231636f5beb74c7826819626f7317ccffc387e", func := "suture/suturelaw22.CostHolds", spec := "costHolds", unfollowed := true, recurses := true, apart := false }
def CostHoldsSaid : Prop := costHoldsRow.holds Try.pinned (OpenSpec.ofChange costHoldsSpec)

/-- ITS FALSE NEIGHBOUR: 'it returns false'. Refute it at one input. -/
def costHoldsWrong : ChangeSpec := { name := "costHolds", fn := fun _ => fun
  | [d1, d2, d3, d4, d5, d6] => { results := [.lit (.bool false)], args := [d1, d2, d3, d4, d5, d6] }
  | _ => none }
def CostHoldsWrongFalsely : Prop := costHoldsRow.holds Try.pinned (OpenSpec.ofChange costHoldsWrong)

/-- 'suturelaw22.CostKnown': WHATEVER THE INPUT: true; the input reads as it did. -/
def costKnownSpec : ChangeSpec := { name := "costKnown", fn := fun _ => fun
  | [] => { results := [.lit (.bool true)], args := [] }
  | _ => none }
def costKnownRow : OpenClaim := { program := "ytfmgnboplbgniaa", sum := "27dd455227a012a0e1b86bb24e231636f5beb74c7826819626f7317ccffc387e", func := "suture/suturelaw22.CostKnown", spec := "costKnown", unfollowed := true, recurses := true, apart := false }
def CostKnownSaid : Prop := costKnownRow.holds Try.pinned (OpenSpec.ofChange costKnownSpec)

/-- ITS FALSE NEIGHBOUR: 'it returns false'. Refute it at one input. -/
def costKnownWrong : ChangeSpec := { name := "costKnown", fn := fun _ => fun
  | [] => { results := [.lit (.bool false)], args := [] }
  | _ => none }
def CostKnownWrongFalsely : Prop := costKnownRow.holds Try.pinned (OpenSpec.ofChange costKnownWrong)

/-- 'suturelaw22.CostTells': WHATEVER THE INPUT: true; the input reads as it did. -/
def costTellsSpec : ChangeSpec := { name := "costTells", fn := fun _ => fun
  | [d1, d2, d3, d4, d5, d6, d7, d8, d9] => { results := [.lit (.bool true)], args := [d1, d2, d3, d4, d5, d6, d7, d8, d9] }
  | _ => none }
def costTellsRow : OpenClaim := { program := "ytfmgnboplbgniaa", sum := "27dd455227a012a0e1b86bb24e231636f5beb74c7826819626f7317ccffc387e", func := "suture/suturelaw22.CostTells", spec := "costTells", unfollowed := true, recurses := true, apart := false }
def CostTellsSaid : Prop := costTellsRow.holds Try.pinned (OpenSpec.ofChange costTellsSpec)

/-- ITS FALSE NEIGHBOUR: 'it returns false'. Refute it at one input. -/
def costTellsWrong : ChangeSpec := { name := "costTells", fn := fun _ => fun
  | [d1, d2, d3, d4, d5, d6, d7, d8, d9] => { results := [.lit (.bool false)], args := [d1, d2, d3, d4, d5, d6, d7, d8, d9] }
  | _ => none }
def CostTellsWrongFalsely : Prop := costTellsRow.holds Try.pinned (OpenSpec.ofChange costTellsWrong)

/- THE SECOND FORM. 'bulk': how many values and letters a reading holds, each counted each time it is reached (what is shared counts as often as it is met; a slice's spare places count too). A statement '..UptoSaid' is the law's where the arguments, and the package variables that the reading takes, are together of bulk at most 1048576: NARROWER than '..Said'. Prove '..Said' where nothing that the law and all that it calls make is longer than what came in: it says more and counts as full. Else prove '..UptoSaid'. A law counts once. -/
mutual
def uptoBulk {H : Type} : DataW H → Nat
  | .lit (.string bytes) => bytes.length + 1
  | .lit _ => 1
  | .nil => 1
  | .ptr d => uptoBulk d + 1
  | .slice elems spare => uptoBulkAll elems + uptoBulkAll spare + 1
  | .agg parts => uptoBulkAll parts + 1
  | .iface _ d => uptoBulk d + 1
  | .map entries => uptoBulkEntries entries + 1
  | .held _ => 1
def uptoBulkAll {H : Type} : List (DataW H) → Nat
  | [] => 0
  | d :: r => uptoBulk d + uptoBulkAll r
def uptoBulkEntries {H : Type} : List (Lit × DataW H) → Nat
  | [] => 0
  | x :: r => uptoBulkEntry x + uptoBulkEntries r
def uptoBulkEntry {H : Type} : Lit × DataW H → Nat
  | (.string bytes, d) => bytes.length + uptoBulk d + 1
  | (_, d) => uptoBulk d + 1
 end
def uptoSmall : (H : Type) → List (DataW H) → Bool := fun _ ds => decide (uptoBulkAll ds ≤ 1048576)
def OpenSpec.upto (s : _root_.Go.ChangeSpec) : _root_.Go.OpenSpec := { _root_.Go.OpenSpec.ofChange s with cond := some uptoSmall }

/-- 'suturelaw10.BoundAdds', WHERE WHAT IT READS IS OF BULK AT MOST 1048576: true; the input reads as it did. -/
def boundAddsUptoRow : OpenClaim := { program := "ytfmgnboplbgniaa", sum := "27dd455227a012a0e1b86bb24e231636f5beb74c7826819626f7317ccffc387e", func := "suture/suturelaw10.BoundAdds", spec := "boundAdds", recurses := true, apart := false, narrowed := true }
def BoundAddsUptoSaid : Prop := boundAddsUptoRow.holds Try.pinned (OpenSpec.upto boundAddsSpec)

/-- 'suturelaw10.BoundKnown', WHERE WHAT IT READS IS OF BULK AT MOST 1048576: true; the input reads as it did. -/
def boundKnownUptoRow : OpenClaim := { program := "ytfmgnboplbgniaa", sum := "27dd455227a012a0e1b86bb24e231636f5beb74c7826819626f7317ccffc387e", func := "suture/suturelaw10.BoundKnown", spec := "boundKnown", recurses := true, apart := false, narrowed := true }
def BoundKnownUptoSaid : Prop := boundKnownUptoRow.holds Try.pinned (OpenSpec.upto boundKnownSpec)

/-- 'suturelaw10.BoundTells', WHERE WHAT IT READS IS OF BULK AT MOST 1048576: true; the input reads as it did. -/
def boundTellsUptoRow : OpenClaim := { program := "ytfmgnboplbgniaa", sum := "27dd455227a012a0e1b86bb24e231636f5beb74c7826819626f7317ccffc387e", func := "suture/suturelaw10.BoundTells", spec := "boundTells", recurses := true, apart := false, narrowed := true }
def BoundTellsUptoSaid : Prop := boundTellsUptoRow.holds Try.pinned (OpenSpec.upto boundTellsSpec)

/-- 'suturelaw8.NamesKnown', WHERE WHAT IT READS IS OF BULK AT MOST 1048576: true; the input reads as it did. -/
def namesKnownUptoRow : OpenClaim := { program := "ytfmgnboplbgniaa", sum := "27dd455227a012a0e1b86bb24e231636f5beb74c7826819626f7317ccffc387e", func := "suture/suturelaw8.NamesKnown", spec := "namesKnown", unfollowed := true, recurses := true, apart := false, narrowed := true }
def NamesKnownUptoSaid : Prop := namesKnownUptoRow.holds Try.pinned (OpenSpec.upto namesKnownSpec)

/-- 'suturelaw8.NamesTells', WHERE WHAT IT READS IS OF BULK AT MOST 1048576: true; the input reads as it did. -/
def namesTellsUptoRow : OpenClaim := { program := "ytfmgnboplbgniaa", sum := "27dd455227a012a0e1b86bb24e231636f5beb74c7826819626f7317ccffc387e", func := "suture/suturelaw8.NamesTells", spec := "namesTells", unfollowed := true, recurses := true, apart := false, narrowed := true }
def NamesTellsUptoSaid : Prop := namesTellsUptoRow.holds Try.pinned (OpenSpec.upto namesTellsSpec)

/-- 'suturelaw8.NamesWhole', WHERE WHAT IT READS IS OF BULK AT MOST 1048576: true; the input reads as it did. -/
def namesWholeUptoRow : OpenClaim := { program := "ytfmgnboplbgniaa", sum := "27dd455227a012a0e1b86bb24e231636f5beb74c7826819626f7317ccffc387e", func := "suture/suturelaw8.NamesWhole", spec := "namesWhole", unfollowed := true, recurses := true, apart := false, narrowed := true }
def NamesWholeUptoSaid : Prop := namesWholeUptoRow.holds Try.pinned (OpenSpec.upto namesWholeSpec)

/-- 'suturelaw8.NamesFirst', WHERE WHAT IT READS IS OF BULK AT MOST 1048576: true; the input reads as it did. -/
def namesFirstUptoRow : OpenClaim := { program := "ytfmgnboplbgniaa", sum := "27dd455227a012a0e1b86bb24e231636f5beb74c7826819626f7317ccffc387e", func := "suture/suturelaw8.NamesFirst", spec := "namesFirst", unfollowed := true, recurses := true, apart := false, narrowed := true }
def NamesFirstUptoSaid : Prop := namesFirstUptoRow.holds Try.pinned (OpenSpec.upto namesFirstSpec)

/-- 'suturelaw27.EraseTells', WHERE WHAT IT READS IS OF BULK AT MOST 1048576: true; the input reads as it did. -/
def eraseTellsUptoRow : OpenClaim := { program := "ytfmgnboplbgniaa", sum := "27dd455227a012a0e1b86bb24e231636f5beb74c7826819626f7317ccffc387e", func := "suture/suturelaw27.EraseTells", spec := "eraseTells", unfollowed := true, recurses := true, apart := false, narrowed := true }
def EraseTellsUptoSaid : Prop := eraseTellsUptoRow.holds Try.pinned (OpenSpec.upto eraseTellsSpec)

/-- 'suturelaw27.EraseTwice', WHERE WHAT IT READS IS OF BULK AT MOST 1048576: true; the input reads as it did. -/
def eraseTwiceUptoRow : OpenClaim := { program := "ytfmgnboplbgniaa", sum := "27dd455227a012a0e1b86bb24e231636f5beb74c7826819626f7317ccffc387e", func := "suture/suturelaw27.EraseTwice", spec := "eraseTwice", unfollowed := true, recurses := true, apart := false, narrowed := true }
def EraseTwiceUptoSaid : Prop := eraseTwiceUptoRow.holds Try.pinned (OpenSpec.upto eraseTwiceSpec)

/-- 'suturelaw22.CostHolds', WHERE WHAT IT READS IS OF BULK AT MOST 1048576: true; the input reads as it did. -/
def costHoldsUptoRow : OpenClaim := { program := "ytfmgnboplbgniaa", sum := "27dd455227a012a0e1b86bb24e231636f5beb74c7826819626f7317ccffc387e", func := "suture/suturelaw22.CostHolds", spec := "costHolds", unfollowed := true, recurses := true, apart := false, narrowed := true }
def CostHoldsUptoSaid : Prop := costHoldsUptoRow.holds Try.pinned (OpenSpec.upto costHoldsSpec)

/-- 'suturelaw22.CostKnown', WHERE WHAT IT READS IS OF BULK AT MOST 1048576: true; the input reads as it did. -/
def costKnownUptoRow : OpenClaim := { program := "ytfmgnboplbgniaa", sum := "27dd455227a012a0e1b86bb24e231636f5beb74c7826819626f7317ccffc387e", func := "suture/suturelaw22.CostKnown", spec := "costKnown", unfollowed := true, recurses := true, apart := false, narrowed := true }
def CostKnownUptoSaid : Prop := costKnownUptoRow.holds Try.pinned (OpenSpec.upto costKnownSpec)

/-- 'suturelaw22.CostTells', WHERE WHAT IT READS IS OF BULK AT MOST 1048576: true; the input reads as it did. -/
def costTellsUptoRow : OpenClaim := { program := "ytfmgnboplbgniaa", sum := "27dd455227a012a0e1b86bb24e231636f5beb74c7826819626f7317ccffc387e", func := "suture/suturelaw22.CostTells", spec := "costTells", unfollowed := true, recurses := true, apart := false, narrowed := true }
def CostTellsUptoSaid : Prop := costTellsUptoRow.holds Try.pinned (OpenSpec.upto costTellsSpec)

end Rows
end Go.Proofs.Ytfmgnboplbgniaa
