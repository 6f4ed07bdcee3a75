/-
  No cell of these rows narrows 'for every input' (looked for: loops, veiled, ifaces, maps, wideKeys, modest, calm, conditions, laid).
  DERIVED. THE GIVEN ROWS OF THIS SEAT. 5 by the template 'for every input the law returns true; each argument reads behind the call as it read before'; 0 by the template 'total and deterministic' (their statements: YtcadbebhhnggdaaTotals.lean).
  GIVEN WITH THE SEED: the statements are not yours to turn. If you find one false, say at which input.
  Laid BY PROGRAM, IN A SANDBOX (cutbox-rows.mjs): the forced cells as the released guide's own fill.sh prints them over the translation 9e16cbeaaa671b69… (all of the seat's roots in one cut). By AI agents, Wed Nov 11 2026. No macro, syntax, notation, axiom, sorry.
-/
import Derived.Test.YtcadbebhhnggdaaChecked
import GoSem.Claim
import GoSem.ClaimJoined
import GoSem.ClaimMapViews
import Derived.JoinedTies
import Derived.KernelRfl
namespace Go.Proofs.Ytcadbebhhnggdaa
/- THE CELL 'sum', in the pinned program and in every row, IS THE sha256 OF THE DUMP (.gsa) THAT YtcadbebhhnggdaaProg.lean LOADS. Nothing in Lean hashes anything: it is a label: what it is worth is what the hold of that sum in a sandbox is worth. -/
noncomputable def Try.pinned : Pinned := { name := "ytcadbebhhnggdaa", sum := "9e16cbeaaa671b698b6dc00abc95287dd7cbc6e0b4f9558de0f7923d1d02a943", checked := Try.checked }
namespace Rows
def none {H : Type} : Left H := { results := [], args := [] }

/-- 'suturelaw25.RankKnown': WHATEVER THE INPUT: true; the input reads as it did. -/
def rankKnownSpec : ChangeSpec := { name := "rankKnown", fn := fun _ => fun
  | [] => { results := [.lit (.bool true)], args := [] }
  | _ => none }
def rankKnownRow : OpenClaim := { program := "ytcadbebhhnggdaa", sum := "9e16cbeaaa671b698b6dc00abc95287dd7cbc6e0b4f9558de0f7923d1d02a943", func := "suture/suturelaw25.RankKnown", spec := "rankKnown", unfollowed := true, recurses := true, apart := false }
def RankKnownSaid : Prop := rankKnownRow.holds Try.pinned (OpenSpec.ofChange rankKnownSpec)

/-- ITS FALSE NEIGHBOUR: 'it returns false'. Refute it at one input. -/
def rankKnownWrong : ChangeSpec := { name := "rankKnown", fn := fun _ => fun
  | [] => { results := [.lit (.bool false)], args := [] }
  | _ => none }
def RankKnownWrongFalsely : Prop := rankKnownRow.holds Try.pinned (OpenSpec.ofChange rankKnownWrong)

/-- 'suturelaw25.RankFlat': WHATEVER THE INPUT: true; the input reads as it did. -/
def rankFlatSpec : ChangeSpec := { name := "rankFlat", fn := fun _ => fun
  | [d1, d2, d3, d4] => { results := [.lit (.bool true)], args := [d1, d2, d3, d4] }
  | _ => none }
def rankFlatRow : OpenClaim := { program := "ytcadbebhhnggdaa", sum := "9e16cbeaaa671b698b6dc00abc95287dd7cbc6e0b4f9558de0f7923d1d02a943", func := "suture/suturelaw25.RankFlat", spec := "rankFlat", unfollowed := true, recurses := true, apart := false }
def RankFlatSaid : Prop := rankFlatRow.holds Try.pinned (OpenSpec.ofChange rankFlatSpec)

/-- ITS FALSE NEIGHBOUR: 'it returns false'. Refute it at one input. -/
def rankFlatWrong : ChangeSpec := { name := "rankFlat", fn := fun _ => fun
  | [d1, d2, d3, d4] => { results := [.lit (.bool false)], args := [d1, d2, d3, d4] }
  | _ => none }
def RankFlatWrongFalsely : Prop := rankFlatRow.holds Try.pinned (OpenSpec.ofChange rankFlatWrong)

/-- 'suturelaw23.CandsDear': WHATEVER THE INPUT: true; the input reads as it did. -/
def candsDearSpec : ChangeSpec := { name := "candsDear", fn := fun _ => fun
  | [d1, d2, d3, d4, d5] => { results := [.lit (.bool true)], args := [d1, d2, d3, d4, d5] }
  | _ => none }
def candsDearRow : OpenClaim := { program := "ytcadbebhhnggdaa", sum := "9e16cbeaaa671b698b6dc00abc95287dd7cbc6e0b4f9558de0f7923d1d02a943", func := "suture/suturelaw23.CandsDear", spec := "candsDear", unfollowed := true, recurses := true, apart := false }
def CandsDearSaid : Prop := candsDearRow.holds Try.pinned (OpenSpec.ofChange candsDearSpec)

/-- ITS FALSE NEIGHBOUR: 'it returns false'. Refute it at one input. -/
def candsDearWrong : ChangeSpec := { name := "candsDear", fn := fun _ => fun
  | [d1, d2, d3, d4, d5] => { results := [.lit (.bool false)], args := [d1, d2, d3, d4, d5] }
  | _ => none }
def CandsDearWrongFalsely : Prop := candsDearRow.holds Try.pinned (OpenSpec.ofChange candsDearWrong)

/-- 'suturelaw23.CandsKnown': WHATEVER THE INPUT: true; the input reads as it did. -/
def candsKnownSpec : ChangeSpec := { name := "candsKnown", fn := fun _ => fun
  | [] => { results := [.lit (.bool true)], args := [] }
  | _ => none }
def candsKnownRow : OpenClaim := { program := "ytcadbebhhnggdaa", sum := "9e16cbeaaa671b698b6dc00abc95287dd7cbc6e0b4f9558de0f7923d1d02a943", func := "suture/suturelaw23.CandsKnown", spec := "candsKnown", unfollowed := true, recurses := true, apart := false }
def CandsKnownSaid : Prop := candsKnownRow.holds Try.pinned (OpenSpec.ofChange candsKnownSpec)

/-- ITS FALSE NEIGHBOUR: 'it returns false'. Refute it at one input. -/
def candsKnownWrong : ChangeSpec := { name := "candsKnown", fn := fun _ => fun
  | [] => { results := [.lit (.bool false)], args := [] }
  | _ => none }
def CandsKnownWrongFalsely : Prop := candsKnownRow.holds Try.pinned (OpenSpec.ofChange candsKnownWrong)

/-- 'suturelaw24.HitSum': WHATEVER THE INPUT: true; the input reads as it did. -/
def hitSumSpec : ChangeSpec := { name := "hitSum", fn := fun _ => fun
  | [d1, d2, d3] => { results := [.lit (.bool true)], args := [d1, d2, d3] }
  | _ => none }
def hitSumRow : OpenClaim := { program := "ytcadbebhhnggdaa", sum := "9e16cbeaaa671b698b6dc00abc95287dd7cbc6e0b4f9558de0f7923d1d02a943", func := "suture/suturelaw24.HitSum", spec := "hitSum", unfollowed := true, recurses := true, apart := false }
def HitSumSaid : Prop := hitSumRow.holds Try.pinned (OpenSpec.ofChange hitSumSpec)

/-- ITS FALSE NEIGHBOUR: 'it returns false'. Refute it at one input. -/
def hitSumWrong : ChangeSpec := { name := "hitSum", fn := fun _ => fun
  | [d1, d2, d3] => { results := [.lit (.bool false)], args := [d1, d2, d3] }
  | _ => none }
def HitSumWrongFalsely : Prop := hitSumRow.holds Try.pinned (OpenSpec.ofChange hitSumWrong)

/- THE SECOND FORM. 'bulk': how many values and letters a reading holds, each counted each time it is reached (what is shared counts as often as it is met; a slice's spare places count too). A statement '..UptoSaid' is the law's where the arguments, and the package variables that the reading takes, are together of bulk at most 1048576: NARROWER than '..Said'. Prove '..Said' where nothing that the law and all that it calls make is longer than what came in: it says more and counts as full. Else prove '..UptoSaid'. A law counts once. -/
mutual
def uptoBulk {H : Type} : DataW H → Nat
  | .lit (.string bytes) => bytes.length + 1
  | .lit _ => 1
  | .nil => 1
  | .ptr d => uptoBulk d + 1
  | .slice elems spare => uptoBulkAll elems + uptoBulkAll spare + 1
  | .agg parts => uptoBulkAll parts + 1
  | .iface _ d => uptoBulk d + 1
  | .map entries => uptoBulkEntries entries + 1
  | .held _ => 1
def uptoBulkAll {H : Type} : List (DataW H) → Nat
  | [] => 0
  | d :: r => uptoBulk d + uptoBulkAll r
def uptoBulkEntries {H : Type} : List (Lit × DataW H) → Nat
  | [] => 0
  | x :: r => uptoBulkEntry x + uptoBulkEntries r
def uptoBulkEntry {H : Type} : Lit × DataW H → Nat
  | (.string bytes, d) => bytes.length + uptoBulk d + 1
  | (_, d) => uptoBulk d + 1
 end
def uptoSmall : (H : Type) → List (DataW H) → Bool := fun _ ds => decide (uptoBulkAll ds ≤ 1048576)
def OpenSpec.upto (s : _root_.Go.ChangeSpec) : _root_.Go.OpenSpec := { _root_.Go.OpenSpec.ofChange s with cond := some uptoSmall }

/-- 'suturelaw25.RankKnown', WHERE WHAT IT READS IS OF BULK AT MOST 1048576: true; the input reads as it did. -/
def rankKnownUptoRow : OpenClaim := { program := "ytcadbebhhnggdaa", sum := "9e16cbeaaa671b698b6dc00abc95287dd7cbc6e0b4f9558de0f7923d1d02a943", func := "suture/suturelaw25.RankKnown", spec := "rankKnown", unfollowed := true, recurses := true, apart := false, narrowed := true }
def RankKnownUptoSaid : Prop := rankKnownUptoRow.holds Try.pinned (OpenSpec.upto rankKnownSpec)

/-- 'suturelaw25.RankFlat', WHERE WHAT IT READS IS OF BULK AT MOST 1048576: true; the input reads as it did. -/
def rankFlatUptoRow : OpenClaim := { program := "ytcadbebhhnggdaa", sum := "9e16cbeaaa671b698b6dc00abc95287dd7cbc6e0b4f9558de0f7923d1d02a943", func := "suture/suturelaw25.RankFlat", spec := "rankFlat", unfollowed := true, recurses := true, apart := false, narrowed := true }
def RankFlatUptoSaid : Prop := rankFlatUptoRow.holds Try.pinned (OpenSpec.upto rankFlatSpec)

/-- 'suturelaw23.CandsDear', WHERE WHAT IT READS IS OF BULK AT MOST 1048576: true; the input reads as it did. -/
def candsDearUptoRow : OpenClaim := { program := "ytcadbebhhnggdaa", sum := "9e16cbeaaa671b698b6dc00abc95287dd7cbc6e0b4f9558de0f7923d1d02a943", func := "suture/suturelaw23.CandsDear", spec := "candsDear", unfollowed := true, recurses := true, apart := false, narrowed := true }
def CandsDearUptoSaid : Prop := candsDearUptoRow.holds Try.pinned (OpenSpec.upto candsDearSpec)

/-- 'suturelaw23.CandsKnown', WHERE WHAT IT READS IS OF BULK AT MOST 1048576: true; the input reads as it did. -/
def candsKnownUptoRow : OpenClaim := { program := "ytcadbebhhnggdaa", sum := "9e16cbeaaa671b698b6dc00abc95287dd7cbc6e0b4f9558de0f7923d1d02a943", func := "suture/suturelaw23.CandsKnown", spec := "candsKnown", unfollowed := true, recurses := true, apart := false, narrowed := true }
def CandsKnownUptoSaid : Prop := candsKnownUptoRow.holds Try.pinned (OpenSpec.upto candsKnownSpec)

/-- 'suturelaw24.HitSum', WHERE WHAT IT READS IS OF BULK AT MOST 1048576: true; the input reads as it did. -/
def hitSumUptoRow : OpenClaim := { program := "ytcadbebhhnggdaa", sum := "9e16cbeaaa671b698b6dc00abc95287dd7cbc6e0b4f9558de0f7923d1d02a943", func := "suture/suturelaw24.HitSum", spec := "hitSum", unfollowed := true, recurses := true, apart := false, narrowed := true }
def HitSumUptoSaid : Prop := hitSumUptoRow.holds Try.pinned (OpenSpec.upto hitSumSpec)

end Rows
end Go.Proofs.Ytcadbebhhnggdaa
