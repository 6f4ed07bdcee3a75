/-
  WrapKnown: the tied card, out of the row and the given tie.
-/
import Derived.Test.YtpcngdlglejgeaaGreatDoorWrapKnown
import Derived.Test.YtpcngdlglejgeaaGreatDoorTie
import Derived.Test.YtpcngdlglejgeaaGreatDoorCards
import Derived.SevenTiedAt
import Derived.KernelRfl
namespace Go.Proofs.YtpcngdlglejgeaaGreatDoor
open Go
set_option maxRecDepth 100000

theorem wrapKnownCard_holds : Rows.WrapKnownCardSaid :=
  Claim7.holds_tied_plain_at .later [] [.data, .data, .data] true (true, "bb33a0cd5c9979c735b8e6a6d43a84092a97c33898a3477398d894335b7b2b9a") false
    wrapKnown_holds (fun _ h => by cases h) (by kernel_rfl) (fun _ h => by cases h) wrapKnown_row_tie rfl ⟨rfl, rfl⟩ (by kernel_rfl) rfl
    (fun f fn hf hfn => by
      obtain rfl : f = 3 := Option.some.inj ((show Tryz.prog.funcNamed "suture/suturelaw26.WrapKnown" = some 3 by kernel_rfl).symm.trans hf) |>.symm
      obtain rfl : fn = Tryz.f3 := (Option.some.inj (Tryz.func3.symm.trans hfn)).symm
      exact ⟨by kernel_rfl, fun j t ht => by
        rw [Tryz.params3] at ht
        simp at ht⟩)
    (by kernel_rfl)
end Go.Proofs.YtpcngdlglejgeaaGreatDoor
