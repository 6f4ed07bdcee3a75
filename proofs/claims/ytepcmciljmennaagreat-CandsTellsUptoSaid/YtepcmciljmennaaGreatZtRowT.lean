/-
  What the laws are handed, typed.
-/
import Derived.Test.YtepcmciljmennaaGreatZtDx11
import Derived.Test.YtepcmciljmennaaGreatZtCXT
namespace Go.Su.YtepcmciljmennaaGreat
open Go.Mx Go.Proofs Go.Proofs.YtepcmciljmennaaGreat
set_option linter.unusedVariables false
def okInts (l : List Int) : Prop:=l.length ≤ maxLen ∧ ∀ a ∈ l,okInt .i64 a
def okAct (a : Act) : Prop:=okInt .i64 a.What ∧ okInt .i64 a.A ∧ okInt .i64 a.B ∧ okInt .i64 a.N ∧ okInts a.E
def okActs (l : List Act) : Prop:=l.length ≤ maxLen ∧ ∀ a ∈ l,okAct a
theorem opens_ints (W : World) : Opens Tryz.prog W 23 el_int okInts :=
 opens_slice (k:=1) Tryz.underlying23 (by kernel_rfl) (by omega) (fun _=>rfl) (opens_int Tryz.underlying3)
theorem opens_act (W : World) : Opens Tryz.prog W 127 eAct okAct:=by
 intro H enc fuel cs x h
 obtain ⟨xs,n,_,_,hl,hx,hf⟩:=DataW.trod_struct Tryz.underlying127 h
 have hl : cs.length = 5:=hl.trans (by kernel_rfl)
 obtain ⟨a0,g0,k0,r0⟩:=opens_field hx hf 0 rfl (k:=1) (o:=0) (by kernel_rfl) rfl (by omega) (opens_int Tryz.underlying3)
 obtain ⟨a1,g1,k1,r1⟩:=opens_field hx hf 1 rfl (k:=1) (o:=1) (by kernel_rfl) rfl (by omega) (opens_int Tryz.underlying3)
 obtain ⟨a2,g2,k2,r2⟩:=opens_field hx hf 2 rfl (k:=1) (o:=2) (by kernel_rfl) rfl (by omega) (opens_int Tryz.underlying3)
 obtain ⟨a3,g3,k3,r3⟩:=opens_field hx hf 3 rfl (k:=1) (o:=3) (by kernel_rfl) rfl (by omega) (opens_int Tryz.underlying3)
 obtain ⟨a4,g4,k4,r4⟩:=opens_field hx hf 4 rfl (k:=1) (o:=4) (by kernel_rfl) rfl (by omega) (opens_ints W)
 refine ⟨⟨a0,a1,a2,a3,a4⟩,⟨g0,g1,g2,g3,g4⟩,hl.symm,fun i h1 h2=>?_⟩
 rw [hl] at h2
 match i,h1,h2 with
 | 0,_,_=>exact r0 0 (Nat.zero_lt_one) (by omega)
 | 1,_,_=>exact r1 0 (Nat.zero_lt_one) (by omega)
 | 2,_,_=>exact r2 0 (Nat.zero_lt_one) (by omega)
 | 3,_,_=>exact r3 0 (Nat.zero_lt_one) (by omega)
 | 4,_,_=>exact r4 0 (Nat.zero_lt_one) (by omega)
 | i + 5,_,h=>omega
theorem opens_acts (W : World) : Opens Tryz.prog W 22 el_Act okActs :=
 opens_slice (k:=5) Tryz.underlying22 (by kernel_rfl) (by omega) (fun _=>rfl) (opens_act W)
end Go.Su.YtepcmciljmennaaGreat
