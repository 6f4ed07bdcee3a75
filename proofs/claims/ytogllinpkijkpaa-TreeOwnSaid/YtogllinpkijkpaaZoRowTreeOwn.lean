/-
  The law TreeOwn: what it is handed is read, its code computes true, and what it was handed reads as it did.
-/
import Derived.Test.YtogllinpkijkpaaZoTTF
import Derived.Test.YtogllinpkijkpaaZoPlIx
import Derived.Test.YtogllinpkijkpaaZoOw6
namespace Go.Su.Ytogllinpkijkpaa
open Go.Mx Go.Proofs Go.RowKit
set_option linter.unusedVariables false
theorem law3_TreeOwn_walk (W : World) (a0 : Int) (a1 : List Act) (v1 : Value) (a2 : List Act) (v2 : Value) (a3 : Int) (h0 : okInt .i64 a0) (h1 : okActs a1) (r1 : RepP W (inW W) (el_Act a1) v1) (h2 : okActs a2) (r2 : RepP W (inW W) (el_Act a2) v2) (h3 : okInt .i64 a3) :
  Calls Try.prog 3 #[.int .i64 a0,v1,v2,.int .i64 a3] W fun e w'=>e = .returned (.bool true) ∧ Below W.heap.size W w':=by
 refine calls_of_PT (own_pt a0 a1 a2 a3) W _ rfl fun i h1 h2=>?_
 match i,h1,h2 with
 | 0,_,_=>exact .p _
 | 1,_,_=>exact r1
 | 2,_,_=>exact r2
 | 3,_,_=>exact .p _
 | i + 4,h,_=>exact absurd h (by simp)
end Go.Su.Ytogllinpkijkpaa
namespace Go.Proofs.Ytogllinpkijkpaa.treeOwn
open Go.ChangeShapes Go.WideShapes Go.ChangeAt Go.RowKit
open Go.ChangeMaps (open_string shut_string)
set_option linter.unusedVariables false
theorem own : ownKnob Try.prog.godebug = none:=by kernel_rfl
theorem laidOut : laidOutB Try.prog = true:=by kernel_rfl
set_option maxRecDepth 100000 in
theorem lifted (os : Os) (started : os.Started) (H : Type) (enc : TypeId × Value → H) :
  ReturnsInHanded {} Try.checked os 3 .any (Rows.treeOwnSpec.pre6 enc Try.prog Try.f3 Rows.treeOwnRow.domain false) (Rows.treeOwnSpec.post enc Try.prog Try.f3 false true false false):=by
 refine returnsInHanded_of_change_sized (C:=Try.checked) own started (by kernel_rfl) Try.func3
  (ChangeSpec.witness6 (enc:=enc) (C:=Try.checked) false ⟨#[],#[.int .i64 0,.slice none 0 0,.slice none 0 0,.int .i64 0],[]⟩ 8 (by kernel_rfl) (by kernel_rfl) (by kernel_rfl) (by kernel_rfl)) ?_
 intro W base args ds gs before hval0 hW hcnd hsz0 _
 have hval : ∀ (j : Nat) t v,Try.f3.params[j]? = some t → args[j]? = some v → Value.okWide Try.prog W .any base t v:=hval0
 have hW':=hW
 obtain ⟨p,q,hA0,hV,rfl,hfz,hnd⟩:=hW
 have hA : DataW.TrodAll enc Try.prog W 0 (fun _=>true) true Try.f3.params.toList args.toList ds p:=hA0
 rw [Try.params3] at hA hval
 obtain ⟨v0,vs0,d0,ds0,p0,q0,hargs,rfl,rfl,h0,r0⟩:=trodAll_cons hA
 obtain ⟨v1,vs1,d1,ds1,p1,q1,rfl,rfl,rfl,h1,r1⟩:=trodAll_cons r0
 obtain ⟨v2,vs2,d2,ds2,p2,q2,rfl,rfl,rfl,h2,r2⟩:=trodAll_cons r1
 obtain ⟨v3,vs3,d3,ds3,p3,q3,rfl,rfl,rfl,h3,r3⟩:=trodAll_cons r2
 obtain ⟨rfl,rfl,rfl⟩:=trodAll_nil r3
 obtain rfl : args = #[v0,v1,v2,v3]:=by cases args; simp_all
 obtain ⟨rfl,rfl⟩:=trodVars_none hV
 obtain ⟨a0,rfl,rfl,rfl,w0⟩:=open_int Try.underlying3 (hval 0 3 v0 rfl rfl) h0
 obtain ⟨a1,w1,y1⟩:=Go.Mx.open_slice (g:=Go.Su.Ytogllinpkijkpaa.el_Act) Try.underlying22 (fun _=>rfl) (Go.Su.Ytogllinpkijkpaa.opens_acts W) (hval 1 22 v1 rfl rfl) h1
 have lt1 : ∀ x ∈ p1,x.block < W.heap.size:=by obtain ⟨m,hm⟩:=h1; exact DataW.trod_lt m _ _ _ hm
 obtain ⟨a2,w2,y2⟩:=Go.Mx.open_slice (g:=Go.Su.Ytogllinpkijkpaa.el_Act) Try.underlying22 (fun _=>rfl) (Go.Su.Ytogllinpkijkpaa.opens_acts W) (hval 2 22 v2 rfl rfl) h2
 have lt2 : ∀ x ∈ p2,x.block < W.heap.size:=by obtain ⟨m,hm⟩:=h2; exact DataW.trod_lt m _ _ _ hm
 obtain ⟨a3,rfl,rfl,rfl,w3⟩:=open_int Try.underlying3 (hval 3 3 v3 rfl rfl) h3
 clear hA0 hval0 hsz0
 refine (Go.Su.Ytogllinpkijkpaa.law3_TreeOwn_walk W a0 a1 v1 a2 v2 a3 w0 w1 y1 w2 y2 w3).mono fun e W' ⟨he,bel⟩=>?_
 subst he
 exact ⟨_,rfl,_,_,_,[],_,[],hW',trodAll_mk1 (shut_bool Try.underlying4 _),(trodAll_cons_mk (shut_int Try.underlying3 w0) (trodAll_cons_mk (Below.trod laidOut (by kernel_rfl) (of_decide_eq_true (by kernel_rfl)) h1 bel lt1) (trodAll_cons_mk (Below.trod laidOut (by kernel_rfl) (of_decide_eq_true (by kernel_rfl)) h2 bel lt2) (trodAll_cons_mk (shut_int Try.underlying3 w3) trodAll_mk0)))),rfl,bel.frame _,fun h=>by cases h⟩
theorem over : Rows.treeOwnRow.holds Try.pinned (OpenSpec.ofChange Rows.treeOwnSpec) :=
 OpenClaim.holds_of_wide 3 Try.f3 rfl rfl rfl rfl rfl rfl rfl ⟨rfl,rfl,rfl,rfl,rfl⟩ rfl rfl rfl rfl rfl (by kernel_rfl) Try.func3 (by kernel_rfl)
  (of_decide_eq_true (by kernel_rfl)) (by unfold Func.isWrapper; first | (rw [if_pos (by decide +kernel)]; kernel_rfl) | (rw [if_neg (by decide +kernel)]; exact ⟨rfl,rfl⟩))
  (fun os started H enc _=>lifted os started H enc)
end Go.Proofs.Ytogllinpkijkpaa.treeOwn
namespace Go.Proofs.Ytogllinpkijkpaa
theorem treeOwn_holds : Rows.TreeOwnSaid:=treeOwn.over
#print axioms treeOwn_holds
end Go.Proofs.Ytogllinpkijkpaa
