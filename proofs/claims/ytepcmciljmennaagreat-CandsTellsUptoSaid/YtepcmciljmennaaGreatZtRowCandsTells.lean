/-
  The law CandsTells, where what it is handed is of bulk at most 1048576: what it is handed is read, its code computes true, and what it was handed reads as it did.
-/
import Derived.Test.YtepcmciljmennaaGreatZtRowT
import Derived.Test.YtepcmciljmennaaGreatZtPlRoom
import Derived.Test.YtepcmciljmennaaGreatZtPlCandsTells
import Derived.Deep.CondSized
namespace Go.Su.YtepcmciljmennaaGreat
open Go.Mx Go.Proofs Go.Proofs.YtepcmciljmennaaGreat Go.RowKit Go.ChangeShapes Go.WideShapes
set_option linter.unusedVariables false
set_option maxRecDepth 100000 in
theorem len_slice {H : Type} {enc : TypeId × Value → H} {W : World} {r : Reach} {b0 : Nat} {v : Value} {d : DataW H} {ps : List MemPlace} {t e : TypeId} (ht : Tryz.prog.underlying t = some (.slice e)) (hval : Value.okWide Tryz.prog W r b0 t v)
  (h : DataW.Trod enc Tryz.prog W 0 (fun _=>true) true t v d ps) {l : List Int} (hr : RepP W (inW W) (el_int l) v) : l.length ≤ Rows.uptoBulk d:=by
 obtain ⟨a,len,cap,rfl⟩:=okWide_slice ht hval
 obtain ⟨fuel,hf⟩:=h
 have bulk : ∀ es : List (DataW H),es.length ≤ Rows.uptoBulkAll es:=by
  intro es
  induction es with
  | nil=>simp
  | cons d r ih =>
   have : 1 ≤ Rows.uptoBulk d:=by cases d with
    | lit x=>cases x <;> simp [Rows.uptoBulk]
    | _=>simp [Rows.uptoBulk]
   rw [Rows.uptoBulkAll,List.length_cons]; omega
 rcases DataW.trod_slice ht hf with ⟨hv,hd⟩ | ⟨a',len',cap',elems,rest,n,_,hv,hd,_,_,_,hl,_⟩
 ·have : l = []:=by
   have hv : (Value.slice a len cap) = .slice none 0 0:=by simpa [Value.cells] using hv
   rw [hv] at hr
   generalize hx : (List.map e_i64 l) = xs at hr
   have hr' : RepP W (inW W) (.ps .opt xs) (.slice none 0 0):=by rw [← hx]; exact hr
   cases hr' with
   | psNil _=>simpa using hx
  rw [this]; exact Nat.zero_le _
 ·have hv : (Value.slice a len cap) = .slice (some a') len' cap':=by simpa [Value.cells] using hv
  have hd : d = .slice (elems.map (·.1)) (rest.map (·.1)):=congrArg Prod.fst hd
  have hll : l.length = len':=by
   rw [hv] at hr
   generalize hx : (List.map e_i64 l) = xs at hr
   have hr' : RepP W (inW W) (.ps .opt xs) (.slice (some a') len' cap'):=by rw [← hx]; exact hr
   have : l.length = xs.length:=by rw [← hx,List.length_map]
   cases hr' with
   | ps=>exact this
  rw [hd,Rows.uptoBulk,hll,← hl]
  have:=bulk (elems.map (·.1))
  rw [List.length_map] at this
  omega
theorem law23_CandsTells_walk (W : World) (a0 : Int) (a1 : List Act) (v1 : Value) (a2 : List Act) (v2 : Value) (a3 : List Act) (v3 : Value) (a4 : Int) (a5 : List Int) (v5 : Value) (h0 : okInt .i64 a0) (h1 : okActs a1) (r1 : RepP W (inW W) (el_Act a1) v1) (h2 : okActs a2) (r2 : RepP W (inW W) (el_Act a2) v2) (h3 : okActs a3) (r3 : RepP W (inW W) (el_Act a3) v3) (h4 : okInt .i64 a4) (h5 : okInts a5) (r5 : RepP W (inW W) (el_int a5) v5) (s5 : a5.length ≤ 1048576) :
  Calls Tryz.prog 3 #[.int .i64 a0,v1,v2,v3,.int .i64 a4,v5] W fun e w'=>e = .returned (.bool true) ∧ Below W.heap.size W w':=by
 obtain ⟨n,h⟩:=law23_CandsTells_true a0 a1 a2 a3 a4 a5 h0 h1 h2 h3 h4 h5 s5
 refine calls_of_PT (law23_CandsTells_ok h) W _ rfl fun i h1 h2=>?_
 match i,h1,h2 with
 | 0,_,_=>exact .p _
 | 1,_,_=>exact r1
 | 2,_,_=>exact r2
 | 3,_,_=>exact r3
 | 4,_,_=>exact .p _
 | 5,_,_=>exact r5
 | i + 6,h,_=>exact absurd h (by simp)
end Go.Su.YtepcmciljmennaaGreat
namespace Go.Proofs.YtepcmciljmennaaGreat.candsTells
open Go.ChangeShapes Go.WideShapes Go.ChangeAt Go.RowKit
open Go.ChangeMaps (open_string shut_string)
set_option linter.unusedVariables false
theorem own : ownKnob Tryz.prog.godebug = none:=by kernel_rfl
theorem laidOut : laidOutB Tryz.prog = true:=by kernel_rfl
set_option maxRecDepth 100000 in
theorem lifted (os : Os) (started : os.Started) (H : Type) (enc : TypeId × Value → H) (F : Stop.Interp) :
  ReturnsInHanded {} Tryz.checked os 3 .any ((Rows.OpenSpec.upto Rows.candsTellsSpec).pre6 enc Tryz.prog Tryz.f3 Rows.candsTellsUptoRow.domain false) (((Rows.OpenSpec.upto Rows.candsTellsSpec).at F).post enc Tryz.prog Tryz.f3 false true false false):=by
 have hw : (DataW.whole enc Tryz.prog (World.plainHolding Tryz.prog os ⟨#[],#[.int .i64 0,.slice none 0 0,.slice none 0 0,.slice none 0 0,.int .i64 0,.slice none 0 0],[]⟩).memory Tryz.f3.params.toList (Rows.OpenSpec.upto Rows.candsTellsSpec).vars false (#[.int .i64 0,.slice none 0 0,.slice none 0 0,.slice none 0 0,.int .i64 0,.slice none 0 0] : Array Value).toList 8).map (fun x=>(x.1,x.2.1)) =
   some ([.lit (.int .i64 0),.nil,.nil,.nil,.lit (.int .i64 0),.nil],[]):=by kernel_rfl
 obtain ⟨⟨x1,x2,x3⟩,hx,hx1⟩:=Option.map_eq_some_iff.1 hw
 simp only [Prod.mk.injEq] at hx1
 obtain ⟨rfl,rfl⟩:=hx1
 refine returnsInHanded_of_cond_sized (C:=Tryz.checked) (s:=Rows.OpenSpec.upto Rows.candsTellsSpec) (k:=Rows.uptoSmall) (F:=F) rfl own started (by kernel_rfl) Tryz.func3
  (OpenSpec.witness (enc:=enc) (C:=Tryz.checked) (s:=Rows.OpenSpec.upto Rows.candsTellsSpec) (k:=Rows.uptoSmall) rfl false ⟨#[],#[.int .i64 0,.slice none 0 0,.slice none 0 0,.slice none 0 0,.int .i64 0,.slice none 0 0],[]⟩ 8 (by kernel_rfl) (by kernel_rfl) (by kernel_rfl) hx (by kernel_rfl) (by kernel_rfl)) ?_
 intro W base args ds gs before hval0 hW hcnd hbk hsz0 _
 have hval : ∀ (j : Nat) t v,Tryz.f3.params[j]? = some t → args[j]? = some v → Value.okWide Tryz.prog W .any base t v:=hval0
 have hW':=hW
 obtain ⟨p,q,hA0,hV,rfl,hfz,hnd⟩:=hW
 have hA : DataW.TrodAll enc Tryz.prog W 0 (fun _=>true) true Tryz.f3.params.toList args.toList ds p:=hA0
 rw [Tryz.params3] at hA hval
 obtain ⟨v0,vs0,d0,ds0,p0,q0,hargs,rfl,rfl,h0,r0⟩:=trodAll_cons hA
 obtain ⟨v1,vs1,d1,ds1,p1,q1,rfl,rfl,rfl,h1,r1⟩:=trodAll_cons r0
 obtain ⟨v2,vs2,d2,ds2,p2,q2,rfl,rfl,rfl,h2,r2⟩:=trodAll_cons r1
 obtain ⟨v3,vs3,d3,ds3,p3,q3,rfl,rfl,rfl,h3,r3⟩:=trodAll_cons r2
 obtain ⟨v4,vs4,d4,ds4,p4,q4,rfl,rfl,rfl,h4,r4⟩:=trodAll_cons r3
 obtain ⟨v5,vs5,d5,ds5,p5,q5,rfl,rfl,rfl,h5,r5⟩:=trodAll_cons r4
 obtain ⟨rfl,rfl,rfl⟩:=trodAll_nil r5
 obtain rfl : args = #[v0,v1,v2,v3,v4,v5]:=by cases args; simp_all
 obtain ⟨rfl,rfl⟩:=trodVars_none hV
 obtain ⟨a0,rfl,rfl,rfl,w0⟩:=open_int Tryz.underlying3 (hval 0 3 v0 rfl rfl) h0
 obtain ⟨a1,w1,y1⟩:=Go.Mx.open_slice (g:=Go.Su.YtepcmciljmennaaGreat.el_Act) Tryz.underlying22 (fun _=>rfl) (Go.Su.YtepcmciljmennaaGreat.opens_acts W) (hval 1 22 v1 rfl rfl) h1
 have lt1 : ∀ x ∈ p1,x.block < W.heap.size:=by obtain ⟨m,hm⟩:=h1; exact DataW.trod_lt m _ _ _ hm
 obtain ⟨a2,w2,y2⟩:=Go.Mx.open_slice (g:=Go.Su.YtepcmciljmennaaGreat.el_Act) Tryz.underlying22 (fun _=>rfl) (Go.Su.YtepcmciljmennaaGreat.opens_acts W) (hval 2 22 v2 rfl rfl) h2
 have lt2 : ∀ x ∈ p2,x.block < W.heap.size:=by obtain ⟨m,hm⟩:=h2; exact DataW.trod_lt m _ _ _ hm
 obtain ⟨a3,w3,y3⟩:=Go.Mx.open_slice (g:=Go.Su.YtepcmciljmennaaGreat.el_Act) Tryz.underlying22 (fun _=>rfl) (Go.Su.YtepcmciljmennaaGreat.opens_acts W) (hval 3 22 v3 rfl rfl) h3
 have lt3 : ∀ x ∈ p3,x.block < W.heap.size:=by obtain ⟨m,hm⟩:=h3; exact DataW.trod_lt m _ _ _ hm
 obtain ⟨a4,rfl,rfl,rfl,w4⟩:=open_int Tryz.underlying3 (hval 4 3 v4 rfl rfl) h4
 obtain ⟨a5,w5,y5⟩:=Go.Mx.open_slice (g:=Go.Su.YtepcmciljmennaaGreat.el_int) Tryz.underlying23 (fun _=>rfl) (Go.Su.YtepcmciljmennaaGreat.opens_ints W) (hval 5 23 v5 rfl rfl) h5
 have lt5 : ∀ x ∈ p5,x.block < W.heap.size:=by obtain ⟨m,hm⟩:=h5; exact DataW.trod_lt m _ _ _ hm
 have hb : Rows.uptoBulkAll ([.lit (.int .i64 a0),d1,d2,d3,.lit (.int .i64 a4),d5] ++ ([] : List (DataW H))) ≤ 1048576:=of_decide_eq_true hbk
 simp only [List.append_nil,Rows.uptoBulkAll] at hb
 have b5 : a5.length ≤ 1048576:=by have:=Go.Su.YtepcmciljmennaaGreat.len_slice Tryz.underlying23 (hval 5 23 v5 rfl rfl) h5 y5; omega
 clear hA0 hval0 hsz0
 refine (Go.Su.YtepcmciljmennaaGreat.law23_CandsTells_walk W a0 a1 v1 a2 v2 a3 v3 a4 a5 v5 w0 w1 y1 w2 y2 w3 y3 w4 w5 y5 b5).mono fun e W' ⟨he,bel⟩=>?_
 subst he
 exact ⟨_,rfl,_,_,_,[],_,[],hW',trodAll_mk1 (shut_bool Tryz.underlying4 _),(trodAll_cons_mk (shut_int Tryz.underlying3 w0) (trodAll_cons_mk (Below.trod laidOut (by kernel_rfl) (of_decide_eq_true (by kernel_rfl)) h1 bel lt1) (trodAll_cons_mk (Below.trod laidOut (by kernel_rfl) (of_decide_eq_true (by kernel_rfl)) h2 bel lt2) (trodAll_cons_mk (Below.trod laidOut (by kernel_rfl) (of_decide_eq_true (by kernel_rfl)) h3 bel lt3) (trodAll_cons_mk (shut_int Tryz.underlying3 w4) (trodAll_cons_mk (Below.trod laidOut (by kernel_rfl) (of_decide_eq_true (by kernel_rfl)) h5 bel lt5) trodAll_mk0)))))),rfl,bel.frame _,fun h=>by cases h⟩
theorem over : Rows.candsTellsUptoRow.holds Tryz.pinned (Rows.OpenSpec.upto Rows.candsTellsSpec) :=
 OpenClaim.holds_of_cond 3 Tryz.f3 rfl rfl rfl rfl rfl rfl rfl ⟨rfl,rfl,rfl,rfl,rfl⟩ rfl rfl rfl rfl rfl (by kernel_rfl) Tryz.func3 (by kernel_rfl)
  (of_decide_eq_true (by kernel_rfl)) (by unfold Func.isWrapper; first | (rw [if_pos (by decide +kernel)]; kernel_rfl) | (rw [if_neg (by decide +kernel)]; exact ⟨rfl,rfl⟩))
  (fun os started H enc _ F=>lifted os started H enc F)
end Go.Proofs.YtepcmciljmennaaGreat.candsTells
namespace Go.Proofs.YtepcmciljmennaaGreat
theorem candsTells_holds : Rows.CandsTellsUptoSaid:=candsTells.over
#print axioms candsTells_holds
end Go.Proofs.YtepcmciljmennaaGreat
