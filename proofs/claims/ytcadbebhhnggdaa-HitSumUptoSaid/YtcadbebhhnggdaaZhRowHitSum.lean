/-
  The law HitSum, where what it is handed is of bulk at most 1048576: what it is handed is read, its code computes true, and what it was handed reads as it did.
-/
import Derived.Test.YtcadbebhhnggdaaZhDxF2
import Derived.Test.YtcadbebhhnggdaaZhPlHitSum
import Derived.Deep.CondSized
namespace Go.Su.Ytcadbebhhnggdaa
open Go.Mx Go.Proofs Go.Proofs.Ytcadbebhhnggdaa Go.RowKit Go.ChangeShapes Go.WideShapes
set_option linter.unusedVariables false
set_option maxRecDepth 100000 in
theorem len_slice {H : Type} {enc : TypeId × Value → H} {W : World} {r : Reach} {b0 : Nat} {v : Value} {d : DataW H} {ps : List MemPlace} {t e : TypeId} (ht : Try.prog.underlying t = some (.slice e)) (hval : Value.okWide Try.prog W r b0 t v)
  (h : DataW.Trod enc Try.prog W 0 (fun _=>true) true t v d ps) {l : List Int} (hr : RepP W (inW W) (el_int l) v) : l.length ≤ Rows.uptoBulk d:=by
 obtain ⟨a,len,cap,rfl⟩:=okWide_slice ht hval
 obtain ⟨fuel,hf⟩:=h
 have bulk : ∀ es : List (DataW H),es.length ≤ Rows.uptoBulkAll es:=by
  intro es
  induction es with
  | nil=>simp
  | cons d r ih =>
   have : 1 ≤ Rows.uptoBulk d:=by cases d with
    | lit x=>cases x <;> simp [Rows.uptoBulk]
    | _=>simp [Rows.uptoBulk]
   rw [Rows.uptoBulkAll,List.length_cons]; omega
 rcases DataW.trod_slice ht hf with ⟨hv,hd⟩ | ⟨a',len',cap',elems,rest,n,_,hv,hd,_,_,_,hl,_⟩
 ·have : l = []:=by
   have hv : (Value.slice a len cap) = .slice none 0 0:=by simpa [Value.cells] using hv
   rw [hv] at hr
   generalize hx : (List.map e_i64 l) = xs at hr
   have hr' : RepP W (inW W) (.ps .opt xs) (.slice none 0 0):=by rw [← hx]; exact hr
   cases hr' with
   | psNil _=>simpa using hx
  rw [this]; exact Nat.zero_le _
 ·have hv : (Value.slice a len cap) = .slice (some a') len' cap':=by simpa [Value.cells] using hv
  have hd : d = .slice (elems.map (·.1)) (rest.map (·.1)):=congrArg Prod.fst hd
  have hll : l.length = len':=by
   rw [hv] at hr
   generalize hx : (List.map e_i64 l) = xs at hr
   have hr' : RepP W (inW W) (.ps .opt xs) (.slice (some a') len' cap'):=by rw [← hx]; exact hr
   have : l.length = xs.length:=by rw [← hx,List.length_map]
   cases hr' with
   | ps=>exact this
  rw [hd,Rows.uptoBulk,hll,← hl]
  have:=bulk (elems.map (·.1))
  rw [List.length_map] at this
  omega
theorem law24_HitSum_walk (W : World) (a0 : List Int) (v0 : Value) (a1 : List Int) (v1 : Value) (a2 : List Int) (v2 : Value) (r0 : RepP W (inW W) (el_int a0) v0) (h1 : a1.length ≤ 1048576) (r1 : RepP W (inW W) (el_int a1) v1) (h2 : a2.length ≤ 1048576) (r2 : RepP W (inW W) (el_int a2) v2) :
  Calls Try.prog 7 #[v0,v1,v2] W fun e w'=>e = .returned (.bool true) ∧ Below W.heap.size W w':=by
 obtain ⟨n,h⟩:=law24_HitSum_true a0 a1 a2 h1 h2
 refine calls_of_PT (law24_HitSum_ok h) W _ rfl fun i h1 h2=>?_
 match i,h1,h2 with
 | 0,_,_=>exact r0
 | 1,_,_=>exact r1
 | 2,_,_=>exact r2
 | i + 3,h,_=>exact absurd h (by simp)
end Go.Su.Ytcadbebhhnggdaa
namespace Go.Proofs.Ytcadbebhhnggdaa.hitSum
open Go.ChangeShapes Go.WideShapes Go.ChangeAt Go.RowKit
open Go.ChangeMaps (open_string shut_string)
set_option linter.unusedVariables false
theorem own : ownKnob Try.prog.godebug = none:=by kernel_rfl
theorem laidOut : laidOutB Try.prog = true:=by kernel_rfl
set_option maxRecDepth 100000 in
theorem lifted (os : Os) (started : os.Started) (H : Type) (enc : TypeId × Value → H) (F : Stop.Interp) :
  ReturnsInHanded {} Try.checked os 7 .any ((Rows.OpenSpec.upto Rows.hitSumSpec).pre6 enc Try.prog Try.f7 Rows.hitSumUptoRow.domain false) (((Rows.OpenSpec.upto Rows.hitSumSpec).at F).post enc Try.prog Try.f7 false true false false):=by
 have hw : (DataW.whole enc Try.prog (World.plainHolding Try.prog os ⟨#[],#[.slice none 0 0,.slice none 0 0,.slice none 0 0],[]⟩).memory Try.f7.params.toList (Rows.OpenSpec.upto Rows.hitSumSpec).vars false #[Value.slice none 0 0,.slice none 0 0,.slice none 0 0].toList 8).map (fun x=>(x.1,x.2.1)) =
   some ([.nil,.nil,.nil],[]):=by kernel_rfl
 obtain ⟨⟨x1,x2,x3⟩,hx,hx1⟩:=Option.map_eq_some_iff.1 hw
 simp only [Prod.mk.injEq] at hx1
 obtain ⟨rfl,rfl⟩:=hx1
 refine returnsInHanded_of_cond_sized (C:=Try.checked) (s:=Rows.OpenSpec.upto Rows.hitSumSpec) (k:=Rows.uptoSmall) (F:=F) rfl own started (by kernel_rfl) Try.func7
  (OpenSpec.witness (enc:=enc) (C:=Try.checked) (s:=Rows.OpenSpec.upto Rows.hitSumSpec) (k:=Rows.uptoSmall) rfl false ⟨#[],#[.slice none 0 0,.slice none 0 0,.slice none 0 0],[]⟩ 8 (by kernel_rfl) (by kernel_rfl) (by kernel_rfl) hx (by kernel_rfl) (by kernel_rfl)) ?_
 intro W base args ds gs before hval0 hW hcnd hbk hsz0 _
 have hval : ∀ (j : Nat) t v,Try.f7.params[j]? = some t → args[j]? = some v → Value.okWide Try.prog W .any base t v:=hval0
 have hW':=hW
 obtain ⟨p,q,hA0,hV,rfl,hfz,hnd⟩:=hW
 have hA : DataW.TrodAll enc Try.prog W 0 (fun _=>true) true Try.f7.params.toList args.toList ds p:=hA0
 rw [Try.params7] at hA hval
 obtain ⟨v0,vs0,d0,ds0,p0,q0,hargs,rfl,rfl,h0,r0⟩:=trodAll_cons hA
 obtain ⟨v1,vs1,d1,ds1,p1,q1,rfl,rfl,rfl,h1,r1⟩:=trodAll_cons r0
 obtain ⟨v2,vs2,d2,ds2,p2,q2,rfl,rfl,rfl,h2,r2⟩:=trodAll_cons r1
 obtain ⟨rfl,rfl,rfl⟩:=trodAll_nil r2
 obtain rfl : args = #[v0,v1,v2]:=by cases args; simp_all
 obtain ⟨rfl,rfl⟩:=trodVars_none hV
 obtain ⟨a0,w0,y0⟩:=Go.Mx.open_slice (g:=Go.Su.Ytcadbebhhnggdaa.el_int) Try.underlying31 (fun _=>rfl) (Go.Su.Ytcadbebhhnggdaa.opens_ints W) (hval 0 31 v0 rfl rfl) h0
 have lt0 : ∀ x ∈ p0,x.block < W.heap.size:=by obtain ⟨m,hm⟩:=h0; exact DataW.trod_lt m _ _ _ hm
 obtain ⟨a1,w1,y1⟩:=Go.Mx.open_slice (g:=Go.Su.Ytcadbebhhnggdaa.el_int) Try.underlying31 (fun _=>rfl) (Go.Su.Ytcadbebhhnggdaa.opens_ints W) (hval 1 31 v1 rfl rfl) h1
 have lt1 : ∀ x ∈ p1,x.block < W.heap.size:=by obtain ⟨m,hm⟩:=h1; exact DataW.trod_lt m _ _ _ hm
 obtain ⟨a2,w2,y2⟩:=Go.Mx.open_slice (g:=Go.Su.Ytcadbebhhnggdaa.el_int) Try.underlying31 (fun _=>rfl) (Go.Su.Ytcadbebhhnggdaa.opens_ints W) (hval 2 31 v2 rfl rfl) h2
 have lt2 : ∀ x ∈ p2,x.block < W.heap.size:=by obtain ⟨m,hm⟩:=h2; exact DataW.trod_lt m _ _ _ hm
 have hb : Rows.uptoBulkAll ([d0,d1,d2] ++ ([] : List (DataW H))) ≤ 1048576:=of_decide_eq_true hbk
 simp only [List.append_nil,Rows.uptoBulkAll] at hb
 have b1 : a1.length ≤ 1048576:=by have:=Go.Su.Ytcadbebhhnggdaa.len_slice Try.underlying31 (hval 1 31 v1 rfl rfl) h1 y1; omega
 have b2 : a2.length ≤ 1048576:=by have:=Go.Su.Ytcadbebhhnggdaa.len_slice Try.underlying31 (hval 2 31 v2 rfl rfl) h2 y2; omega
 clear hA0 hval0 hsz0
 refine (Go.Su.Ytcadbebhhnggdaa.law24_HitSum_walk W a0 v0 a1 v1 a2 v2 y0 b1 y1 b2 y2).mono fun e W' ⟨he,bel⟩=>?_
 subst he
 exact ⟨_,rfl,_,_,_,[],_,[],hW',trodAll_mk1 (shut_bool Try.underlying4 _),(trodAll_cons_mk (Below.trod laidOut (by kernel_rfl) (of_decide_eq_true (by kernel_rfl)) h0 bel lt0) (trodAll_cons_mk (Below.trod laidOut (by kernel_rfl) (of_decide_eq_true (by kernel_rfl)) h1 bel lt1) (trodAll_cons_mk (Below.trod laidOut (by kernel_rfl) (of_decide_eq_true (by kernel_rfl)) h2 bel lt2) trodAll_mk0))),rfl,bel.frame _,fun h=>by cases h⟩
theorem over : Rows.hitSumUptoRow.holds Try.pinned (Rows.OpenSpec.upto Rows.hitSumSpec) :=
 OpenClaim.holds_of_cond 7 Try.f7 rfl rfl rfl rfl rfl rfl rfl ⟨rfl,rfl,rfl,rfl,rfl⟩ rfl rfl rfl rfl rfl (by kernel_rfl) Try.func7 (by kernel_rfl)
  (of_decide_eq_true (by kernel_rfl)) (by unfold Func.isWrapper; first | (rw [if_pos (by decide +kernel)]; kernel_rfl) | (rw [if_neg (by decide +kernel)]; exact ⟨rfl,rfl⟩))
  (fun os started H enc _ F=>lifted os started H enc F)
end Go.Proofs.Ytcadbebhhnggdaa.hitSum
namespace Go.Proofs.Ytcadbebhhnggdaa
theorem hitSum_holds : Rows.HitSumUptoSaid:=hitSum.over
#print axioms hitSum_holds
end Go.Proofs.Ytcadbebhhnggdaa
