/-
  Programs out of raw numbers are shown: to an end, in not too long a text.
-/
import Derived.Test.YtcadbebhhnggdaaGreatZPlWrap
import Derived.Test.YtcadbebhhnggdaaGreatZPlParse
import Derived.Test.YtcadbebhhnggdaaGreatZPlWrp
import Derived.KernelRfl
namespace Go.Su.YtcadbebhhnggdaaGreat
open Go.Mx Go.Proofs
set_option linter.unusedVariables false
set_option linter.unusedSimpArgs false
set_option maxHeartbeats 4000000
theorem rends_ev (S : List Stmt) (k : Nat) (s : Stmt) (hs : S[k]? = some s) (hz : szS s ≤ 900000) (hl : S.length ≤ 900000) : Ev (fun n=>ref22_ends n S (k : Int)) ((idx (enL S 0) (k : Int)).getD 0):=by
 have hk : k < S.length:=(List.getElem?_eq_some_iff.1 hs).1
 have g : idx S (k : Int) = some s:=idx_of (by omega) (by rw [Int.toNat_natCast]; exact hs)
 have hw:=flat_len.1 s
 rw [fl1_len] at hw
 have e : wr (wr ((k : Int) + 1) + ((wn s : Nat) : Int)) = ((k + (wn s + 1) : Nat) : Int):=by rw [wr_of (x:=(k : Int) + 1) (by omega),wr_of (by omega)]; omega
 rw [enL_idx S k s hs]
 refine Ev.of_eq (g:=fun n=>(ref22_within n s).bind fun r2=>some (wr (wr ((k : Int) + 1) + r2))) (fun n=>by simp only [ref22_ends,g,Option.bind_some]) (Ev.bind (within_all.1 s (by omega)) ?_)
 rw [e]; exact Ev.ret _
theorem rwrap_ev (D : List Decl) (ts : List (List Stmt)) (g : List ByteArray) (hn : g.length ≤ 4000000) (hz : szT ts ≤ 100000) : Ev (fun n=>ref22_Wrapped n ⟨D,ts⟩ g) (wf ts g):=by
 obtain ⟨L,h1,h2,_⟩:=Wrapped_ev D ts g hn hz
 have:=wrp_ev D ts g hn hz
 have e : L = wf ts g:=Ev.unique h1 this
 rw [← e]; exact h2
theorem EvJ.use {β γ : Type} {f : Nat → (β → Option γ) → Option γ} {x : β} {J : Nat → β → Option γ} {r : γ} (h : EvJ f x) (h2 : Ev (fun n=>J n x) r) : Ev (fun n=>f n (J n)) r:=by
 obtain ⟨k,hk⟩:=h
 obtain ⟨k',hk'⟩:=h2
 refine ⟨max k k',fun n hn=>?_⟩
 show f n (J n) = some r
 rw [hk n (by omega)]
 exact hk' n (by omega)
theorem any_swap (E : List Int) (A B : List Int) : (A.any fun j=>B.any fun k=>lt1 E j k) = ins E A B:=by
 unfold ins
 rw [Bool.eq_iff_iff]
 simp only [List.any_eq_true]
 constructor
 ·rintro ⟨j,hj,k,hk,h⟩; exact ⟨k,hk,j,hj,h⟩
 ·rintro ⟨k,hk,j,hj,h⟩; exact ⟨j,hj,k,hk,h⟩
section
variable (D : List Decl) (ts : List (List Stmt)) (gs : List (List ByteArray))
theorem ri_L3 (l3 : List Arr2_i64) (i4 : Int) (x5 : List ByteArray) (A : List Int) (l7 : List Arr2_i64) (i8 : Int) (x11 : List ByteArray) (B : List Int) (b13 : Bool) (i14 : Nat) (j : Int) (y : List Arr2_i64)
  (hz : szT ts ≤ 50000) (hB : B.length ≤ 1000000) (hj : idx A (i14 : Int) = some j) (hs : ∃ (k : Nat) (s : Stmt),j = k ∧ (flats ts)[k]? = some s) : ∀ (l pre : List Int) (b : Bool),B = pre ++ l →
  EvJ (fun n (J : List Arr2_i64 → Option (List Arr2_i64))=>ref22_Inside_L2 n ⟨D,ts⟩ gs (flats ts) (flats ts) l3 i4 x5 A l7 i8 J x11 B (b || l.any fun k=>lt1 (enL (flats ts) 0) j k) (wr ((i14 : Int) + 1))) y →
  EvJ (fun n (J : List Arr2_i64 → Option (List Arr2_i64))=>ref22_Inside_L3 n ⟨D,ts⟩ gs (flats ts) (flats ts) l3 i4 x5 A l7 i8 J x11 B b13 (i14 : Int) b pre.length) y
 | [],pre,b,e,h=>by
  rw [List.append_nil] at e
  subst e
  refine EvJ.step (EvJ.of_eq (fun n J=>?_) (by simpa using h))
  simp only [ref22_Inside_L3,ix_ge,cond_false]
 | x :: r,pre,b,e,h=>by
  have hp : pre.length + 1 ≤ 1000000:=by rw [e] at hB; simp at hB; omega
  have d : decide ((pre.length : Int) < ln B) = true:=by rw [e]; exact ix_lt _ _ _
  have g : idx B (pre.length : Int) = some x:=by rw [e]; exact ix_get _ _ _
  obtain ⟨k,s,hk,hS⟩:=hs
  have l1:=len_T ts
  have hsz : szS s ≤ 900000:=by have:=sz_flats ts s (List.mem_of_getElem? hS); omega
  have he:=rends_ev (flats ts) k s hS hsz (by omega)
  rw [List.any_cons,← Bool.or_assoc] at h
  have nx:=ri_L3 l3 i4 x5 A l7 i8 x11 B b13 i14 j y hz hB hj ⟨k,s,hk,hS⟩ r (pre ++ [x]) (b || lt1 (enL (flats ts) 0) j x) (by rw [e]; exact ix_cons _ _ _) h
  cases b
  ·rw [Bool.false_or] at nx
   unfold lt1 at nx
   cases c : decide (j < x)
   ·rw [c,Bool.false_and] at nx
    have c2 : decide (x > j) = false:=c
    refine EvJ.step (EvJ.of_eq (fun n J=>?_) nx)
    simp only [ref22_Inside_L3,d,cond_true,cond_false,jn,g,hj,Option.bind_some,c2]
    rw [ix_wr pre x (by omega)]
   ·rw [c,Bool.true_and] at nx
    have c2 : decide (x > j) = true:=c
    rw [← hk] at he
    refine EvJ.step (EvJ.of_eq (g:=fun n J=>(ref22_ends n (flats ts) j).bind fun r23=>ref22_Inside_L3 n ⟨D,ts⟩ gs (flats ts) (flats ts) l3 i4 x5 A l7 i8 J x11 B b13 (i14 : Int) (decide (x < r23)) ((pre ++ [x]).length)) (fun n J=>?_) (EvJ.bind he nx))
    simp only [ref22_Inside_L3,d,cond_true,cond_false,jn,g,hj,Option.bind_some,c2]
    rw [ix_wr pre x (by omega)]
  ·rw [Bool.true_or] at nx
   refine EvJ.step (EvJ.of_eq (fun n J=>?_) nx)
   simp only [ref22_Inside_L3,d,cond_true,jn]
   rw [ix_wr pre x (by omega)]
theorem ri_L2 (l3 : List Arr2_i64) (i4 : Int) (x5 : List ByteArray) (A : List Int) (l7 : List Arr2_i64) (i8 : Int) (x11 : List ByteArray) (B : List Int) (hz : szT ts ≤ 50000) (hB : B.length ≤ 1000000) (hA : A.length ≤ 1000000)
  (hs : ∀ j ∈ A,∃ (k : Nat) (s : Stmt),j = k ∧ (flats ts)[k]? = some s) (hl : l7.length ≤ 900000) : ∀ (l pre : List Int) (b : Bool),A = pre ++ l →
  EvJ (fun n (J : List Arr2_i64 → Option (List Arr2_i64))=>ref22_Inside_L2 n ⟨D,ts⟩ gs (flats ts) (flats ts) l3 i4 x5 A l7 i8 J x11 B b pre.length) (l7 ++ bif (i4 != i8) && (b || l.any fun j=>B.any fun k=>lt1 (enL (flats ts) 0) j k) then [⟨i4,i8⟩] else [])
 | [],pre,b,e=>by
  rw [List.append_nil] at e
  subst e
  have rm : room s_Arr2_i64.i1.bytes l7.length [(Arr2_i64.mk i4 i8)].length = true:=roomA _ _ (by simp; omega)
  rw [List.any_nil,Bool.or_false]
  cases b <;> cases c : (i4 != i8)
  ·refine EvJ.step (EvJ.of_eq (g:=fun n J=>J (l7 ++ [])) (fun n J=>?_) (EvJ.now _))
   simp only [ref22_Inside_L2,ix_ge,cond_false,jn,List.append_nil]
  ·refine EvJ.step (EvJ.of_eq (g:=fun n J=>J (l7 ++ [])) (fun n J=>?_) (EvJ.now _))
   simp only [ref22_Inside_L2,ix_ge,cond_false,jn,List.append_nil]
  ·refine EvJ.step (EvJ.of_eq (g:=fun n J=>J (l7 ++ [])) (fun n J=>?_) (EvJ.now _))
   simp only [ref22_Inside_L2,ix_ge,cond_false,cond_true,jn,c,List.append_nil]
  ·refine EvJ.step (EvJ.of_eq (g:=fun n J=>J (l7 ++ [⟨i4,i8⟩])) (fun n J=>?_) (EvJ.now _))
   simp only [ref22_Inside_L2,ix_ge,cond_false,cond_true,jn,c,rm]
 | j :: r,pre,b,e=>by
  have hp : pre.length + 1 ≤ 1000000:=by rw [e] at hA; simp at hA; omega
  have d : decide ((pre.length : Int) < ln A) = true:=by rw [e]; exact ix_lt _ _ _
  have g : idx A (pre.length : Int) = some j:=by rw [e]; exact ix_get _ _ _
  have nx:=ri_L2 l3 i4 x5 A l7 i8 x11 B hz hB hA hs hl r (pre ++ [j]) (b || B.any fun k=>lt1 (enL (flats ts) 0) j k) (by rw [e]; exact ix_cons _ _ _)
  have n3:=ri_L3 D ts gs l3 i4 x5 A l7 i8 x11 B b pre.length j _ hz hB g (hs j (by rw [e]; simp)) B [] b rfl (by rw [ix_wr pre j (by omega)]; exact nx)
  rw [List.any_cons,← Bool.or_assoc]
  refine EvJ.step (EvJ.of_eq (fun n J=>?_) n3)
  simp only [ref22_Inside_L2,d,cond_true]; rfl
theorem ri_L1 (l3 : List Arr2_i64) (a : Nat) (x5 : List ByteArray) (R : List Arr2_i64) (hz : szT ts ≤ 50000) (hg : gs.length ≤ 100) (hn : ∀ g ∈ gs,g.length ≤ 4000000) (ha : a < gs.length) : ∀ (l pre : List (List ByteArray)) (acc : List Arr2_i64),gs = pre ++ l → acc.length + l.length ≤ 100000 →
  Ev (fun n=>ref22_Inside_L0 n ⟨D,ts⟩ gs (flats ts) (flats ts) (acc ++ pbs (enL (flats ts) 0) (wf ts x5) a (l.map (wf ts)) pre.length) ((a + 1 : Nat) : Int)) R →
  Ev (fun n=>ref22_Inside_L1 n ⟨D,ts⟩ gs (flats ts) (flats ts) l3 (a : Int) x5 (wf ts x5) acc pre.length) R
 | [],pre,acc,e,h1,h=>by
  rw [List.append_nil] at e
  have e3 : wr ((a : Int) + 1) = ((a + 1 : Nat) : Int):=by rw [wr_of (by omega)]; rfl
  have d : decide ((pre.length : Int) < ln gs) = false:=by rw [e]; exact ix_ge _
  refine Ev.step (Ev.of_eq (fun n=>?_) (by simpa [pbs] using h))
  simp only [ref22_Inside_L1,d,cond_false,e3]; rfl
 | x :: r,pre,acc,e,h1,h=>by
  have hp : pre.length + 1 ≤ 100:=by rw [e] at hg; simp at hg; omega
  simp only [List.length_cons] at h1
  have l1:=len_T ts
  have d : decide ((pre.length : Int) < ln gs) = true:=by rw [e]; exact ix_lt _ _ _
  have g : idx gs (pre.length : Int) = some x:=by rw [e]; exact ix_get _ _ _
  have hw : ∀ g,(wf ts g).length ≤ 1000000:=fun g=>by
   have:=wrp_len (flats ts) g (flats ts).length 0
   unfold wf toI
   rw [List.length_map]; omega
  have n2:=ri_L2 D ts gs l3 (a : Int) x5 (wf ts x5) acc (pre.length : Int) x (wf ts x) hz (hw x) (hw x5) (wf_mem ts x5) (by omega) (wf ts x5) [] false rfl
  rw [Bool.false_or,any_swap] at n2
  rw [List.map_cons,pbs,← List.append_assoc] at h
  have nx:=ri_L1 l3 a x5 R hz hg hn ha r (pre ++ [x]) (acc ++ bif ((a : Int) != (pre.length : Int)) && ins (enL (flats ts) 0) (wf ts x5) (wf ts x) then [⟨a,pre.length⟩] else []) (by rw [e]; exact ix_cons _ _ _) (by
   cases ((a : Int) != (pre.length : Int)) && ins (enL (flats ts) 0) (wf ts x5) (wf ts x) <;> simp <;> omega) (by simpa using h)
  refine Ev.step (Ev.of_eq (g:=fun n=>(ref22_Wrapped n ⟨D,ts⟩ x).bind fun r12=>ref22_Inside_L2 n ⟨D,ts⟩ gs (flats ts) (flats ts) l3 (a : Int) x5 (wf ts x5) acc (pre.length : Int) (fun l9=>ref22_Inside_L1 n ⟨D,ts⟩ gs (flats ts) (flats ts) l3 (a : Int) x5 (wf ts x5) l9 ((pre ++ [x]).length)) x r12 false 0) (fun n=>?_) (Ev.bind (rwrap_ev D ts x (hn x (by rw [e]; simp)) (by omega)) (EvJ.use n2 nx)))
  simp only [ref22_Inside_L1,d,cond_true,g,Option.bind_some,jn]
  rw [ix_wr pre x (by omega)]
theorem ri_L0 (hz : szT ts ≤ 50000) (hg : gs.length ≤ 100) (hn : ∀ g ∈ gs,g.length ≤ 4000000) : ∀ (l pre : List (List ByteArray)) (acc : List Arr2_i64),gs = pre ++ l → acc.length ≤ 100 * pre.length →
  Ev (fun n=>ref22_Inside_L0 n ⟨D,ts⟩ gs (flats ts) (flats ts) acc pre.length) (acc ++ pas (enL (flats ts) 0) (gs.map (wf ts)) (l.map (wf ts)) pre.length)
 | [],pre,acc,e,h1=>by
  rw [List.append_nil] at e
  have d : decide ((pre.length : Int) < ln gs) = false:=by rw [e]; exact ix_ge _
  exact Ev.step (Ev.of_eq (g:=fun n=>some acc) (fun n=>by simp only [ref22_Inside_L0,d,cond_false]) (by simpa [pas] using Ev.ret acc))
 | x :: r,pre,acc,e,h1=>by
  have hp : pre.length + 1 ≤ gs.length:=by rw [e]; simp
  have d : decide ((pre.length : Int) < ln gs) = true:=by rw [e]; exact ix_lt _ _ _
  have g : idx gs (pre.length : Int) = some x:=by rw [e]; exact ix_get _ _ _
  have hl:=pbs_len (enL (flats ts) 0) (wf ts x) pre.length (gs.map (wf ts)) 0
  rw [List.length_map] at hl
  have nx:=ri_L0 hz hg hn r (pre ++ [x]) (acc ++ pbs (enL (flats ts) 0) (wf ts x) pre.length (gs.map (wf ts)) 0) (by rw [e]; exact ix_cons _ _ _) (by simp; omega)
  have n1:=ri_L1 D ts gs acc pre.length x (acc ++ pas (enL (flats ts) 0) (gs.map (wf ts)) ((x :: r).map (wf ts)) pre.length) hz hg hn (by omega) gs [] acc rfl (by omega) (by rw [List.map_cons,pas]; simpa using nx)
  refine Ev.step (Ev.of_eq (g:=fun n=>(ref22_Wrapped n ⟨D,ts⟩ x).bind fun r6=>ref22_Inside_L1 n ⟨D,ts⟩ gs (flats ts) (flats ts) acc (pre.length : Int) x r6 acc 0) (fun n=>?_) (Ev.bind (rwrap_ev D ts x (hn x (by rw [e]; simp)) (by omega)) n1))
  simp only [ref22_Inside_L0,d,cond_true,g,Option.bind_some]
theorem rInside_ev (hz : szT ts ≤ 50000) (hg : gs.length ≤ 100) (hn : ∀ g ∈ gs,g.length ≤ 4000000) : Ev (fun n=>ref22_Inside n ⟨D,ts⟩ gs) (inside ts gs) :=
 Ev.of_eq (g:=fun n=>(ref1_List n ⟨D,ts⟩).bind fun r1=>ref22_Inside_L0 n ⟨D,ts⟩ gs r1 r1 [] 0) (fun n=>by simp only [ref22_Inside]) (Ev.bind (rList_ev D ts (by omega)) (ri_L0 D ts gs hz hg hn gs [] [] rfl (by simp)))
end
section
variable (p : Prog) (gs : List (List ByteArray)) (I : List Arr2_i64) (l3 : List Int) (i4 : Int)
theorem ro_L3 (R : List Int) (i7 i8 : Int) (i : Nat) (b10 : Bool) (x14 : Int) (hI : I.length ≤ 1000000) (hs : okI I R.length) : ∀ (l pre : List Arr2_i64) (b : Bool),I = pre ++ l →
  EvJ (fun n (J : Int → Option (List Int × Int))=>ref22_Order_L3 n p gs I l3 i4 R i7 i8 (i : Int) b10 J x14 b pre.length) (bif b && !(l.any (wt1 R (i : Int))) then (i : Int) else i8)
 | [],pre,b,e=>by
  rw [List.append_nil] at e
  subst e
  rw [List.any_nil,Bool.not_false,Bool.and_true]
  cases b
  ·exact EvJ.step (EvJ.of_eq (g:=fun n J=>J i8) (fun n J=>by simp only [ref22_Order_L3,ix_ge,cond_false]) (EvJ.now _))
  ·exact EvJ.step (EvJ.of_eq (g:=fun n J=>J (i : Int)) (fun n J=>by simp only [ref22_Order_L3,ix_ge,cond_false,cond_true]) (EvJ.now _))
 | x :: r,pre,b,e=>by
  have hp : pre.length + 1 ≤ 1000000:=by rw [e] at hI; simp at hI; omega
  have d : decide ((pre.length : Int) < ln I) = true:=by rw [e]; exact ix_lt _ _ _
  have g : idx I (pre.length : Int) = some x:=by rw [e]; exact ix_get _ _ _
  obtain ⟨q,hq,hx⟩:=hs x (by rw [e]; simp)
  have hi:=idx_ok R q hq
  rw [← hx] at hi
  have nx:=fun b'=>ro_L3 R i7 i8 i b10 x14 hI hs r (pre ++ [x]) b' (by rw [e]; exact ix_cons _ _ _)
  have e3:=ix_wr pre x (show pre.length + 1 ≤ 9223372036854775807 by omega)
  rw [List.any_cons]
  cases w : wt1 R (i : Int) x
  ·rw [Bool.false_or]
   refine EvJ.step (EvJ.of_eq (fun n J=>?_) (nx b))
   unfold wt1 at w
   rw [hi] at w
   cases c : (x.e1 == (i : Int))
   ·simp only [ref22_Order_L3,d,cond_true,jn,g,Option.bind_some,c,cond_false,e3]
   ·rw [c,Bool.true_and,Option.getD_some] at w
    simp only [ref22_Order_L3,d,cond_true,jn,g,Option.bind_some,c,hi,w,cond_false,e3]
  ·rw [Bool.true_or,Bool.not_true,Bool.and_false]
   have n0:=nx false
   rw [Bool.false_and] at n0
   refine EvJ.step (EvJ.of_eq (fun n J=>?_) n0)
   unfold wt1 at w
   rw [hi,Bool.and_eq_true,Option.getD_some] at w
   simp only [ref22_Order_L3,d,cond_true,jn,g,Option.bind_some,w.1,hi,w.2,e3]
theorem nxg_keep (I : List Arr2_i64) (R : List Int) : ∀ (m i : Nat) (c : Int),0 ≤ c → nxg I R m i c = c
 | 0,_,_,_=>rfl
 | m + 1,i,c,h=>by
  rw [nxg,decide_eq_false (show ¬ c < 0 by omega),Bool.and_false]
  exact nxg_keep I R m (i + 1) c h
theorem ro_L2 (R : List Int) (i7 : Int) (hR : R.length = gs.length) (hg : gs.length ≤ 100) (hI : I.length ≤ 1000000) (hs : okI I R.length) (X : List Int × Int)
  (hend : Ev (fun n=>bif decide (nxg I R gs.length 0 (-1) < 0) then some ([],8) else (idx R (nxg I R gs.length 0 (-1))).bind fun _=>ref22_Order_L1 n p gs I l3 i4 (R.set (nxg I R gs.length 0 (-1)).toNat i7) (wr (i7 + 1))) X) :
  ∀ (m i : Nat) (c : Int),m = gs.length - i → i ≤ gs.length → nxg I R m i c = nxg I R gs.length 0 (-1) → Ev (fun n=>ref22_Order_L2 n p gs I l3 i4 R i7 c (i : Int)) X
 | 0,i,c,hm,hi,hc=>by
  have d : decide ((i : Int) < ln gs) = false:=decide_eq_false (by show ¬ (i : Int) < ((gs.length : Nat) : Int); omega)
  rw [← hc] at hend
  rw [nxg] at hend
  refine Ev.step (Ev.of_eq (fun n=>?_) hend)
  simp only [ref22_Order_L2,d,cond_false,jn]
 | m + 1,i,c,hm,hi,hc=>by
  have d : decide ((i : Int) < ln gs) = true:=decide_eq_true (by show (i : Int) < ((gs.length : Nat) : Int); omega)
  by_cases h0 : c < 0
  ·have hiR : i < R.length:=by omega
   have g:=idx_ok R i hiR
   have e3 : wr ((i : Int) + 1) = ((i + 1 : Nat) : Int):=by rw [wr_of (by omega)]; rfl
   have gd : R.getD i 0 = R[i]:=by rw [List.getD_eq_getElem?_getD,List.getElem?_eq_getElem hiR]; rfl
   have c1 : decide (c < 0) = true:=decide_eq_true h0
   rw [nxg,c1,Bool.and_true] at hc
   have nx:=ro_L2 R i7 hR hg hI hs X hend m (i + 1) _ (by omega) (by omega) hc
   have n3:=ro_L3 p gs I l3 i4 R i7 c i true R[i] hI hs I [] (decide (R[i] < 0)) rfl
   unfold fre wts at nx
   rw [gd] at nx
   refine Ev.step (Ev.of_eq (g:=fun n=>ref22_Order_L3 n p gs I l3 i4 R i7 c (i : Int) true (fun i12=>ref22_Order_L2 n p gs I l3 i4 R i7 i12 ((i + 1 : Nat) : Int)) R[i] (decide (R[i] < 0)) 0) (fun n=>?_) (EvJ.use n3 nx))
   simp only [ref22_Order_L2,d,cond_true,jn,c1,g,Option.bind_some,e3]
  ·have c1 : decide (c < 0) = false:=decide_eq_false h0
   rw [nxg_keep I R (m + 1) i c (by omega)] at hc
   rw [← hc] at hend
   refine Ev.step (Ev.of_eq (fun n=>?_) hend)
   simp only [ref22_Order_L2,d,cond_true,jn,c1,cond_false]
theorem ro_L1 (hg : gs.length ≤ 100) (hI : I.length ≤ 1000000) (hs : okI I gs.length) : ∀ (m i : Nat) (R : List Int),m = gs.length - i → i ≤ gs.length → R.length = gs.length →
  Ev (fun n=>ref22_Order_L1 n p gs I l3 i4 R (i : Int)) (rks I gs.length m i R)
 | 0,i,R,hm,hi,hR=>by
  have d : decide ((i : Int) < ln gs) = false:=decide_eq_false (by show ¬ (i : Int) < ((gs.length : Nat) : Int); omega)
  exact Ev.step (Ev.of_eq (g:=fun n=>some (R,0)) (fun n=>by simp only [ref22_Order_L1,d,cond_false]) (Ev.ret _))
 | m + 1,i,R,hm,hi,hR=>by
  have d : decide ((i : Int) < ln gs) = true:=decide_eq_true (by show (i : Int) < ((gs.length : Nat) : Int); omega)
  have e3 : wr ((i : Int) + 1) = ((i + 1 : Nat) : Int):=by rw [wr_of (by omega)]; rfl
  have hend : Ev (fun n=>bif decide (nxg I R gs.length 0 (-1) < 0) then some ([],8) else (idx R (nxg I R gs.length 0 (-1))).bind fun _=>ref22_Order_L1 n p gs I l3 i4 (R.set (nxg I R gs.length 0 (-1)).toNat (i : Int)) (wr ((i : Int) + 1))) (rks I gs.length (m + 1) i R):=by
   rw [rks]
   cases c : decide (nxg I R gs.length 0 (-1) < 0)
   ·rcases nxg_lt I R gs.length 0 (-1) (.inl (by omega)) with h | ⟨k,h1,h2⟩
    ·rw [decide_eq_true h] at c; cases c
    ·have g:=idx_ok R k (by omega)
     rw [← h1] at g
     simp only [cond_false,g,Option.bind_some,e3]
     exact ro_L1 hg hI hs m (i + 1) (R.set (nxg I R gs.length 0 (-1)).toNat (i : Int)) (by omega) (by omega) (by simpa using hR)
   ·exact Ev.ret _
  have n1:=ro_L2 p gs I l3 i4 R (i : Int) hR hg hI (by rw [hR]; exact hs) _ hend gs.length 0 (-1) rfl (by omega) rfl
  refine Ev.step (Ev.of_eq (fun n=>?_) n1)
  simp only [ref22_Order_L1,d,cond_true]; rfl
end
theorem ro_L0 (p : Prog) (gs : List (List ByteArray)) (I : List Arr2_i64) (hg : gs.length ≤ 100) (X : List Int × Int) (hend : ∀ l3 i4,Ev (fun n=>ref22_Order_L1 n p gs I l3 i4 (List.replicate gs.length (-1)) 0) X) : ∀ (m i : Nat),i + m = gs.length →
  Ev (fun n=>ref22_Order_L0 n p gs I (List.replicate i (-1) ++ List.replicate m 0) (i : Int)) X
 | 0,i,h=>by
  have : i = gs.length:=by omega
  subst this
  have d : decide (((gs.length : Nat) : Int) < ln (List.replicate gs.length (-1 : Int))) = false:=decide_eq_false (by show ¬ ((gs.length : Nat) : Int) < (((List.replicate gs.length (-1 : Int)).length : Nat) : Int); simp)
  refine Ev.step (Ev.of_eq (fun n=>?_) (hend (List.replicate gs.length (-1)) ((gs.length : Nat) : Int)))
  simp only [ref22_Order_L0,List.replicate_zero,List.append_nil,d,cond_false]
 | m + 1,i,h=>by
  have hl : (List.replicate i (-1 : Int)).length = i:=by simp
  have nx:=ro_L0 p gs I hg X hend m (i + 1) (by omega)
  have e3 : wr ((i : Int) + 1) = ((i + 1 : Nat) : Int):=by rw [wr_of (by omega)]; rfl
  have es : List.replicate (m + 1) (0 : Int) = 0 :: List.replicate m 0:=rfl
  have d : decide ((i : Int) < ln (List.replicate i (-1) ++ (0 : Int) :: List.replicate m 0)) = true:=by
   have:=ix_lt (List.replicate i (-1 : Int)) 0 (List.replicate m 0); rw [hl] at this; exact this
  have g : idx (List.replicate i (-1) ++ (0 : Int) :: List.replicate m 0) (i : Int) = some 0:=by
   have:=ix_get (List.replicate i (-1 : Int)) 0 (List.replicate m 0); rw [hl] at this; exact this
  have st : (List.replicate i (-1) ++ (0 : Int) :: List.replicate m 0).set ((i : Int)).toNat (-1) = List.replicate (i + 1) (-1) ++ List.replicate m 0:=by
   rw [Int.toNat_natCast,List.set_append,if_neg (by rw [hl]; omega),hl,Nat.sub_self,List.set_cons_zero,List.replicate_succ',List.append_assoc]; rfl
  rw [es]
  refine Ev.step (Ev.of_eq (fun n=>?_) nx)
  simp only [ref22_Order_L0,d,cond_true,g,Option.bind_some,st,e3]
theorem rOrder_ev (D : List Decl) (ts : List (List Stmt)) (gs : List (List ByteArray)) (hz : szT ts ≤ 50000) (hg : gs.length ≤ 100) (hn : ∀ g ∈ gs,g.length ≤ 4000000) : Ev (fun n=>ref22_Order n ⟨D,ts⟩ gs) (ranks (inside ts gs) gs.length):=by
 have hl:=pas_len (enL (flats ts) 0) (gs.map (wf ts)) (gs.map (wf ts)) 0
 have hok : okI (inside ts gs) gs.length:=fun x hx=>by
  obtain ⟨k,h1,h2⟩:=pas_ok _ _ _ _ x hx
  exact ⟨k,by simpa using h1,h2⟩
 rw [List.length_map] at hl
 have hl2 : (inside ts gs).length ≤ 1000000:=by
  have : gs.length * gs.length ≤ 100 * 100:=Nat.mul_le_mul hg hg
  unfold inside; omega
 have mr : mroom s_int.i1.bytes (ln gs) = true:=by
  have : s_int.i1.bytes = 8:=rfl
  unfold mroom roomB
  rw [this]
  show (decide (0 ≤ ((gs.length : Nat) : Int)) && _) = true
  simp; omega
 have hln : (ln gs).toNat = gs.length:=by show ((gs.length : Nat) : Int).toNat = _; omega
 refine Ev.of_eq (g:=fun n=>(ref22_Inside n ⟨D,ts⟩ gs).bind fun r1=>ref22_Order_L0 n ⟨D,ts⟩ gs r1 (List.replicate gs.length 0) 0) (fun n=>by simp only [ref22_Order,mr,cond_true,hln]) (Ev.bind (rInside_ev D ts gs hz hg hn) ?_)
 exact ro_L0 ⟨D,ts⟩ gs (inside ts gs) hg _ (fun l3 i4=>ro_L1 ⟨D,ts⟩ gs (inside ts gs) l3 i4 hg hl2 hok gs.length 0 _ rfl (by omega) (by simp)) gs.length 0 (by omega)
end Go.Su.YtcadbebhhnggdaaGreat
namespace Go.Su.YtcadbebhhnggdaaGreat
open Go.Mx Go.Proofs
set_option linter.unusedVariables false
set_option maxHeartbeats 4000000
set_option maxRecDepth 1000000 in
theorem known25_ev : Ev (fun n=>law25_known n) true:=by
 refine ⟨200,fun n hn=>?_⟩
 obtain ⟨k,rfl⟩ : ∃ k,n = k + 200:=⟨n - 200,by omega⟩
 have : ∀ k,law25_known (k + 200) = some true:=by intro k; kernel_rfl
 exact this k
theorem groups_eq (a : Int) : ∃ gs : List (List ByteArray),(∀ n,law25_groups n a = some gs) ∧ gs.length ≤ 3 ∧ ∀ g ∈ gs,g.length ≤ 3:=by
 have p : ∀ n,hand_Pick n a 7 = some (a % 7):=fun n=>pick_eq n _ 7 (by omega) (by omega)
 cases c0 : (a % 7 == 0)
 case true=>exact ⟨_,fun n=>by simp only [law25_groups,p,Option.bind_some,c0,cond_true]; rfl,by simp,by simp⟩
 cases c1 : (a % 7 == 1)
 case true=>exact ⟨_,fun n=>by simp only [law25_groups,p,Option.bind_some,c0,c1,cond_true,cond_false]; rfl,by simp,by simp⟩
 cases c2 : (a % 7 == 2)
 case true=>exact ⟨_,fun n=>by simp only [law25_groups,p,Option.bind_some,c0,c1,c2,cond_true,cond_false]; rfl,by simp,by simp⟩
 cases c3 : (a % 7 == 3)
 case true=>exact ⟨_,fun n=>by simp only [law25_groups,p,Option.bind_some,c0,c1,c2,c3,cond_true,cond_false]; rfl,by simp,by simp⟩
 cases c4 : (a % 7 == 4)
 case true=>exact ⟨_,fun n=>by simp only [law25_groups,p,Option.bind_some,c0,c1,c2,c3,c4,cond_true,cond_false]; rfl,by simp,by simp⟩
 cases c5 : (a % 7 == 5)
 case true=>exact ⟨_,fun n=>by simp only [law25_groups,p,Option.bind_some,c0,c1,c2,c3,c4,c5,cond_true,cond_false]; rfl,by simp,by simp⟩
 exact ⟨_,fun n=>by simp only [law25_groups,p,Option.bind_some,c0,c1,c2,c3,c4,c5,cond_false]; rfl,by simp,by simp⟩
end Go.Su.YtcadbebhhnggdaaGreat
namespace Go.Su.YtcadbebhhnggdaaGreat
open Go.Mx Go.Proofs
set_option linter.unusedVariables false
set_option linter.unusedSimpArgs false
set_option maxHeartbeats 4000000
theorem sroom_of {a b : ByteArray} (h : a.size + b.size ≤ 9223372036854775807) : sroom a b = true:=by
 unfold sroom
 have : ¬ (((a.size + b.size : Nat) : Int) > IntKind.i64.max):=by
  have e : IntKind.i64.max = 9223372036854775807:=rfl
  rw [e]; omega
 rw [decide_eq_false this]; rfl
theorem size_app (a b : ByteArray) : (a ++ b).size = a.size + b.size:=ByteArray.size_append
theorem digits_ev (k : Int) (h0 : 0 ≤ k) (h1 : k ≤ 9) : ∃ w,Ev (fun n=>ref1_Digits n k) w ∧ w.size ≤ 1:=by
 have d : decide (k < 10) = true:=decide_eq_true (by omega)
 exact ⟨_,Ev.step (Ev.of_eq (g:=fun n=>some (b2s [IntKind.u8.wrap (wr (48 + k))])) (fun n=>by simp only [ref1_Digits,d,cond_true]) (Ev.ret _)),Nat.le_of_eq rfl⟩
theorem level_ev (k : Int) : ∃ r,(∀ n,ref1_level n k = some r) ∧ (4 ≤ k → k ≤ 10 → 1 ≤ r ∧ r ≤ 3) ∧ 0 ≤ r ∧ r ≤ 5:=by
 by_cases h : 1 ≤ k ∧ k ≤ 10
 ·have : k = 1 ∨ k = 2 ∨ k = 3 ∨ k = 4 ∨ k = 5 ∨ k = 6 ∨ k = 7 ∨ k = 8 ∨ k = 9 ∨ k = 10:=by omega
  rcases this with rfl | rfl | rfl | rfl | rfl | rfl | rfl | rfl | rfl | rfl
  ·exact ⟨5,fun n=>rfl,by omega,by omega,by omega⟩
  ·exact ⟨5,fun n=>rfl,by omega,by omega,by omega⟩
  ·exact ⟨4,fun n=>rfl,by omega,by omega,by omega⟩
  ·exact ⟨2,fun n=>rfl,by omega,by omega,by omega⟩
  ·exact ⟨2,fun n=>rfl,by omega,by omega,by omega⟩
  ·exact ⟨3,fun n=>rfl,by omega,by omega,by omega⟩
  ·exact ⟨3,fun n=>rfl,by omega,by omega,by omega⟩
  ·exact ⟨3,fun n=>rfl,by omega,by omega,by omega⟩
  ·exact ⟨1,fun n=>rfl,by omega,by omega,by omega⟩
  ·exact ⟨1,fun n=>rfl,by omega,by omega,by omega⟩
 ·have b : ∀ c : Int,1 ≤ c → c ≤ 10 → (k == c) = false:=fun c h1 h2=>by simp; omega
  refine ⟨0,fun n=>?_,by omega,by omega,by omega⟩
  simp only [ref1_level,jn,b 1 (by omega) (by omega),b 2 (by omega) (by omega),b 3 (by omega) (by omega),b 4 (by omega) (by omega),b 5 (by omega) (by omega),b 6 (by omega) (by omega),b 7 (by omega) (by omega),b 8 (by omega) (by omega),b 9 (by omega) (by omega),b 10 (by omega) (by omega),cond_false]
theorem sign_w (k : Int) : ∃ w,(∀ n,ref1_sign n k = some w) ∧ w.size ≤ 2:=by
 unfold ref1_sign
 cases (k == 4) with
 | true=>exact ⟨_,fun _=>rfl,by decide⟩
 | false =>
 cases (k == 5) with
 | true=>exact ⟨_,fun _=>rfl,by decide⟩
 | false =>
 cases (k == 6) with
 | true=>exact ⟨_,fun _=>rfl,by decide⟩
 | false =>
 cases (k == 7) with
 | true=>exact ⟨_,fun _=>rfl,by decide⟩
 | false =>
 cases (k == 8) with
 | true=>exact ⟨_,fun _=>rfl,by decide⟩
 | false =>
 cases (k == 9) with
 | true=>exact ⟨_,fun _=>rfl,by decide⟩
 | false=>exact ⟨_,fun _=>rfl,by decide⟩
theorem show_ev : ∀ (d : Nat) (e : Expr),okE d e → szE e ≤ 1000000 → (∃ w,Ev (fun n=>ref1_show n e) w ∧ w.size ≤ 20 * szE e) ∧ ∀ low,∃ w,Ev (fun n=>ref1_side n e low) w ∧ w.size ≤ 20 * szE e + 2:=by
 intro d
 induction d with
 | zero=>intro e h; exact h.elim
 | succ d ih =>
  intro e h hz
  have hs : ∃ w,Ev (fun n=>ref1_show n e) w ∧ w.size ≤ 20 * szE e:=by
   obtain ⟨k,m,w,l⟩:=e
   obtain ⟨lv,hlv,hlv2,lv0,lv5⟩:=level_ev k
   rcases h with ⟨h1,h2,h3,h4,h5⟩ | ⟨h1,h2,h3,h5⟩ | ⟨h1,h2,h3,x,h5,h6⟩ | ⟨h1,h1',h2,h3,x,y,h5,h6,h7⟩ <;> simp only at h1 h2 h3 h5 <;> subst h5
   ·subst h1
    obtain ⟨w,k1,k2⟩:=digits_ev m h2 (by omega)
    refine ⟨w,Ev.step (Ev.of_eq (g:=fun n=>(ref1_Digits n m).bind fun r4=>some r4) (fun n=>?_) (Ev.bind k1 (Ev.ret _))),by rw [szE]; omega⟩
    simp only [ref1_show,hlv,Option.bind_some,jn,decide_eq_true (show m ≥ 0 from h2)]; rfl
   ·subst h1
    refine ⟨w,Ev.step (Ev.of_eq (g:=fun n=>some w) (fun n=>?_) (Ev.ret _)),?_⟩
    ·simp only [ref1_show,hlv,Option.bind_some,jn]; rfl
    ·have : w.size ≤ 1:=by
      simp only [List.mem_cons,List.not_mem_nil,or_false] at h3
      rcases h3 with rfl | rfl | rfl | rfl | rfl <;> decide
     rw [szE]; omega
   ·subst h1
    rw [szE,szEl,szEl] at hz ⊢
    obtain ⟨w',k1,k2⟩:=(ih x h6 (by omega)).2 4
    have hr : sroom x_2d w' = true:=sroom_of (by have : x_2d.size = 1:=rfl; omega)
    refine ⟨x_2d ++ w',Ev.step (Ev.of_eq (g:=fun n=>(ref1_side n x 4).bind fun r8=>bif sroom x_2d r8 then some (x_2d ++ r8) else none) (fun n=>?_) (Ev.bind k1 ?_)),?_⟩
    ·simp only [ref1_show,hlv,Option.bind_some,jn]; rfl
    ·simp only [hr,cond_true]; exact Ev.ret _
    ·rw [size_app]; have : x_2d.size = 1:=rfl; omega
   ·rw [szE,szEl,szEl,szEl] at hz ⊢
    obtain ⟨q1,q2⟩:=hlv2 h1 h1'
    have b1 : (k == 1) = false:=by simp; omega
    have b2 : (k == 2) = false:=by simp; omega
    have b3 : (k == 3) = false:=by simp; omega
    obtain ⟨wl,k1,k2⟩:=(ih x h6 (by omega)).2 (bif (lv == 1) then 2 else lv)
    obtain ⟨wr',l1,l2⟩:=(ih y h7 (by omega)).2 (wr (lv + 1))
    obtain ⟨ws,s1,s2⟩:=sign_w k
    have z1 : x_20.size = 1:=rfl
    have r1 : sroom wl x_20 = true:=sroom_of (by omega)
    have r2 : sroom (wl ++ x_20) ws = true:=sroom_of (by rw [size_app]; omega)
    have r3 : sroom ((wl ++ x_20) ++ ws) x_20 = true:=sroom_of (by rw [size_app,size_app]; omega)
    have r4 : sroom (((wl ++ x_20) ++ ws) ++ x_20) wr' = true:=sroom_of (by rw [size_app,size_app,size_app]; omega)
    have i0 : idx [x,y] 0 = some x:=rfl
    have i1 : idx [x,y] 1 = some y:=rfl
    have l2' : (ln [x,y] == 2) = true:=rfl
    refine ⟨(((wl ++ x_20) ++ ws) ++ x_20) ++ wr',Ev.step (Ev.of_eq (g:=fun n=>(ref1_side n x (bif (lv == 1) then 2 else lv)).bind fun r15=>bif sroom r15 x_20 then bif sroom (r15 ++ x_20) ws then bif sroom ((r15 ++ x_20) ++ ws) x_20 then (ref1_side n y (wr (lv + 1))).bind fun r21 =>
      bif sroom (((r15 ++ x_20) ++ ws) ++ x_20) r21 then some ((((r15 ++ x_20) ++ ws) ++ x_20) ++ r21) else none else none else none else none) (fun n=>?_) (Ev.bind k1 ?_)),?_⟩
    ·have g1 : decide (lv ≥ 1) = true:=decide_eq_true q1
     have g2 : decide (lv ≤ 3) = true:=decide_eq_true q2
     cases hc : (lv == 1) <;> simp only [ref1_show,hlv,Option.bind_some,jn,b1,b2,b3,cond_false,cond_true,g1,g2,l2',hc,i0,i1,s1]
    ·simp only [r1,r2,r3,cond_true]
     refine Ev.bind l1 ?_
     simp only [r4,cond_true]; exact Ev.ret _
    ·simp only [size_app]; omega
  refine ⟨hs,fun low=>?_⟩
  obtain ⟨w,k1,k2⟩:=hs
  obtain ⟨lv,hlv,_⟩:=level_ev e.Kind
  by_cases hc : lv < low
  ·have z1 : x_28.size = 1:=rfl
   have z2 : x_29.size = 1:=rfl
   have r1 : sroom x_28 w = true:=sroom_of (by omega)
   have r2 : sroom (x_28 ++ w) x_29 = true:=sroom_of (by rw [size_app]; omega)
   refine ⟨(x_28 ++ w) ++ x_29,Ev.step (Ev.of_eq (g:=fun n=>(ref1_show n e).bind fun r2=>bif sroom x_28 r2 then bif sroom (x_28 ++ r2) x_29 then some ((x_28 ++ r2) ++ x_29) else none else none) (fun n=>?_) (Ev.bind k1 ?_)),by simp only [size_app]; omega⟩
   ·simp only [ref1_side,hlv,Option.bind_some,decide_eq_true hc,cond_true]
   ·simp only [r1,r2,cond_true]; exact Ev.ret _
  ·refine ⟨w,Ev.step (Ev.of_eq (g:=fun n=>(ref1_show n e).bind fun r5=>some r5) (fun n=>?_) (Ev.bind k1 (Ev.ret _))),by omega⟩
   simp only [ref1_side,hlv,Option.bind_some,decide_eq_false hc,cond_false]
theorem tabs_ev : ∀ m : Nat,m ≤ 100000 → ∃ w,Ev (fun n=>ref1_tabs n (m : Int)) w ∧ w.size = m
 | 0,_=>⟨b0,Ev.step (Ev.of_eq (g:=fun n=>some b0) (fun n=>by simp only [ref1_tabs]; rfl) (Ev.ret _)),rfl⟩
 | m + 1,h=>by
  obtain ⟨w,k1,k2⟩:=tabs_ev m (by omega)
  have d : decide (((m + 1 : Nat) : Int) ≤ 0) = false:=decide_eq_false (by omega)
  have e : wr (((m + 1 : Nat) : Int) - 1) = (m : Int):=by rw [wr_of (by omega)]; omega
  have z : x_09.size = 1:=rfl
  have r : sroom x_09 w = true:=sroom_of (by omega)
  refine ⟨x_09 ++ w,Ev.step (Ev.of_eq (g:=fun n=>(ref1_tabs n (m : Int)).bind fun r1=>bif sroom x_09 r1 then some (x_09 ++ r1) else none) (fun n=>?_) (Ev.bind k1 ?_)),by rw [size_app]; omega⟩
  ·simp only [ref1_tabs,d,cond_false,e]
  ·simp only [r,cond_true]; exact Ev.ret _
theorem lines_ev : (∀ s : Stmt,∀ d m : Nat,okS d s → m + wt s ≤ 2000 → (∃ w,Ev (fun n=>ref1_lines n s.Body ((m + 1 : Nat) : Int)) w ∧ w.size ≤ 1000 * wtl s.Body) ∧ ∃ w,Ev (fun n=>ref1_lines n s.Else ((m + 1 : Nat) : Int)) w ∧ w.size ≤ 1000 * wtl s.Else) ∧
  ∀ l : List Stmt,∀ (d m : Nat) (in_ : ByteArray) (pre : List Stmt) (acc : ByteArray),okSl d l → m + wtl l ≤ 2000 → in_.size = m → (pre ++ l).length ≤ 2000 → acc.size + 1000 * wtl l ≤ 100000000 → ∃ w,Ev (fun n=>ref1_lines_L0 n (pre ++ l) (m : Int) in_ acc pre.length) w ∧ w.size ≤ acc.size + 1000 * wtl l:=by
 have wlen : ∀ l : List Stmt,l.length ≤ wtl l:=by
  intro l
  induction l with
  | nil=>simp
  | cons s r ih=>cases s; rw [List.length_cons,wtl,wt]; omega
 have blk : ∀ l : List Stmt,(∀ (d m : Nat) (in_ : ByteArray) (pre : List Stmt) (acc : ByteArray),okSl d l → m + wtl l ≤ 2000 → in_.size = m → (pre ++ l).length ≤ 2000 → acc.size + 1000 * wtl l ≤ 100000000 → ∃ w,Ev (fun n=>ref1_lines_L0 n (pre ++ l) (m : Int) in_ acc pre.length) w ∧ w.size ≤ acc.size + 1000 * wtl l) →
   ∀ d m : Nat,okSl d l → m + wtl l ≤ 2000 → ∃ w,Ev (fun n=>ref1_lines n l (m : Int)) w ∧ w.size ≤ 1000 * wtl l:=by
  intro l ih d m h1 h2
  obtain ⟨t,k1,k2⟩:=tabs_ev m (by omega)
  obtain ⟨w,l1,l2⟩:=ih d m t [] b0 h1 h2 k2 (by have:=wlen l; simp; omega) (by have : b0.size = 0:=rfl; omega)
  have z : b0.size = 0:=rfl
  exact ⟨w,Ev.step (Ev.of_eq (g:=fun n=>(ref1_tabs n (m : Int)).bind fun r1=>ref1_lines_L0 n l (m : Int) r1 b0 0) (fun n=>by simp only [ref1_lines]) (Ev.bind k1 l1)),by omega⟩
 refine stmt_ind ?_ ?_ ?_
 ·intro k w v m e b l a ihb ihl d q h hq
  rw [okS] at h
  rw [wt] at hq
  exact ⟨blk b ihb _ (q + 1) h.2.2.2.1 (by omega),blk l ihl _ (q + 1) h.2.2.2.2 (by omega)⟩
 ·intro d m in_ pre acc _ _ _ _ _
  exact ⟨acc,Ev.step (Ev.of_eq (g:=fun n=>some acc) (fun n=>by simp only [ref1_lines_L0,List.append_nil,ix_ge,cond_false]) (Ev.ret _)),by simp [wtl]⟩
 ·intro s r ihs ihr d m in_ pre acc h h2 h3 h4 h5
  rw [okSl] at h
  rw [wtl] at h2 h5
  have hp : pre.length + 1 ≤ 2000:=by simp at h4; omega
  have hsub:=ihs d m h.1 (by omega)
  have hw:=ix_wr pre s (by omega)
  have hws : 10 ≤ wt s ∧ wt s = 10 + 2 * (wtl s.Body + wtl s.Else):=by cases s; rw [wt]; simp
  obtain ⟨⟨wb,hb1,hb2⟩,wl,hl1,hl2⟩:=hsub
  have zn : x_0a.size = 1:=rfl
  obtain ⟨FF,hFF⟩ : ∃ FF : Nat → ByteArray → Option ByteArray,∀ n line,FF n line = bif sroom acc in_ then bif sroom (acc ++ in_) line then bif sroom ((acc ++ in_) ++ line) x_0a then ref1_lines_L0 n (pre ++ s :: r) (m : Int) in_ (((acc ++ in_) ++ line) ++ x_0a) (wr ((pre.length : Int) + 1)) else none else none else none:=⟨_,fun _ _=>rfl⟩

  have fin : ∀ line : ByteArray,line.size ≤ 1000 * (wtl s.Body + wtl s.Else) + 2 * m + 1000 → ∃ w,Ev (fun n=>FF n line) w ∧ w.size ≤ acc.size + 1000 * (wt s + wtl r):=by
   intro line hline
   have r1 : sroom acc in_ = true:=sroom_of (by omega)
   have r2 : sroom (acc ++ in_) line = true:=sroom_of (by rw [size_app]; omega)
   have r3 : sroom ((acc ++ in_) ++ line) x_0a = true:=sroom_of (by rw [size_app,size_app]; omega)
   obtain ⟨w,k1,k2⟩:=ihr d m in_ (pre ++ [s]) (((acc ++ in_) ++ line) ++ x_0a) h.2 (by omega) h3 (by rw [← ix_cons]; exact h4) (by simp only [size_app]; omega)
   refine ⟨w,?_,by simp only [size_app] at k2; omega⟩
   simp only [hFF,r1,r2,r3,cond_true,hw]
   rw [ix_cons]; exact k1
  rw [wtl]
  have nm : ∀ w ∈ [k_x,k_y,k_z,k_a,k_t],w.size ≤ 1:=by
   intro w hw
   simp only [List.mem_cons,List.not_mem_nil,or_false] at hw
   rcases hw with rfl | rfl | rfl | rfl | rfl <;> decide
  have nc : ∀ w ∈ [k_c,k_d],w.size ≤ 1:=by
   intro w hw
   simp only [List.mem_cons,List.not_mem_nil,or_false] at hw
   rcases hw with rfl | rfl <;> decide
  have nl : ∀ w ∈ [k_l,k_k],w.size ≤ 1:=by
   intro w hw
   simp only [List.mem_cons,List.not_mem_nil,or_false] at hw
   rcases hw with rfl | rfl <;> decide
  have zm : k_m.size = 1:=rfl
  have z20 : x_20.size = 1:=rfl
  have z7d : x_7d.size = 1:=rfl
  have ze : x_203d20.size = 3:=rfl
  have zlk : x_6c6f636b20.size = 5:=rfl
  have zul : x_756e6c6f636b20.size = 7:=rfl
  have zsd : x_73656e6420.size = 5:=rfl
  have zrc : x_7265637620.size = 5:=rfl
  have zpr : x_7072696e7420.size = 6:=rfl
  have zgo : x_676f746f20.size = 5:=rfl
  have zlb : x_6c6162656c20.size = 6:=rfl
  have zif : x_696620.size = 3:=rfl
  have zop : x_207b0a.size = 3:=rfl
  have zel : x_20656c7365207b0a.size = 8:=rfl
  have zrp : x_72657065617420.size = 7:=rfl
  obtain ⟨k,w,v,mm,e,b,l,a⟩:=s
  obtain ⟨hH,_,hzE,_,_⟩:=(show okS d ⟨k,w,v,mm,e,b,l,a⟩ from h.1)
  simp only at hb1 hb2 hl1 hl2 fin hws
  have lift : ∀ (G : Nat → Option ByteArray),(∃ w,Ev G w ∧ w.size ≤ acc.size + 1000 * (wt ⟨k,w,v,mm,e,b,l,a⟩ + wtl r)) → (∀ n,ref1_lines_L0 (n + 1) (pre ++ ⟨k,w,v,mm,e,b,l,a⟩ :: r) (m : Int) in_ acc pre.length = G n) → ∃ w',Ev (fun n=>ref1_lines_L0 n (pre ++ ⟨k,w,v,mm,e,b,l,a⟩ :: r) (m : Int) in_ acc pre.length) w' ∧ w'.size ≤ acc.size + 1000 * (wt ⟨k,w,v,mm,e,b,l,a⟩ + wtl r) :=
   fun G ⟨w',k1,k2⟩ hG=>⟨w',Ev.step (Ev.of_eq hG k1),k2⟩
  cases hH
  case assign =>
   have he : okE 4 e:=by assumption
   have hw' : w ∈ [k_x,k_y,k_z,k_a,k_t]:=by assumption
   obtain ⟨⟨t,t1,t2⟩,_⟩:=show_ev 4 e he (by omega)
   have:=nm w hw'
   obtain ⟨w',f1,f2⟩:=fin ((w ++ x_203d20) ++ t) (by simp only [size_app]; omega)
   refine lift (fun n=>(ref1_show n e).bind fun r9=>bif sroom (w ++ x_203d20) r9 then FF n ((w ++ x_203d20) ++ r9) else none) ⟨w',Ev.bind t1 ?_,f2⟩ fun n=>?_
   ·simp only [show sroom (w ++ x_203d20) t = true from sroom_of (by simp only [size_app]; omega),cond_true]; exact f1
   ·simp only [ref1_lines_L0,ix_lt,cond_true,ix_get,Option.bind_some,jn,show sroom w x_203d20 = true from sroom_of (by omega),hFF]; try rfl
  case lock =>
   obtain ⟨w',f1,f2⟩:=fin (x_6c6f636b20 ++ k_m) (by simp only [size_app]; omega)
   refine lift (fun n=>FF n (x_6c6f636b20 ++ k_m)) ⟨w',f1,f2⟩ fun n=>?_
   simp only [ref1_lines_L0,ix_lt,cond_true,ix_get,Option.bind_some,jn,show sroom x_6c6f636b20 k_m = true from sroom_of (by omega),hFF]; try rfl
  case unlock =>
   obtain ⟨w',f1,f2⟩:=fin (x_756e6c6f636b20 ++ k_m) (by simp only [size_app]; omega)
   refine lift (fun n=>FF n (x_756e6c6f636b20 ++ k_m)) ⟨w',f1,f2⟩ fun n=>?_
   simp only [ref1_lines_L0,ix_lt,cond_true,ix_get,Option.bind_some,jn,show sroom x_756e6c6f636b20 k_m = true from sroom_of (by omega),hFF]; try rfl
  case send =>
   have he : okE 4 e:=by assumption
   have hw' : w ∈ [k_c,k_d]:=by assumption
   obtain ⟨⟨t,t1,t2⟩,_⟩:=show_ev 4 e he (by omega)
   have:=nc w hw'
   obtain ⟨w',f1,f2⟩:=fin (((x_73656e6420 ++ w) ++ x_20) ++ t) (by simp only [size_app]; omega)
   refine lift (fun n=>(ref1_show n e).bind fun r9=>bif sroom ((x_73656e6420 ++ w) ++ x_20) r9 then FF n (((x_73656e6420 ++ w) ++ x_20) ++ r9) else none) ⟨w',Ev.bind t1 ?_,f2⟩ fun n=>?_
   ·simp only [show sroom ((x_73656e6420 ++ w) ++ x_20) t = true from sroom_of (by simp only [size_app]; omega),cond_true]; exact f1
   ·simp only [ref1_lines_L0,ix_lt,cond_true,ix_get,Option.bind_some,jn,show sroom x_73656e6420 w = true from sroom_of (by omega),show sroom (x_73656e6420 ++ w) x_20 = true from sroom_of (by simp only [size_app]; omega),hFF]; try rfl
  case recv =>
   have hw' : w ∈ [k_c,k_d]:=by assumption
   have hv : v ∈ [k_x,k_y,k_z,k_a,k_t]:=by assumption
   have:=nc w hw'
   have:=nm v hv
   obtain ⟨w',f1,f2⟩:=fin (((x_7265637620 ++ w) ++ x_20) ++ v) (by simp only [size_app]; omega)
   refine lift (fun n=>FF n (((x_7265637620 ++ w) ++ x_20) ++ v)) ⟨w',f1,f2⟩ fun n=>?_
   simp only [ref1_lines_L0,ix_lt,cond_true,ix_get,Option.bind_some,jn,show sroom x_7265637620 w = true from sroom_of (by omega),show sroom (x_7265637620 ++ w) x_20 = true from sroom_of (by simp only [size_app]; omega),show sroom ((x_7265637620 ++ w) ++ x_20) v = true from sroom_of (by simp only [size_app]; omega),hFF]; try rfl
  case print =>
   have he : okE 4 e:=by assumption
   obtain ⟨⟨t,t1,t2⟩,_⟩:=show_ev 4 e he (by omega)
   obtain ⟨w',f1,f2⟩:=fin (x_7072696e7420 ++ t) (by simp only [size_app]; omega)
   refine lift (fun n=>(ref1_show n e).bind fun r9=>bif sroom x_7072696e7420 r9 then FF n (x_7072696e7420 ++ r9) else none) ⟨w',Ev.bind t1 ?_,f2⟩ fun n=>?_
   ·simp only [show sroom x_7072696e7420 t = true from sroom_of (by omega),cond_true]; exact f1
   ·simp only [ref1_lines_L0,ix_lt,cond_true,ix_get,Option.bind_some,jn,hFF]; try rfl
  case goto =>
   have hw' : w ∈ [k_l,k_k]:=by assumption
   have:=nl w hw'
   obtain ⟨w',f1,f2⟩:=fin (x_676f746f20 ++ w) (by simp only [size_app]; omega)
   refine lift (fun n=>FF n (x_676f746f20 ++ w)) ⟨w',f1,f2⟩ fun n=>?_
   simp only [ref1_lines_L0,ix_lt,cond_true,ix_get,Option.bind_some,jn,show sroom x_676f746f20 w = true from sroom_of (by omega),hFF]; try rfl
  case label =>
   have hw' : w ∈ [k_l,k_k]:=by assumption
   have:=nl w hw'
   obtain ⟨w',f1,f2⟩:=fin (x_6c6162656c20 ++ w) (by simp only [size_app]; omega)
   refine lift (fun n=>FF n (x_6c6162656c20 ++ w)) ⟨w',f1,f2⟩ fun n=>?_
   simp only [ref1_lines_L0,ix_lt,cond_true,ix_get,Option.bind_some,jn,show sroom x_6c6162656c20 w = true from sroom_of (by omega),hFF]; try rfl
  case rep =>
   have q0 : 0 ≤ mm:=by assumption
   have q1 : mm ≤ 2:=by assumption
   obtain ⟨t,t1,t2⟩:=digits_ev mm q0 (by omega)
   have hm1 : wr ((m : Int) + 1) = ((m + 1 : Nat) : Int):=by rw [wr_of (by omega)]; rfl
   obtain ⟨w',f1,f2⟩:=fin (((((x_72657065617420 ++ t) ++ x_207b0a) ++ wb) ++ in_) ++ x_7d) (by simp only [size_app]; omega)
   refine lift (fun n=>(ref1_Digits n mm).bind fun r36=>bif sroom x_72657065617420 r36 then bif sroom (x_72657065617420 ++ r36) x_207b0a then (ref1_lines n b ((m + 1 : Nat) : Int)).bind fun r39=>bif sroom ((x_72657065617420 ++ r36) ++ x_207b0a) r39 then bif sroom (((x_72657065617420 ++ r36) ++ x_207b0a) ++ r39) in_ then bif sroom ((((x_72657065617420 ++ r36) ++ x_207b0a) ++ r39) ++ in_) x_7d then
    FF n (((((x_72657065617420 ++ r36) ++ x_207b0a) ++ r39) ++ in_) ++ x_7d) else none else none else none else none else none) ⟨w',Ev.bind t1 ?_,f2⟩ fun n=>?_
   ·simp only [show sroom x_72657065617420 t = true from sroom_of (by omega),show sroom (x_72657065617420 ++ t) x_207b0a = true from sroom_of (by simp only [size_app]; omega),cond_true]
    refine Ev.bind hb1 ?_
    simp only [show sroom ((x_72657065617420 ++ t) ++ x_207b0a) wb = true from sroom_of (by simp only [size_app]; omega),show sroom (((x_72657065617420 ++ t) ++ x_207b0a) ++ wb) in_ = true from sroom_of (by simp only [size_app]; omega),show sroom ((((x_72657065617420 ++ t) ++ x_207b0a) ++ wb) ++ in_) x_7d = true from sroom_of (by simp only [size_app]; omega),cond_true]
    exact f1
   ·simp only [ref1_lines_L0,ix_lt,cond_true,ix_get,Option.bind_some,jn,hm1,decide_eq_true (show mm ≥ 0 from q0),hFF]; try rfl
  case cond =>
   have he : okE 4 e:=by assumption
   obtain ⟨⟨t,t1,t2⟩,_⟩:=show_ev 4 e he (by omega)
   have hm1 : wr ((m : Int) + 1) = ((m + 1 : Nat) : Int):=by rw [wr_of (by omega)]; rfl
   have s1 : sroom x_696620 t = true:=sroom_of (by omega)
   have s2 : sroom (x_696620 ++ t) x_207b0a = true:=sroom_of (by simp only [size_app]; omega)
   have s3 : sroom ((x_696620 ++ t) ++ x_207b0a) wb = true:=sroom_of (by simp only [size_app]; omega)
   have s4 : sroom (((x_696620 ++ t) ++ x_207b0a) ++ wb) in_ = true:=sroom_of (by simp only [size_app]; omega)
   have s5 : sroom ((((x_696620 ++ t) ++ x_207b0a) ++ wb) ++ in_) x_7d = true:=sroom_of (by simp only [size_app]; omega)
   cases hE : decide (ln l > 0)
   ·obtain ⟨w',f1,f2⟩:=fin (((((x_696620 ++ t) ++ x_207b0a) ++ wb) ++ in_) ++ x_7d) (by simp only [size_app]; omega)
    refine lift (fun n=>(ref1_show n e).bind fun r24=>bif sroom x_696620 r24 then bif sroom (x_696620 ++ r24) x_207b0a then (ref1_lines n b ((m + 1 : Nat) : Int)).bind fun r27=>bif sroom ((x_696620 ++ r24) ++ x_207b0a) r27 then bif sroom (((x_696620 ++ r24) ++ x_207b0a) ++ r27) in_ then bif sroom ((((x_696620 ++ r24) ++ x_207b0a) ++ r27) ++ in_) x_7d then
     FF n (((((x_696620 ++ r24) ++ x_207b0a) ++ r27) ++ in_) ++ x_7d) else none else none else none else none else none) ⟨w',Ev.bind t1 ?_,f2⟩ fun n=>?_
    ·simp only [s1,s2,cond_true]
     refine Ev.bind hb1 ?_
     simp only [s3,s4,s5,cond_true]
     exact f1
    ·simp only [ref1_lines_L0,ix_lt,cond_true,ix_get,Option.bind_some,jn,hm1,hE,cond_false,hFF]; try rfl
   ·have s6 : sroom (((((x_696620 ++ t) ++ x_207b0a) ++ wb) ++ in_) ++ x_7d) x_20656c7365207b0a = true:=sroom_of (by simp only [size_app]; omega)
    have s7 : sroom ((((((x_696620 ++ t) ++ x_207b0a) ++ wb) ++ in_) ++ x_7d) ++ x_20656c7365207b0a) wl = true:=sroom_of (by simp only [size_app]; omega)
    have s8 : sroom (((((((x_696620 ++ t) ++ x_207b0a) ++ wb) ++ in_) ++ x_7d) ++ x_20656c7365207b0a) ++ wl) in_ = true:=sroom_of (by simp only [size_app]; omega)
    have s9 : sroom ((((((((x_696620 ++ t) ++ x_207b0a) ++ wb) ++ in_) ++ x_7d) ++ x_20656c7365207b0a) ++ wl) ++ in_) x_7d = true:=sroom_of (by simp only [size_app]; omega)
    obtain ⟨w',f1,f2⟩:=fin (((((((((x_696620 ++ t) ++ x_207b0a) ++ wb) ++ in_) ++ x_7d) ++ x_20656c7365207b0a) ++ wl) ++ in_) ++ x_7d) (by simp only [size_app]; omega)
    refine lift (fun n=>(ref1_show n e).bind fun r24=>bif sroom x_696620 r24 then bif sroom (x_696620 ++ r24) x_207b0a then (ref1_lines n b ((m + 1 : Nat) : Int)).bind fun r27=>bif sroom ((x_696620 ++ r24) ++ x_207b0a) r27 then bif sroom (((x_696620 ++ r24) ++ x_207b0a) ++ r27) in_ then bif sroom ((((x_696620 ++ r24) ++ x_207b0a) ++ r27) ++ in_) x_7d then
     bif sroom (((((x_696620 ++ r24) ++ x_207b0a) ++ r27) ++ in_) ++ x_7d) x_20656c7365207b0a then (ref1_lines n l ((m + 1 : Nat) : Int)).bind fun r32=>bif sroom ((((((x_696620 ++ r24) ++ x_207b0a) ++ r27) ++ in_) ++ x_7d) ++ x_20656c7365207b0a) r32 then bif sroom (((((((x_696620 ++ r24) ++ x_207b0a) ++ r27) ++ in_) ++ x_7d) ++ x_20656c7365207b0a) ++ r32) in_ then bif sroom ((((((((x_696620 ++ r24) ++ x_207b0a) ++ r27) ++ in_) ++ x_7d) ++ x_20656c7365207b0a) ++ r32) ++ in_) x_7d then
     FF n (((((((((x_696620 ++ r24) ++ x_207b0a) ++ r27) ++ in_) ++ x_7d) ++ x_20656c7365207b0a) ++ r32) ++ in_) ++ x_7d) else none else none else none else none else none else none else none else none else none) ⟨w',Ev.bind t1 ?_,f2⟩ fun n=>?_
    ·simp only [s1,s2,cond_true]
     refine Ev.bind hb1 ?_
     simp only [s3,s4,s5,s6,cond_true]
     refine Ev.bind hl1 ?_
     simp only [s7,s8,s9,cond_true]
     exact f1
    ·simp only [ref1_lines_L0,ix_lt,cond_true,ix_get,Option.bind_some,jn,hm1,hE,hFF]; try rfl
theorem linesB_ev (l : List Stmt) (d m : Nat) (h : okSl d l) (hw : m + wtl l ≤ 2000) : ∃ w,Ev (fun n=>ref1_lines n l (m : Int)) w ∧ w.size ≤ 1000 * wtl l:=by
 have wlen : ∀ l : List Stmt,l.length ≤ wtl l:=by
  intro l
  induction l with
  | nil=>simp
  | cons s r ih=>cases s; rw [List.length_cons,wtl,wt]; omega
 obtain ⟨t,k1,k2⟩:=tabs_ev m (by omega)
 have z : b0.size = 0:=rfl
 obtain ⟨w,l1,l2⟩:=lines_ev.2 l d m t [] b0 h hw k2 (by have:=wlen l; simp; omega) (by omega)
 exact ⟨w,Ev.step (Ev.of_eq (g:=fun n=>(ref1_tabs n (m : Int)).bind fun r1=>ref1_lines_L0 n l (m : Int) r1 b0 0) (fun n=>by simp only [ref1_lines]) (Ev.bind k1 l1)),by omega⟩
def okSD (d : Decl) : Prop:=1 ≤ d.Kind ∧ d.Kind ≤ 6 ∧ 0 ≤ d.N ∧ d.N ≤ 9 ∧ d.Name.size ≤ 100
theorem Show_L1 (D : List Decl) (ts : List (List Stmt)) (w2 : ByteArray) (i3 : Int) (hts : ∀ t ∈ ts,∃ d,okSl d t ∧ wtl t ≤ 1900) (hn : ts.length ≤ 100) : ∀ (l pre : List (List Stmt)) (acc : ByteArray),ts = pre ++ l → acc.size + 3000000 * l.length ≤ 1000000000000 → ∃ w,Ev (fun n=>ref1_Show_L1 n ⟨D,ts⟩ w2 i3 acc pre.length) w
 | [],pre,acc,e,h=>by
  rw [List.append_nil] at e
  have l1 : decide ((pre.length : Int) < ln ts) = false:=by rw [e]; exact ix_ge _
  exact ⟨acc,Ev.step (Ev.of_eq (g:=fun n=>some acc) (fun n=>by simp only [ref1_Show_L1,l1,cond_false]) (Ev.ret _))⟩
 | t :: r,pre,acc,e,h=>by
  have hp : pre.length + 1 ≤ 100:=by have:=congrArg List.length e; simp at this; omega
  have l1 : decide ((pre.length : Int) < ln ts) = true:=by rw [e]; exact ix_lt _ _ _
  have l2 : idx ts (pre.length : Int) = some t:=by rw [e]; exact ix_get _ _ _
  obtain ⟨d,h1,h2⟩:=hts t (by rw [e]; simp)
  obtain ⟨wl,k1,k2⟩:=linesB_ev t d 1 h1 (by omega)
  rw [List.length_cons] at h
  have z1 : x_676f207b0a.size = 5:=rfl
  have z2 : x_7d0a.size = 2:=rfl
  have r1 : sroom acc x_676f207b0a = true:=sroom_of (by omega)
  have r2 : sroom (acc ++ x_676f207b0a) wl = true:=sroom_of (by rw [size_app]; omega)
  have r3 : sroom ((acc ++ x_676f207b0a) ++ wl) x_7d0a = true:=sroom_of (by rw [size_app,size_app]; omega)
  obtain ⟨w,m1⟩:=Show_L1 D ts w2 i3 hts hn r (pre ++ [t]) (((acc ++ x_676f207b0a) ++ wl) ++ x_7d0a) (by rw [e]; exact ix_cons _ _ _) (by simp only [size_app]; omega)
  refine ⟨w,Ev.step (Ev.of_eq (g:=fun n=>(ref1_lines n t ((1 : Nat) : Int)).bind fun r21=>bif sroom (acc ++ x_676f207b0a) r21 then bif sroom ((acc ++ x_676f207b0a) ++ r21) x_7d0a then ref1_Show_L1 n ⟨D,ts⟩ w2 i3 (((acc ++ x_676f207b0a) ++ r21) ++ x_7d0a) ((pre ++ [t]).length) else none else none) (fun n=>?_) (Ev.bind k1 ?_))⟩
  ·simp only [ref1_Show_L1,l1,l2,r1,cond_true,Option.bind_some]
   rw [ix_wr pre t (by omega)]; rfl
  ·simp only [r2,r3,cond_true]; exact m1
theorem Show_L0 (D : List Decl) (ts : List (List Stmt)) (hD : ∀ d ∈ D,okSD d) (hDn : D.length ≤ 1000) (hts : ∀ t ∈ ts,∃ d,okSl d t ∧ wtl t ≤ 1900) (hn : ts.length ≤ 100) : ∀ (l pre : List Decl) (acc : ByteArray),D = pre ++ l → acc.size + 1000 * l.length ≤ 100000000 → ∃ w,Ev (fun n=>ref1_Show_L0 n ⟨D,ts⟩ acc pre.length) w
 | [],pre,acc,e,h=>by
  rw [List.append_nil] at e
  have l1 : decide ((pre.length : Int) < ln D) = false:=by rw [e]; exact ix_ge _
  obtain ⟨w,m1⟩:=Show_L1 D ts acc (pre.length : Int) hts hn ts [] acc rfl (by simp at h; omega)
  exact ⟨w,Ev.step (Ev.of_eq (fun n=>by simp only [ref1_Show_L0,l1,cond_false]; rfl) m1)⟩
 | t :: r,pre,acc,e,h=>by
  have hp : pre.length + 1 ≤ 1000:=by have:=congrArg List.length e; simp at this; omega
  have l1 : decide ((pre.length : Int) < ln D) = true:=by rw [e]; exact ix_lt _ _ _
  have l2 : idx D (pre.length : Int) = some t:=by rw [e]; exact ix_get _ _ _
  obtain ⟨a1,a2,a3,a4,a5⟩:=hD t (by rw [e]; simp)
  rw [List.length_cons] at h
  have hw:=ix_wr pre t (by omega)
  obtain ⟨x7,hx7,z7⟩ : ∃ x7,idx [b0,k_var,k_wide,k_atomic,k_local,k_mutex,k_chan] t.Kind = some x7 ∧ x7.size ≤ 6:=by
   have : t.Kind = 1 ∨ t.Kind = 2 ∨ t.Kind = 3 ∨ t.Kind = 4 ∨ t.Kind = 5 ∨ t.Kind = 6:=by omega
   rcases this with h | h | h | h | h | h <;> rw [h] <;> exact ⟨_,rfl,by decide⟩
  have d1 : decide (t.Kind < 1) = false:=decide_eq_false (by omega)
  have d2 : decide (t.Kind > 6) = false:=decide_eq_false (by omega)
  have z20 : x_20.size = 1:=rfl
  have z0a : x_0a.size = 1:=rfl
  have r1 : sroom acc x7 = true:=sroom_of (by omega)
  have r2 : sroom (acc ++ x7) x_20 = true:=sroom_of (by rw [size_app]; omega)
  have r3 : sroom ((acc ++ x7) ++ x_20) t.Name = true:=sroom_of (by rw [size_app,size_app]; omega)
  by_cases h6 : t.Kind = 6
  ·have e6 : (t.Kind == 6) = true:=by simpa using h6
   have e7 : decide (t.N < 0) = false:=decide_eq_false (by omega)
   obtain ⟨wd,k1,k2⟩:=digits_ev t.N a3 a4
   have r4 : sroom (((acc ++ x7) ++ x_20) ++ t.Name) x_20 = true:=sroom_of (by simp only [size_app]; omega)
   have r5 : sroom ((((acc ++ x7) ++ x_20) ++ t.Name) ++ x_20) wd = true:=sroom_of (by simp only [size_app]; omega)
   have r6 : sroom (((((acc ++ x7) ++ x_20) ++ t.Name) ++ x_20) ++ wd) x_0a = true:=sroom_of (by simp only [size_app]; omega)
   obtain ⟨w,m1⟩:=Show_L0 D ts hD hDn hts hn r (pre ++ [t]) ((((((acc ++ x7) ++ x_20) ++ t.Name) ++ x_20) ++ wd) ++ x_0a) (by rw [e]; exact ix_cons _ _ _) (by simp only [size_app]; omega)
   refine ⟨w,Ev.step (Ev.of_eq (g:=fun n=>(ref1_Digits n t.N).bind fun r14=>bif sroom ((((acc ++ x7) ++ x_20) ++ t.Name) ++ x_20) r14 then bif sroom (((((acc ++ x7) ++ x_20) ++ t.Name) ++ x_20) ++ r14) x_0a then ref1_Show_L0 n ⟨D,ts⟩ ((((((acc ++ x7) ++ x_20) ++ t.Name) ++ x_20) ++ r14) ++ x_0a) ((pre ++ [t]).length) else none else none) (fun n=>?_) (Ev.bind k1 ?_))⟩
   ·simp only [ref1_Show_L0,l1,l2,jn,d1,d2,cond_true,cond_false,Option.bind_some,hx7,r1,r2,r3,e6,e7,r4,hw]
   ·simp only [r5,r6,cond_true]; exact m1
  ·have e6 : (t.Kind == 6) = false:=by simpa using h6
   have r6 : sroom (((acc ++ x7) ++ x_20) ++ t.Name) x_0a = true:=sroom_of (by simp only [size_app]; omega)
   obtain ⟨w,m1⟩:=Show_L0 D ts hD hDn hts hn r (pre ++ [t]) ((((acc ++ x7) ++ x_20) ++ t.Name) ++ x_0a) (by rw [e]; exact ix_cons _ _ _) (by simp only [size_app]; omega)
   refine ⟨w,Ev.step (Ev.of_eq (fun n=>?_) m1)⟩
   simp only [ref1_Show_L0,l1,l2,jn,d1,d2,cond_true,cond_false,Option.bind_some,hx7,r1,r2,r3,e6,r6,hw]
theorem Show_ev (D : List Decl) (ts : List (List Stmt)) (hD : ∀ d ∈ D,okSD d) (hDn : D.length ≤ 1000) (hts : ∀ t ∈ ts,∃ d,okSl d t ∧ wtl t ≤ 1900) (hn : ts.length ≤ 100) : ∃ w,Ev (fun n=>ref1_Show n ⟨D,ts⟩) w:=by
 have z : b0.size = 0:=rfl
 obtain ⟨w,h⟩:=Show_L0 D ts hD hDn hts hn D [] b0 rfl (by omega)
 exact ⟨w,Ev.of_eq (fun n=>by simp only [ref1_Show]; rfl) h⟩
theorem okSD_of {D : List Decl} (h : okDecls D) : (∀ d ∈ D,okSD d) ∧ D.length ≤ 1000:=by
 obtain ⟨k0,k1,r,hk,r0,r1,rfl⟩:=h
 refine ⟨fun d hd=>?_,by simp⟩
 have zx : k_x.size = 1:=rfl
 have zy : k_y.size = 1:=rfl
 have zz : k_z.size = 1:=rfl
 have za : k_a.size = 1:=rfl
 have zt : k_t.size = 1:=rfl
 have zm : k_m.size = 1:=rfl
 have zc : k_c.size = 1:=rfl
 have zd : k_d.size = 1:=rfl
 simp only [List.mem_cons,List.not_mem_nil,or_false] at hd
 rcases hd with rfl | rfl | rfl | rfl | rfl | rfl | rfl | rfl <;> refine ⟨?_,?_,?_,?_,?_⟩ <;> simp only <;> omega
end Go.Su.YtcadbebhhnggdaaGreat
