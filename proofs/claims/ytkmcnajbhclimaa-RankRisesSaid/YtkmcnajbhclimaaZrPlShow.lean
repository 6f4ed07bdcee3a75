/-
  Programs out of raw numbers are shown: to an end, in not too long a text.
-/
import Derived.Test.YtkmcnajbhclimaaZrPlWrp
import Derived.KernelRfl
namespace Go.Su.Ytkmcnajbhclimaa
open Go.Mx Go.Proofs
set_option linter.unusedVariables false
set_option linter.unusedSimpArgs false
set_option maxHeartbeats 4000000
theorem wrapu (x : Nat) (h : x < 4294967296) : IntKind.u64.wrap (x : Int) = x:=by
 simp only [IntKind.wrap,IntKind.bits,IntKind.signed,Bool.false_and,Bool.false_eq_true,if_false]
 omega
theorem mask32 (x : Nat) (h : x < 4294967296) : (BitVec.ofInt 64 (x : Int) &&& BitVec.ofInt 64 4294967295).toNat = x:=by
 have e1 : (BitVec.ofInt 64 (x : Int)).toNat = x:=by
  rw [BitVec.toNat_ofInt]; omega
 have e2 : (BitVec.ofInt 64 4294967295).toNat = 2 ^ 32 - 1:=rfl
 rw [BitVec.toNat_and,e1,e2,Nat.and_two_pow_sub_one_eq_mod]; omega
theorem shr32 (x : Nat) (h : x < 4294967296) : ishr .u64 (x : Int) 32 = some 0:=by
 have e : (x : Int).fdiv (2 ^ min (32 : Int).toNat IntKind.u64.bits) = 0:=by
  have : ((2 : Int) ^ min (32 : Int).toNat IntKind.u64.bits) = 4294967296:=rfl
  rw [this,Int.fdiv_eq_ediv_of_nonneg _ (by omega)]; omega
 unfold ishr
 rw [e]; rfl
theorem mul_ev (n m : Nat) (h : m ≤ 1000000) : math_bits_Mul n (IntKind.u64.wrap (1 : Int)) (IntKind.u64.wrap (m : Int)) = some (0,(m : Int)):=by
 have w1 : IntKind.u64.wrap (1 : Int) = ((1 : Nat) : Int):=rfl
 have wm:=wrapu m (by omega)
 have w0 : IntKind.u64.wrap (0 : Int) = ((0 : Nat) : Int):=rfl
 have m1:=mask32 1 (by omega)
 have mm:=mask32 m (by omega)
 have m0:=mask32 0 (by omega)
 have s1:=shr32 1 (by omega)
 have sm:=shr32 m (by omega)
 have s0:=shr32 0 (by omega)
 rw [w1,wm]
 have z : ((0 : Nat) : Int) = 0:=rfl
 have o : ((1 : Nat) : Int) = 1:=rfl
 have e1 : math_bits_Mul64 n ((1 : Nat) : Int) (m : Int) = some (0,(m : Int)):=by
  unfold math_bits_Mul64
  simp only [s1,sm,Option.bind_some,m1,mm,w1,wm,o,Int.one_mul,Int.zero_mul,Int.add_zero,Int.zero_add,w0,s0,z,m0]
  have:=mask32 0 (by omega)
  simp_all
 unfold math_bits_Mul
 rw [e1]; rfl
theorem rcopy_rep {k : Int} {l : List Int} {i m : Nat} (hl : l.length = m) (ht : l.take i = List.replicate i k) (hi : i ≤ m) : (rcopy l i).take (i + min i (m - i)) = List.replicate (i + min i (m - i)) k ∧ (rcopy l i).length = m:=by
 refine ⟨?_,by rw [rcopy_length,hl]⟩
 unfold rcopy lov
 rw [ht,hl]
 have h1 : (List.replicate i k).take (min i (m - i)) = List.replicate (min i (m - i)) k:=by rw [List.take_replicate]; congr 1; omega
 rw [h1]
 rw [← List.replicate_append_replicate,List.take_append_of_le_length (by simp),List.take_of_length_le (by simp)]
theorem repeat_L0 (k : Int) (a1 : Int) (r1 : Int × Int) (b2 : Bool) (m : Nat) (hm : m ≤ 1000000) : ∀ (j i : Nat) (l : List Int),m - i ≤ j → l.length = m → l.take i = List.replicate i k → 1 ≤ i → i ≤ m →
  Ev (fun n=>Repeat_int_L0 n [k] a1 r1 b2 l (i : Int)) (List.replicate m k):=by
 intro j
 induction j with
 | zero =>
  intro i l hj hl ht h1 hi
  have : i = m:=by omega
  subst this
  have e : l = List.replicate i k:=by rw [← ht,List.take_of_length_le (by omega)]
  refine Ev.step (Ev.of_eq (g:=fun n=>some l) (fun n=>?_) (by rw [e]; exact Ev.ret _))
  have l1 : decide ((i : Int) < ln l) = false:=decide_eq_false (by show ¬ (i : Int) < (l.length : Int); omega)
  simp only [Repeat_int_L0,l1,cond_false]
 | succ j ih =>
  intro i l hj hl ht h1 hi
  by_cases hlt : i < m
  ·have l1 : decide ((i : Int) < ln l) = true:=decide_eq_true (by show (i : Int) < (l.length : Int); omega)
   have l2 : inR (i : Int) l.length = true:=by unfold inR; simp; omega
   have hr:=rcopy_rep hl ht hi
   have e : wr ((i : Int) + ((min (i : Int).toNat (l.length - (i : Int).toNat) : Nat) : Int)) = ((i + min i (m - i) : Nat) : Int):=by
    rw [show (i : Int).toNat = i by omega,hl,wr_of (by omega)]; omega
   refine Ev.step (Ev.of_eq (g:=fun n=>Repeat_int_L0 n [k] a1 r1 b2 (rcopy l i) ((i + min i (m - i) : Nat) : Int)) (fun n=>?_) (ih _ _ (by omega) hr.2 hr.1 (by omega) (by omega)))
   simp only [Repeat_int_L0,l1,l2,cond_true,e]
   rw [show (i : Int).toNat = i by omega]
  ·have : i = m:=by omega
   subst this
   have e : l = List.replicate i k:=by rw [← ht,List.take_of_length_le (by omega)]
   refine Ev.step (Ev.of_eq (g:=fun n=>some l) (fun n=>?_) (by rw [e]; exact Ev.ret _))
   have l1 : decide ((i : Int) < ln l) = false:=decide_eq_false (by show ¬ (i : Int) < (l.length : Int); omega)
   simp only [Repeat_int_L0,l1,cond_false]
theorem repeat_ev (k : Int) (m : Nat) (hm : m ≤ 1000000) : Ev (fun n=>Repeat_int n [k] (m : Int)) (List.replicate m k):=by
 have hneg : decide ((m : Int) < 0) = false:=decide_eq_false (by omega)
 have hw : wr (m : Int) = (m : Int):=wr_of (by omega)
 have hroom : mroom s_int.i1.bytes (m : Int) = true:=by
  have : s_int.i1.bytes = 8:=rfl
  unfold mroom roomB
  rw [this]; simp; omega
 have hb : decide ((0 : Int) > 0) = false:=rfl
 have hb2 : decide ((m : Int) > 9223372036854775807) = false:=decide_eq_false (by omega)
 refine Ev.of_eq (g:=fun n=>Repeat_int_L0 n [k] (m : Int) (0,(m : Int)) false (lcopy (List.replicate m (0 : Int)) [k]) ((min 1 m : Nat) : Int)) (fun n=>?_) ?_
 ·have:=mul_ev n m hm
  have e2 : IntKind.u64.wrap (ln [k]) = IntKind.u64.wrap (1 : Int):=rfl
  simp only [Repeat_int,hneg,cond_false,e2,this,Option.bind_some,jn,hb,hb2,hw,hroom,cond_true,List.length_replicate]
  rw [show (m : Int).toNat = m by omega]; rfl
 ·rcases Nat.eq_zero_or_pos m with rfl | hp
  ·exact Ev.step (Ev.of_eq (g:=fun n=>some []) (fun n=>by simp only [Repeat_int_L0]; rfl) (Ev.ret _))
  ·have e : min 1 m = 1:=by omega
   rw [e]
   refine repeat_L0 k _ _ _ m hm m 1 _ (by omega) (by rw [lcopy_length]; simp) ?_ (by omega) hp
   unfold lcopy lov
   simp only [List.length_singleton,List.length_replicate,e,List.take_zero,List.nil_append]
   simp
end Go.Su.Ytkmcnajbhclimaa
namespace Go.Su.Ytkmcnajbhclimaa
open Go.Mx Go.Proofs
set_option linter.unusedVariables false
set_option linter.unusedSimpArgs false
set_option maxHeartbeats 4000000
def toI (l : List Nat) : List Int:=l.map fun (k : Nat)=>(k : Int)
theorem roomL (a b : Nat) (h : a + b ≤ 1000000) : room s_Lint.i1.bytes a b = true:=room_of (by
 have : s_Lint.i1.bytes = 24:=rfl
 rw [this]; omega)
theorem roomA (a b : Nat) (h : a + b ≤ 1000000) : room s_Arr2_i64.i1.bytes a b = true:=room_of (by
 have : s_Arr2_i64.i1.bytes = 16:=rfl
 rw [this]; omega)
def enL : List Stmt → Nat → List Int
 | [],_=>[]
 | s :: r,i=>((i + (wn s + 1) : Nat) : Int) :: enL r (i + 1)
theorem enL_len : ∀ (l : List Stmt) (i : Nat),(enL l i).length = l.length
 | [],_=>rfl
 | s :: r,i=>by rw [enL,List.length_cons,List.length_cons,enL_len r (i + 1)]
theorem enL_app : ∀ (a b : List Stmt) (i : Nat),enL (a ++ b) i = enL a i ++ enL b (i + a.length)
 | [],b,i=>by simp [enL]
 | s :: r,b,i=>by rw [List.cons_append,enL,enL,enL_app r b (i + 1),List.cons_append,List.length_cons,show i + 1 + r.length = i + (r.length + 1) by omega]
theorem enL_get : ∀ (l : List Stmt) (i k : Nat) (s : Stmt),l[k]? = some s → (enL l i)[k]? = some ((i + k + (wn s + 1) : Nat) : Int)
 | [],_,_,_,h=>by simp at h
 | x :: r,i,0,s,h=>by
  have : x = s:=by simpa using h
  subst this; rfl
 | x :: r,i,k + 1,s,h=>by
  rw [enL,List.getElem?_cons_succ,enL_get r (i + 1) k s (by simpa using h)]
  congr 2; omega
theorem enL_idx (l : List Stmt) (k : Nat) (s : Stmt) (h : l[k]? = some s) : idx (enL l 0) (k : Int) = some ((k + (wn s + 1) : Nat) : Int):=by
 refine idx_of (by omega) ?_
 rw [Int.toNat_natCast,enL_get l 0 k s h,Nat.zero_add]
theorem ends_L0 (p : Prog) (S : List Stmt) (hS : S.length ≤ 400000) (hz : ∀ x ∈ S,szS x ≤ 400000) : ∀ (l pre : List Stmt),S = pre ++ l → Ev (fun n=>rank_ends_L0 n p S (enL pre 0) pre.length) (enL S 0)
 | [],pre,e=>by
  rw [List.append_nil] at e
  subst e
  exact Ev.step (Ev.of_eq (g:=fun n=>some (enL S 0)) (fun n=>by simp only [rank_ends_L0,ix_ge,cond_false]) (Ev.ret _))
 | x :: r,pre,e=>by
  have hp : pre.length + 1 ≤ 400000:=by rw [e] at hS; simp at hS; omega
  have hx:=hz x (by rw [e]; simp)
  have hw:=flat_len.1 x
  rw [fl1_len] at hw
  have d : decide ((pre.length : Int) < ln S) = true:=by rw [e]; exact ix_lt _ _ _
  have g : idx S (pre.length : Int) = some x:=by rw [e]; exact ix_get _ _ _
  have el:=List_ev [] [[x]] (by simp only [szT,szSl]; omega)
  have hf : ln (flats [[x]]) = ((wn x + 1 : Nat) : Int):=by
   show ((flats [[x]]).length : Int) = _
   simp only [flats,flat,List.append_nil,fl1_len]
  have ew : wr ((pre.length : Int) + ((wn x + 1 : Nat) : Int)) = ((pre.length + (wn x + 1) : Nat) : Int):=by rw [wr_of (by omega)]; omega
  have rm : ∀ v : Int,room s_int.i1.bytes (enL pre 0).length [v].length = true:=fun v=>roomC _ _ (by rw [enL_len]; simp; omega)
  have nx:=ends_L0 p S hS hz r (pre ++ [x]) (by rw [e]; exact ix_cons _ _ _)
  rw [enL_app,Nat.zero_add] at nx
  refine Ev.step (Ev.of_eq (g:=fun n=>(tree_List n (Prog.mk [] [[x]])).bind fun r5=>bif room s_int.i1.bytes (enL pre 0).length [wr ((pre.length : Int) + (ln r5))].length then rank_ends_L0 n p S (enL pre 0 ++ [wr ((pre.length : Int) + (ln r5))]) ((pre ++ [x]).length) else none) (fun n=>?_) (Ev.bind el (Ev.yes (rm _) (by rw [hf,ew]; exact nx))))
  simp only [rank_ends_L0,d,g,cond_true,Option.bind_some]
  rw [ix_wr pre x (by omega)]
theorem ends_ev (D : List Decl) (ts : List (List Stmt)) (hz : szT ts ≤ 100000) : Ev (fun n=>rank_ends n ⟨D,ts⟩) (enL (flats ts) 0):=by
 have l1:=len_T ts
 exact Ev.of_eq (g:=fun n=>(tree_List n ⟨D,ts⟩).bind fun r1=>rank_ends_L0 n ⟨D,ts⟩ r1 [] 0) (fun n=>by simp only [rank_ends]) (Ev.bind (List_ev D ts (by omega)) (ends_L0 ⟨D,ts⟩ (flats ts) (by omega) (fun x hx=>by have:=sz_flats ts x hx; omega) (flats ts) [] rfl))
def lt1 (E : List Int) (j k : Int) : Bool:=decide (j < k) && decide (k < (idx E j).getD 0)
def ins (E A B : List Int) : Bool:=B.any fun k=>A.any fun j=>lt1 E j k
theorem w11_ev (E : List Int) (j k : Int) (h : (idx E j).isSome = true) : Ev (fun n=>rank_within_1_1 n j k E) (lt1 E j k):=by
 obtain ⟨v,hv⟩:=Option.isSome_iff_exists.1 h
 unfold lt1
 rw [hv]
 cases c : decide (j < k)
 ·exact Ev.of_eq (g:=fun n=>some false) (fun n=>by simp only [rank_within_1_1,jn,c,cond_false]) (Ev.ret _)
 ·exact Ev.of_eq (g:=fun n=>some (decide (k < v))) (fun n=>by simp only [rank_within_1_1,jn,c,cond_true,hv,Option.bind_some]) (by simpa using Ev.ret (decide (k < v)))
theorem i11_L0 (E : List Int) (k : Int) : ∀ (l pre : List Int),(pre ++ l).length ≤ 2000000 → (∀ j ∈ l,(idx E j).isSome = true) → ∃ r,Ev (fun n=>IndexFunc_int_frank_within_1_1_L0 n (pre ++ l) k E pre.length) r ∧ decide (r ≥ 0) = l.any fun j=>lt1 E j k
 | [],pre,h,hs=>⟨-1,Ev.step (Ev.of_eq (g:=fun n=>some (-1)) (fun n=>by simp only [IndexFunc_int_frank_within_1_1_L0,List.append_nil,ix_ge,cond_false]) (Ev.ret _)),rfl⟩
 | x :: r,pre,h,hs=>by
  have hp : pre.length + 1 ≤ 2000000:=by simp at h; omega
  have hc:=w11_ev E x k (hs x (by simp))
  have base : ∀ n,IndexFunc_int_frank_within_1_1_L0 (n + 1) (pre ++ x :: r) k E pre.length = (rank_within_1_1 n x k E).bind fun r3=>bif r3 then some (pre.length : Int) else IndexFunc_int_frank_within_1_1_L0 n ((pre ++ [x]) ++ r) k E ((pre ++ [x]).length):=by
   intro n
   simp only [IndexFunc_int_frank_within_1_1_L0,ix_lt,ix_get,cond_true,Option.bind_some]
   rw [ix_wr pre x (by omega),← ix_cons]
  cases hb : lt1 E x k
  ·obtain ⟨q,h1,h2⟩:=i11_L0 E k r (pre ++ [x]) (by rw [← ix_cons]; exact h) (fun j hj=>hs j (by simp [hj]))
   exact ⟨q,Ev.step (Ev.of_eq base (Ev.bind hc (Ev.no hb h1))),by rw [h2]; simp [hb]⟩
  ·exact ⟨(pre.length : Int),Ev.step (Ev.of_eq base (Ev.bind hc (Ev.yes hb (Ev.ret _)))),by simp [hb]⟩
theorem w1_ev (E A : List Int) (k : Int) (hl : A.length ≤ 2000000) (hs : ∀ j ∈ A,(idx E j).isSome = true) : Ev (fun n=>rank_within_1 n k A E) (A.any fun j=>lt1 E j k):=by
 obtain ⟨r,h1,h2⟩:=i11_L0 E k A [] (by simpa using hl) hs
 have e : Ev (fun n=>IndexFunc_int_frank_within_1_1 n A k E) r:=Ev.of_eq (fun n=>by simp only [IndexFunc_int_frank_within_1_1]; rfl) h1
 exact Ev.of_eq (g:=fun n=>((IndexFunc_int_frank_within_1_1 n A k E).bind fun r1=>some (decide (r1 ≥ 0))).bind fun r1=>some r1) (fun n=>by simp only [rank_within_1,ContainsFunc_int_frank_within_1_1]) (Ev.bind (Ev.bind e (Ev.ret _)) (by rw [h2]; exact Ev.ret _))
theorem i1_L0 (E A : List Int) (hA : A.length ≤ 2000000) (hs : ∀ j ∈ A,(idx E j).isSome = true) : ∀ (l pre : List Int),(pre ++ l).length ≤ 2000000 → ∃ r,Ev (fun n=>IndexFunc_int_frank_within_1_L0 n (pre ++ l) A E pre.length) r ∧ decide (r ≥ 0) = ins E A l
 | [],pre,h=>⟨-1,Ev.step (Ev.of_eq (g:=fun n=>some (-1)) (fun n=>by simp only [IndexFunc_int_frank_within_1_L0,List.append_nil,ix_ge,cond_false]) (Ev.ret _)),rfl⟩
 | x :: r,pre,h=>by
  have hp : pre.length + 1 ≤ 2000000:=by simp at h; omega
  have hc:=w1_ev E A x hA hs
  have base : ∀ n,IndexFunc_int_frank_within_1_L0 (n + 1) (pre ++ x :: r) A E pre.length = (rank_within_1 n x A E).bind fun r3=>bif r3 then some (pre.length : Int) else IndexFunc_int_frank_within_1_L0 n ((pre ++ [x]) ++ r) A E ((pre ++ [x]).length):=by
   intro n
   simp only [IndexFunc_int_frank_within_1_L0,ix_lt,ix_get,cond_true,Option.bind_some]
   rw [ix_wr pre x (by omega),← ix_cons]
  unfold ins
  cases hb : A.any fun j=>lt1 E j x
  ·obtain ⟨q,h1,h2⟩:=i1_L0 E A hA hs r (pre ++ [x]) (by rw [← ix_cons]; exact h)
   exact ⟨q,Ev.step (Ev.of_eq base (Ev.bind hc (Ev.no hb h1))),by rw [h2,List.any_cons,hb]; rfl⟩
  ·exact ⟨(pre.length : Int),Ev.step (Ev.of_eq base (Ev.bind hc (Ev.yes hb (Ev.ret _)))),by rw [List.any_cons,hb,Bool.true_or]; simp⟩
theorem within_ev (E A B : List Int) (hA : A.length ≤ 2000000) (hB : B.length ≤ 2000000) (hs : ∀ j ∈ A,(idx E j).isSome = true) : Ev (fun n=>rank_within n B A E) (ins E A B):=by
 obtain ⟨r,h1,h2⟩:=i1_L0 E A hA hs B [] (by simpa using hB)
 have e : Ev (fun n=>IndexFunc_int_frank_within_1 n B A E) r:=Ev.of_eq (fun n=>by simp only [IndexFunc_int_frank_within_1]; rfl) h1
 exact Ev.of_eq (g:=fun n=>((IndexFunc_int_frank_within_1 n B A E).bind fun r1=>some (decide (r1 ≥ 0))).bind fun r1=>some r1) (fun n=>by simp only [rank_within,ContainsFunc_int_frank_within_1]) (Ev.bind (Ev.bind e (Ev.ret _)) (by rw [h2]; exact Ev.ret _))
def pbs (E A : List Int) (a : Nat) : List (List Int) → Nat → List Arr2_i64
 | [],_=>[]
 | B :: r,b=>(bif ((a : Int) != (b : Int)) && ins E A B then [⟨a,b⟩] else []) ++ pbs E A a r (b + 1)
def pas (E : List Int) (W : List (List Int)) : List (List Int) → Nat → List Arr2_i64
 | [],_=>[]
 | A :: r,a=>pbs E A a W 0 ++ pas E W r (a + 1)
theorem pbs_len (E A : List Int) (a : Nat) : ∀ (W : List (List Int)) (b : Nat),(pbs E A a W b).length ≤ W.length
 | [],_=>by simp [pbs]
 | B :: r,b=>by
  rw [pbs,List.length_append,List.length_cons]
  have:=pbs_len E A a r (b + 1)
  cases ((a : Int) != (b : Int)) && ins E A B <;> simp <;> omega
theorem in_L2 (p : Prog) (gs : List (List ByteArray)) (W : List (List Int)) (i2 : Int) (E : List Int) (l7 : List Arr2_i64) (a : Nat) (A : List Int) (hg : gs.length = W.length) (hw : W.length ≤ 100) (hlen : ∀ B ∈ W,B.length ≤ 2000000) (hA : W[a]? = some A) (hs : ∀ j ∈ A,(idx E j).isSome = true) (R : List Arr2_i64) :
  ∀ (l pre : List (List Int)) (acc : List Arr2_i64),W = pre ++ l → acc.length + l.length ≤ 100000 → Ev (fun n=>rank_Inside_L1 n p gs W i2 E (acc ++ pbs E A a l pre.length) E ((a + 1 : Nat) : Int)) R →
   Ev (fun n=>rank_Inside_L2 n p gs W i2 E l7 E (a : Int) acc pre.length) R
 | [],pre,acc,e,h1,h=>by
  rw [List.append_nil] at e
  have d : decide ((pre.length : Int) < ln gs) = false:=decide_eq_false (by show ¬ ((pre.length : Nat) : Int) < ((gs.length : Nat) : Int); rw [hg,e]; omega)
  have ha : a < W.length:=(List.getElem?_eq_some_iff.1 hA).1
  have e3 : wr ((a : Int) + 1) = ((a + 1 : Nat) : Int):=by rw [wr_of (by omega)]; rfl
  refine Ev.step (Ev.of_eq (fun n=>?_) (by simpa [pbs] using h))
  simp only [rank_Inside_L2,d,cond_false,e3]; rfl
 | B :: r,pre,acc,e,h1,h=>by
  have hp : pre.length + 1 ≤ 100:=by rw [e] at hw; simp at hw; omega
  simp only [List.length_cons] at h1
  have ha : a < W.length:=(List.getElem?_eq_some_iff.1 hA).1
  have d : decide ((pre.length : Int) < ln gs) = true:=decide_eq_true (by show ((pre.length : Nat) : Int) < ((gs.length : Nat) : Int); rw [hg,e]; simp; omega)
  have gB : idx W (pre.length : Int) = some B:=by rw [e]; exact ix_get _ _ _
  have gA : idx W (a : Int) = some A:=idx_of (by omega) (by rw [Int.toNat_natCast]; exact hA)
  have hAm : A ∈ W:=List.mem_of_getElem? hA
  have hBm : B ∈ W:=by rw [e]; simp
  have wv:=within_ev E A B (hlen A hAm) (hlen B hBm) hs
  have rm : room s_Arr2_i64.i1.bytes acc.length [(Arr2_i64.mk (a : Int) (pre.length : Int))].length = true:=roomA _ _ (by simp; omega)
  rw [pbs] at h
  have base : ∀ n,rank_Inside_L2 (n + 1) p gs W i2 E l7 E (a : Int) acc pre.length =
    (fun J15 : Bool → Option (List Arr2_i64)=>bif ((a : Int) != (pre.length : Int)) then (rank_within n B A E).bind J15 else J15 false) fun b14=>bif b14 then rank_Inside_L2 n p gs W i2 E l7 E (a : Int) (acc ++ [⟨(a : Int),(pre.length : Int)⟩]) ((pre ++ [B]).length) else rank_Inside_L2 n p gs W i2 E l7 E (a : Int) acc ((pre ++ [B]).length):=by
   intro n
   simp only [rank_Inside_L2,d,cond_true,jn,gA,gB,Option.bind_some,rm]
   rw [ix_wr pre B (by omega)]
  refine Ev.step (Ev.of_eq base ?_)
  cases c : ((a : Int) != (pre.length : Int))
  ·rw [c] at h
   simp only [Bool.false_and,cond_false,List.nil_append] at h ⊢
   exact in_L2 p gs W i2 E l7 a A hg hw hlen hA hs R r (pre ++ [B]) acc (by rw [e]; exact ix_cons _ _ _) (by omega) (by simpa using h)
  ·rw [c] at h
   simp only [Bool.true_and,cond_true] at h ⊢
   refine Ev.bind wv ?_
   cases hb : ins E A B
   ·rw [hb] at h
    exact in_L2 p gs W i2 E l7 a A hg hw hlen hA hs R r (pre ++ [B]) acc (by rw [e]; exact ix_cons _ _ _) (by omega) (by simpa using h)
   ·rw [hb] at h
    exact in_L2 p gs W i2 E l7 a A hg hw hlen hA hs R r (pre ++ [B]) (acc ++ [⟨(a : Int),(pre.length : Int)⟩]) (by rw [e]; exact ix_cons _ _ _) (by simp; omega) (by simpa using h)
theorem in_L1 (p : Prog) (gs : List (List ByteArray)) (W : List (List Int)) (i2 : Int) (E : List Int) (hg : gs.length = W.length) (hw : W.length ≤ 100) (hlen : ∀ B ∈ W,B.length ≤ 2000000) (hs : ∀ A ∈ W,∀ j ∈ A,(idx E j).isSome = true) :
  ∀ (l pre : List (List Int)) (acc : List Arr2_i64),W = pre ++ l → acc.length ≤ 100 * pre.length → Ev (fun n=>rank_Inside_L1 n p gs W i2 E acc E pre.length) (acc ++ pas E W l pre.length)
 | [],pre,acc,e,h1=>by
  rw [List.append_nil] at e
  have d : decide ((pre.length : Int) < ln gs) = false:=decide_eq_false (by show ¬ ((pre.length : Nat) : Int) < ((gs.length : Nat) : Int); rw [hg,e]; omega)
  exact Ev.step (Ev.of_eq (g:=fun n=>some acc) (fun n=>by simp only [rank_Inside_L1,d,cond_false,Clip_2int,sub_all,Option.bind_some]) (by simpa [pas] using Ev.ret acc))
 | A :: r,pre,acc,e,h1=>by
  have hp : pre.length + 1 ≤ 100:=by rw [e] at hw; simp at hw; omega
  have d : decide ((pre.length : Int) < ln gs) = true:=decide_eq_true (by show ((pre.length : Nat) : Int) < ((gs.length : Nat) : Int); rw [hg,e]; simp; omega)
  have gA : W[pre.length]? = some A:=by rw [e]; simp
  have hl:=pbs_len E A pre.length W 0
  have nx:=in_L1 p gs W i2 E hg hw hlen hs r (pre ++ [A]) (acc ++ pbs E A pre.length W 0) (by rw [e]; exact ix_cons _ _ _) (by simp; omega)
  have n2:=in_L2 p gs W i2 E acc pre.length A hg hw hlen gA (hs A (by rw [e]; simp)) (acc ++ pas E W (A :: r) pre.length) W [] acc rfl (by omega) (by rw [pas]; simpa using nx)
  refine Ev.step (Ev.of_eq (fun n=>?_) n2)
  simp only [rank_Inside_L1,d,cond_true]; rfl
theorem in_L0 (p : Prog) (gs : List (List ByteArray)) (hg : gs.length ≤ 100) (Wf : List ByteArray → List Int) (E : List Int) (hW : ∀ g ∈ gs,Ev (fun n=>cost_Wrapped n p g) (Wf g)) (hE : Ev (fun n=>rank_ends n p) E) (R : List Arr2_i64)
  (hend : Ev (fun n=>rank_Inside_L1 n p gs (gs.map Wf) ((gs.length : Nat) : Int) E [] E 0) R) : ∀ (l pre : List (List ByteArray)),gs = pre ++ l → Ev (fun n=>rank_Inside_L0 n p gs (pre.map Wf) pre.length) R
 | [],pre,e=>by
  rw [List.append_nil] at e
  subst e
  refine Ev.step (Ev.of_eq (g:=fun n=>(rank_ends n p).bind fun r6=>rank_Inside_L1 n p gs (gs.map Wf) ((gs.length : Nat) : Int) r6 [] r6 0) (fun n=>?_) (Ev.bind hE hend))
  simp only [rank_Inside_L0,ix_ge,cond_false]
 | g :: r,pre,e=>by
  have hp : pre.length + 1 ≤ 100:=by rw [e] at hg; simp at hg; omega
  have d : decide ((pre.length : Int) < ln gs) = true:=by rw [e]; exact ix_lt _ _ _
  have gg : idx gs (pre.length : Int) = some g:=by rw [e]; exact ix_get _ _ _
  have nx:=in_L0 p gs hg Wf E hW hE R hend r (pre ++ [g]) (by rw [e]; exact ix_cons _ _ _)
  refine Ev.step (Ev.of_eq (g:=fun n=>(cost_Wrapped n p g).bind fun r4=>bif room s_Lint.i1.bytes (pre.map Wf).length [r4].length then rank_Inside_L0 n p gs (pre.map Wf ++ [r4]) ((pre ++ [g]).length) else none) (fun n=>?_) (Ev.bind (hW g (by rw [e]; simp)) (Ev.yes (roomL _ _ (by simp; omega)) (by simpa using nx))))
  simp only [rank_Inside_L0,d,gg,cond_true,Option.bind_some]
  rw [ix_wr pre g (by omega)]
def wf (ts : List (List Stmt)) (g : List ByteArray) : List Int:=toI (wrp (flats ts) g (flats ts).length 0)
def inside (ts : List (List Stmt)) (gs : List (List ByteArray)) : List Arr2_i64:=pas (enL (flats ts) 0) (gs.map (wf ts)) (gs.map (wf ts)) 0
theorem wf_mem (ts : List (List Stmt)) (g : List ByteArray) : ∀ j ∈ wf ts g,∃ (k : Nat) (s : Stmt),j = k ∧ (flats ts)[k]? = some s:=by
 intro j hj
 unfold wf toI at hj
 obtain ⟨k,hk,rfl⟩:=List.mem_map.1 hj
 obtain ⟨_,s,hs,_⟩:=wrp_lo _ _ _ _ _ hk
 exact ⟨k,s,rfl,hs⟩
theorem wf_some (ts : List (List Stmt)) (g : List ByteArray) : ∀ j ∈ wf ts g,(idx (enL (flats ts) 0) j).isSome = true:=by
 intro j hj
 obtain ⟨k,s,rfl,hs⟩:=wf_mem ts g j hj
 rw [enL_idx _ k s hs]; rfl
theorem wrp_len (r : List Stmt) (nm : List ByteArray) : ∀ m i,(wrp r nm m i).length ≤ m:=by
 intro m
 induction m with
 | zero=>intro i; simp [wrp]
 | succ m ih =>
  intro i
  rw [wrp]
  cases g : r[i]? with
  | none=>simp
  | some s =>
   cases c : hit s nm
   ·simp only [c,cond_false]; have:=ih (i + 1); omega
   ·simp only [c,cond_true,List.length_cons]; have:=ih (i + (wn s + 1)); omega
theorem Inside_ev (D : List Decl) (ts : List (List Stmt)) (gs : List (List ByteArray)) (hz : szT ts ≤ 50000) (hg : gs.length ≤ 100) (hn : ∀ g ∈ gs,g.length ≤ 4000000) : Ev (fun n=>rank_Inside n ⟨D,ts⟩ gs) (inside ts gs):=by
 have l1:=len_T ts
 have hw : ∀ g,(wf ts g).length ≤ 2000000:=fun g=>by
  have:=wrp_len (flats ts) g (flats ts).length 0
  unfold wf toI
  rw [List.length_map]; omega
 refine Ev.of_eq (fun n=>by simp only [rank_Inside]; rfl) (in_L0 ⟨D,ts⟩ gs hg (wf ts) (enL (flats ts) 0) (fun g hgm=>wrp_ev D ts g (hn g hgm) (by omega)) (ends_ev D ts (by omega)) _ ?_ gs [] rfl)
 exact in_L1 ⟨D,ts⟩ gs (gs.map (wf ts)) _ (enL (flats ts) 0) (by simp) (by simpa using hg) (fun B hB=>by obtain ⟨g,_,rfl⟩:=List.mem_map.1 hB; exact hw g) (fun A hA=>by obtain ⟨g,_,rfl⟩:=List.mem_map.1 hA; exact wf_some ts g) (gs.map (wf ts)) [] [] rfl (by simp)
end Go.Su.Ytkmcnajbhclimaa
namespace Go.Su.Ytkmcnajbhclimaa
open Go.Mx Go.Proofs
set_option linter.unusedVariables false
set_option linter.unusedSimpArgs false
set_option maxHeartbeats 4000000
def wt1 (R : List Int) (g : Int) (x : Arr2_i64) : Bool:=(x.e1 == g) && decide ((idx R x.e0).getD 0 < 0)
def wts (I : List Arr2_i64) (R : List Int) (g : Int) : Bool:=I.any (wt1 R g)
def okI (I : List Arr2_i64) (n : Nat) : Prop:=∀ x ∈ I,∃ a : Nat,a < n ∧ x.e0 = a
theorem idx_ok (R : List Int) (a : Nat) (h : a < R.length) : idx R (a : Int) = some R[a]:=idx_of (by omega) (by rw [Int.toNat_natCast]; exact List.getElem?_eq_getElem h)
theorem o1_ev (R : List Int) (g : Int) (x : Arr2_i64) (h : ∃ a : Nat,a < R.length ∧ x.e0 = a) : Ev (fun n=>rank_Order_1 n x g R) (wt1 R g x):=by
 obtain ⟨a,h1,h2⟩:=h
 have hi:=idx_ok R a h1
 rw [← h2] at hi
 unfold wt1
 rw [hi]
 cases c : (x.e1 == g)
 ·exact Ev.of_eq (g:=fun n=>some false) (fun n=>by simp only [rank_Order_1,jn,c,cond_false]) (Ev.ret _)
 ·exact Ev.of_eq (g:=fun n=>some (decide (R[a] < 0))) (fun n=>by simp only [rank_Order_1,jn,c,cond_true,hi,Option.bind_some]) (by simpa using Ev.ret (decide (R[a] < 0)))
theorem oI_L0 (R : List Int) (g : Int) : ∀ (l pre : List Arr2_i64),(pre ++ l).length ≤ 2000000 → okI l R.length → ∃ r,Ev (fun n=>IndexFunc_2int_frank_Order_1_L0 n (pre ++ l) g R pre.length) r ∧ decide (r ≥ 0) = wts l R g
 | [],pre,h,hs=>⟨-1,Ev.step (Ev.of_eq (g:=fun n=>some (-1)) (fun n=>by simp only [IndexFunc_2int_frank_Order_1_L0,List.append_nil,ix_ge,cond_false]) (Ev.ret _)),rfl⟩
 | x :: r,pre,h,hs=>by
  have hp : pre.length + 1 ≤ 2000000:=by simp at h; omega
  have hc:=o1_ev R g x (hs x (by simp))
  have base : ∀ n,IndexFunc_2int_frank_Order_1_L0 (n + 1) (pre ++ x :: r) g R pre.length = (rank_Order_1 n x g R).bind fun r3=>bif r3 then some (pre.length : Int) else IndexFunc_2int_frank_Order_1_L0 n ((pre ++ [x]) ++ r) g R ((pre ++ [x]).length):=by
   intro n
   simp only [IndexFunc_2int_frank_Order_1_L0,ix_lt,ix_get,cond_true,Option.bind_some]
   rw [ix_wr pre x (by omega),← ix_cons]
  unfold wts
  cases hb : wt1 R g x
  ·obtain ⟨q,h1,h2⟩:=oI_L0 R g r (pre ++ [x]) (by rw [← ix_cons]; exact h) (fun j hj=>hs j (by simp [hj]))
   exact ⟨q,Ev.step (Ev.of_eq base (Ev.bind hc (Ev.no hb h1))),by rw [h2,List.any_cons,hb]; rfl⟩
  ·exact ⟨(pre.length : Int),Ev.step (Ev.of_eq base (Ev.bind hc (Ev.yes hb (Ev.ret _)))),by rw [List.any_cons,hb,Bool.true_or]; simp⟩
theorem waits_ev (I : List Arr2_i64) (R : List Int) (g : Int) (hl : I.length ≤ 2000000) (hs : okI I R.length) : Ev (fun n=>ContainsFunc_2int_frank_Order_1 n I g R) (wts I R g):=by
 obtain ⟨r,h1,h2⟩:=oI_L0 R g I [] (by simpa using hl) hs
 have e : Ev (fun n=>IndexFunc_2int_frank_Order_1 n I g R) r:=Ev.of_eq (fun n=>by simp only [IndexFunc_2int_frank_Order_1]; rfl) h1
 exact Ev.of_eq (g:=fun n=>(IndexFunc_2int_frank_Order_1 n I g R).bind fun r1=>some (decide (r1 ≥ 0))) (fun n=>by simp only [ContainsFunc_2int_frank_Order_1]) (Ev.bind e (by rw [h2]; exact Ev.ret _))
def fre (I : List Arr2_i64) (R : List Int) (i : Nat) : Bool:=decide (R.getD i 0 < 0) && !wts I R (i : Int)
def nxg (I : List Arr2_i64) (R : List Int) : Nat → Nat → Int → Int
 | 0,_,c=>c
 | m + 1,i,c=>nxg I R m (i + 1) (bif fre I R i && decide (c < 0) then (i : Int) else c)
theorem or_L1 (p : Prog) (gs : List (List ByteArray)) (I : List Arr2_i64) (r2 R : List Int) (i4 : Int) (hR : R.length = gs.length) (hg : gs.length ≤ 100) (hl : I.length ≤ 2000000) (hs : okI I R.length) (X : List Int × Int)
  (hend : Ev (fun n=>bif decide (nxg I R gs.length 0 (-1) < 0) then some ([],8) else (idx R (nxg I R gs.length 0 (-1))).bind fun _=>rank_Order_L0 n p gs I r2 (R.set (nxg I R gs.length 0 (-1)).toNat i4) (wr (i4 + 1))) X) :
  ∀ (m i : Nat) (c : Int),m = gs.length - i → i ≤ gs.length → nxg I R m i c = nxg I R gs.length 0 (-1) → Ev (fun n=>rank_Order_L1 n p gs I r2 R i4 c (i : Int)) X
 | 0,i,c,hm,hi,hc=>by
  have d : decide ((i : Int) < ln gs) = false:=decide_eq_false (by show ¬ (i : Int) < ((gs.length : Nat) : Int); omega)
  rw [← hc] at hend
  rw [nxg] at hend
  refine Ev.step (Ev.of_eq (fun n=>?_) hend)
  simp only [rank_Order_L1,d,cond_false]
 | m + 1,i,c,hm,hi,hc=>by
  have d : decide ((i : Int) < ln gs) = true:=decide_eq_true (by show (i : Int) < ((gs.length : Nat) : Int); omega)
  have hiR : i < R.length:=by omega
  have g:=idx_ok R i hiR
  have e3 : wr ((i : Int) + 1) = ((i + 1 : Nat) : Int):=by rw [wr_of (by omega)]; rfl
  have hw:=waits_ev I R (i : Int) hl hs
  rw [nxg] at hc
  have nx:=or_L1 p gs I r2 R i4 hR hg hl hs X hend m (i + 1) _ (by omega) (by omega) hc
  have gd : R.getD i 0 = R[i]:=by rw [List.getD_eq_getElem?_getD,List.getElem?_eq_getElem hiR]; rfl
  refine Ev.step (Ev.of_eq (g:=fun n=>(ContainsFunc_2int_frank_Order_1 n I (i : Int) R).bind fun r9=>rank_Order_L1 n p gs I r2 R i4 (bif (decide (R[i] < 0) && !r9) && decide (c < 0) then (i : Int) else c) ((i + 1 : Nat) : Int)) (fun n=>?_) (Ev.bind hw ?_))
  ·simp only [rank_Order_L1,d,cond_true,jn,g,Option.bind_some,e3]
   congr 1
   funext r9
   cases decide (R[i] < 0) <;> cases r9 <;> cases decide (c < 0) <;> rfl
  ·unfold fre at nx
   rw [gd] at nx
   exact nx
def rks (I : List Arr2_i64) (n : Nat) : Nat → Nat → List Int → List Int × Int
 | 0,_,R=>(R,0)
 | m + 1,i,R=>bif decide (nxg I R n 0 (-1) < 0) then ([],8) else rks I n m (i + 1) (R.set (nxg I R n 0 (-1)).toNat (i : Int))
theorem nxg_lt (I : List Arr2_i64) (R : List Int) : ∀ (m i : Nat) (c : Int),c < 0 ∨ (∃ k : Nat,c = k ∧ k < i + m) → nxg I R m i c < 0 ∨ ∃ k : Nat,nxg I R m i c = k ∧ k < i + m
 | 0,i,c,h=>by rw [nxg]; exact h
 | m + 1,i,c,h=>by
  rw [nxg]
  have:=nxg_lt I R m (i + 1) (bif fre I R i && decide (c < 0) then (i : Int) else c) (by
   cases fre I R i && decide (c < 0)
   ·rcases h with h | ⟨k,h1,h2⟩
    ·exact .inl h
    ·exact .inr ⟨k,h1,by omega⟩
   ·exact .inr ⟨i,rfl,by omega⟩)
  rw [show i + (m + 1) = i + 1 + m by omega]; exact this
theorem or_L0 (p : Prog) (gs : List (List ByteArray)) (I : List Arr2_i64) (r2 : List Int) (hg : gs.length ≤ 100) (hl : I.length ≤ 2000000) (hs : okI I gs.length) : ∀ (m i : Nat) (R : List Int),m = gs.length - i → i ≤ gs.length → R.length = gs.length →
  Ev (fun n=>rank_Order_L0 n p gs I r2 R (i : Int)) (rks I gs.length m i R)
 | 0,i,R,hm,hi,hR=>by
  have d : decide ((i : Int) < ln gs) = false:=decide_eq_false (by show ¬ (i : Int) < ((gs.length : Nat) : Int); omega)
  exact Ev.step (Ev.of_eq (g:=fun n=>some (R,0)) (fun n=>by simp only [rank_Order_L0,d,cond_false,Clip_int,sub_all,Option.bind_some]) (Ev.ret _))
 | m + 1,i,R,hm,hi,hR=>by
  have d : decide ((i : Int) < ln gs) = true:=decide_eq_true (by show (i : Int) < ((gs.length : Nat) : Int); omega)
  have e3 : wr ((i : Int) + 1) = ((i + 1 : Nat) : Int):=by rw [wr_of (by omega)]; rfl
  have hend : Ev (fun n=>bif decide (nxg I R gs.length 0 (-1) < 0) then some ([],8) else (idx R (nxg I R gs.length 0 (-1))).bind fun _=>rank_Order_L0 n p gs I r2 (R.set (nxg I R gs.length 0 (-1)).toNat (i : Int)) (wr ((i : Int) + 1))) (rks I gs.length (m + 1) i R):=by
   rw [rks]
   cases c : decide (nxg I R gs.length 0 (-1) < 0)
   ·rcases nxg_lt I R gs.length 0 (-1) (.inl (by omega)) with h | ⟨k,h1,h2⟩
    ·rw [decide_eq_true h] at c; cases c
    ·have g:=idx_ok R k (by omega)
     rw [← h1] at g
     simp only [cond_false,g,Option.bind_some,e3]
     exact or_L0 p gs I r2 hg hl hs m (i + 1) (R.set (nxg I R gs.length 0 (-1)).toNat (i : Int)) (by omega) (by omega) (by simpa using hR)
   ·exact Ev.ret _
  have n1:=or_L1 p gs I r2 R (i : Int) hR hg hl (by rw [hR]; exact hs) _ hend gs.length 0 (-1) rfl (by omega) rfl
  refine Ev.step (Ev.of_eq (fun n=>?_) n1)
  simp only [rank_Order_L0,d,cond_true]; rfl
theorem pbs_ok (E A : List Int) (a : Nat) : ∀ (W : List (List Int)) (b : Nat),∀ x ∈ pbs E A a W b,x.e0 = a
 | [],_,x,h=>by simp [pbs] at h
 | B :: r,b,x,h=>by
  rw [pbs] at h
  rcases List.mem_append.1 h with h | h
  ·cases c : ((a : Int) != (b : Int)) && ins E A B
   ·rw [c] at h; simp at h
   ·rw [c] at h; simp at h; rw [h]
  ·exact pbs_ok E A a r (b + 1) x h
theorem pas_ok (E : List Int) (W : List (List Int)) : ∀ (l : List (List Int)) (a : Nat),∀ x ∈ pas E W l a,∃ k : Nat,k < a + l.length ∧ x.e0 = k
 | [],_,x,h=>by simp [pas] at h
 | A :: r,a,x,h=>by
  rw [pas] at h
  rcases List.mem_append.1 h with h | h
  ·exact ⟨a,by simp,pbs_ok E A a W 0 x h⟩
  ·obtain ⟨k,h1,h2⟩:=pas_ok E W r (a + 1) x h
   exact ⟨k,by simp; omega,h2⟩
theorem pas_len (E : List Int) (W : List (List Int)) : ∀ (l : List (List Int)) (a : Nat),(pas E W l a).length ≤ W.length * l.length
 | [],_=>by simp [pas]
 | A :: r,a=>by
  rw [pas,List.length_append,List.length_cons,Nat.mul_succ]
  have:=pas_len E W r (a + 1)
  have:=pbs_len E A a W 0
  omega
def ranks (I : List Arr2_i64) (n : Nat) : List Int × Int:=rks I n n 0 (List.replicate n (-1))
theorem Order_ev (D : List Decl) (ts : List (List Stmt)) (gs : List (List ByteArray)) (hz : szT ts ≤ 50000) (hg : gs.length ≤ 100) (hn : ∀ g ∈ gs,g.length ≤ 4000000) : Ev (fun n=>rank_Order n ⟨D,ts⟩ gs) (ranks (inside ts gs) gs.length):=by
 have hl:=pas_len (enL (flats ts) 0) (gs.map (wf ts)) (gs.map (wf ts)) 0
 have hok : okI (inside ts gs) gs.length:=fun x hx=>by
  obtain ⟨k,h1,h2⟩:=pas_ok _ _ _ _ x hx
  exact ⟨k,by simpa using h1,h2⟩
 rw [List.length_map] at hl
 have hl2 : (inside ts gs).length ≤ 2000000:=by
  have : gs.length * gs.length ≤ 100 * 100:=Nat.mul_le_mul hg hg
  unfold inside; omega
 have hr:=repeat_ev (-1) gs.length (by omega)
 refine Ev.of_eq (g:=fun n=>(rank_Inside n ⟨D,ts⟩ gs).bind fun r1=>(Repeat_int n [(-1)] ((gs.length : Nat) : Int)).bind fun r2=>rank_Order_L0 n ⟨D,ts⟩ gs r1 r2 r2 0) (fun n=>by simp only [rank_Order]) (Ev.bind (Inside_ev D ts gs hz hg hn) (Ev.bind hr ?_))
 exact or_L0 ⟨D,ts⟩ gs (inside ts gs) _ hg hl2 hok gs.length 0 _ rfl (by omega) (by simp)
end Go.Su.Ytkmcnajbhclimaa
namespace Go.Su.Ytkmcnajbhclimaa
open Go.Mx Go.Proofs
set_option linter.unusedVariables false
set_option maxHeartbeats 4000000
set_option maxRecDepth 1000000 in
theorem known25_ev : Ev (fun n=>law25_known n) true:=by
 refine ⟨200,fun n hn=>?_⟩
 obtain ⟨k,rfl⟩ : ∃ k,n = k + 200:=⟨n - 200,by omega⟩
 have : ∀ k,law25_known (k + 200) = some true:=by intro k; kernel_rfl
 exact this k
theorem groups_eq (a : Int) : ∃ gs : List (List ByteArray),(∀ n,law25_groups n a = some gs) ∧ gs.length ≤ 3 ∧ ∀ g ∈ gs,g.length ≤ 3:=by
 have p : ∀ n,hand_Pick n a 7 = some (a % 7):=fun n=>pick_eq n _ 7 (by omega) (by omega)
 cases c0 : (a % 7 == 0)
 case true=>exact ⟨_,fun n=>by simp only [law25_groups,p,Option.bind_some,c0,cond_true]; rfl,by simp,by simp⟩
 cases c1 : (a % 7 == 1)
 case true=>exact ⟨_,fun n=>by simp only [law25_groups,p,Option.bind_some,c0,c1,cond_true,cond_false]; rfl,by simp,by simp⟩
 cases c2 : (a % 7 == 2)
 case true=>exact ⟨_,fun n=>by simp only [law25_groups,p,Option.bind_some,c0,c1,c2,cond_true,cond_false]; rfl,by simp,by simp⟩
 cases c3 : (a % 7 == 3)
 case true=>exact ⟨_,fun n=>by simp only [law25_groups,p,Option.bind_some,c0,c1,c2,c3,cond_true,cond_false]; rfl,by simp,by simp⟩
 cases c4 : (a % 7 == 4)
 case true=>exact ⟨_,fun n=>by simp only [law25_groups,p,Option.bind_some,c0,c1,c2,c3,c4,cond_true,cond_false]; rfl,by simp,by simp⟩
 cases c5 : (a % 7 == 5)
 case true=>exact ⟨_,fun n=>by simp only [law25_groups,p,Option.bind_some,c0,c1,c2,c3,c4,c5,cond_true,cond_false]; rfl,by simp,by simp⟩
 exact ⟨_,fun n=>by simp only [law25_groups,p,Option.bind_some,c0,c1,c2,c3,c4,c5,cond_false]; rfl,by simp,by simp⟩
end Go.Su.Ytkmcnajbhclimaa
namespace Go.Su.Ytkmcnajbhclimaa
open Go.Mx Go.Proofs
set_option linter.unusedVariables false
set_option linter.unusedSimpArgs false
set_option maxHeartbeats 4000000
theorem sroom_of {a b : ByteArray} (h : a.size + b.size ≤ 9223372036854775807) : sroom a b = true:=by
 unfold sroom
 have : ¬ (((a.size + b.size : Nat) : Int) > IntKind.i64.max):=by
  have e : IntKind.i64.max = 9223372036854775807:=rfl
  rw [e]; omega
 rw [decide_eq_false this]; rfl
theorem size_app (a b : ByteArray) : (a ++ b).size = a.size + b.size:=ByteArray.size_append
theorem digits_ev (k : Int) (h0 : 0 ≤ k) (h1 : k ≤ 9) : ∃ w,Ev (fun n=>ref1_Digits n k) w ∧ w.size ≤ 1:=by
 have d : decide (k < 10) = true:=decide_eq_true (by omega)
 exact ⟨_,Ev.step (Ev.of_eq (g:=fun n=>some (b2s [IntKind.u8.wrap (wr (48 + k))])) (fun n=>by simp only [ref1_Digits,d,cond_true]) (Ev.ret _)),Nat.le_of_eq rfl⟩
theorem level_ev (k : Int) : ∃ r,(∀ n,ref1_level n k = some r) ∧ (4 ≤ k → k ≤ 10 → 1 ≤ r ∧ r ≤ 3) ∧ 0 ≤ r ∧ r ≤ 5:=by
 by_cases h : 1 ≤ k ∧ k ≤ 10
 ·have : k = 1 ∨ k = 2 ∨ k = 3 ∨ k = 4 ∨ k = 5 ∨ k = 6 ∨ k = 7 ∨ k = 8 ∨ k = 9 ∨ k = 10:=by omega
  rcases this with rfl | rfl | rfl | rfl | rfl | rfl | rfl | rfl | rfl | rfl
  ·exact ⟨5,fun n=>rfl,by omega,by omega,by omega⟩
  ·exact ⟨5,fun n=>rfl,by omega,by omega,by omega⟩
  ·exact ⟨4,fun n=>rfl,by omega,by omega,by omega⟩
  ·exact ⟨2,fun n=>rfl,by omega,by omega,by omega⟩
  ·exact ⟨2,fun n=>rfl,by omega,by omega,by omega⟩
  ·exact ⟨3,fun n=>rfl,by omega,by omega,by omega⟩
  ·exact ⟨3,fun n=>rfl,by omega,by omega,by omega⟩
  ·exact ⟨3,fun n=>rfl,by omega,by omega,by omega⟩
  ·exact ⟨1,fun n=>rfl,by omega,by omega,by omega⟩
  ·exact ⟨1,fun n=>rfl,by omega,by omega,by omega⟩
 ·have b : ∀ c : Int,1 ≤ c → c ≤ 10 → (k == c) = false:=fun c h1 h2=>by simp; omega
  refine ⟨0,fun n=>?_,by omega,by omega,by omega⟩
  simp only [ref1_level,jn,b 1 (by omega) (by omega),b 2 (by omega) (by omega),b 3 (by omega) (by omega),b 4 (by omega) (by omega),b 5 (by omega) (by omega),b 6 (by omega) (by omega),b 7 (by omega) (by omega),b 8 (by omega) (by omega),b 9 (by omega) (by omega),b 10 (by omega) (by omega),cond_false]
theorem sign_w (k : Int) : ∃ w,(∀ n,ref1_sign n k = some w) ∧ w.size ≤ 2:=by
 unfold ref1_sign
 cases (k == 4) with
 | true=>exact ⟨_,fun _=>rfl,by decide⟩
 | false =>
 cases (k == 5) with
 | true=>exact ⟨_,fun _=>rfl,by decide⟩
 | false =>
 cases (k == 6) with
 | true=>exact ⟨_,fun _=>rfl,by decide⟩
 | false =>
 cases (k == 7) with
 | true=>exact ⟨_,fun _=>rfl,by decide⟩
 | false =>
 cases (k == 8) with
 | true=>exact ⟨_,fun _=>rfl,by decide⟩
 | false =>
 cases (k == 9) with
 | true=>exact ⟨_,fun _=>rfl,by decide⟩
 | false=>exact ⟨_,fun _=>rfl,by decide⟩
theorem show_ev : ∀ (d : Nat) (e : Expr),okE d e → szE e ≤ 1000000 → (∃ w,Ev (fun n=>ref1_show n e) w ∧ w.size ≤ 20 * szE e) ∧ ∀ low,∃ w,Ev (fun n=>ref1_side n e low) w ∧ w.size ≤ 20 * szE e + 2:=by
 intro d
 induction d with
 | zero=>intro e h; exact h.elim
 | succ d ih =>
  intro e h hz
  have hs : ∃ w,Ev (fun n=>ref1_show n e) w ∧ w.size ≤ 20 * szE e:=by
   obtain ⟨k,m,w,l⟩:=e
   obtain ⟨lv,hlv,hlv2,lv0,lv5⟩:=level_ev k
   rcases h with ⟨h1,h2,h3,h4,h5⟩ | ⟨h1,h2,h3,h5⟩ | ⟨h1,h2,h3,x,h5,h6⟩ | ⟨h1,h1',h2,h3,x,y,h5,h6,h7⟩ <;> simp only at h1 h2 h3 h5 <;> subst h5
   ·subst h1
    obtain ⟨w,k1,k2⟩:=digits_ev m h2 (by omega)
    refine ⟨w,Ev.step (Ev.of_eq (g:=fun n=>(ref1_Digits n m).bind fun r4=>some r4) (fun n=>?_) (Ev.bind k1 (Ev.ret _))),by rw [szE]; omega⟩
    simp only [ref1_show,hlv,Option.bind_some,jn,decide_eq_true (show m ≥ 0 from h2)]; rfl
   ·subst h1
    refine ⟨w,Ev.step (Ev.of_eq (g:=fun n=>some w) (fun n=>?_) (Ev.ret _)),?_⟩
    ·simp only [ref1_show,hlv,Option.bind_some,jn]; rfl
    ·have : w.size ≤ 1:=by
      simp only [List.mem_cons,List.not_mem_nil,or_false] at h3
      rcases h3 with rfl | rfl | rfl | rfl | rfl <;> decide
     rw [szE]; omega
   ·subst h1
    rw [szE,szEl,szEl] at hz ⊢
    obtain ⟨w',k1,k2⟩:=(ih x h6 (by omega)).2 4
    have hr : sroom x_2d w' = true:=sroom_of (by have : x_2d.size = 1:=rfl; omega)
    refine ⟨x_2d ++ w',Ev.step (Ev.of_eq (g:=fun n=>(ref1_side n x 4).bind fun r8=>bif sroom x_2d r8 then some (x_2d ++ r8) else none) (fun n=>?_) (Ev.bind k1 ?_)),?_⟩
    ·simp only [ref1_show,hlv,Option.bind_some,jn]; rfl
    ·simp only [hr,cond_true]; exact Ev.ret _
    ·rw [size_app]; have : x_2d.size = 1:=rfl; omega
   ·rw [szE,szEl,szEl,szEl] at hz ⊢
    obtain ⟨q1,q2⟩:=hlv2 h1 h1'
    have b1 : (k == 1) = false:=by simp; omega
    have b2 : (k == 2) = false:=by simp; omega
    have b3 : (k == 3) = false:=by simp; omega
    obtain ⟨wl,k1,k2⟩:=(ih x h6 (by omega)).2 (bif (lv == 1) then 2 else lv)
    obtain ⟨wr',l1,l2⟩:=(ih y h7 (by omega)).2 (wr (lv + 1))
    obtain ⟨ws,s1,s2⟩:=sign_w k
    have z1 : x_20.size = 1:=rfl
    have r1 : sroom wl x_20 = true:=sroom_of (by omega)
    have r2 : sroom (wl ++ x_20) ws = true:=sroom_of (by rw [size_app]; omega)
    have r3 : sroom ((wl ++ x_20) ++ ws) x_20 = true:=sroom_of (by rw [size_app,size_app]; omega)
    have r4 : sroom (((wl ++ x_20) ++ ws) ++ x_20) wr' = true:=sroom_of (by rw [size_app,size_app,size_app]; omega)
    have i0 : idx [x,y] 0 = some x:=rfl
    have i1 : idx [x,y] 1 = some y:=rfl
    have l2' : (ln [x,y] == 2) = true:=rfl
    refine ⟨(((wl ++ x_20) ++ ws) ++ x_20) ++ wr',Ev.step (Ev.of_eq (g:=fun n=>(ref1_side n x (bif (lv == 1) then 2 else lv)).bind fun r15=>bif sroom r15 x_20 then bif sroom (r15 ++ x_20) ws then bif sroom ((r15 ++ x_20) ++ ws) x_20 then (ref1_side n y (wr (lv + 1))).bind fun r21 =>
      bif sroom (((r15 ++ x_20) ++ ws) ++ x_20) r21 then some ((((r15 ++ x_20) ++ ws) ++ x_20) ++ r21) else none else none else none else none) (fun n=>?_) (Ev.bind k1 ?_)),?_⟩
    ·have g1 : decide (lv ≥ 1) = true:=decide_eq_true q1
     have g2 : decide (lv ≤ 3) = true:=decide_eq_true q2
     cases hc : (lv == 1) <;> simp only [ref1_show,hlv,Option.bind_some,jn,b1,b2,b3,cond_false,cond_true,g1,g2,l2',hc,i0,i1,s1]
    ·simp only [r1,r2,r3,cond_true]
     refine Ev.bind l1 ?_
     simp only [r4,cond_true]; exact Ev.ret _
    ·simp only [size_app]; omega
  refine ⟨hs,fun low=>?_⟩
  obtain ⟨w,k1,k2⟩:=hs
  obtain ⟨lv,hlv,_⟩:=level_ev e.Kind
  by_cases hc : lv < low
  ·have z1 : x_28.size = 1:=rfl
   have z2 : x_29.size = 1:=rfl
   have r1 : sroom x_28 w = true:=sroom_of (by omega)
   have r2 : sroom (x_28 ++ w) x_29 = true:=sroom_of (by rw [size_app]; omega)
   refine ⟨(x_28 ++ w) ++ x_29,Ev.step (Ev.of_eq (g:=fun n=>(ref1_show n e).bind fun r2=>bif sroom x_28 r2 then bif sroom (x_28 ++ r2) x_29 then some ((x_28 ++ r2) ++ x_29) else none else none) (fun n=>?_) (Ev.bind k1 ?_)),by simp only [size_app]; omega⟩
   ·simp only [ref1_side,hlv,Option.bind_some,decide_eq_true hc,cond_true]
   ·simp only [r1,r2,cond_true]; exact Ev.ret _
  ·refine ⟨w,Ev.step (Ev.of_eq (g:=fun n=>(ref1_show n e).bind fun r5=>some r5) (fun n=>?_) (Ev.bind k1 (Ev.ret _))),by omega⟩
   simp only [ref1_side,hlv,Option.bind_some,decide_eq_false hc,cond_false]
theorem tabs_ev : ∀ m : Nat,m ≤ 100000 → ∃ w,Ev (fun n=>ref1_tabs n (m : Int)) w ∧ w.size = m
 | 0,_=>⟨b0,Ev.step (Ev.of_eq (g:=fun n=>some b0) (fun n=>by simp only [ref1_tabs]; rfl) (Ev.ret _)),rfl⟩
 | m + 1,h=>by
  obtain ⟨w,k1,k2⟩:=tabs_ev m (by omega)
  have d : decide (((m + 1 : Nat) : Int) ≤ 0) = false:=decide_eq_false (by omega)
  have e : wr (((m + 1 : Nat) : Int) - 1) = (m : Int):=by rw [wr_of (by omega)]; omega
  have z : x_09.size = 1:=rfl
  have r : sroom x_09 w = true:=sroom_of (by omega)
  refine ⟨x_09 ++ w,Ev.step (Ev.of_eq (g:=fun n=>(ref1_tabs n (m : Int)).bind fun r1=>bif sroom x_09 r1 then some (x_09 ++ r1) else none) (fun n=>?_) (Ev.bind k1 ?_)),by rw [size_app]; omega⟩
  ·simp only [ref1_tabs,d,cond_false,e]
  ·simp only [r,cond_true]; exact Ev.ret _
theorem lines_ev : (∀ s : Stmt,∀ d m : Nat,okS d s → m + wt s ≤ 2000 → (∃ w,Ev (fun n=>ref1_lines n s.Body ((m + 1 : Nat) : Int)) w ∧ w.size ≤ 1000 * wtl s.Body) ∧ ∃ w,Ev (fun n=>ref1_lines n s.Else ((m + 1 : Nat) : Int)) w ∧ w.size ≤ 1000 * wtl s.Else) ∧
  ∀ l : List Stmt,∀ (d m : Nat) (in_ : ByteArray) (pre : List Stmt) (acc : ByteArray),okSl d l → m + wtl l ≤ 2000 → in_.size = m → (pre ++ l).length ≤ 2000 → acc.size + 1000 * wtl l ≤ 100000000 → ∃ w,Ev (fun n=>ref1_lines_L0 n (pre ++ l) (m : Int) in_ acc pre.length) w ∧ w.size ≤ acc.size + 1000 * wtl l:=by
 have wlen : ∀ l : List Stmt,l.length ≤ wtl l:=by
  intro l
  induction l with
  | nil=>simp
  | cons s r ih=>cases s; rw [List.length_cons,wtl,wt]; omega
 have blk : ∀ l : List Stmt,(∀ (d m : Nat) (in_ : ByteArray) (pre : List Stmt) (acc : ByteArray),okSl d l → m + wtl l ≤ 2000 → in_.size = m → (pre ++ l).length ≤ 2000 → acc.size + 1000 * wtl l ≤ 100000000 → ∃ w,Ev (fun n=>ref1_lines_L0 n (pre ++ l) (m : Int) in_ acc pre.length) w ∧ w.size ≤ acc.size + 1000 * wtl l) →
   ∀ d m : Nat,okSl d l → m + wtl l ≤ 2000 → ∃ w,Ev (fun n=>ref1_lines n l (m : Int)) w ∧ w.size ≤ 1000 * wtl l:=by
  intro l ih d m h1 h2
  obtain ⟨t,k1,k2⟩:=tabs_ev m (by omega)
  obtain ⟨w,l1,l2⟩:=ih d m t [] b0 h1 h2 k2 (by have:=wlen l; simp; omega) (by have : b0.size = 0:=rfl; omega)
  have z : b0.size = 0:=rfl
  exact ⟨w,Ev.step (Ev.of_eq (g:=fun n=>(ref1_tabs n (m : Int)).bind fun r1=>ref1_lines_L0 n l (m : Int) r1 b0 0) (fun n=>by simp only [ref1_lines]) (Ev.bind k1 l1)),by omega⟩
 refine stmt_ind ?_ ?_ ?_
 ·intro k w v m e b l a ihb ihl d q h hq
  rw [okS] at h
  rw [wt] at hq
  exact ⟨blk b ihb _ (q + 1) h.2.2.2.1 (by omega),blk l ihl _ (q + 1) h.2.2.2.2 (by omega)⟩
 ·intro d m in_ pre acc _ _ _ _ _
  exact ⟨acc,Ev.step (Ev.of_eq (g:=fun n=>some acc) (fun n=>by simp only [ref1_lines_L0,List.append_nil,ix_ge,cond_false]) (Ev.ret _)),by simp [wtl]⟩
 ·intro s r ihs ihr d m in_ pre acc h h2 h3 h4 h5
  rw [okSl] at h
  rw [wtl] at h2 h5
  have hp : pre.length + 1 ≤ 2000:=by simp at h4; omega
  have hsub:=ihs d m h.1 (by omega)
  have hw:=ix_wr pre s (by omega)
  have hws : 10 ≤ wt s ∧ wt s = 10 + 2 * (wtl s.Body + wtl s.Else):=by cases s; rw [wt]; simp
  obtain ⟨⟨wb,hb1,hb2⟩,wl,hl1,hl2⟩:=hsub
  have zn : x_0a.size = 1:=rfl
  obtain ⟨FF,hFF⟩ : ∃ FF : Nat → ByteArray → Option ByteArray,∀ n line,FF n line = bif sroom acc in_ then bif sroom (acc ++ in_) line then bif sroom ((acc ++ in_) ++ line) x_0a then ref1_lines_L0 n (pre ++ s :: r) (m : Int) in_ (((acc ++ in_) ++ line) ++ x_0a) (wr ((pre.length : Int) + 1)) else none else none else none:=⟨_,fun _ _=>rfl⟩

  have fin : ∀ line : ByteArray,line.size ≤ 1000 * (wtl s.Body + wtl s.Else) + 2 * m + 1000 → ∃ w,Ev (fun n=>FF n line) w ∧ w.size ≤ acc.size + 1000 * (wt s + wtl r):=by
   intro line hline
   have r1 : sroom acc in_ = true:=sroom_of (by omega)
   have r2 : sroom (acc ++ in_) line = true:=sroom_of (by rw [size_app]; omega)
   have r3 : sroom ((acc ++ in_) ++ line) x_0a = true:=sroom_of (by rw [size_app,size_app]; omega)
   obtain ⟨w,k1,k2⟩:=ihr d m in_ (pre ++ [s]) (((acc ++ in_) ++ line) ++ x_0a) h.2 (by omega) h3 (by rw [← ix_cons]; exact h4) (by simp only [size_app]; omega)
   refine ⟨w,?_,by simp only [size_app] at k2; omega⟩
   simp only [hFF,r1,r2,r3,cond_true,hw]
   rw [ix_cons]; exact k1
  rw [wtl]
  have nm : ∀ w ∈ [k_x,k_y,k_z,k_a,k_t],w.size ≤ 1:=by
   intro w hw
   simp only [List.mem_cons,List.not_mem_nil,or_false] at hw
   rcases hw with rfl | rfl | rfl | rfl | rfl <;> decide
  have nc : ∀ w ∈ [k_c,k_d],w.size ≤ 1:=by
   intro w hw
   simp only [List.mem_cons,List.not_mem_nil,or_false] at hw
   rcases hw with rfl | rfl <;> decide
  have nl : ∀ w ∈ [k_l,k_k],w.size ≤ 1:=by
   intro w hw
   simp only [List.mem_cons,List.not_mem_nil,or_false] at hw
   rcases hw with rfl | rfl <;> decide
  have zm : k_m.size = 1:=rfl
  have z20 : x_20.size = 1:=rfl
  have z7d : x_7d.size = 1:=rfl
  have ze : x_203d20.size = 3:=rfl
  have zlk : x_6c6f636b20.size = 5:=rfl
  have zul : x_756e6c6f636b20.size = 7:=rfl
  have zsd : x_73656e6420.size = 5:=rfl
  have zrc : x_7265637620.size = 5:=rfl
  have zpr : x_7072696e7420.size = 6:=rfl
  have zgo : x_676f746f20.size = 5:=rfl
  have zlb : x_6c6162656c20.size = 6:=rfl
  have zif : x_696620.size = 3:=rfl
  have zop : x_207b0a.size = 3:=rfl
  have zel : x_20656c7365207b0a.size = 8:=rfl
  have zrp : x_72657065617420.size = 7:=rfl
  obtain ⟨k,w,v,mm,e,b,l,a⟩:=s
  obtain ⟨hH,_,hzE,_,_⟩:=(show okS d ⟨k,w,v,mm,e,b,l,a⟩ from h.1)
  simp only at hb1 hb2 hl1 hl2 fin hws
  have lift : ∀ (G : Nat → Option ByteArray),(∃ w,Ev G w ∧ w.size ≤ acc.size + 1000 * (wt ⟨k,w,v,mm,e,b,l,a⟩ + wtl r)) → (∀ n,ref1_lines_L0 (n + 1) (pre ++ ⟨k,w,v,mm,e,b,l,a⟩ :: r) (m : Int) in_ acc pre.length = G n) → ∃ w',Ev (fun n=>ref1_lines_L0 n (pre ++ ⟨k,w,v,mm,e,b,l,a⟩ :: r) (m : Int) in_ acc pre.length) w' ∧ w'.size ≤ acc.size + 1000 * (wt ⟨k,w,v,mm,e,b,l,a⟩ + wtl r) :=
   fun G ⟨w',k1,k2⟩ hG=>⟨w',Ev.step (Ev.of_eq hG k1),k2⟩
  cases hH
  case assign =>
   have he : okE 4 e:=by assumption
   have hw' : w ∈ [k_x,k_y,k_z,k_a,k_t]:=by assumption
   obtain ⟨⟨t,t1,t2⟩,_⟩:=show_ev 4 e he (by omega)
   have:=nm w hw'
   obtain ⟨w',f1,f2⟩:=fin ((w ++ x_203d20) ++ t) (by simp only [size_app]; omega)
   refine lift (fun n=>(ref1_show n e).bind fun r9=>bif sroom (w ++ x_203d20) r9 then FF n ((w ++ x_203d20) ++ r9) else none) ⟨w',Ev.bind t1 ?_,f2⟩ fun n=>?_
   ·simp only [show sroom (w ++ x_203d20) t = true from sroom_of (by simp only [size_app]; omega),cond_true]; exact f1
   ·simp only [ref1_lines_L0,ix_lt,cond_true,ix_get,Option.bind_some,jn,show sroom w x_203d20 = true from sroom_of (by omega),hFF]; try rfl
  case lock =>
   obtain ⟨w',f1,f2⟩:=fin (x_6c6f636b20 ++ k_m) (by simp only [size_app]; omega)
   refine lift (fun n=>FF n (x_6c6f636b20 ++ k_m)) ⟨w',f1,f2⟩ fun n=>?_
   simp only [ref1_lines_L0,ix_lt,cond_true,ix_get,Option.bind_some,jn,show sroom x_6c6f636b20 k_m = true from sroom_of (by omega),hFF]; try rfl
  case unlock =>
   obtain ⟨w',f1,f2⟩:=fin (x_756e6c6f636b20 ++ k_m) (by simp only [size_app]; omega)
   refine lift (fun n=>FF n (x_756e6c6f636b20 ++ k_m)) ⟨w',f1,f2⟩ fun n=>?_
   simp only [ref1_lines_L0,ix_lt,cond_true,ix_get,Option.bind_some,jn,show sroom x_756e6c6f636b20 k_m = true from sroom_of (by omega),hFF]; try rfl
  case send =>
   have he : okE 4 e:=by assumption
   have hw' : w ∈ [k_c,k_d]:=by assumption
   obtain ⟨⟨t,t1,t2⟩,_⟩:=show_ev 4 e he (by omega)
   have:=nc w hw'
   obtain ⟨w',f1,f2⟩:=fin (((x_73656e6420 ++ w) ++ x_20) ++ t) (by simp only [size_app]; omega)
   refine lift (fun n=>(ref1_show n e).bind fun r9=>bif sroom ((x_73656e6420 ++ w) ++ x_20) r9 then FF n (((x_73656e6420 ++ w) ++ x_20) ++ r9) else none) ⟨w',Ev.bind t1 ?_,f2⟩ fun n=>?_
   ·simp only [show sroom ((x_73656e6420 ++ w) ++ x_20) t = true from sroom_of (by simp only [size_app]; omega),cond_true]; exact f1
   ·simp only [ref1_lines_L0,ix_lt,cond_true,ix_get,Option.bind_some,jn,show sroom x_73656e6420 w = true from sroom_of (by omega),show sroom (x_73656e6420 ++ w) x_20 = true from sroom_of (by simp only [size_app]; omega),hFF]; try rfl
  case recv =>
   have hw' : w ∈ [k_c,k_d]:=by assumption
   have hv : v ∈ [k_x,k_y,k_z,k_a,k_t]:=by assumption
   have:=nc w hw'
   have:=nm v hv
   obtain ⟨w',f1,f2⟩:=fin (((x_7265637620 ++ w) ++ x_20) ++ v) (by simp only [size_app]; omega)
   refine lift (fun n=>FF n (((x_7265637620 ++ w) ++ x_20) ++ v)) ⟨w',f1,f2⟩ fun n=>?_
   simp only [ref1_lines_L0,ix_lt,cond_true,ix_get,Option.bind_some,jn,show sroom x_7265637620 w = true from sroom_of (by omega),show sroom (x_7265637620 ++ w) x_20 = true from sroom_of (by simp only [size_app]; omega),show sroom ((x_7265637620 ++ w) ++ x_20) v = true from sroom_of (by simp only [size_app]; omega),hFF]; try rfl
  case print =>
   have he : okE 4 e:=by assumption
   obtain ⟨⟨t,t1,t2⟩,_⟩:=show_ev 4 e he (by omega)
   obtain ⟨w',f1,f2⟩:=fin (x_7072696e7420 ++ t) (by simp only [size_app]; omega)
   refine lift (fun n=>(ref1_show n e).bind fun r9=>bif sroom x_7072696e7420 r9 then FF n (x_7072696e7420 ++ r9) else none) ⟨w',Ev.bind t1 ?_,f2⟩ fun n=>?_
   ·simp only [show sroom x_7072696e7420 t = true from sroom_of (by omega),cond_true]; exact f1
   ·simp only [ref1_lines_L0,ix_lt,cond_true,ix_get,Option.bind_some,jn,hFF]; try rfl
  case goto =>
   have hw' : w ∈ [k_l,k_k]:=by assumption
   have:=nl w hw'
   obtain ⟨w',f1,f2⟩:=fin (x_676f746f20 ++ w) (by simp only [size_app]; omega)
   refine lift (fun n=>FF n (x_676f746f20 ++ w)) ⟨w',f1,f2⟩ fun n=>?_
   simp only [ref1_lines_L0,ix_lt,cond_true,ix_get,Option.bind_some,jn,show sroom x_676f746f20 w = true from sroom_of (by omega),hFF]; try rfl
  case label =>
   have hw' : w ∈ [k_l,k_k]:=by assumption
   have:=nl w hw'
   obtain ⟨w',f1,f2⟩:=fin (x_6c6162656c20 ++ w) (by simp only [size_app]; omega)
   refine lift (fun n=>FF n (x_6c6162656c20 ++ w)) ⟨w',f1,f2⟩ fun n=>?_
   simp only [ref1_lines_L0,ix_lt,cond_true,ix_get,Option.bind_some,jn,show sroom x_6c6162656c20 w = true from sroom_of (by omega),hFF]; try rfl
  case rep =>
   have q0 : 0 ≤ mm:=by assumption
   have q1 : mm ≤ 2:=by assumption
   obtain ⟨t,t1,t2⟩:=digits_ev mm q0 (by omega)
   have hm1 : wr ((m : Int) + 1) = ((m + 1 : Nat) : Int):=by rw [wr_of (by omega)]; rfl
   obtain ⟨w',f1,f2⟩:=fin (((((x_72657065617420 ++ t) ++ x_207b0a) ++ wb) ++ in_) ++ x_7d) (by simp only [size_app]; omega)
   refine lift (fun n=>(ref1_Digits n mm).bind fun r36=>bif sroom x_72657065617420 r36 then bif sroom (x_72657065617420 ++ r36) x_207b0a then (ref1_lines n b ((m + 1 : Nat) : Int)).bind fun r39=>bif sroom ((x_72657065617420 ++ r36) ++ x_207b0a) r39 then bif sroom (((x_72657065617420 ++ r36) ++ x_207b0a) ++ r39) in_ then bif sroom ((((x_72657065617420 ++ r36) ++ x_207b0a) ++ r39) ++ in_) x_7d then
    FF n (((((x_72657065617420 ++ r36) ++ x_207b0a) ++ r39) ++ in_) ++ x_7d) else none else none else none else none else none) ⟨w',Ev.bind t1 ?_,f2⟩ fun n=>?_
   ·simp only [show sroom x_72657065617420 t = true from sroom_of (by omega),show sroom (x_72657065617420 ++ t) x_207b0a = true from sroom_of (by simp only [size_app]; omega),cond_true]
    refine Ev.bind hb1 ?_
    simp only [show sroom ((x_72657065617420 ++ t) ++ x_207b0a) wb = true from sroom_of (by simp only [size_app]; omega),show sroom (((x_72657065617420 ++ t) ++ x_207b0a) ++ wb) in_ = true from sroom_of (by simp only [size_app]; omega),show sroom ((((x_72657065617420 ++ t) ++ x_207b0a) ++ wb) ++ in_) x_7d = true from sroom_of (by simp only [size_app]; omega),cond_true]
    exact f1
   ·simp only [ref1_lines_L0,ix_lt,cond_true,ix_get,Option.bind_some,jn,hm1,decide_eq_true (show mm ≥ 0 from q0),hFF]; try rfl
  case cond =>
   have he : okE 4 e:=by assumption
   obtain ⟨⟨t,t1,t2⟩,_⟩:=show_ev 4 e he (by omega)
   have hm1 : wr ((m : Int) + 1) = ((m + 1 : Nat) : Int):=by rw [wr_of (by omega)]; rfl
   have s1 : sroom x_696620 t = true:=sroom_of (by omega)
   have s2 : sroom (x_696620 ++ t) x_207b0a = true:=sroom_of (by simp only [size_app]; omega)
   have s3 : sroom ((x_696620 ++ t) ++ x_207b0a) wb = true:=sroom_of (by simp only [size_app]; omega)
   have s4 : sroom (((x_696620 ++ t) ++ x_207b0a) ++ wb) in_ = true:=sroom_of (by simp only [size_app]; omega)
   have s5 : sroom ((((x_696620 ++ t) ++ x_207b0a) ++ wb) ++ in_) x_7d = true:=sroom_of (by simp only [size_app]; omega)
   cases hE : decide (ln l > 0)
   ·obtain ⟨w',f1,f2⟩:=fin (((((x_696620 ++ t) ++ x_207b0a) ++ wb) ++ in_) ++ x_7d) (by simp only [size_app]; omega)
    refine lift (fun n=>(ref1_show n e).bind fun r24=>bif sroom x_696620 r24 then bif sroom (x_696620 ++ r24) x_207b0a then (ref1_lines n b ((m + 1 : Nat) : Int)).bind fun r27=>bif sroom ((x_696620 ++ r24) ++ x_207b0a) r27 then bif sroom (((x_696620 ++ r24) ++ x_207b0a) ++ r27) in_ then bif sroom ((((x_696620 ++ r24) ++ x_207b0a) ++ r27) ++ in_) x_7d then
     FF n (((((x_696620 ++ r24) ++ x_207b0a) ++ r27) ++ in_) ++ x_7d) else none else none else none else none else none) ⟨w',Ev.bind t1 ?_,f2⟩ fun n=>?_
    ·simp only [s1,s2,cond_true]
     refine Ev.bind hb1 ?_
     simp only [s3,s4,s5,cond_true]
     exact f1
    ·simp only [ref1_lines_L0,ix_lt,cond_true,ix_get,Option.bind_some,jn,hm1,hE,cond_false,hFF]; try rfl
   ·have s6 : sroom (((((x_696620 ++ t) ++ x_207b0a) ++ wb) ++ in_) ++ x_7d) x_20656c7365207b0a = true:=sroom_of (by simp only [size_app]; omega)
    have s7 : sroom ((((((x_696620 ++ t) ++ x_207b0a) ++ wb) ++ in_) ++ x_7d) ++ x_20656c7365207b0a) wl = true:=sroom_of (by simp only [size_app]; omega)
    have s8 : sroom (((((((x_696620 ++ t) ++ x_207b0a) ++ wb) ++ in_) ++ x_7d) ++ x_20656c7365207b0a) ++ wl) in_ = true:=sroom_of (by simp only [size_app]; omega)
    have s9 : sroom ((((((((x_696620 ++ t) ++ x_207b0a) ++ wb) ++ in_) ++ x_7d) ++ x_20656c7365207b0a) ++ wl) ++ in_) x_7d = true:=sroom_of (by simp only [size_app]; omega)
    obtain ⟨w',f1,f2⟩:=fin (((((((((x_696620 ++ t) ++ x_207b0a) ++ wb) ++ in_) ++ x_7d) ++ x_20656c7365207b0a) ++ wl) ++ in_) ++ x_7d) (by simp only [size_app]; omega)
    refine lift (fun n=>(ref1_show n e).bind fun r24=>bif sroom x_696620 r24 then bif sroom (x_696620 ++ r24) x_207b0a then (ref1_lines n b ((m + 1 : Nat) : Int)).bind fun r27=>bif sroom ((x_696620 ++ r24) ++ x_207b0a) r27 then bif sroom (((x_696620 ++ r24) ++ x_207b0a) ++ r27) in_ then bif sroom ((((x_696620 ++ r24) ++ x_207b0a) ++ r27) ++ in_) x_7d then
     bif sroom (((((x_696620 ++ r24) ++ x_207b0a) ++ r27) ++ in_) ++ x_7d) x_20656c7365207b0a then (ref1_lines n l ((m + 1 : Nat) : Int)).bind fun r32=>bif sroom ((((((x_696620 ++ r24) ++ x_207b0a) ++ r27) ++ in_) ++ x_7d) ++ x_20656c7365207b0a) r32 then bif sroom (((((((x_696620 ++ r24) ++ x_207b0a) ++ r27) ++ in_) ++ x_7d) ++ x_20656c7365207b0a) ++ r32) in_ then bif sroom ((((((((x_696620 ++ r24) ++ x_207b0a) ++ r27) ++ in_) ++ x_7d) ++ x_20656c7365207b0a) ++ r32) ++ in_) x_7d then
     FF n (((((((((x_696620 ++ r24) ++ x_207b0a) ++ r27) ++ in_) ++ x_7d) ++ x_20656c7365207b0a) ++ r32) ++ in_) ++ x_7d) else none else none else none else none else none else none else none else none else none) ⟨w',Ev.bind t1 ?_,f2⟩ fun n=>?_
    ·simp only [s1,s2,cond_true]
     refine Ev.bind hb1 ?_
     simp only [s3,s4,s5,s6,cond_true]
     refine Ev.bind hl1 ?_
     simp only [s7,s8,s9,cond_true]
     exact f1
    ·simp only [ref1_lines_L0,ix_lt,cond_true,ix_get,Option.bind_some,jn,hm1,hE,hFF]; try rfl
theorem linesB_ev (l : List Stmt) (d m : Nat) (h : okSl d l) (hw : m + wtl l ≤ 2000) : ∃ w,Ev (fun n=>ref1_lines n l (m : Int)) w ∧ w.size ≤ 1000 * wtl l:=by
 have wlen : ∀ l : List Stmt,l.length ≤ wtl l:=by
  intro l
  induction l with
  | nil=>simp
  | cons s r ih=>cases s; rw [List.length_cons,wtl,wt]; omega
 obtain ⟨t,k1,k2⟩:=tabs_ev m (by omega)
 have z : b0.size = 0:=rfl
 obtain ⟨w,l1,l2⟩:=lines_ev.2 l d m t [] b0 h hw k2 (by have:=wlen l; simp; omega) (by omega)
 exact ⟨w,Ev.step (Ev.of_eq (g:=fun n=>(ref1_tabs n (m : Int)).bind fun r1=>ref1_lines_L0 n l (m : Int) r1 b0 0) (fun n=>by simp only [ref1_lines]) (Ev.bind k1 l1)),by omega⟩
def okSD (d : Decl) : Prop:=1 ≤ d.Kind ∧ d.Kind ≤ 6 ∧ 0 ≤ d.N ∧ d.N ≤ 9 ∧ d.Name.size ≤ 100
theorem Show_L1 (D : List Decl) (ts : List (List Stmt)) (w2 : ByteArray) (i3 : Int) (hts : ∀ t ∈ ts,∃ d,okSl d t ∧ wtl t ≤ 1900) (hn : ts.length ≤ 100) : ∀ (l pre : List (List Stmt)) (acc : ByteArray),ts = pre ++ l → acc.size + 3000000 * l.length ≤ 1000000000000 → ∃ w,Ev (fun n=>ref1_Show_L1 n ⟨D,ts⟩ w2 i3 acc pre.length) w
 | [],pre,acc,e,h=>by
  rw [List.append_nil] at e
  have l1 : decide ((pre.length : Int) < ln ts) = false:=by rw [e]; exact ix_ge _
  exact ⟨acc,Ev.step (Ev.of_eq (g:=fun n=>some acc) (fun n=>by simp only [ref1_Show_L1,l1,cond_false]) (Ev.ret _))⟩
 | t :: r,pre,acc,e,h=>by
  have hp : pre.length + 1 ≤ 100:=by have:=congrArg List.length e; simp at this; omega
  have l1 : decide ((pre.length : Int) < ln ts) = true:=by rw [e]; exact ix_lt _ _ _
  have l2 : idx ts (pre.length : Int) = some t:=by rw [e]; exact ix_get _ _ _
  obtain ⟨d,h1,h2⟩:=hts t (by rw [e]; simp)
  obtain ⟨wl,k1,k2⟩:=linesB_ev t d 1 h1 (by omega)
  rw [List.length_cons] at h
  have z1 : x_676f207b0a.size = 5:=rfl
  have z2 : x_7d0a.size = 2:=rfl
  have r1 : sroom acc x_676f207b0a = true:=sroom_of (by omega)
  have r2 : sroom (acc ++ x_676f207b0a) wl = true:=sroom_of (by rw [size_app]; omega)
  have r3 : sroom ((acc ++ x_676f207b0a) ++ wl) x_7d0a = true:=sroom_of (by rw [size_app,size_app]; omega)
  obtain ⟨w,m1⟩:=Show_L1 D ts w2 i3 hts hn r (pre ++ [t]) (((acc ++ x_676f207b0a) ++ wl) ++ x_7d0a) (by rw [e]; exact ix_cons _ _ _) (by simp only [size_app]; omega)
  refine ⟨w,Ev.step (Ev.of_eq (g:=fun n=>(ref1_lines n t ((1 : Nat) : Int)).bind fun r21=>bif sroom (acc ++ x_676f207b0a) r21 then bif sroom ((acc ++ x_676f207b0a) ++ r21) x_7d0a then ref1_Show_L1 n ⟨D,ts⟩ w2 i3 (((acc ++ x_676f207b0a) ++ r21) ++ x_7d0a) ((pre ++ [t]).length) else none else none) (fun n=>?_) (Ev.bind k1 ?_))⟩
  ·simp only [ref1_Show_L1,l1,l2,r1,cond_true,Option.bind_some]
   rw [ix_wr pre t (by omega)]; rfl
  ·simp only [r2,r3,cond_true]; exact m1
theorem Show_L0 (D : List Decl) (ts : List (List Stmt)) (hD : ∀ d ∈ D,okSD d) (hDn : D.length ≤ 1000) (hts : ∀ t ∈ ts,∃ d,okSl d t ∧ wtl t ≤ 1900) (hn : ts.length ≤ 100) : ∀ (l pre : List Decl) (acc : ByteArray),D = pre ++ l → acc.size + 1000 * l.length ≤ 100000000 → ∃ w,Ev (fun n=>ref1_Show_L0 n ⟨D,ts⟩ acc pre.length) w
 | [],pre,acc,e,h=>by
  rw [List.append_nil] at e
  have l1 : decide ((pre.length : Int) < ln D) = false:=by rw [e]; exact ix_ge _
  obtain ⟨w,m1⟩:=Show_L1 D ts acc (pre.length : Int) hts hn ts [] acc rfl (by simp at h; omega)
  exact ⟨w,Ev.step (Ev.of_eq (fun n=>by simp only [ref1_Show_L0,l1,cond_false]; rfl) m1)⟩
 | t :: r,pre,acc,e,h=>by
  have hp : pre.length + 1 ≤ 1000:=by have:=congrArg List.length e; simp at this; omega
  have l1 : decide ((pre.length : Int) < ln D) = true:=by rw [e]; exact ix_lt _ _ _
  have l2 : idx D (pre.length : Int) = some t:=by rw [e]; exact ix_get _ _ _
  obtain ⟨a1,a2,a3,a4,a5⟩:=hD t (by rw [e]; simp)
  rw [List.length_cons] at h
  have hw:=ix_wr pre t (by omega)
  obtain ⟨x7,hx7,z7⟩ : ∃ x7,idx [b0,k_var,k_wide,k_atomic,k_local,k_mutex,k_chan] t.Kind = some x7 ∧ x7.size ≤ 6:=by
   have : t.Kind = 1 ∨ t.Kind = 2 ∨ t.Kind = 3 ∨ t.Kind = 4 ∨ t.Kind = 5 ∨ t.Kind = 6:=by omega
   rcases this with h | h | h | h | h | h <;> rw [h] <;> exact ⟨_,rfl,by decide⟩
  have d1 : decide (t.Kind < 1) = false:=decide_eq_false (by omega)
  have d2 : decide (t.Kind > 6) = false:=decide_eq_false (by omega)
  have z20 : x_20.size = 1:=rfl
  have z0a : x_0a.size = 1:=rfl
  have r1 : sroom acc x7 = true:=sroom_of (by omega)
  have r2 : sroom (acc ++ x7) x_20 = true:=sroom_of (by rw [size_app]; omega)
  have r3 : sroom ((acc ++ x7) ++ x_20) t.Name = true:=sroom_of (by rw [size_app,size_app]; omega)
  by_cases h6 : t.Kind = 6
  ·have e6 : (t.Kind == 6) = true:=by simpa using h6
   have e7 : decide (t.N < 0) = false:=decide_eq_false (by omega)
   obtain ⟨wd,k1,k2⟩:=digits_ev t.N a3 a4
   have r4 : sroom (((acc ++ x7) ++ x_20) ++ t.Name) x_20 = true:=sroom_of (by simp only [size_app]; omega)
   have r5 : sroom ((((acc ++ x7) ++ x_20) ++ t.Name) ++ x_20) wd = true:=sroom_of (by simp only [size_app]; omega)
   have r6 : sroom (((((acc ++ x7) ++ x_20) ++ t.Name) ++ x_20) ++ wd) x_0a = true:=sroom_of (by simp only [size_app]; omega)
   obtain ⟨w,m1⟩:=Show_L0 D ts hD hDn hts hn r (pre ++ [t]) ((((((acc ++ x7) ++ x_20) ++ t.Name) ++ x_20) ++ wd) ++ x_0a) (by rw [e]; exact ix_cons _ _ _) (by simp only [size_app]; omega)
   refine ⟨w,Ev.step (Ev.of_eq (g:=fun n=>(ref1_Digits n t.N).bind fun r14=>bif sroom ((((acc ++ x7) ++ x_20) ++ t.Name) ++ x_20) r14 then bif sroom (((((acc ++ x7) ++ x_20) ++ t.Name) ++ x_20) ++ r14) x_0a then ref1_Show_L0 n ⟨D,ts⟩ ((((((acc ++ x7) ++ x_20) ++ t.Name) ++ x_20) ++ r14) ++ x_0a) ((pre ++ [t]).length) else none else none) (fun n=>?_) (Ev.bind k1 ?_))⟩
   ·simp only [ref1_Show_L0,l1,l2,jn,d1,d2,cond_true,cond_false,Option.bind_some,hx7,r1,r2,r3,e6,e7,r4,hw]
   ·simp only [r5,r6,cond_true]; exact m1
  ·have e6 : (t.Kind == 6) = false:=by simpa using h6
   have r6 : sroom (((acc ++ x7) ++ x_20) ++ t.Name) x_0a = true:=sroom_of (by simp only [size_app]; omega)
   obtain ⟨w,m1⟩:=Show_L0 D ts hD hDn hts hn r (pre ++ [t]) ((((acc ++ x7) ++ x_20) ++ t.Name) ++ x_0a) (by rw [e]; exact ix_cons _ _ _) (by simp only [size_app]; omega)
   refine ⟨w,Ev.step (Ev.of_eq (fun n=>?_) m1)⟩
   simp only [ref1_Show_L0,l1,l2,jn,d1,d2,cond_true,cond_false,Option.bind_some,hx7,r1,r2,r3,e6,r6,hw]
theorem Show_ev (D : List Decl) (ts : List (List Stmt)) (hD : ∀ d ∈ D,okSD d) (hDn : D.length ≤ 1000) (hts : ∀ t ∈ ts,∃ d,okSl d t ∧ wtl t ≤ 1900) (hn : ts.length ≤ 100) : ∃ w,Ev (fun n=>ref1_Show n ⟨D,ts⟩) w:=by
 have z : b0.size = 0:=rfl
 obtain ⟨w,h⟩:=Show_L0 D ts hD hDn hts hn D [] b0 rfl (by omega)
 exact ⟨w,Ev.of_eq (fun n=>by simp only [ref1_Show]; rfl) h⟩
theorem okSD_of {D : List Decl} (h : okDecls D) : (∀ d ∈ D,okSD d) ∧ D.length ≤ 1000:=by
 obtain ⟨k0,k1,r,hk,r0,r1,rfl⟩:=h
 refine ⟨fun d hd=>?_,by simp⟩
 have zx : k_x.size = 1:=rfl
 have zy : k_y.size = 1:=rfl
 have zz : k_z.size = 1:=rfl
 have za : k_a.size = 1:=rfl
 have zt : k_t.size = 1:=rfl
 have zm : k_m.size = 1:=rfl
 have zc : k_c.size = 1:=rfl
 have zd : k_d.size = 1:=rfl
 simp only [List.mem_cons,List.not_mem_nil,or_false] at hd
 rcases hd with rfl | rfl | rfl | rfl | rfl | rfl | rfl | rfl <;> refine ⟨?_,?_,?_,?_,?_⟩ <;> simp only <;> omega
end Go.Su.Ytkmcnajbhclimaa
