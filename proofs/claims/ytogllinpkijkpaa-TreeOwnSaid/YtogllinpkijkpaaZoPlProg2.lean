/-
  Programs of two threads.
-/
import Derived.Test.YtogllinpkijkpaaZoPlIx
namespace Go.Su.Ytogllinpkijkpaa
open Go.Mx Go.Proofs
set_option linter.unusedVariables false
set_option linter.unusedSimpArgs false
set_option maxHeartbeats 4000000
mutual
def szS : Stmt → Nat
 | ⟨_,_,_,_,e,b,l,_⟩=>1 + szE e + (szSl b + szSl l)
def szSl : List Stmt → Nat
 | []=>0
 | s :: r=>szS s + szSl r
end
mutual
def fl1 : Stmt → List Stmt
 | ⟨k,w,v,m,e,b,l,a⟩=>⟨k,w,v,m,e,b,l,a⟩ :: (flat b ++ flat l)
def flat : List Stmt → List Stmt
 | []=>[]
 | s :: r=>fl1 s ++ flat r
end
theorem len_El : ∀ l : List Expr,l.length ≤ szEl l
 | []=>by simp
 | e :: r=>by
  have:=len_El r
  cases e
  rw [List.length_cons,szEl,szE]; omega
theorem len_Sl : ∀ l : List Stmt,l.length ≤ szSl l
 | []=>by simp
 | e :: r=>by
  have:=len_Sl r
  cases e
  rw [List.length_cons,szSl,szS]; omega
theorem flat_len : (∀ s,(fl1 s).length ≤ szS s) ∧ ∀ l,(flat l).length ≤ szSl l:=by
 refine stmt_ind ?_ (by simp [flat]) ?_
 ·intro k w v m e b l a h1 h2
  rw [fl1,szS]; simp only [List.length_cons,List.length_append]; omega
 ·intro s r h1 h2
  rw [flat,szSl,List.length_append]; omega
theorem fl1_eq (s : Stmt) : fl1 s = s :: (flat s.Body ++ flat s.Else):=by cases s; rw [fl1]
theorem szS_wt : (∀ s d,okS d s → szS s ≤ wt s) ∧ ∀ l d,okSl d l → szSl l ≤ wtl l:=by
 refine stmt_ind ?_ (by simp [szSl,wtl]) ?_
 ·intro k w v m e b l a hb hl d h
  rw [okS] at h
  obtain ⟨h1,_,h3,h4,h5⟩:=h
  have hb:=hb _ h4
  have hl:=hl _ h5
  rw [szS,wt]; omega
 ·intro s r h1 h2 d h
  rw [okSl] at h
  have:=h1 _ h.1
  have:=h2 _ h.2
  rw [szSl,wtl]; omega
theorem set_self {α : Type} (pre : List α) (x : α) (r : List α) : (pre ++ x :: r).set (pre.length : Int).toNat x = pre ++ x :: r:=by
 simp [List.set_append]
theorem sub_all {α : Type} (l : List α) : sub l 0 (ln l) = some l:=by
 have:=sub_of (l:=l) (a:=0) (b:=l.length) (by omega) (by omega)
 simpa using this
theorem copyE_ev : (∀ e,szE e ≤ 1000000 → Ev (fun n=>tree_copyExpr n e) e) ∧
  ∀ l,∀ (e : Expr) (r1 : List Expr) (pre : List Expr),szEl l ≤ 1000000 → (pre ++ l).length ≤ 1000000 → Ev (fun n=>tree_copyExpr_L0 n e r1 (pre ++ l) (pre ++ l) b0 pre.length) ⟨e.Kind,e.N,e.Name,pre ++ l⟩:=by
 refine expr_ind ?_ ?_ ?_
 ·intro k m w l ih h
  rw [szE] at h
  have hl:=len_El l
  have hr : room s_Expr.i1.bytes ([] : List Expr).length l.length = true:=room_of (by
   have : s_Expr.i1.bytes = 56:=rfl
   rw [this]; simp only [List.length_nil]; omega)
  refine Ev.step (Ev.of_eq (g:=fun n=>tree_copyExpr_L0 n ⟨k,m,w,l⟩ l l l b0 0) (fun n=>?_) ?_)
  ·simp only [tree_copyExpr,Clone_Expr,Clip_Expr_o,hr,cond_true,Option.bind_some]; rfl
  ·exact ih ⟨k,m,w,l⟩ l [] (by omega) (by simp; omega)
 ·intro e r1 pre h1 h2
  refine Ev.step (Ev.of_eq (g:=fun n=>some ⟨e.Kind,e.N,e.Name,pre ++ []⟩) (fun n=>?_) (Ev.ret _))
  simp only [tree_copyExpr_L0,List.append_nil,ix_ge,cond_false]
 ·intro x r ihx ihr e r1 pre h1 h2
  rw [szEl] at h1
  have hp : pre.length ≤ 1000000:=by simp at h2; omega
  refine Ev.step (Ev.of_eq (g:=fun n=>(tree_copyExpr n x).bind fun r8=>tree_copyExpr_L0 n e r1 (pre ++ x :: r) ((pre ++ x :: r).set (pre.length : Int).toNat r8) b0 ((pre ++ [x]).length)) (fun n=>?_) (Ev.bind (ihx (by omega)) ?_))
  ·simp only [tree_copyExpr_L0,ix_lt,cond_true,ix_get,Option.bind_some]
   rw [ix_wr pre x (by omega)]
  ·rw [set_self,ix_cons]
   exact ihr e r1 (pre ++ [x]) (by omega) (by rw [← ix_cons]; exact h2)
theorem copyS_ev : (∀ s,szS s ≤ 1000000 → Ev (fun n=>tree_copyStmt n s) s) ∧
  ∀ l,∀ (r0 r1 : List Stmt) (pre : List Stmt),szSl l ≤ 1000000 → (pre ++ l).length ≤ 1000000 → Ev (fun n=>tree_copyBlock_L0 n r0 r1 (pre ++ l) (pre ++ l) pre.length) (pre ++ l):=by
 have blk : ∀ l : List Stmt,szSl l ≤ 1000000 → (∀ (r0 r1 : List Stmt) (pre : List Stmt),szSl l ≤ 1000000 → (pre ++ l).length ≤ 1000000 → Ev (fun n=>tree_copyBlock_L0 n r0 r1 (pre ++ l) (pre ++ l) pre.length) (pre ++ l)) → Ev (fun n=>tree_copyBlock n l) l:=by
  intro l h ih
  have hl:=len_Sl l
  have hr : room s_Stmt.i1.bytes ([] : List Stmt).length l.length = true:=room_of (by
   have : s_Stmt.i1.bytes = 168:=rfl
   rw [this]; simp only [List.length_nil]; omega)
  refine Ev.step (Ev.of_eq (g:=fun n=>tree_copyBlock_L0 n l l l l 0) (fun n=>?_) ?_)
  ·simp only [tree_copyBlock,Clone_Stmt,Clip_Stmt_o,hr,cond_true,Option.bind_some]; rfl
  ·exact ih l l [] h (by simp; omega)
 refine stmt_ind ?_ ?_ ?_
 ·intro k w v m e b l a ihb ihl h
  rw [szS] at h
  refine Ev.step (Ev.of_eq (g:=fun n=>(tree_copyExpr n e).bind fun r1=>(tree_copyBlock n b).bind fun r2=>(tree_copyBlock n l).bind fun r3=>some ⟨k,w,v,m,r1,r2,r3,a⟩) (fun n=>?_)
   (Ev.bind (copyE_ev.1 e (by omega)) (Ev.bind (blk b (by omega) ihb) (Ev.bind (blk l (by omega) ihl) (Ev.ret _)))))
  simp only [tree_copyStmt]
 ·intro r0 r1 pre h1 h2
  refine Ev.step (Ev.of_eq (g:=fun n=>some (pre ++ [])) (fun n=>?_) (Ev.ret _))
  simp only [tree_copyBlock_L0,List.append_nil,ix_ge,cond_false]
 ·intro x r ihx ihr r0 r1 pre h1 h2
  rw [szSl] at h1
  have hp : pre.length ≤ 1000000:=by simp at h2; omega
  refine Ev.step (Ev.of_eq (g:=fun n=>(tree_copyStmt n x).bind fun r8=>tree_copyBlock_L0 n r0 r1 (pre ++ x :: r) ((pre ++ x :: r).set (pre.length : Int).toNat r8) ((pre ++ [x]).length)) (fun n=>?_) (Ev.bind (ihx (by omega)) ?_))
  ·simp only [tree_copyBlock_L0,ix_lt,cond_true,ix_get,Option.bind_some]
   rw [ix_wr pre x (by omega)]
  ·rw [set_self,ix_cons]
   exact ihr r0 r1 (pre ++ [x]) (by omega) (by rw [← ix_cons]; exact h2)
theorem room32 (a : Nat) (h : a ≤ 2000000) (x : Stmt) : room s_Stmt.i1.bytes a [x].length = true:=room_of (by
 have : s_Stmt.i1.bytes = 168:=rfl
 rw [this]; simp only [List.length_singleton]; omega)
def flats : List (List Stmt) → List Stmt
 | []=>[]
 | t :: r=>flat t ++ flats r
def szT : List (List Stmt) → Nat
 | []=>0
 | t :: r=>1 + szSl t + szT r
theorem len_T : ∀ ts : List (List Stmt),ts.length ≤ szT ts ∧ (flats ts).length ≤ szT ts
 | []=>by simp [flats]
 | t :: r=>by
  have:=len_T r
  have:=flat_len.2 t
  rw [flats,szT,List.length_append,List.length_cons]; omega
theorem sz_flat : (∀ s,∀ x ∈ fl1 s,szS x ≤ szS s) ∧ ∀ l,∀ x ∈ flat l,szS x ≤ szSl l:=by
 refine stmt_ind ?_ (by simp [flat]) ?_
 ·intro k w v m e b l a h1 h2 x hx
  rw [fl1,List.mem_cons,List.mem_append] at hx
  rcases hx with rfl | hx | hx
  ·exact Nat.le_refl _
  ·have:=h1 x hx; rw [szS]; omega
  ·have:=h2 x hx; rw [szS]; omega
 ·intro s r h1 h2 x hx
  rw [flat,List.mem_append] at hx
  rw [szSl]
  rcases hx with hx | hx
  ·have:=h1 x hx; omega
  ·have:=h2 x hx; omega
theorem sz_flats : ∀ ts : List (List Stmt),∀ x ∈ flats ts,szS x ≤ szT ts
 | [],x,hx=>by simp [flats] at hx
 | t :: r,x,hx=>by
  rw [flats,List.mem_append] at hx
  rw [szT]
  rcases hx with hx | hx
  ·have:=sz_flat.2 t x hx; omega
  ·have:=sz_flats r x hx; omega
end Go.Su.Ytogllinpkijkpaa
namespace Go.Su.Ytogllinpkijkpaa
open Go.Mx Go.Proofs
set_option maxRecDepth 100000
set_option maxHeartbeats 20000000
set_option linter.unusedVariables false
set_option linter.unusedSimpArgs false
theorem Clone_Stmt_id {n : Nat} {a r : List Stmt} (h : Clone_Stmt n a = some r) : r = a:=by
 unfold Clone_Stmt at h
 obtain ⟨_,h⟩:=gsome h
 simpa using (Option.some.inj h).symm
theorem Clip_Stmt_id {n : Nat} {a r : List Stmt} (h : Clip_Stmt_o n a = some r) : r = a:=by
 unfold Clip_Stmt_o at h
 exact (Option.some.inj h).symm
theorem copyBlock_keep (a0 r1 r2 r : List Stmt) (k : Nat) (hb : r2.length < 9223372036854775807) : ∀ (q : Nat) (l3 : List Stmt) (i4 : Int),0 ≤ i4 → (k : Int) < i4 → tree_copyBlock_L0 q a0 r1 r2 l3 i4 = some r → r[k]? = l3[k]?
 | 0,l3,i4,_,_,h=>by rw [tree_copyBlock_L0] at h; cases h
 | q + 1,l3,i4,h0,hk,h=>by
  rw [tree_copyBlock_L0] at h
  cases hc : decide (i4 < ln r2)
  ·rw [hc,cond_false] at h
   rw [Option.some.inj h]
  ·rw [hc,cond_true] at h
   have hlt : i4 < ln r2:=of_decide_eq_true hc
   have hlt' : i4 < (r2.length : Int):=hlt
   obtain ⟨x5,_,h⟩:=bsome h
   obtain ⟨r6,_,h⟩:=bsome h
   obtain ⟨x7,_,h⟩:=bsome h
   rw [wr_of (by omega)] at h
   rw [copyBlock_keep a0 r1 r2 r k hb q _ _ (by omega) (by omega) h,List.getElem?_set_ne (by omega)]
theorem copyBlock_g {n : Nat} {a0 r : List Stmt} {k : Nat} {x : Stmt} (hx : r[k]? = some x) (hb : a0.length < 9223372036854775807) (h : tree_copyBlock n a0 = some r) :
  GO Try.prog 29 [] [po s_Stmt a0] (.sl 100 1 0 r.length false) [(100,gb 1 r k (gS 101 1 102 1 x)),(101,rb 1 s_Expr x.E.Of),(102,rb 1 s_Stmt x.Body)]:=by
 rcases n with _ | n
 ·rw [tree_copyBlock] at h; cases h
 rw [tree_copyBlock] at h
 refine GO_bodyA hT Try.func29 rfl [] (by kernel_rfl) fun bad w m=>?_
 refine Qzd hT 1 [0] [] ?_
 refine Qg hT 1 [6] ⟨[(6,po s_Stmt a0)],[],1⟩ ?_
 obtain ⟨r1,hr1,h⟩:=bsome h
 refine Og [] [(100,rb 1 s_Stmt r1)] [po s_Stmt a0] [po s_Stmt a0] [] [(100,7,1)] [(7,rb 1 s_Stmt r1)] (vs 100 1 s_Stmt r1) (vs 7 1 s_Stmt r1) 2 en47 (Clone_Stmt_ok hr1) ?_
 refine Sg hT 0 [7] ⟨[(7,vs 7 1 s_Stmt r1)],[(7,rb 1 s_Stmt r1)],2⟩ ?_
 obtain ⟨r2,hr2,h⟩:=bsome h
 refine Og [(0,rb 0 s_Stmt r1)] [(100,rb 1 s_Stmt r2)] [vs 7 1 s_Stmt r1] [vs 0 0 s_Stmt r1] [(7,0,0)] [(100,8,2)] [(8,rb 2 s_Stmt r2)] (.sl 100 1 0 (s_Stmt.F r2).length false) (.sl 8 2 0 (s_Stmt.F r2).length false) 3 en33 (Clip_Stmt_o_ok hr2) ?_
 have hb2 : r2.length < 9223372036854775807:=by rw [Clip_Stmt_id hr2,Clone_Stmt_id hr1]; exact hb
 have hl : (s_Stmt.F r2).length = r2.length:=s_Stmt.len r2
 rw [hl]
 refine Sz hT 1 [3] ⟨[(3,.sl 8 2 0 r2.length false)],[(8,rb 2 s_Stmt r2)],3⟩ ?_
 refine WA_seq ?_
 refine Qgd hT 1 [3,9] [(9,.sl 8 2 0 r2.length false)] ?_
 refine One' hT rfl (v_lenG s_Stmt 8 2 r2.length false (rb 2 s_Stmt r2)) ?_
 refine Szd hT 1 [3,9,10,11] [(10,vi (ln r2)),(11,vi 0)] ?_
 refine WA_block ?_
 refine lK [3,9,10,11] [(8,8,1)] (fun kk s=>∃ q,q ≤ kk ∧ q ≤ n ∧ ∃ (l3 : List Stmt),∃ (i4 : Int),tree_copyBlock_L0 q a0 r1 r2 l3 i4 = some r ∧ 0 ≤ i4 ∧ l3.length = r2.length ∧
   ((i4 ≤ k ∧ s = ⟨[(3,.sl 8 1 0 r2.length false),(9,.sl 8 1 0 r2.length false),(10,vi (ln r2)),(11,vi i4)],[(8,rb 1 s_Stmt l3)],2⟩) ∨
    (k < i4 ∧ s = ⟨[(3,.sl 8 1 0 r2.length false),(9,.sl 8 1 0 r2.length false),(10,vi (ln r2)),(11,vi i4)],[(8,gb 1 l3 k (gS 101 1 102 1 x)),(101,rb 1 s_Expr x.E.Of),(102,rb 1 s_Stmt x.Body)],2⟩)))
  n ⟨n,Nat.le_refl _,Nat.le_refl _,r2,0,h,by omega,rfl,.inl ⟨by omega,rfl⟩⟩ (by rintro s ⟨q,hq,_,l3,i4,h,_⟩; obtain rfl:=Nat.le_zero.1 hq; rw [tree_copyBlock_L0] at h; cases h) ?_
 clear h
 rintro k1 s ⟨q1,hk1,hn1,l3,i4,h,hi0,hl3,hs⟩
 rcases q1 with _ | q1
 ·rw [tree_copyBlock_L0] at h; cases h
 have hkeep:=copyBlock_keep a0 r1 r2 r k hb2 q1
 rw [tree_copyBlock_L0] at h
 rcases hs with ⟨hik,rfl⟩ | ⟨hik,rfl⟩
 ·
  refine Qzd hT 1 [3,9,10,11,12] [(12,vb (decide (i4 < (ln r2))))] ?_
  refine WA_seq ?_
  cases hc : decide (i4 < ln r2)
  ·rw [hc,cond_false] at h
   obtain rfl:=Option.some.inj h
   have h1:=of_decide_eq_false hc
   have h2 : ¬ i4 < (r2.length : Int):=h1
   have:=(List.getElem?_eq_some_iff.1 hx).1
   omega
  rw [hc,cond_true] at h
  have hlt : i4 < (r2.length : Int):=of_decide_eq_true hc
  refine WA_cond true (by kernel_rfl) (fun _=>?_) (fun hb=>by cases hb)
  refine WA_skip ?_
  refine WA_seq ?_
  refine WA_block ?_
  refine Qgd hT 1 [3,9,10,11,13] [(13,vi i4)] ?_
  obtain ⟨x5,hx5,h⟩:=bsome h
  refine One' hT rfl (v_indexG s_Stmt 8 1 r2.length false (rb 1 s_Stmt l3) .i64 i4 hi0 (by omega)) ?_
  refine Sgd hT 0 [3,9,10,11,13,14] [(14,.box 8 1 i4.toNat 0)] ?_
  refine One' hT rfl (v_load_row s_Stmt 8 1 (rb 1 s_Stmt l3) l3 i4.toNat 0 x5 (eStmt x5) (idx_some hx5).2) ?_
  refine Szh hT 3 [3,4,5,9,10,11] [(4,vi i4),(5,bx 5 2)] [(5,cb 2 39 11 (eStmt x5)),(8,rb 1 s_Stmt l3)] 3 ?_
  refine Rgd hT 3 [3,9,10,11,16,17,18] [(16,.sl 8 1 0 r2.length false),(17,vi i4),(18,eStmt x5)] ?_
  obtain ⟨r6,hr6,h⟩:=bsome h
  by_cases hk : i4 = k
  ·
   subst hk
   obtain ⟨x7,hx7,h⟩:=bsome h
   rw [wr_of (by omega)] at h
   have hkl : k < l3.length:=by omega
   have e6 : r6 = x:=by
    have h1:=hkeep _ _ (by omega) (by omega) h
    rw [hx,Int.toNat_natCast,List.getElem?_set_self hkl] at h1
    exact (Option.some.inj h1).symm
   subst e6
   refine Og [] [(101,rb 1 s_Expr r6.E.Of),(102,rb 1 s_Stmt r6.Body)] [eStmt x5] [eStmt x5] [] [(101,101,3),(102,102,4)] [(101,rb 3 s_Expr r6.E.Of),(102,rb 4 s_Stmt r6.Body)] (gS 101 1 102 1 r6) (gS 101 3 102 4 r6) 5 en32 (copyStmt_p hr6) ?_
   refine Sgh hT 0 [3,9,10,11,16,17,19] [(19,gS 101 3 102 4 r6)] [(101,rb 3 s_Expr r6.E.Of),(102,rb 4 s_Stmt r6.Body),(5,cb 2 39 11 (eStmt x5)),(8,rb 1 s_Stmt l3)] 5 ?_
   refine WO_weak (Weak_var 8 (rb 1 s_Stmt l3) rfl (by intro e; have:=s_Stmt.len l3; rw [show s_Stmt.F l3 = [] from e] at this; simp at this; omega)) ?_
   refine One' hT rfl (v_indexG s_Stmt 8 1 r2.length false ⟨1,39,11,true,false,s_Stmt.F l3⟩ .i64 (k : Int) hi0 (by omega)) ?_
   refine One' hT rfl (v_storeG 8 1 ⟨1,39,11,true,false,s_Stmt.F l3⟩ k 0 (eStmt x7) (gS 101 3 102 4 r6) (gR (l3.set k r6) k (gS 101 3 102 4 r6)) ?_ (gR_put l3 k r6 _).symm) ?_
   ·show (s_Stmt.F l3)[k]? = _
    rw [s_Stmt.hF,List.getElem?_map]
    have:=(idx_some hx7).2
    rw [Int.toNat_natCast] at this
    rw [this]; rfl
   refine Szh hT 0 [3,9,10,11] [] [(8,gb 1 (l3.set k r6) k (gS 101 3 102 4 r6)),(101,rb 3 s_Expr r6.E.Of),(102,rb 4 s_Stmt r6.Body),(5,cb 2 39 11 (eStmt x5))] 5 ?_
   refine Rgd hT 2 [3,9,10,11] [(11,vi (wr ((k : Int) + 1)))] ?_
   rw [wr_of (by omega)]
   refine oK [3,9,10,11] [(8,8,1),(101,101,1),(102,102,1)] ⟨q1,by omega,by omega,l3.set k r6,(k : Int) + 1,by simpa using h,by omega,by simpa using hl3,.inr ⟨by omega,rfl⟩⟩ (by kernel_rfl) (by kernel_rfl) (by kernel_rfl) ?_ (by kernel_rfl)
   exact mH rfl (gb_tr _ _ rfl) (mH rfl rfl (mH rfl rfl rfl rfl) rfl) rfl
  ·refine Pt' en32 (tree_copyStmt_ok hr6) ?_
   refine Sgd hT 0 [3,9,10,11,16,17,19] [(19,eStmt r6)] ?_
   obtain ⟨x7,hx7,h⟩:=bsome h
   refine One' hT rfl (v_indexG s_Stmt 8 1 r2.length false (rb 1 s_Stmt l3) .i64 i4 hi0 (by omega)) ?_
   refine Sg hT 0 [3,9,10,11,19,20] ⟨[(3,.sl 8 1 0 r2.length false),(9,.sl 8 1 0 r2.length false),(10,vi (ln r2)),(11,vi i4),(19,eStmt r6),(20,.box 8 1 i4.toNat 0)],[(5,cb 2 39 11 (eStmt x5)),(8,rb 1 s_Stmt l3)],3⟩ ?_
   refine One' hT rfl (v_storeRow s_Stmt 8 1 (rb 1 s_Stmt l3) l3 i4.toNat 0 x7 r6 (idx_some hx7).2) ?_
   refine Szh hT 0 [3,9,10,11] [] [(8,rb 1 s_Stmt (l3.set i4.toNat r6)),(5,cb 2 39 11 (eStmt x5))] 3 ?_
   refine Rgd hT 2 [3,9,10,11] [(11,vi (wr (i4 + 1)))] ?_
   rw [wr_of (by omega)] at h ⊢
   exact oK [3,9,10,11] [(8,8,1)] ⟨_,by omega,by omega,l3.set i4.toNat r6,i4 + 1,h,by omega,by simpa using hl3,.inl ⟨by omega,rfl⟩⟩
 ·
  refine Qzd hT 1 [3,9,10,11,12] [(12,vb (decide (i4 < (ln r2))))] ?_
  refine WA_seq ?_
  refine Ci h (fun h=>?_) fun h=>?_
  ·rcases Classical.em (i4 < (r2.length : Int)) with hlt | hge
   ·refine WA_skip ?_
    refine WA_seq ?_
    refine WA_block ?_
    refine Qgd hT 1 [3,9,10,11,13] [(13,vi i4)] ?_
    obtain ⟨x5,hx5,h⟩:=bsome h
    refine One' hT rfl (v_indexG s_Stmt 8 1 r2.length false (gb 1 l3 k (gS 101 1 102 1 x)) .i64 i4 hi0 (by omega)) ?_
    refine Sgd hT 0 [3,9,10,11,13,14] [(14,.box 8 1 i4.toNat 0)] ?_
    refine One' hT rfl (v_loadG 8 1 (gb 1 l3 k (gS 101 1 102 1 x)) i4.toNat 0 (eStmt x5) (eStmt x5) (gR_ne _ (by omega) (idx_some hx5).2)) ?_
    refine Szh hT 3 [3,4,5,9,10,11] [(4,vi i4),(5,bx 5 2)] [(5,cb 2 39 11 (eStmt x5)),(8,gb 1 l3 k (gS 101 1 102 1 x)),(101,rb 1 s_Expr x.E.Of),(102,rb 1 s_Stmt x.Body)] 3 ?_
    refine Rgd hT 3 [3,9,10,11,16,17,18] [(16,.sl 8 1 0 r2.length false),(17,vi i4),(18,eStmt x5)] ?_
    obtain ⟨r6,hr6,h⟩:=bsome h
    refine Pt' en32 (tree_copyStmt_ok hr6) ?_
    refine Sgd hT 0 [3,9,10,11,16,17,19] [(19,eStmt r6)] ?_
    obtain ⟨x7,hx7,h⟩:=bsome h
    refine One' hT rfl (v_indexG s_Stmt 8 1 r2.length false (gb 1 l3 k (gS 101 1 102 1 x)) .i64 i4 hi0 (by omega)) ?_
    refine One' hT rfl (v_storeG 8 1 (gb 1 l3 k (gS 101 1 102 1 x)) i4.toNat 0 (eStmt x7) (eStmt r6) (gR (l3.set i4.toNat r6) k (gS 101 1 102 1 x)) (gR_ne _ (by omega) (idx_some hx7).2) (gR_set_ne _ (by omega) _)) ?_
    refine Szh hT 0 [3,9,10,11] [] [(8,gb 1 (l3.set i4.toNat r6) k (gS 101 1 102 1 x)),(5,cb 2 39 11 (eStmt x5)),(101,rb 1 s_Expr x.E.Of),(102,rb 1 s_Stmt x.Body)] 3 ?_
    refine Rgd hT 2 [3,9,10,11] [(11,vi (wr (i4 + 1)))] ?_
    rw [wr_of (by omega)] at h ⊢
    refine oK [3,9,10,11] [(8,8,1),(101,101,1),(102,102,1)] ⟨_,by omega,by omega,l3.set i4.toNat r6,i4 + 1,h,by omega,by simpa using hl3,.inr ⟨by omega,rfl⟩⟩ (by kernel_rfl) (by kernel_rfl) (by kernel_rfl) ?_ (by kernel_rfl)
    exact mH rfl (gb_tr _ _ rfl) (mH rfl rfl (mH rfl rfl rfl rfl) rfl) rfl
   ·exfalso
    obtain ⟨x5,hx5,h⟩:=bsome h
    have:=(List.getElem?_eq_some_iff.1 (idx_some hx5).2).1
    omega
  refine WA_exit ?_
  refine Qzd hT 2 [2] [(2,.sl 8 1 0 r2.length false)] ?_
  obtain rfl:=Option.some.inj h
  rw [hl3]
  refine rK [2] [(8,100,1),(101,101,1),(102,102,1)] ⟨[(2,.sl 100 1 0 r2.length false)],[(100,gb 1 l3 k (gS 101 1 102 1 x)),(101,rb 1 s_Expr x.E.Of),(102,rb 1 s_Stmt x.Body)],2⟩ ⟨by kernel_rfl,by kernel_rfl,rfl⟩ (by kernel_rfl) (by kernel_rfl) ?_ (by kernel_rfl)
  exact mH rfl (gb_tr _ _ rfl) (mH rfl rfl (mH rfl rfl rfl rfl) rfl) rfl
end Go.Su.Ytogllinpkijkpaa
namespace Go.Su.Ytogllinpkijkpaa
open Go.Mx Go.Proofs
set_option maxRecDepth 100000
set_option maxHeartbeats 20000000
set_option linter.unusedVariables false
set_option linter.unusedSimpArgs false
abbrev tB (s b0 s0 n0 b1 s1 n1 : Nat) : Blk:=⟨s,29,1,true,false,[.sl b0 s0 0 n0 false,.sl b1 s1 0 n1 false]⟩
theorem Clip_g (l0 : List Stmt) (k : Nat) (x : Stmt) (l1 : List Stmt) :
  GO Try.prog 30 [(0,tB 0 1 0 l0.length 4 0 l1.length),(1,gb 0 l0 k (gS 2 0 3 0 x)),(2,rb 0 s_Expr x.E.Of),(3,rb 0 s_Stmt x.Body),(4,rb 0 s_Stmt l1)] [.sl 0 0 0 2 true]
   (.sl 0 0 0 2 false) [(0,tB 0 1 0 l0.length 4 0 l1.length),(1,gb 0 l0 k (gS 2 0 3 0 x)),(2,rb 0 s_Expr x.E.Of),(3,rb 0 s_Stmt x.Body),(4,rb 0 s_Stmt l1)]:=by
 refine GO_bodyA hT Try.func30 rfl [] (by kernel_rfl) fun bad w m=>?_
 refine Qzd hT 1 [0] [] ?_
 refine Qgd hT 2 [0,3,4] [(3,.sl 0 0 0 2 true),(4,.sl 0 0 0 2 true)] ?_
 refine One' hT rfl (v_lenG s_LStmt 0 0 2 true (tB 0 1 0 l0.length 4 0 l1.length)) ?_
 refine Sgd hT 1 [3,5,6] [(5,vi 2),(6,.sl 0 0 0 2 true)] ?_
 refine One' hT rfl (v_lenG s_LStmt 0 0 2 true (tB 0 1 0 l0.length 4 0 l1.length)) ?_
 refine Sgd hT 0 [3,5,7] [(7,vi 2)] ?_
 refine WO_clip' hT s_LStmt rfl (by kernel_rfl) 0 0 2 true (tB 0 1 0 l0.length 4 0 l1.length) rfl (by kernel_rfl) (by kernel_rfl) rfl (by kernel_rfl) (by kernel_rfl) (by kernel_rfl) ?_
 refine Sz hT 1 [2] ⟨[(2,.sl 0 0 0 2 false)],[(0,tB 0 1 0 l0.length 4 0 l1.length),(1,gb 0 l0 k (gS 2 0 3 0 x)),(2,rb 0 s_Expr x.E.Of),(3,rb 0 s_Stmt x.Body),(4,rb 0 s_Stmt l1)],1⟩ ?_
 refine rK [2] [(0,0,0),(1,1,0),(2,2,0),(3,3,0),(4,4,0)] ⟨[(2,.sl 0 0 0 2 false)],[(0,tB 0 1 0 l0.length 4 0 l1.length),(1,gb 0 l0 k (gS 2 0 3 0 x)),(2,rb 0 s_Expr x.E.Of),(3,rb 0 s_Stmt x.Body),(4,rb 0 s_Stmt l1)],2⟩ ⟨by kernel_rfl,by kernel_rfl,rfl⟩ (by kernel_rfl) (by kernel_rfl) ?_ (by kernel_rfl)
 exact mH rfl rfl (mH rfl (gb_tr _ _ rfl) (mH rfl rfl (mH rfl rfl (mH rfl rfl rfl rfl) rfl) rfl) rfl) rfl
theorem copy_g {n n1 : Nat} {d : List Decl} {l0 l1 : List Stmt} {k : Nat} {x : Stmt} (hx : l0[k]? = some x) (hb : l0.length < 9223372036854775807) (h0 : tree_copyBlock n l0 = some l0) (h1 : tree_copyBlock n1 l1 = some l1) (hd : Clone_Decl 0 d = some d) :
  GO Try.prog 8 [] [eProg ⟨d,[l0,l1]⟩] (.agg [.sl 100 1 0 (s_Decl.F d).length false,.sl 101 1 0 2 false])
   [(100,rb 1 s_Decl d),(101,tB 1 102 1 l0.length 105 1 l1.length),(102,gb 1 l0 k (gS 103 1 104 1 x)),(103,rb 1 s_Expr x.E.Of),(104,rb 1 s_Stmt x.Body),(105,rb 1 s_Stmt l1)]:=by
 refine GO_bodyA hT Try.func8 rfl [1000] (by kernel_rfl) fun bad w m=>?_
 refine Qz hT 2 [1,2] ⟨[(1,bx 1 1),(2,bx 2 2)],[(2,cb 2 26 2 (.agg [vn,vn])),(1,cb 1 26 2 (eProg ⟨d,[l0,l1]⟩))],3⟩ ?_
 refine Qgd hT 2 [1,2,7] [(7,po s_Decl d)] ?_
 refine Og [] [(100,rb 1 s_Decl d)] [po s_Decl d] [po s_Decl d] [] [(100,8,3)] [(8,rb 3 s_Decl d)] (vs 100 1 s_Decl d) (vs 8 3 s_Decl d) 4 en28 (Clone_Decl_ok hd) ?_
 refine Sgh hT 0 [1,2,8] [(8,vs 8 3 s_Decl d)] [(8,rb 3 s_Decl d),(2,cb 2 26 2 (.agg [vn,vn])),(1,cb 1 26 2 (eProg ⟨d,[l0,l1]⟩))] 4 ?_
 refine Og [(0,rb 0 s_Decl d)] [(100,rb 1 s_Decl d)] [vs 8 3 s_Decl d] [vs 0 0 s_Decl d] [(8,0,0)] [(100,9,4)] [(9,rb 4 s_Decl d)] (.sl 100 1 0 (s_Decl.F d).length false) (.sl 9 4 0 (s_Decl.F d).length false) 5 en27 (Clip_Decl_o_ok (n:=0) (r:=d) rfl) ?_
 refine Szh hT 3 [1,2,3] [(3,bx 3 5)] [(3,cb 5 26 2 (.agg [.sl 9 4 0 (s_Decl.F d).length false,vn])),(9,rb 4 s_Decl d),(2,cb 2 26 2 (.agg [vn,vn])),(1,cb 1 26 2 (eProg ⟨d,[l0,l1]⟩))] 6 ?_
 refine WA_seq ?_
 refine Qgd hT 2 [2,3,12] [(12,po s_LStmt [l0,l1])] ?_
 refine One' hT rfl (v_len s_LStmt .opt [l0,l1]) ?_
 refine Szd hT 1 [2,3,12,13,14] [(13,vi 2),(14,vi 0)] ?_
 refine WA_block ?_
 refine WA_loop (fun kk s=>match kk with
  | 3=>s = ⟨[(2,bx 2 2),(3,bx 3 5),(12,po s_LStmt [l0,l1]),(13,vi 2),(14,vi 0)],[(3,cb 5 26 2 (.agg [.sl 9 4 0 (s_Decl.F d).length false,vn])),(9,rb 4 s_Decl d),(2,cb 2 26 2 (.agg [vn,vn])),(1,cb 1 26 2 (eProg ⟨d,[l0,l1]⟩))],6⟩
  | 2=>s = ⟨[(2,bx 2 2),(3,bx 3 5),(12,po s_LStmt [l0,l1]),(13,vi 2),(14,vi 1)],[(3,cb 5 26 2 (.agg [.sl 9 4 0 (s_Decl.F d).length false,.sl 23 10 0 1 true])),(23,⟨10,29,1,true,false,[.sl 201 6 0 l0.length false]⟩),(201,gb 6 l0 k (gS 202 7 203 8 x)),(202,rb 7 s_Expr x.E.Of),(203,rb 8 s_Stmt x.Body),(9,rb 4 s_Decl d),(2,cb 2 26 2 (.agg [vn,vn])),(1,cb 1 26 2 (eProg ⟨d,[l0,l1]⟩))],11⟩
  | 1=>s = ⟨[(2,bx 2 2),(3,bx 3 5),(12,po s_LStmt [l0,l1]),(13,vi 2),(14,vi 2)],[(3,cb 5 26 2 (.agg [.sl 9 4 0 (s_Decl.F d).length false,.sl 23 13 0 2 true])),(23,tB 13 201 6 l0.length 211 11 l1.length),(211,rb 11 s_Stmt l1),(201,gb 6 l0 k (gS 202 7 203 8 x)),(202,rb 7 s_Expr x.E.Of),(203,rb 8 s_Stmt x.Body),(9,rb 4 s_Decl d),(2,cb 2 26 2 (.agg [vn,vn])),(1,cb 1 26 2 (eProg ⟨d,[l0,l1]⟩))],14⟩
  | _=>False) 3 (by show (_ : SA) = _; kernel_rfl) (fun s h=>h) ?_
 intro kk s hs
 match kk,hs with
 | 2,hs =>
  obtain rfl:=hs
  refine Qzd hT 1 [2,3,12,13,14,15] [(15,vb true)] ?_
  refine WA_seq ?_
  refine WA_cond true (by kernel_rfl) (fun _=>?_) (fun hb=>by cases hb)
  refine WA_skip ?_
  refine WA_seq ?_
  refine WA_block ?_
  refine Qgd hT 0 [2,3,12,13,14] [] ?_
  refine One' hT rfl (v_index s_LStmt .opt [l0,l1] .i64 0 (a:=l0) rfl) ?_
  refine Szd hT 2 [2,3,5,12,13,14] [(5,po s_Stmt l0)] ?_
  refine WA_drawW hT hM (by kernel_rfl) ?_
  refine Ds 3 [(20,po s_Stmt l0),(19,vn),(18,.box 3 5 0 1)] [] [(0,[3]),(1,[3])] ?_
  refine Dg [] [(100,gb 1 l0 k (gS 101 1 102 1 x)),(101,rb 1 s_Expr x.E.Of),(102,rb 1 s_Stmt x.Body)] [po s_Stmt l0] [po s_Stmt l0] [] [(100,201,6),(101,202,7),(102,203,8)] [(201,gb 6 l0 k (gS 202 7 203 8 x)),(202,rb 7 s_Expr x.E.Of),(203,rb 8 s_Stmt x.Body)]
   (.sl 100 1 0 l0.length false) (.sl 201 6 0 l0.length false) 9 en29 (copyBlock_g hx hb h0) ?_ (hB':=mH rfl (gb_tr _ _ rfl) (mH rfl rfl (mH rfl rfl rfl rfl) rfl) rfl)
  refine Dh 2 [(23,.sl 23 10 0 1 true),(22,.sl 22 9 0 1 true)] [(23,⟨10,29,1,true,false,[.sl 201 6 0 l0.length false]⟩),(201,gb 6 l0 k (gS 202 7 203 8 x)),(202,rb 7 s_Expr x.E.Of),(203,rb 8 s_Stmt x.Body),(3,cb 5 26 2 (.agg [.sl 9 4 0 (s_Decl.F d).length false,vn])),(9,rb 4 s_Decl d),(2,cb 2 26 2 (.agg [vn,vn])),(1,cb 1 26 2 (eProg ⟨d,[l0,l1]⟩))] 11 [(4,[22]),(5,[23,22])] [] ?_
  refine Dh 2 [(24,.box 3 5 0 1)] [(3,cb 5 26 2 (.agg [.sl 9 4 0 (s_Decl.F d).length false,.sl 23 10 0 1 true])),(23,⟨10,29,1,true,false,[.sl 201 6 0 l0.length false]⟩),(201,gb 6 l0 k (gS 202 7 203 8 x)),(202,rb 7 s_Expr x.E.Of),(203,rb 8 s_Stmt x.Body),(9,rb 4 s_Decl d),(2,cb 2 26 2 (.agg [vn,vn])),(1,cb 1 26 2 (eProg ⟨d,[l0,l1]⟩))] 11 [(7,[3])] [(6,[3])] ?_
  refine De ?_
  refine Wk_done ?_
  refine Rz hT 2 [2,3,12,13,14] ⟨[(2,bx 2 2),(3,bx 3 5),(12,po s_LStmt [l0,l1]),(13,vi 2),(14,vi 1)],[(3,cb 5 26 2 (.agg [.sl 9 4 0 (s_Decl.F d).length false,.sl 23 10 0 1 true])),(23,⟨10,29,1,true,false,[.sl 201 6 0 l0.length false]⟩),(201,gb 6 l0 k (gS 202 7 203 8 x)),(202,rb 7 s_Expr x.E.Of),(203,rb 8 s_Stmt x.Body),(9,rb 4 s_Decl d),(2,cb 2 26 2 (.agg [vn,vn])),(1,cb 1 26 2 (eProg ⟨d,[l0,l1]⟩))],11⟩ ?_
  exact rfl
 | 1,hs =>
  obtain rfl:=hs
  refine Qzd hT 1 [2,3,12,13,14,15] [(15,vb true)] ?_
  refine WA_seq ?_
  refine WA_cond true (by kernel_rfl) (fun _=>?_) (fun hb=>by cases hb)
  refine WA_skip ?_
  refine WA_seq ?_
  refine WA_block ?_
  refine Qgd hT 0 [2,3,12,13,14] [] ?_
  refine One' hT rfl (v_index s_LStmt .opt [l0,l1] .i64 1 (a:=l1) rfl) ?_
  refine Szd hT 2 [2,3,5,12,13,14] [(5,po s_Stmt l1)] ?_
  refine WA_drawW hT hM (by kernel_rfl) ?_
  refine Ds 3 [(20,po s_Stmt l1),(19,.sl 23 10 0 1 true),(18,.box 3 5 0 1)] [] [(0,[3]),(1,[3])] ?_
  refine Dg [] [(100,rb 1 s_Stmt l1)] [po s_Stmt l1] [po s_Stmt l1] [] [(100,211,11)] [(211,rb 11 s_Stmt l1)] (.sl 100 1 0 (s_Stmt.F l1).length false) (.sl 211 11 0 (s_Stmt.F l1).length false) 12 en29 (tree_copyBlock_ok h1) ?_
  rw [show (s_Stmt.F l1).length = l1.length from s_Stmt.len l1]
  refine Dh 2 [(23,.sl 23 13 0 2 true),(22,.sl 22 12 0 1 true)] [(23,tB 13 201 6 l0.length 211 11 l1.length),(211,rb 11 s_Stmt l1),(3,cb 5 26 2 (.agg [.sl 9 4 0 (s_Decl.F d).length false,.sl 23 10 0 1 true])),(201,gb 6 l0 k (gS 202 7 203 8 x)),(202,rb 7 s_Expr x.E.Of),(203,rb 8 s_Stmt x.Body),(9,rb 4 s_Decl d),(2,cb 2 26 2 (.agg [vn,vn])),(1,cb 1 26 2 (eProg ⟨d,[l0,l1]⟩))] 14 [(4,[22]),(5,[23,23,22])] [] ?_
  refine Dh 2 [(24,.box 3 5 0 1)] [(3,cb 5 26 2 (.agg [.sl 9 4 0 (s_Decl.F d).length false,.sl 23 13 0 2 true])),(23,tB 13 201 6 l0.length 211 11 l1.length),(211,rb 11 s_Stmt l1),(201,gb 6 l0 k (gS 202 7 203 8 x)),(202,rb 7 s_Expr x.E.Of),(203,rb 8 s_Stmt x.Body),(9,rb 4 s_Decl d),(2,cb 2 26 2 (.agg [vn,vn])),(1,cb 1 26 2 (eProg ⟨d,[l0,l1]⟩))] 14 [(7,[3])] [(6,[3])] ?_
  refine De ?_
  refine Wk_done ?_
  refine Rz hT 2 [2,3,12,13,14] ⟨[(2,bx 2 2),(3,bx 3 5),(12,po s_LStmt [l0,l1]),(13,vi 2),(14,vi 2)],[(3,cb 5 26 2 (.agg [.sl 9 4 0 (s_Decl.F d).length false,.sl 23 13 0 2 true])),(23,tB 13 201 6 l0.length 211 11 l1.length),(211,rb 11 s_Stmt l1),(201,gb 6 l0 k (gS 202 7 203 8 x)),(202,rb 7 s_Expr x.E.Of),(203,rb 8 s_Stmt x.Body),(9,rb 4 s_Decl d),(2,cb 2 26 2 (.agg [vn,vn])),(1,cb 1 26 2 (eProg ⟨d,[l0,l1]⟩))],14⟩ ?_
  exact rfl
 | 0,hs =>
  obtain rfl:=hs
  refine Qzd hT 1 [2,3,12,13,14,15] [(15,vb false)] ?_
  refine WA_seq ?_
  refine WA_cond false (by kernel_rfl) (fun hb=>by cases hb) (fun _=>?_)
  refine WA_exit ?_
  refine Qgd hT 2 [2,3,27] [(27,.sl 23 13 0 2 true)] ?_
  refine Og [(0,tB 0 1 0 l0.length 4 0 l1.length),(1,gb 0 l0 k (gS 2 0 3 0 x)),(2,rb 0 s_Expr x.E.Of),(3,rb 0 s_Stmt x.Body),(4,rb 0 s_Stmt l1)] [(0,tB 0 1 0 l0.length 4 0 l1.length),(1,gb 0 l0 k (gS 2 0 3 0 x)),(2,rb 0 s_Expr x.E.Of),(3,rb 0 s_Stmt x.Body),(4,rb 0 s_Stmt l1)]
   [.sl 23 13 0 2 true] [.sl 0 0 0 2 true] [(23,0,0),(201,1,0),(202,2,0),(203,3,0),(211,4,0)] [(0,28,14),(1,201,15),(2,202,16),(3,203,17),(4,211,18)]
   [(28,tB 14 201 15 l0.length 211 18 l1.length),(201,gb 15 l0 k (gS 202 16 203 17 x)),(202,rb 16 s_Expr x.E.Of),(203,rb 17 s_Stmt x.Body),(211,rb 18 s_Stmt l1)] (.sl 0 0 0 2 false) (.sl 28 14 0 2 false) 19 en30 (Clip_g l0 k x l1) ?_
   (hA':=mH rfl rfl (mH rfl (gb_tr _ _ rfl) (mH rfl rfl (mH rfl rfl (mH rfl rfl rfl rfl) rfl) rfl) rfl) rfl) (hB':=mH rfl rfl (mH rfl (gb_tr _ _ rfl) (mH rfl rfl (mH rfl rfl (mH rfl rfl rfl rfl) rfl) rfl) rfl) rfl)
  refine Szh hT 2 [2,3] [] [(3,cb 5 26 2 (.agg [.sl 9 4 0 (s_Decl.F d).length false,.sl 28 14 0 2 false])),(28,tB 14 201 15 l0.length 211 18 l1.length),(201,gb 15 l0 k (gS 202 16 203 17 x)),(202,rb 16 s_Expr x.E.Of),(203,rb 17 s_Stmt x.Body),(211,rb 18 s_Stmt l1),(9,rb 4 s_Decl d),(2,cb 2 26 2 (.agg [vn,vn])),(1,cb 1 26 2 (eProg ⟨d,[l0,l1]⟩))] 19 ?_
  refine Qz hT 2 [2] ⟨[(2,bx 2 2)],[(2,cb 2 26 2 (.agg [.sl 9 4 0 (s_Decl.F d).length false,.sl 28 14 0 2 false])),(3,cb 5 26 2 (.agg [.sl 9 4 0 (s_Decl.F d).length false,.sl 28 14 0 2 false])),(28,tB 14 201 15 l0.length 211 18 l1.length),(201,gb 15 l0 k (gS 202 16 203 17 x)),(202,rb 16 s_Expr x.E.Of),(203,rb 17 s_Stmt x.Body),(211,rb 18 s_Stmt l1),(9,rb 4 s_Decl d),(1,cb 1 26 2 (eProg ⟨d,[l0,l1]⟩))],19⟩ ?_
  refine rK [2] [(9,100,1),(28,101,1),(201,102,1),(202,103,1),(203,104,1),(211,105,1),(2,1000,1)] ⟨[(2,bx 1000 1)],[(100,rb 1 s_Decl d),(101,tB 1 102 1 l0.length 105 1 l1.length),(102,gb 1 l0 k (gS 103 1 104 1 x)),(103,rb 1 s_Expr x.E.Of),(104,rb 1 s_Stmt x.Body),(105,rb 1 s_Stmt l1),(1000,cb 1 26 2 (.agg [.sl 100 1 0 (s_Decl.F d).length false,.sl 101 1 0 2 false]))],2⟩ ⟨by kernel_rfl,by kernel_rfl,rfl⟩ (by kernel_rfl) (by kernel_rfl) ?_ (by kernel_rfl)
  exact mH rfl rfl (mH rfl rfl (mH rfl (gb_tr _ _ rfl) (mH rfl rfl (mH rfl rfl (mH rfl rfl (mH rfl rfl rfl rfl) rfl) rfl) rfl) rfl) rfl) rfl
end Go.Su.Ytogllinpkijkpaa
namespace Go.Su.Ytogllinpkijkpaa
open Go.Mx Go.Proofs
set_option maxRecDepth 100000
set_option maxHeartbeats 20000000
set_option linter.unusedVariables false
set_option linter.unusedSimpArgs false
theorem Fzs_keep {b s : Nat} {es : List V} : ∀ l : List V,Fzs b s es l l
 | []=>trivial
 | a :: r=>⟨.keep a,Fzs_keep r⟩
theorem Fzs_set {b s : Nat} {es : List V} {v v' : V} (h : FzV b s es v v') : ∀ (l : List V) (k : Nat),Fzs b s es (l.set k v) (l.set k v')
 | [],_=>trivial
 | a :: r,0=>⟨h,Fzs_keep r⟩
 | a :: r,k + 1=>⟨.keep a,Fzs_set h r k⟩
section
variable {bad : Nat → Prop} {E : Ent} {N : Nat}
abbrev hQ (P0 : Prog) (d : List Decl) (l : List Stmt) (k : Nat) (x : Stmt) (l1 : List Stmt) : Hp :=
 [(10,cb 8 26 2 (.agg [.sl 41 2 0 (s_Decl.F d).length false,.sl 42 3 0 2 false])),(41,rb 2 s_Decl d),(42,tB 3 43 4 (s_Stmt.F l).length 46 7 (s_Stmt.F l1).length),(43,gb 4 l k (gS 44 5 45 6 x)),(44,rb 5 s_Expr x.E.Of),(45,rb 6 s_Stmt x.Body),(46,rb 7 s_Stmt l1),(9,cb 1 26 2 (eProg P0))]
theorem freezeQ {P0 : Prog} {d : List Decl} {l l1 : List Stmt} {k : Nat} {x : Stmt} (hx : l[k]? = some x) (t : Nat) (A1 : List (Nat × V)) :
  Weak bad E N ⟨(t,.agg [.sl 41 2 0 (s_Decl.F d).length false,.sl 42 3 0 2 false]) :: A1,hQ P0 d l k x l1,9⟩
   ⟨(t,eProg ⟨d,[l,l1]⟩) :: A1,[(10,cb 8 26 2 (eProg ⟨d,[l,l1]⟩)),(9,cb 1 26 2 (eProg P0))],9⟩:=by
 let q : V:=.agg [.sl 41 2 0 (s_Decl.F d).length false,.sl 42 3 0 2 false]
 let v1 : V:=.agg [vi x.Kind,vw x.Name,vw x.Other,vi x.N,vi x.E.Kind,vi x.E.N,vw x.E.Name,po s_Expr x.E.Of,.sl 45 6 0 (s_Stmt.F x.Body).length false,po s_Stmt x.Else,vz x.At]
 have z1 : FzV 44 5 (s_Expr.F x.E.Of) (gS 44 5 45 6 x) v1:=.aggs ⟨.keep _,.keep _,.keep _,.keep _,.keep _,.keep _,.keep _,.hit false,.keep _,.keep _,.keep _,trivial⟩
 have z2 : FzV 45 6 (s_Stmt.F x.Body) v1 (eStmt x):=.aggs ⟨.keep _,.keep _,.keep _,.keep _,.keep _,.keep _,.keep _,.keep _,.hit false,.keep _,.keep _,trivial⟩
 refine Weak.trans (wF 44 5 (rb 5 s_Expr x.E.Of) ((t,q) :: A1) [(10,cb 8 26 2 q),(41,rb 2 s_Decl d),(42,tB 3 43 4 (s_Stmt.F l).length 46 7 (s_Stmt.F l1).length),(43,gb 4 l k v1),(45,rb 6 s_Stmt x.Body),(46,rb 7 s_Stmt l1),(9,cb 1 26 2 (eProg P0))]
  ⟨rfl,.keep _,FzA_keep A1⟩ ⟨rfl,.inl rfl,rfl,.inl rfl,rfl,.inl rfl,rfl,.inr ⟨rfl,rfl,Fzs_set z1 _ _⟩,rfl,.inl rfl,rfl,.inl rfl,rfl,.inl rfl,trivial⟩) ?_
 refine Weak.trans (wF 45 6 (rb 6 s_Stmt x.Body) ((t,q) :: A1) [(10,cb 8 26 2 q),(41,rb 2 s_Decl d),(42,tB 3 43 4 (s_Stmt.F l).length 46 7 (s_Stmt.F l1).length),(43,gb 4 l k (eStmt x)),(46,rb 7 s_Stmt l1),(9,cb 1 26 2 (eProg P0))]
  ⟨rfl,.keep _,FzA_keep A1⟩ ⟨rfl,.inl rfl,rfl,.inl rfl,rfl,.inl rfl,rfl,.inr ⟨rfl,rfl,Fzs_set z2 _ _⟩,rfl,.inl rfl,rfl,.inl rfl,trivial⟩) ?_
 unfold gb
 rw [gR_full hx]
 refine Weak.trans (Weak_unvar 43 ⟨4,39,11,true,false,s_Stmt.F l⟩ rfl ?_) ?_
 ·intro e he v hv
  rw [show s_Stmt.F l = l.map s_Stmt.f from s_Stmt.hF l] at he
  obtain ⟨y,_,rfl⟩:=List.mem_map.1 he
  have : ∀ v ∈ (eStmt y).cells,pur 6 v = true:=by
   intro v hv
   simp only [eStmt,V.cells,List.mem_cons,List.not_mem_nil,or_false] at hv
   rcases hv with rfl | rfl | rfl | rfl | rfl | rfl | rfl | rfl | rfl | rfl | rfl <;> rfl
  exact this v hv
 refine Weak.trans (wF 43 4 ⟨4,39,11,false,false,s_Stmt.F l⟩ ((t,q) :: A1) [(10,cb 8 26 2 q),(41,rb 2 s_Decl d),(42,⟨3,29,1,true,false,[po s_Stmt l,.sl 46 7 0 (s_Stmt.F l1).length false]⟩),(46,rb 7 s_Stmt l1),(9,cb 1 26 2 (eProg P0))]
  ⟨rfl,.keep _,FzA_keep A1⟩ ⟨rfl,.inl rfl,rfl,.inl rfl,rfl,.inr ⟨rfl,rfl,.hit false,.keep _,trivial⟩,rfl,.inl rfl,rfl,.inl rfl,trivial⟩) ?_
 refine Weak.trans (wF 46 7 (rb 7 s_Stmt l1) ((t,q) :: A1) [(10,cb 8 26 2 q),(41,rb 2 s_Decl d),(42,⟨3,29,1,true,false,[po s_Stmt l,po s_Stmt l1]⟩),(9,cb 1 26 2 (eProg P0))]
  ⟨rfl,.keep _,FzA_keep A1⟩ ⟨rfl,.inl rfl,rfl,.inl rfl,rfl,.inr ⟨rfl,rfl,.keep _,.hit false,trivial⟩,rfl,.inl rfl,trivial⟩) ?_
 refine Weak.trans (Weak_unvar 42 ⟨3,29,1,true,false,[po s_Stmt l,po s_Stmt l1]⟩ rfl ?_) ?_
 ·intro e he v hv
  simp only [List.mem_cons,List.not_mem_nil,or_false] at he
  rcases he with rfl | rfl <;> (simp only [V.cells,List.mem_cons,List.not_mem_nil,or_false] at hv; subst hv; rfl)
 refine Weak.trans (wF 42 3 ⟨3,29,1,false,false,[po s_Stmt l,po s_Stmt l1]⟩ ((t,.agg [.sl 41 2 0 (s_Decl.F d).length false,po s_LStmt [l,l1]]) :: A1) [(10,cb 8 26 2 (.agg [.sl 41 2 0 (s_Decl.F d).length false,po s_LStmt [l,l1]])),(41,rb 2 s_Decl d),(9,cb 1 26 2 (eProg P0))]
  ⟨rfl,.aggs ⟨.keep _,.hit false,trivial⟩,FzA_keep A1⟩ ⟨rfl,.inr ⟨rfl,rfl,.aggs ⟨.keep _,.hit false,trivial⟩,trivial⟩,rfl,.inl rfl,rfl,.inl rfl,trivial⟩) ?_
 exact wF 41 2 (rb 2 s_Decl d) ((t,eProg ⟨d,[l,l1]⟩) :: A1) [(10,cb 8 26 2 (eProg ⟨d,[l,l1]⟩)),(9,cb 1 26 2 (eProg P0))]
  ⟨rfl,.aggs ⟨.hit false,.keep _,trivial⟩,FzA_keep A1⟩ ⟨rfl,.inr ⟨rfl,rfl,.aggs ⟨.hit false,.keep _,trivial⟩,trivial⟩,rfl,.inl rfl,trivial⟩
end
end Go.Su.Ytogllinpkijkpaa
namespace Go.Su.Ytogllinpkijkpaa
open Go.Mx Go.Proofs
set_option maxRecDepth 100000
set_option maxHeartbeats 20000000
set_option linter.unusedVariables false
set_option linter.unusedSimpArgs false
abbrev k_o : ByteArray:=⟨#[111,116,104,101,114]⟩
theorem VLf_nil : VLf vn (.ps .opt []):=fun bad w m c x hx=>by
 cases hx with
 | pure h=>exact .pure (VLe.nil_opt w _ x h)
theorem own_walk0 {n : Nat} {a0 a3 : Int} {a1 a2 : List Act} {d0 : Decl} {dr : List Decl} {l0 l1 rs : List Stmt} (hP : hand_Prog n a0 a1 a2 [] 6 = some ⟨(d0 :: dr),[l0,l1]⟩) (hk : law3_known n = some true) (hL : tree_List n ⟨(d0 :: dr),[l0,l1]⟩ = some rs) (hS : tree_Same n ⟨(d0 :: dr),[l0,l1]⟩ ⟨(d0 :: dr),[l0,l1]⟩ = some true) (hC : tree_Copy n ⟨(d0 :: dr),[l0,l1]⟩ = some ⟨(d0 :: dr),[l0,l1]⟩) (h0 : l0 = []) : PT Try.prog 3 [vi a0,po s_Act a1,po s_Act a2,vi a3] (vb true):=by
 subst h0
 refine PT_bodyA hT Try.func3 rfl (by kernel_rfl) fun bad w=>?_
 refine Qzd hT 1 [0,1,2,3] [] ?_
 refine Qgd hT 3 [3,18,19,20] [(18,vi a0),(19,po s_Act a1),(20,po s_Act a2)] ?_
 refine Og [] [(100,rb 1 s_LStmt [[],l1])] [vi a0,po s_Act a1,po s_Act a2,vn,vi 6] [vi a0,po s_Act a1,po s_Act a2,vn,vi 6] [] [(100,21,0)] [(21,rb 0 s_LStmt [[],l1])] (.agg [po s_Decl (d0 :: dr),vs 100 1 s_LStmt [[],l1]]) (.agg [po s_Decl (d0 :: dr),vs 21 0 s_LStmt [[],l1]]) 1 en7 (GO_args (hand_Prog_ok hP) ⟨VLf.refl _,VLf.refl _,VLf.refl _,VLf_nil,VLf.refl _,trivial⟩) ?_
 refine Sgh hT 0 [3,21] [(21,.agg [po s_Decl (d0 :: dr),vs 21 0 s_LStmt [[],l1]])] [(21,rb 0 s_LStmt [[],l1])] 1 ?_
 refine WO_weak (wF 21 0 (rb 0 s_LStmt [[],l1]) [(3,vi a3),(21,.agg [po s_Decl (d0 :: dr),po s_LStmt [[],l1]])] [] ⟨rfl,.keep _,rfl,.aggs ⟨.keep _,.hit true,trivial⟩,trivial⟩ trivial) ?_
 refine Szh hT 2 [3,9] [(9,bx 9 1)] [(9,cb 1 26 2 (eProg ⟨(d0 :: dr),[[],l1]⟩))] 2 ?_
 refine Qgd hT 1 [3,9,22] [(22,eProg ⟨(d0 :: dr),[[],l1]⟩)] ?_
 refine Pt' en8 (tree_Copy_ok hC) ?_
 refine Szh hT 2 [3,9,10] [(10,bx 10 2)] [(10,cb 2 26 2 (eProg ⟨(d0 :: dr),[[],l1]⟩)),(9,cb 1 26 2 (eProg ⟨(d0 :: dr),[[],l1]⟩))] 3 ?_
 refine Qgd hT 1 [3,9,10,24] [(24,eProg ⟨(d0 :: dr),[[],l1]⟩)] ?_
 refine Pt' en9 (tree_List_ok hL) ?_
 refine Szd hT 1 [3,9,10,11] [(11,.ps .fopt (s_Stmt.F rs))] ?_
 refine WA_seq ?_
 refine WA_seq ?_
 refine WA_region ?_
 refine Pt' en10 (law3_known_ok hk) ?_
 refine Sgd hT 2 [3,9,10,11,28] [(28,vb false)] ?_
 refine Sgd hT 2 [3,9,10,11,28,29,30] [(30,eProg ⟨(d0 :: dr),[[],l1]⟩),(29,eProg ⟨(d0 :: dr),[[],l1]⟩)] ?_
 refine Pt' en11 (tree_Same_ok hS) ?_
 refine Szd hT 2 [3,9,10,11,33] [(33,vb false)] ?_
 refine WA_cond false (by kernel_rfl) (fun hb=>by cases hb) (fun _=>?_)
 refine WA_skip ?_
 refine WA_seq ?_
 refine WA_seq ?_
 refine Rzd hT 6 [39] [(39,vb true)] ?_
 refine WA_cond true (by kernel_rfl) (fun _=>?_) (fun hb=>by cases hb)
 refine Qzd hT 1 [8] [(8,vb true)] ?_
 exact rK [8] [] ⟨[(8,vb true)],[],1⟩ ⟨by kernel_rfl,rfl⟩
theorem own_walk1 {n : Nat} {a0 a3 : Int} {a1 a2 : List Act} {d0 : Decl} {dr : List Decl} {l0 l1 rs : List Stmt} (hP : hand_Prog n a0 a1 a2 [] 6 = some ⟨(d0 :: dr),[l0,l1]⟩) (hk : law3_known n = some true) (hL : tree_List n ⟨(d0 :: dr),[l0,l1]⟩ = some rs) (hS : tree_Same n ⟨(d0 :: dr),[l0,l1]⟩ ⟨(d0 :: dr),[l0,l1]⟩ = some true) {kk : Nat} {x : Stmt} (hc0 : tree_copyBlock n l0 = some l0) (hc1 : tree_copyBlock n l1 = some l1) (hcd : Clone_Decl 0 (d0 :: dr) = some (d0 :: dr))
  (hp : hand_Pick n a3 ((s_Stmt.F l0).length : Nat) = some (kk : Int)) (hx : l0[kk]? = some x) (hb : l0.length < 9223372036854775807) (hbe : x.E.Of.length < 9223372036854775807) (hbb : x.Body.length < 9223372036854775807) (hbr : rs.length < 9223372036854775807)
  (hS2 : ∀ ts,∃ m,tree_Same m ⟨(d0 :: dr),[l0,l1]⟩ ⟨{ d0 with Name:=k_o } :: dr,ts⟩ = some false) (hB : ∀ y ∈ rs,ref1_SameBlock n [y] [y] = some true) (hK : ∀ y ∈ rs,¬ y.Kind < 0)
  (cnt : Nat → Int) (hcn0 : cnt 0 = 0) (hcnt : ∀ i y,rs[i]? = some y → cnt (i + 1) = wr (wr (wr (cnt i + 1) - ln y.Body) - ln y.Else)) (hend : cnt rs.length = wr (((s_Stmt.F l0).length : Int) + ((s_Stmt.F l1).length : Int))) :
  PT Try.prog 3 [vi a0,po s_Act a1,po s_Act a2,vi a3] (vb true):=by
 have hkl : kk < l0.length:=(List.getElem?_eq_some_iff.1 hx).1
 have hF0 : (s_Stmt.F l0).length = l0.length:=s_Stmt.len l0
 have hFe : (s_Expr.F x.E.Of).length = x.E.Of.length:=s_Expr.len _
 have hFb : (s_Stmt.F x.Body).length = x.Body.length:=s_Stmt.len _
 have hcg:=copy_g hx hb hc0 hc1 hcd
 rw [← s_Stmt.len l0,← s_Stmt.len l1] at hcg
 refine PT_bodyA hT Try.func3 rfl (by kernel_rfl) fun bad w=>?_
 refine Qzd hT 1 [0,1,2,3] [] ?_
 refine Qgd hT 3 [3,18,19,20] [(18,vi a0),(19,po s_Act a1),(20,po s_Act a2)] ?_
 refine Og [] [(100,rb 1 s_LStmt [l0,l1])] [vi a0,po s_Act a1,po s_Act a2,vn,vi 6] [vi a0,po s_Act a1,po s_Act a2,vn,vi 6] [] [(100,21,0)] [(21,rb 0 s_LStmt [l0,l1])] (.agg [po s_Decl (d0 :: dr),vs 100 1 s_LStmt [l0,l1]]) (.agg [po s_Decl (d0 :: dr),vs 21 0 s_LStmt [l0,l1]]) 1 en7 (GO_args (hand_Prog_ok hP) ⟨VLf.refl _,VLf.refl _,VLf.refl _,VLf_nil,VLf.refl _,trivial⟩) ?_
 refine Sgh hT 0 [3,21] [(21,.agg [po s_Decl (d0 :: dr),vs 21 0 s_LStmt [l0,l1]])] [(21,rb 0 s_LStmt [l0,l1])] 1 ?_
 refine WO_weak (wF 21 0 (rb 0 s_LStmt [l0,l1]) [(3,vi a3),(21,.agg [po s_Decl (d0 :: dr),po s_LStmt [l0,l1]])] [] ⟨rfl,.keep _,rfl,.aggs ⟨.keep _,.hit true,trivial⟩,trivial⟩ trivial) ?_
 refine Szh hT 2 [3,9] [(9,bx 9 1)] [(9,cb 1 26 2 (eProg ⟨(d0 :: dr),[l0,l1]⟩))] 2 ?_
 refine Qgd hT 1 [3,9,22] [(22,eProg ⟨(d0 :: dr),[l0,l1]⟩)] ?_
 refine Og [] [(100,rb 1 s_Decl (d0 :: dr)),(101,tB 1 102 1 (s_Stmt.F l0).length 105 1 (s_Stmt.F l1).length),(102,gb 1 l0 kk (gS 103 1 104 1 x)),(103,rb 1 s_Expr x.E.Of),(104,rb 1 s_Stmt x.Body),(105,rb 1 s_Stmt l1)] [eProg ⟨(d0 :: dr),[l0,l1]⟩] [eProg ⟨(d0 :: dr),[l0,l1]⟩] [] [(100,41,2),(101,42,3),(102,43,4),(103,44,5),(104,45,6),(105,46,7)] [(41,rb 2 s_Decl (d0 :: dr)),(42,tB 3 43 4 (s_Stmt.F l0).length 46 7 (s_Stmt.F l1).length),(43,gb 4 l0 kk (gS 44 5 45 6 x)),(44,rb 5 s_Expr x.E.Of),(45,rb 6 s_Stmt x.Body),(46,rb 7 s_Stmt l1)] (.agg [.sl 100 1 0 (s_Decl.F (d0 :: dr)).length false,.sl 101 1 0 2 false]) (.agg [.sl 41 2 0 (s_Decl.F (d0 :: dr)).length false,.sl 42 3 0 2 false]) 8 en8 hcg ?_
  (hB':=mH rfl rfl (mH rfl rfl (mH rfl (gb_tr _ _ rfl) (mH rfl rfl (mH rfl rfl (mH rfl rfl rfl rfl) rfl) rfl) rfl) rfl) rfl)
 refine Szh hT 2 [3,9,10] [(10,bx 10 8)] [(10,cb 8 26 2 (.agg [.sl 41 2 0 (s_Decl.F (d0 :: dr)).length false,.sl 42 3 0 2 false])),(41,rb 2 s_Decl (d0 :: dr)),(42,tB 3 43 4 (s_Stmt.F l0).length 46 7 (s_Stmt.F l1).length),(43,gb 4 l0 kk (gS 44 5 45 6 x)),(44,rb 5 s_Expr x.E.Of),(45,rb 6 s_Stmt x.Body),(46,rb 7 s_Stmt l1),(9,cb 1 26 2 (eProg ⟨(d0 :: dr),[l0,l1]⟩))] 9 ?_
 refine Qgd hT 1 [3,9,10,24] [(24,eProg ⟨(d0 :: dr),[l0,l1]⟩)] ?_
 refine Pt' en9 (tree_List_ok hL) ?_
 refine Szd hT 1 [3,9,10,11] [(11,.ps .fopt (s_Stmt.F rs))] ?_
 refine WA_seq ?_
 refine WA_seq ?_
 refine WA_region ?_
 refine Pt' en10 (law3_known_ok hk) ?_
 refine Sgd hT 2 [3,9,10,11,28] [(28,vb false)] ?_
 refine Sg hT 2 [30,29,3,9,10,11,28] ⟨[(30,(.agg [.sl 41 2 0 (s_Decl.F (d0 :: dr)).length false,.sl 42 3 0 2 false])),(29,eProg ⟨(d0 :: dr),[l0,l1]⟩),(3,vi a3),(9,bx 9 1),(10,bx 10 8),(11,.ps .fopt (s_Stmt.F rs)),(28,vb false)],hQ ⟨(d0 :: dr),[l0,l1]⟩ (d0 :: dr) l0 kk x l1,9⟩ ?_
 refine WO_pk _ (freezeQ hx 30 _) [] [eProg ⟨(d0 :: dr),[l0,l1]⟩,eProg ⟨(d0 :: dr),[l0,l1]⟩] [eProg ⟨(d0 :: dr),[l0,l1]⟩,eProg ⟨(d0 :: dr),[l0,l1]⟩] (vb true) en11 (tree_Same_ok hS) ?_
 refine Szd hT 2 [3,9,10,11,33] [(33,vb false)] ?_
 refine WA_cond false (by kernel_rfl) (fun hb=>by cases hb) (fun _=>?_)
 refine WA_skip ?_
 refine WA_seq ?_
 refine WA_seq ?_
 have hz : ((((s_Stmt.F l0).length : Nat) : Int) == 0) = false:=by rw [hF0]; simp; intro e; rw [e] at hkl; simp at hkl
 refine Rzd hT 6 [3,9,10,11,39] [(39,vb ((((s_Stmt.F l0).length : Nat) : Int) == 0))] ?_
 rw [hz]
 refine WA_cond false (by kernel_rfl) (fun hb=>by cases hb) (fun _=>?_)
 refine WA_skip ?_
 refine WA_seq ?_
 refine WA_drawW hT hM (by kernel_rfl) ?_
 refine Ds 10 [(49,vi ((s_Stmt.F l0).length : Nat)),(48,.sl 43 4 0 (s_Stmt.F l0).length false),(47,.box 42 3 0 0),(46,.sl 42 3 0 2 false),(45,.box 10 8 0 1),(44,vi a3),(43,.sl 43 4 0 (s_Stmt.F l0).length false),(42,.box 42 3 0 0),(41,.sl 42 3 0 2 false),(40,.box 10 8 0 1)] [] [(0,[10]),(1,[10]),(2,[42]),(3,[42]),(5,[10]),(6,[10]),(7,[42]),(8,[42]),(9,[43])] ?_
 refine Dp [vi a3,vi ((s_Stmt.F l0).length : Nat)] (vi kk) en12 (hand_Pick_ok hp) ?_
 refine Dl rfl (v_indexG s_Stmt 43 4 (s_Stmt.F l0).length false (gb 4 l0 kk (gS 44 5 45 6 x)) .i64 (kk : Int) (by omega) (by rw [hF0]; omega)) ?_
 refine Dt (.box 43 4 kk 0) ?_
 refine Ds 1 [(12,.box 43 4 kk 0)] [] [] ?_
 refine De ?_
 refine Wk_done ?_
 refine Qgd hT 3 [9,10,11,12,54] [(54,.box 43 4 kk 0)] ?_
 refine One' hT rfl (v_storeG 43 4 (gb 4 l0 kk (gS 44 5 45 6 x)) kk 0 (gS 44 5 45 6 x) (gS 44 5 45 6 { x with Kind:=10 }) (gR l0 kk (gS 44 5 45 6 { x with Kind:=10 })) (gR_get _ hkl) (gR_set _ _ _ _)) ?_
 refine Szh hT 0 [9,10,11,12] [] [(43,gb 4 l0 kk (gS 44 5 45 6 { x with Kind:=10 })),(10,cb 8 26 2 (.agg [.sl 41 2 0 (s_Decl.F (d0 :: dr)).length false,.sl 42 3 0 2 false])),(41,rb 2 s_Decl (d0 :: dr)),(42,tB 3 43 4 (s_Stmt.F l0).length 46 7 (s_Stmt.F l1).length),(44,rb 5 s_Expr x.E.Of),(45,rb 6 s_Stmt x.Body),(46,rb 7 s_Stmt l1),(9,cb 1 26 2 (eProg ⟨(d0 :: dr),[l0,l1]⟩))] 9 ?_
 refine Qgd hT 3 [9,10,11,12,57] [(57,.box 43 4 kk 1)] ?_
 refine One' hT rfl (v_storeG 43 4 (gb 4 l0 kk (gS 44 5 45 6 { x with Kind:=10 })) kk 1 (gS 44 5 45 6 { x with Kind:=10 }) (gS 44 5 45 6 { x with Kind:=10,Name:=k_o }) (gR l0 kk (gS 44 5 45 6 { x with Kind:=10,Name:=k_o })) (gR_get _ hkl) (gR_set _ _ _ _)) ?_
 refine Szh hT 0 [9,10,11,12] [] [(43,gb 4 l0 kk (gS 44 5 45 6 { x with Kind:=10,Name:=k_o })),(10,cb 8 26 2 (.agg [.sl 41 2 0 (s_Decl.F (d0 :: dr)).length false,.sl 42 3 0 2 false])),(41,rb 2 s_Decl (d0 :: dr)),(42,tB 3 43 4 (s_Stmt.F l0).length 46 7 (s_Stmt.F l1).length),(44,rb 5 s_Expr x.E.Of),(45,rb 6 s_Stmt x.Body),(46,rb 7 s_Stmt l1),(9,cb 1 26 2 (eProg ⟨(d0 :: dr),[l0,l1]⟩))] 9 ?_
 refine WA_seq ?_
 refine Qgd hT 4 [9,10,11,12,61] [(61,.box 43 4 kk 7)] ?_
 refine One' hT rfl (v_loadG 43 4 (gb 4 l0 kk (gS 44 5 45 6 { x with Kind:=10,Name:=k_o })) kk 7 (gS 44 5 45 6 { x with Kind:=10,Name:=k_o }) (.sl 44 5 0 (s_Expr.F x.E.Of).length false) (gR_get _ hkl)) ?_
 refine Sgd hT 0 [9,10,11,12,62] [(62,.sl 44 5 0 (s_Expr.F x.E.Of).length false)] ?_
 refine One' hT rfl (v_lenG s_Expr 44 5 (s_Expr.F x.E.Of).length false (rb 5 s_Expr x.E.Of)) ?_
 refine Szd hT 1 [9,10,11,12,63,64] [(63,vi ((s_Expr.F x.E.Of).length : Nat)),(64,vi 0)] ?_
 refine WA_block ?_
 refine WA_weak (Weak_ren [(44,44,5),(43,43,4),(10,10,8),(41,41,2),(42,42,3),(45,45,6),(46,46,7),(9,9,1)] ⟨[(9,bx 9 1),(10,bx 10 8),(11,.ps .fopt (s_Stmt.F rs)),(12,.box 43 4 kk 0),(63,vi ((s_Expr.F x.E.Of).length : Nat)),(64,vi 0)],[(44,rb 5 s_Expr x.E.Of),(43,gb 4 l0 kk (gS 44 5 45 6 { x with Kind:=10,Name:=k_o })),(10,cb 8 26 2 (.agg [.sl 41 2 0 (s_Decl.F (d0 :: dr)).length false,.sl 42 3 0 2 false])),(41,rb 2 s_Decl (d0 :: dr)),(42,tB 3 43 4 (s_Stmt.F l0).length 46 7 (s_Stmt.F l1).length),(45,rb 6 s_Stmt x.Body),(46,rb 7 s_Stmt l1),(9,cb 1 26 2 (eProg ⟨(d0 :: dr),[l0,l1]⟩))],9⟩ (by kernel_rfl) (mH rfl rfl (mH rfl (gb_tr _ _ rfl) (mH rfl rfl (mH rfl rfl (mH rfl rfl (mH rfl rfl (mH rfl rfl (mH rfl rfl rfl rfl) rfl) rfl) rfl) rfl) rfl) rfl) rfl) (by kernel_rfl)) ?_
 refine WA_loop (fun m s=>∃ (i : Nat) (lo : List Expr),m + i = x.E.Of.length + 1 ∧ i ≤ x.E.Of.length ∧ lo.length = x.E.Of.length ∧ s = ⟨[(9,bx 9 1),(10,bx 10 8),(11,.ps .fopt (s_Stmt.F rs)),(12,.box 43 4 kk 0),(63,vi ((s_Expr.F x.E.Of).length : Nat)),(64,vi (i : Int))],[(44,rb 5 s_Expr lo),(43,gb 4 l0 kk (gS 44 5 45 6 { x with Kind:=10,Name:=k_o })),(10,cb 8 26 2 (.agg [.sl 41 2 0 (s_Decl.F (d0 :: dr)).length false,.sl 42 3 0 2 false])),(41,rb 2 s_Decl (d0 :: dr)),(42,tB 3 43 4 (s_Stmt.F l0).length 46 7 (s_Stmt.F l1).length),(45,rb 6 s_Stmt x.Body),(46,rb 7 s_Stmt l1),(9,cb 1 26 2 (eProg ⟨(d0 :: dr),[l0,l1]⟩))],9⟩) (x.E.Of.length + 1) ⟨0,x.E.Of,rfl,Nat.zero_le _,rfl,rfl⟩ (by rintro s ⟨i,lo,h1,h2,_⟩; omega) ?_
 rintro m s ⟨i,lo,hm,hi,hlo,rfl⟩
 refine Qzd hT 1 [9,10,11,12,63,64,65] [(65,vb (decide ((i : Int) < (((s_Expr.F x.E.Of).length : Nat) : Int))))] ?_
 refine WA_seq ?_
 by_cases hlt : i < x.E.Of.length
 ·rw [decide_eq_true (show (i : Int) < (((s_Expr.F x.E.Of).length : Nat) : Int) by omega)]
  refine WA_cond true (by kernel_rfl) (fun _=>?_) (fun hb=>by cases hb)
  refine WA_skip ?_
  refine WA_seq ?_
  refine WA_block ?_
  refine Qzd hT 2 [9,10,11,12,13,63,64] [(13,vi (i : Int))] ?_
  obtain ⟨y,hy⟩ : ∃ y,lo[i]? = some y:=⟨lo[i],List.getElem?_eq_getElem (by omega)⟩
  refine Rgd hT 4 [9,10,11,12,13,63,64,70] [(70,.box 43 4 kk 7)] ?_
  refine One' hT rfl (v_loadG 43 4 (gb 4 l0 kk (gS 44 5 45 6 { x with Kind:=10,Name:=k_o })) kk 7 (gS 44 5 45 6 { x with Kind:=10,Name:=k_o }) (.sl 44 5 0 (s_Expr.F x.E.Of).length false) (gR_get _ hkl)) ?_
  refine Sgd hT 1 [9,10,11,12,63,64,71,72] [(71,.sl 44 5 0 (s_Expr.F x.E.Of).length false),(72,vi (i : Int))] ?_
  refine One' hT rfl (v_indexG s_Expr 44 5 (s_Expr.F x.E.Of).length false (rb 5 s_Expr lo) .i64 (i : Int) (by omega) (by omega)) ?_
  refine Sgd hT 1 [9,10,11,12,63,64,74] [(74,.box 44 5 i 0)] ?_
  refine One' hT rfl (v_storeRow s_Expr 44 5 (rb 5 s_Expr lo) lo i 0 y { y with Kind:=-1 } hy) ?_
  refine Szh hT 0 [9,10,11,12,63,64] [] [(44,rb 5 s_Expr (lo.set i { y with Kind:=-1 })),(43,gb 4 l0 kk (gS 44 5 45 6 { x with Kind:=10,Name:=k_o })),(10,cb 8 26 2 (.agg [.sl 41 2 0 (s_Decl.F (d0 :: dr)).length false,.sl 42 3 0 2 false])),(41,rb 2 s_Decl (d0 :: dr)),(42,tB 3 43 4 (s_Stmt.F l0).length 46 7 (s_Stmt.F l1).length),(45,rb 6 s_Stmt x.Body),(46,rb 7 s_Stmt l1),(9,cb 1 26 2 (eProg ⟨(d0 :: dr),[l0,l1]⟩))] 9 ?_
  refine Rzd hT 2 [9,10,11,12,63,64] [(64,vi (wr ((i : Int) + 1)))] ?_
  rw [wr_of (by omega)]
  exact ⟨i + 1,lo.set i { y with Kind:=-1 },by omega,by omega,by simpa using hlo,rfl⟩
 rw [decide_eq_false (show ¬ (i : Int) < (((s_Expr.F x.E.Of).length : Nat) : Int) by omega)]
 refine WA_cond false (by kernel_rfl) (fun hb=>by cases hb) (fun _=>?_)
 refine WA_exit ?_
 refine aW [9,10,11,12] ⟨[(9,bx 9 1),(10,bx 10 8),(11,.ps .fopt (s_Stmt.F rs)),(12,.box 43 4 kk 0)],[(44,rb 5 s_Expr lo),(43,gb 4 l0 kk (gS 44 5 45 6 { x with Kind:=10,Name:=k_o })),(10,cb 8 26 2 (.agg [.sl 41 2 0 (s_Decl.F (d0 :: dr)).length false,.sl 42 3 0 2 false])),(41,rb 2 s_Decl (d0 :: dr)),(42,tB 3 43 4 (s_Stmt.F l0).length 46 7 (s_Stmt.F l1).length),(45,rb 6 s_Stmt x.Body),(46,rb 7 s_Stmt l1),(9,cb 1 26 2 (eProg ⟨(d0 :: dr),[l0,l1]⟩))],9⟩ ?_
 clear hm hi hlt m i
 obtain ⟨lE,hlE,rfl⟩ : ∃ lE,lE.length = x.E.Of.length ∧ lE = lo:=⟨lo,hlo,rfl⟩
 refine WA_seq ?_
 refine Qgd hT 3 [9,10,11,12,78] [(78,.box 43 4 kk 8)] ?_
 refine One' hT rfl (v_loadG 43 4 (gb 4 l0 kk (gS 44 5 45 6 { x with Kind:=10,Name:=k_o })) kk 8 (gS 44 5 45 6 { x with Kind:=10,Name:=k_o }) (.sl 45 6 0 (s_Stmt.F x.Body).length false) (gR_get _ hkl)) ?_
 refine Sgd hT 0 [9,10,11,12,79] [(79,.sl 45 6 0 (s_Stmt.F x.Body).length false)] ?_
 refine One' hT rfl (v_lenG s_Stmt 45 6 (s_Stmt.F x.Body).length false (rb 6 s_Stmt x.Body)) ?_
 refine Szd hT 1 [9,10,11,12,80,81] [(80,vi ((s_Stmt.F x.Body).length : Nat)),(81,vi 0)] ?_
 refine WA_block ?_
 refine WA_weak (Weak_ren [(45,45,6),(44,44,5),(43,43,4),(10,10,8),(41,41,2),(42,42,3),(46,46,7),(9,9,1)] ⟨[(9,bx 9 1),(10,bx 10 8),(11,.ps .fopt (s_Stmt.F rs)),(12,.box 43 4 kk 0),(80,vi ((s_Stmt.F x.Body).length : Nat)),(81,vi 0)],[(45,rb 6 s_Stmt x.Body),(44,rb 5 s_Expr lE),(43,gb 4 l0 kk (gS 44 5 45 6 { x with Kind:=10,Name:=k_o })),(10,cb 8 26 2 (.agg [.sl 41 2 0 (s_Decl.F (d0 :: dr)).length false,.sl 42 3 0 2 false])),(41,rb 2 s_Decl (d0 :: dr)),(42,tB 3 43 4 (s_Stmt.F l0).length 46 7 (s_Stmt.F l1).length),(46,rb 7 s_Stmt l1),(9,cb 1 26 2 (eProg ⟨(d0 :: dr),[l0,l1]⟩))],9⟩ (by kernel_rfl) (mH rfl rfl (mH rfl rfl (mH rfl (gb_tr _ _ rfl) (mH rfl rfl (mH rfl rfl (mH rfl rfl (mH rfl rfl (mH rfl rfl rfl rfl) rfl) rfl) rfl) rfl) rfl) rfl) rfl) (by kernel_rfl)) ?_
 refine WA_loop (fun m s=>∃ (i : Nat) (lo : List Stmt),m + i = x.Body.length + 1 ∧ i ≤ x.Body.length ∧ lo.length = x.Body.length ∧ s = ⟨[(9,bx 9 1),(10,bx 10 8),(11,.ps .fopt (s_Stmt.F rs)),(12,.box 43 4 kk 0),(80,vi ((s_Stmt.F x.Body).length : Nat)),(81,vi (i : Int))],[(45,rb 6 s_Stmt lo),(44,rb 5 s_Expr lE),(43,gb 4 l0 kk (gS 44 5 45 6 { x with Kind:=10,Name:=k_o })),(10,cb 8 26 2 (.agg [.sl 41 2 0 (s_Decl.F (d0 :: dr)).length false,.sl 42 3 0 2 false])),(41,rb 2 s_Decl (d0 :: dr)),(42,tB 3 43 4 (s_Stmt.F l0).length 46 7 (s_Stmt.F l1).length),(46,rb 7 s_Stmt l1),(9,cb 1 26 2 (eProg ⟨(d0 :: dr),[l0,l1]⟩))],9⟩) (x.Body.length + 1) ⟨0,x.Body,rfl,Nat.zero_le _,rfl,rfl⟩ (by rintro s ⟨i,lo,h1,h2,_⟩; omega) ?_
 rintro m s ⟨i,lo,hm,hi,hlo,rfl⟩
 refine Qzd hT 1 [9,10,11,12,80,81,82] [(82,vb (decide ((i : Int) < (((s_Stmt.F x.Body).length : Nat) : Int))))] ?_
 refine WA_seq ?_
 by_cases hlt : i < x.Body.length
 ·rw [decide_eq_true (show (i : Int) < (((s_Stmt.F x.Body).length : Nat) : Int) by omega)]
  refine WA_cond true (by kernel_rfl) (fun _=>?_) (fun hb=>by cases hb)
  refine WA_skip ?_
  refine WA_seq ?_
  refine WA_block ?_
  refine Qzd hT 2 [9,10,11,12,14,80,81] [(14,vi (i : Int))] ?_
  obtain ⟨y,hy⟩ : ∃ y,lo[i]? = some y:=⟨lo[i],List.getElem?_eq_getElem (by omega)⟩
  refine Rgd hT 3 [9,10,11,12,14,80,81,86] [(86,.box 43 4 kk 8)] ?_
  refine One' hT rfl (v_loadG 43 4 (gb 4 l0 kk (gS 44 5 45 6 { x with Kind:=10,Name:=k_o })) kk 8 (gS 44 5 45 6 { x with Kind:=10,Name:=k_o }) (.sl 45 6 0 (s_Stmt.F x.Body).length false) (gR_get _ hkl)) ?_
  refine Sgd hT 1 [9,10,11,12,80,81,87,88] [(87,.sl 45 6 0 (s_Stmt.F x.Body).length false),(88,vi (i : Int))] ?_
  refine One' hT rfl (v_indexG s_Stmt 45 6 (s_Stmt.F x.Body).length false (rb 6 s_Stmt lo) .i64 (i : Int) (by omega) (by omega)) ?_
  refine Sgd hT 1 [9,10,11,12,80,81,90] [(90,.box 45 6 i 0)] ?_
  refine One' hT rfl (v_storeRow s_Stmt 45 6 (rb 6 s_Stmt lo) lo i 0 y { y with Kind:=-1 } hy) ?_
  refine Szh hT 0 [9,10,11,12,80,81] [] [(45,rb 6 s_Stmt (lo.set i { y with Kind:=-1 })),(44,rb 5 s_Expr lE),(43,gb 4 l0 kk (gS 44 5 45 6 { x with Kind:=10,Name:=k_o })),(10,cb 8 26 2 (.agg [.sl 41 2 0 (s_Decl.F (d0 :: dr)).length false,.sl 42 3 0 2 false])),(41,rb 2 s_Decl (d0 :: dr)),(42,tB 3 43 4 (s_Stmt.F l0).length 46 7 (s_Stmt.F l1).length),(46,rb 7 s_Stmt l1),(9,cb 1 26 2 (eProg ⟨(d0 :: dr),[l0,l1]⟩))] 9 ?_
  refine Rzd hT 2 [9,10,11,12,80,81] [(81,vi (wr ((i : Int) + 1)))] ?_
  rw [wr_of (by omega)]
  exact ⟨i + 1,lo.set i { y with Kind:=-1 },by omega,by omega,by simpa using hlo,rfl⟩
 rw [decide_eq_false (show ¬ (i : Int) < (((s_Stmt.F x.Body).length : Nat) : Int) by omega)]
 refine WA_cond false (by kernel_rfl) (fun hb=>by cases hb) (fun _=>?_)
 refine WA_exit ?_
 refine aW [9,10,11,12] ⟨[(9,bx 9 1),(10,bx 10 8),(11,.ps .fopt (s_Stmt.F rs)),(12,.box 43 4 kk 0)],[(45,rb 6 s_Stmt lo),(44,rb 5 s_Expr lE),(43,gb 4 l0 kk (gS 44 5 45 6 { x with Kind:=10,Name:=k_o })),(10,cb 8 26 2 (.agg [.sl 41 2 0 (s_Decl.F (d0 :: dr)).length false,.sl 42 3 0 2 false])),(41,rb 2 s_Decl (d0 :: dr)),(42,tB 3 43 4 (s_Stmt.F l0).length 46 7 (s_Stmt.F l1).length),(46,rb 7 s_Stmt l1),(9,cb 1 26 2 (eProg ⟨(d0 :: dr),[l0,l1]⟩))],9⟩ ?_
 clear hm hi hlt m i
 refine Qgd hT 2 [9,10,11,93] [(93,.sl 41 2 0 (s_Decl.F (d0 :: dr)).length false)] ?_
 refine One' hT rfl (v_indexG s_Decl 41 2 (s_Decl.F (d0 :: dr)).length false (rb 2 s_Decl (d0 :: dr)) .i64 0 (by omega) (by rw [s_Decl.len]; simp)) ?_
 refine Sgd hT 1 [9,10,11,95] [(95,.box 41 2 0 1)] ?_
 refine One' hT rfl (v_storeRow s_Decl 41 2 (rb 2 s_Decl (d0 :: dr)) (d0 :: dr) 0 1 d0 { d0 with Name:=k_o } rfl) ?_
 refine Szh hT 0 [9,10,11] [] [(41,rb 2 s_Decl ({ d0 with Name:=k_o } :: dr)),(45,rb 6 s_Stmt lo),(44,rb 5 s_Expr lE),(43,gb 4 l0 kk (gS 44 5 45 6 { x with Kind:=10,Name:=k_o })),(10,cb 8 26 2 (.agg [.sl 41 2 0 (s_Decl.F (d0 :: dr)).length false,.sl 42 3 0 2 false])),(42,tB 3 43 4 (s_Stmt.F l0).length 46 7 (s_Stmt.F l1).length),(46,rb 7 s_Stmt l1),(9,cb 1 26 2 (eProg ⟨(d0 :: dr),[l0,l1]⟩))] 9 ?_
 refine Qgd hT 1 [9,10,11,96] [(96,eProg ⟨(d0 :: dr),[l0,l1]⟩)] ?_
 refine Pt' en9 (tree_List_ok hL) ?_
 refine Szd hT 1 [9,10,11,15] [(15,.ps .fopt (s_Stmt.F rs))] ?_
 refine WA_seq ?_
 refine WA_seq ?_
 refine Rgd hT 1 [9,10,11,15,98] [(98,.ps .fopt (s_Stmt.F rs))] ?_
 refine One' hT rfl (v_len s_Stmt .fopt rs) ?_
 refine Sgd hT 1 [9,10,11,15,99,100] [(99,vi (ln rs)),(100,.ps .fopt (s_Stmt.F rs))] ?_
 refine One' hT rfl (v_len s_Stmt .fopt rs) ?_
 refine Sgd hT 2 [9,10,11,15,103] [(103,vb ((ln rs) != (ln rs)))] ?_
 rw [show ((ln rs) != (ln rs)) = false by simp]
 have hel : (s_Expr.F lE).length = (s_Expr.F x.E.Of).length:=by rw [s_Expr.len,s_Expr.len]; exact hlE
 have hbl : (s_Stmt.F lo).length = (s_Stmt.F x.Body).length:=by rw [s_Stmt.len,s_Stmt.len]; exact hlo
 have hl3 : (s_Stmt.F (l0.set kk { Kind:=10,Name:=k_o,Other:=x.Other,N:=x.N,E:={ Kind:=x.E.Kind,N:=x.E.N,Name:=x.E.Name,Of:=lE },Body:=lo,Else:=x.Else,At:=x.At })).length = (s_Stmt.F l0).length:=by rw [s_Stmt.len,s_Stmt.len,List.length_set]
 have hg3 : gR l0 kk (gS 44 5 45 6 { x with Kind:=10,Name:=k_o }) = gR (l0.set kk { Kind:=10,Name:=k_o,Other:=x.Other,N:=x.N,E:={ Kind:=x.E.Kind,N:=x.E.N,Name:=x.E.Name,Of:=lE },Body:=lo,Else:=x.Else,At:=x.At }) kk (gS 44 5 45 6 { Kind:=10,Name:=k_o,Other:=x.Other,N:=x.N,E:={ Kind:=x.E.Kind,N:=x.E.N,Name:=x.E.Name,Of:=lE },Body:=lo,Else:=x.Else,At:=x.At }):=by
  rw [gR_put]
  unfold gS
  simp only [hel,hbl]
 have hx3 : (l0.set kk { Kind:=10,Name:=k_o,Other:=x.Other,N:=x.N,E:={ Kind:=x.E.Kind,N:=x.E.N,Name:=x.E.Name,Of:=lE },Body:=lo,Else:=x.Else,At:=x.At })[kk]? = some { Kind:=10,Name:=k_o,Other:=x.Other,N:=x.N,E:={ Kind:=x.E.Kind,N:=x.E.N,Name:=x.E.Name,Of:=lE },Body:=lo,Else:=x.Else,At:=x.At }:=List.getElem?_set_self hkl
 refine WO_weak (Weak_ren [(10,10,8),(41,41,2),(42,42,3),(43,43,4),(44,44,5),(45,45,6),(46,46,7),(9,9,1)] ⟨[(9,bx 9 1),(10,bx 10 8),(11,.ps .fopt (s_Stmt.F rs)),(15,.ps .fopt (s_Stmt.F rs)),(103,vb false)],[(10,cb 8 26 2 (.agg [.sl 41 2 0 (s_Decl.F (d0 :: dr)).length false,.sl 42 3 0 2 false])),(41,rb 2 s_Decl ({ d0 with Name:=k_o } :: dr)),(42,tB 3 43 4 (s_Stmt.F l0).length 46 7 (s_Stmt.F l1).length),(43,gb 4 l0 kk (gS 44 5 45 6 { x with Kind:=10,Name:=k_o })),(44,rb 5 s_Expr lE),(45,rb 6 s_Stmt lo),(46,rb 7 s_Stmt l1),(9,cb 1 26 2 (eProg ⟨(d0 :: dr),[l0,l1]⟩))],9⟩ (by kernel_rfl) (mH rfl rfl (mH rfl rfl (mH rfl rfl (mH rfl (gb_tr _ _ rfl) (mH rfl rfl (mH rfl rfl (mH rfl rfl (mH rfl rfl rfl rfl) rfl) rfl) rfl) rfl) rfl) rfl) rfl) (by kernel_rfl)) ?_
 refine Sg hT 2 [105,104,9,11,15,103] ⟨[(105,(.agg [.sl 41 2 0 (s_Decl.F ({ d0 with Name:=k_o } :: dr)).length false,.sl 42 3 0 2 false])),(104,eProg ⟨(d0 :: dr),[l0,l1]⟩),(9,bx 9 1),(11,.ps .fopt (s_Stmt.F rs)),(15,.ps .fopt (s_Stmt.F rs)),(103,vb false)],[(10,cb 8 26 2 (.agg [.sl 41 2 0 (s_Decl.F (d0 :: dr)).length false,.sl 42 3 0 2 false])),(41,rb 2 s_Decl ({ d0 with Name:=k_o } :: dr)),(42,tB 3 43 4 (s_Stmt.F l0).length 46 7 (s_Stmt.F l1).length),(43,gb 4 l0 kk (gS 44 5 45 6 { x with Kind:=10,Name:=k_o })),(44,rb 5 s_Expr lE),(45,rb 6 s_Stmt lo),(46,rb 7 s_Stmt l1),(9,cb 1 26 2 (eProg ⟨(d0 :: dr),[l0,l1]⟩))],9⟩ ?_
 unfold gb
 rw [hg3,← hl3]
 obtain ⟨mS,hmS⟩:=hS2 [l0.set kk { Kind:=10,Name:=k_o,Other:=x.Other,N:=x.N,E:={ Kind:=x.E.Kind,N:=x.E.N,Name:=x.E.Name,Of:=lE },Body:=lo,Else:=x.Else,At:=x.At },l1]
 refine WO_pk _ (freezeQ hx3 105 _) [] [eProg ⟨(d0 :: dr),[l0,l1]⟩,eProg ⟨({ d0 with Name:=k_o } :: dr),[l0.set kk { Kind:=10,Name:=k_o,Other:=x.Other,N:=x.N,E:={ Kind:=x.E.Kind,N:=x.E.N,Name:=x.E.Name,Of:=lE },Body:=lo,Else:=x.Else,At:=x.At },l1]⟩] [eProg ⟨(d0 :: dr),[l0,l1]⟩,eProg ⟨({ d0 with Name:=k_o } :: dr),[l0.set kk { Kind:=10,Name:=k_o,Other:=x.Other,N:=x.N,E:={ Kind:=x.E.Kind,N:=x.E.N,Name:=x.E.Name,Of:=lE },Body:=lo,Else:=x.Else,At:=x.At },l1]⟩] (vb false) en11 (tree_Same_ok hmS) ?_
 refine Sz hT 1 [9,11,15,107] ⟨[(9,bx 9 1),(11,.ps .fopt (s_Stmt.F rs)),(15,.ps .fopt (s_Stmt.F rs)),(107,vb false)],hQ ⟨(d0 :: dr),[l0,l1]⟩ ({ d0 with Name:=k_o } :: dr) (l0.set kk { Kind:=10,Name:=k_o,Other:=x.Other,N:=x.N,E:={ Kind:=x.E.Kind,N:=x.E.N,Name:=x.E.Name,Of:=lE },Body:=lo,Else:=x.Else,At:=x.At }) kk { Kind:=10,Name:=k_o,Other:=x.Other,N:=x.N,E:={ Kind:=x.E.Kind,N:=x.E.N,Name:=x.E.Name,Of:=lE },Body:=lo,Else:=x.Else,At:=x.At } l1,9⟩ ?_
 refine WA_cond false (by kernel_rfl) (fun hb=>by cases hb) (fun _=>?_)
 refine WA_skip ?_
 generalize l0.set kk { Kind:=10,Name:=k_o,Other:=x.Other,N:=x.N,E:={ Kind:=x.E.Kind,N:=x.E.N,Name:=x.E.Name,Of:=lE },Body:=lo,Else:=x.Else,At:=x.At } = l3
 generalize ({ Kind:=10,Name:=k_o,Other:=x.Other,N:=x.N,E:={ Kind:=x.E.Kind,N:=x.E.N,Name:=x.E.Name,Of:=lE },Body:=lo,Else:=x.Else,At:=x.At } : Stmt) = x3
 refine Qzd hT 1 [9,11,15,16] [(16,vi 0)] ?_
 refine WA_seq ?_
 refine Qgd hT 1 [9,11,15,16,108] [(108,.ps .fopt (s_Stmt.F rs))] ?_
 refine One' hT rfl (v_len s_Stmt .fopt rs) ?_
 refine Szd hT 1 [9,11,15,16,109,110] [(109,vi (ln rs)),(110,vi 0)] ?_
 refine WA_block ?_
 refine WA_loop (fun m s=>∃ i : Nat,m + i = rs.length + 1 ∧ i ≤ rs.length ∧ s = ⟨[(9,bx 9 1),(11,.ps .fopt (s_Stmt.F rs)),(15,.ps .fopt (s_Stmt.F rs)),(16,vi (cnt i)),(109,vi (ln rs)),(110,vi (i : Int))],hQ ⟨(d0 :: dr),[l0,l1]⟩ ({ d0 with Name:=k_o } :: dr) l3 kk x3 l1,9⟩) (rs.length + 1) ⟨0,rfl,Nat.zero_le _,by rw [hcn0]; rfl⟩ (by rintro s ⟨i,h1,h2,_⟩; omega) ?_
 rintro m s ⟨i,hm,hi,rfl⟩
 refine Qzd hT 1 [9,11,15,16,109,110,111] [(111,vb (decide ((i : Int) < (ln rs))))] ?_
 refine WA_seq ?_
 by_cases hlt : i < rs.length
 ·rw [decide_eq_true (show (i : Int) < (ln rs) by show (i : Int) < (rs.length : Int); omega)]
  refine WA_cond true (by kernel_rfl) (fun _=>?_) (fun hb=>by cases hb)
  refine WA_skip ?_
  refine WA_seq ?_
  refine WA_block ?_
  refine Qzd hT 2 [9,11,15,16,17,109,110] [(17,vi (i : Int))] ?_
  obtain ⟨y,hy⟩ : ∃ y,rs[i]? = some y:=⟨rs[i],List.getElem?_eq_getElem hlt⟩
  have hym : y ∈ rs:=List.mem_of_getElem? hy
  have hw : wr ((i : Int) + 1) = ((i + 1 : Nat) : Int):=by rw [wr_of (by omega)]; omega
  have hsub : sub rs (i : Int) (wr ((i : Int) + 1)) = some [y]:=by
   rw [hw,sub_of (by omega) (by omega)]
   congr 1
   apply List.ext_getElem?
   intro j
   cases j with
   | zero=>simp [hy]
   | succ j=>simp [List.getElem?_take]
  have hyi : idx rs (i : Int) = some y:=by
   unfold idx
   rw [decide_eq_false (by omega),cond_false,Int.toNat_natCast,hy]
  refine WA_seq ?_
  refine WA_seq ?_
  refine WA_drawW hT hM (by kernel_rfl) ?_
  refine Ds 4 [(116,vi (wr ((i : Int) + 1))),(115,vi (i : Int)),(114,vi (i : Int)),(113,.ps .fopt (s_Stmt.F rs))] [] [] ?_
  refine Dl rfl (v_slice s_Stmt .fopt rs (i : Int) (wr ((i : Int) + 1)) none [y] .opt hsub (by intro y hy; cases hy)) ?_
  refine Dt (po s_Stmt [y]) ?_
  refine Ds 4 [(121,vi (wr ((i : Int) + 1))),(120,vi (i : Int)),(119,vi (i : Int)),(118,.ps .fopt (s_Stmt.F rs))] [] [] ?_
  refine Dl rfl (v_slice s_Stmt .fopt rs (i : Int) (wr ((i : Int) + 1)) none [y] .opt hsub (by intro y hy; cases hy)) ?_
  refine Dt (po s_Stmt [y]) ?_
  refine Dp [po s_Stmt [y],po s_Stmt [y]] (vb true) en13 (ref1_SameBlock_ok (hB y hym)) ?_
  refine Ds 4 [(127,vi (i : Int)),(126,.ps .fopt (s_Stmt.F rs)),(125,vb false),(124,vb false)] [] [] ?_
  refine Dl rfl (v_index s_Stmt .fopt rs .i64 (i : Int) hyi) ?_
  refine Dt (.ref (eStmt y) 0) ?_
  refine Ds 4 [(132,vb (decide (y.Kind < 0))),(131,vb (decide (y.Kind < 0))),(130,vi y.Kind),(129,.ref (eStmt y) 0)] [] [] ?_
  refine De ?_
  rw [decide_eq_false (hK y hym)]
  refine Wk_done ?_
  refine WA_cond false (by kernel_rfl) (fun hb=>by cases hb) (fun _=>?_)
  refine WA_skip ?_
  refine WA_drawW hT hM (by kernel_rfl) ?_
  refine Ds 4 [(136,vi (i : Int)),(135,.ps .fopt (s_Stmt.F rs)),(134,vi (wr (cnt i + 1))),(133,vi (cnt i))] [] [] ?_
  refine Dl rfl (v_index s_Stmt .fopt rs .i64 (i : Int) hyi) ?_
  refine Dt (.ref (eStmt y) 0) ?_
  refine Ds 2 [(139,po s_Stmt y.Body),(138,.ref (eStmt y) 8)] [] [] ?_
  refine Dl rfl (v_len s_Stmt .opt y.Body) ?_
  refine Ds 3 [(143,vi (i : Int)),(142,.ps .fopt (s_Stmt.F rs)),(141,vi (wr (wr (cnt i + 1) - ln y.Body)))] [] [] ?_
  refine Dl rfl (v_index s_Stmt .fopt rs .i64 (i : Int) hyi) ?_
  refine Dt (.ref (eStmt y) 0) ?_
  refine Ds 2 [(146,po s_Stmt y.Else),(145,.ref (eStmt y) 9)] [] [] ?_
  refine Dl rfl (v_len s_Stmt .opt y.Else) ?_
  refine Ds 2 [(16,vi (wr (wr (wr (cnt i + 1) - ln y.Body) - ln y.Else))),(148,vi (wr (wr (wr (cnt i + 1) - ln y.Body) - ln y.Else)))] [] [] ?_
  refine De ?_
  refine Wk_done ?_
  refine Rzd hT 2 [9,11,15,16,109,110] [(110,vi (wr ((i : Int) + 1)))] ?_
  rw [hw]
  exact ⟨i + 1,by omega,by omega,by rw [hcnt i y hy]; rfl⟩
 rw [decide_eq_false (show ¬ (i : Int) < (ln rs) by show ¬ (i : Int) < (rs.length : Int); omega)]
 refine WA_cond false (by kernel_rfl) (fun hb=>by cases hb) (fun _=>?_)
 refine WA_exit ?_
 obtain rfl : i = rs.length:=by omega
 refine WA_seq ?_
 refine WA_drawW hT hM (by kernel_rfl) ?_
 refine Ds 14 [(8,vb (cnt rs.length == wr (((s_Stmt.F l0).length : Int) + ((s_Stmt.F l1).length : Int)))),(162,vb (cnt rs.length == wr (((s_Stmt.F l0).length : Int) + ((s_Stmt.F l1).length : Int)))),(161,vi (wr (((s_Stmt.F l0).length : Int) + ((s_Stmt.F l1).length : Int)))),(160,vi ((s_Stmt.F l1).length : Int)),(159,po s_Stmt l1),(158,.ref (el_Stmt l1) 0),(157,po s_LStmt [l0,l1]),(156,.box 9 1 0 1),(155,vi ((s_Stmt.F l0).length : Int)),(154,po s_Stmt l0),(153,.ref (el_Stmt l0) 0),(152,po s_LStmt [l0,l1]),(151,.box 9 1 0 1),(150,vi (cnt rs.length))] [] [(1,[9]),(2,[9]),(6,[9]),(7,[9])] ?_
 refine De ?_
 refine Wk_done ?_
 refine aW [8] ⟨[(8,vb (cnt rs.length == wr (((s_Stmt.F l0).length : Int) + ((s_Stmt.F l1).length : Int))))],hQ ⟨(d0 :: dr),[l0,l1]⟩ ({ d0 with Name:=k_o } :: dr) l3 kk x3 l1,9⟩ ?_
 rw [show (cnt rs.length == wr (((s_Stmt.F l0).length : Int) + ((s_Stmt.F l1).length : Int))) = true by rw [hend]; simp]
 exact rK [8] [] ⟨[(8,vb true)],[],1⟩ ⟨by kernel_rfl,rfl⟩
end Go.Su.Ytogllinpkijkpaa
namespace Go.Su.Ytogllinpkijkpaa
open Go.Mx Go.Proofs
set_option linter.unusedVariables false
set_option linter.unusedSimpArgs false
set_option maxHeartbeats 4000000
theorem prog2_ev (how : Int) (a b : List Act) (most : Int) (hm : most ≤ 100) :
  ∃ D ts,Ev (fun n=>hand_Prog n how a b [] most) ⟨D,ts⟩ ∧ okDecls D ∧ okTs ts ∧ ts.length = 2:=by
 obtain ⟨D,hD,oD⟩:=decls_ev how
 obtain ⟨a',ha,la⟩:=acts_ev a
 obtain ⟨b',hb,lb⟩:=acts_ev b
 obtain ⟨ta,xa,ea,oa,wa⟩:=stmts_ev a' la most hm
 obtain ⟨tb,xb,eb,ob,wb⟩:=stmts_ev b' lb most hm
 have i0 : idx [a,b,([] : List Act)] 0 = some a:=rfl
 have i1 : idx [a,b,([] : List Act)] 1 = some b:=rfl
 have i2 : idx [a,b,([] : List Act)] 2 = some []:=rfl
 have w1 : wr (0 + 1) = 1:=rfl
 have w2 : wr (1 + 1) = 2:=rfl
 have g0 : ∀ t : List Stmt,room s_LStmt.i1.bytes ([] : List (List Stmt)).length [t].length = true:=fun t=>rfl
 have g1 : ∀ t u : List Stmt,room s_LStmt.i1.bytes (([] : List (List Stmt)) ++ [t]).length [u].length = true:=fun t u=>rfl
 refine ⟨D,[ta,tb],?_,oD,fun t ht=>?_,rfl⟩
 ·refine Ev.of_eq (g:=fun n=>hand_Prog_L0 n how a b [] most D (fun l2=>some (Prog.mk D l2)) [] 0) (fun n=>by simp only [hand_Prog,hD,jn,Option.bind_some]) ?_
  refine Ev.step (Ev.of_eq (g:=fun n=>(hand_stmts n a' most 1).bind fun r10=>hand_Prog_L0 n how a b [] most D (fun l2=>some (Prog.mk D l2)) ([] ++ [r10.1]) 1) (fun n=>?_) (Ev.bind ea ?_))
  ·simp only [hand_Prog_L0,i0,ha,jn,Option.bind_some,g0,cond_true,w1]; rfl
  refine Ev.step (Ev.of_eq (g:=fun n=>(hand_stmts n b' most 1).bind fun r10=>hand_Prog_L0 n how a b [] most D (fun l2=>some (Prog.mk D l2)) ([] ++ [ta] ++ [r10.1]) 2) (fun n=>?_) (Ev.bind eb ?_))
  ·simp only [hand_Prog_L0,i1,hb,jn,Option.bind_some,g1,cond_true,w2]; rfl
  refine Ev.step (Ev.of_eq (g:=fun n=>some ⟨D,[ta,tb]⟩) (fun n=>?_) (Ev.ret _))
  simp only [hand_Prog_L0,i2,jn,Option.bind_some]
  rfl
 ·simp only [List.mem_cons,List.not_mem_nil,or_false] at ht
  rcases ht with rfl | rfl
  ·exact ⟨oa,wa⟩
  ·exact ⟨ob,wb⟩
end Go.Su.Ytogllinpkijkpaa
