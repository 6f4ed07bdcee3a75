/-
  Induction over programs, rounds over lists.
-/
import Derived.Test.YtfmgnboplbgniaaZwNWPb
import Derived.Test.YtfmgnboplbgniaaZwDx14
import Derived.Test.YtfmgnboplbgniaaZwNWF
namespace Go.Su.Ytfmgnboplbgniaa
open Go.Mx Go.Proofs
set_option maxRecDepth 100000
set_option maxHeartbeats 20000000
set_option linter.unusedVariables false
set_option linter.unusedSimpArgs false
theorem law8_NamesWhole_ok {n : Nat} {a0 : Int} {a1 : List Act} {a2 : List Act} {a3 : List Int} {a4 : Int} {r : Bool} (h : law8_NamesWhole n a0 a1 a2 a3 a4 = some r) : PT Try.prog 8 [vi a0,po s_Act a1,po s_Act a2,po s_int a3,vi a4] (vb r):=by
 unfold law8_NamesWhole at h
 refine PT_bodyA hT Try.func8 rfl (by kernel_rfl) fun bad w=>?_
 refine Qzd hT 1 [0,1,2,3,4] [] ?_
 refine Qgd hT 3 [3,4,25,26,27] [(25,vi a0),(26,po s_Act a1),(27,po s_Act a2)] ?_
 obtain ⟨r1,hr1,h⟩:=bsome h
 refine Og [] [(100,rb 1 s_LStmt r1.Threads)] [vi a0,po s_Act a1,po s_Act a2,vn,vi 5] [vi a0,po s_Act a1,po s_Act a2,vn,vi 5] [] [(100,28,0)] [(28,rb 0 s_LStmt r1.Threads)] (.agg [po s_Decl r1.Decls,vs 100 1 s_LStmt r1.Threads]) (.agg [po s_Decl r1.Decls,vs 28 0 s_LStmt r1.Threads]) 1 en15 (GO_args ((hand_Prog_ok hr1)) ⟨(VLe.f (VLe.refl _) rfl),(VLe.f (VLe.refl _) rfl),(VLe.f (VLe.refl _) rfl),(VLe.f (VLe.nil_opt) rfl),(VLe.f (VLe.refl _) rfl),trivial⟩) ?_
 refine Sgh hT 0 [3,4,28] [(28,.agg [po s_Decl r1.Decls,vs 28 0 s_LStmt r1.Threads])] [(28,rb 0 s_LStmt r1.Threads)] 1 ?_
 refine WO_weak (wF 28 0 (rb 0 s_LStmt r1.Threads) [(3,po s_int a3),(4,vi a4),(28,eProg r1)] [] ⟨rfl,.keep _,rfl,.keep _,rfl,.aggs ⟨.keep _,.hit true,trivial⟩,trivial⟩ trivial) ?_
 obtain ⟨r2,hr2,h⟩:=bsome h
 refine Pt' en33 (ref1_Show_ok hr2) ?_
 refine Sgd hT 0 [3,4,29] [(29,vw r2)] ?_
 obtain ⟨r3,hr3,h⟩:=bsome h
 refine Pt' en27 (law8_read_ok hr3) ?_
 refine Sg hT 1 [4,30,31] ⟨[(4,vi a4),(30,eProg r3),(31,po s_int a3)],[],1⟩ ?_
 obtain ⟨r4,hr4,h⟩:=bsome h
 refine Pt' en32 (law8_turned_ok hr4) ?_
 refine Sz hT 2 [4,11] ⟨[(4,vi a4),(11,bx 11 1)],[(11,cb 1 26 2 (eProg r4))],2⟩ ?_
 refine Qgd hT 1 [4,11,34] [(34,eProg r4)] ?_
 obtain ⟨r5,hr5,h⟩:=bsome h
 refine Pt' en26 (names_Check_ok hr5) ?_
 refine Szd hT 5 [4,11,13] [(13,vi r5.2)] ?_
 refine Qzd hT 1 [4,11,13,14] [(14,vb true)] ?_
 refine WA_seq ?_
 refine Qgd hT 2 [4,11,13,14,39] [(39,po s_LStmt r4.Threads)] ?_
 refine One' hT rfl (v_len s_LStmt .opt r4.Threads) ?_
 refine Szd hT 1 [4,11,13,14,40,41] [(40,vi (ln r4.Threads)),(41,vi 0)] ?_
 refine WA_block ?_
 refine lK [4,11,13,14,40,41] [(11,11,0)] (fun k s=>∃ q,q ≤ k ∧ q ≤ n ∧ ∃ (b6 : Bool),∃ (i7 : Int),law8_NamesWhole_L0 q a0 a1 a2 a3 a4 r1 r2 r3 r4 r5 b6 i7 = some r ∧ s = ⟨[(4,vi a4),(11,bx 11 0),(13,vi r5.2),(14,vb b6),(40,vi (ln r4.Threads)),(41,vi i7)],[(11,cb 0 26 2 (eProg r4))],1⟩) n ⟨n,Nat.le_refl _,Nat.le_refl _,true,0,h,rfl⟩ (by rintro s ⟨q,hq,_,b6,i7,h,_⟩; obtain rfl:=Nat.le_zero.1 hq; rw [law8_NamesWhole_L0] at h; cases h) ?_
 clear h
 rintro k1 s ⟨q1,hk1,hn1,b6,i7,h,rfl⟩
 rcases q1 with _ | q1
 ·rw [law8_NamesWhole_L0] at h; cases h
 rw [law8_NamesWhole_L0] at h
 refine Qzd hT 1 [4,11,13,14,40,41,42] [(42,vb (decide (i7 < (ln r4.Threads))))] ?_
 refine WA_seq ?_
 refine Ci h (fun h=>?_) fun h=>?_
 ·refine WA_skip ?_
  refine WA_seq ?_
  obtain ⟨J9,hJ9,h⟩:=jsome h
  refine WA_join (fun s=>∃ (b8 : Bool),J9 b8 = some r ∧ s = ⟨[(4,vi a4),(11,bx 11 0),(13,vi r5.2),(14,vb b8),(40,vi (ln r4.Threads)),(41,vi i7)],[(11,cb 0 26 2 (eProg r4))],1⟩) ?_ ?_
  ·refine WA_block ?_
   refine Qzd hT 2 [4,11,13,14,15,40,41] [(15,vi i7)] ?_
   refine WA_seq ?_
   refine WA_drawW hT hM (by kernel_rfl) ?_
   refine Ds 7 [(50,vi (wr (i7 + 1))),(49,vi i7),(48,vi i7),(47,po s_LStmt r4.Threads),(46,.box 11 0 0 1),(45,po s_Decl r4.Decls),(44,bx 11 0)] [] [(0,[11]),(1,[11]),(2,[11]),(3,[11])] ?_
   obtain ⟨l10,hl10,h⟩:=bsome h
   refine Dl rfl (v_slice s_LStmt .opt r4.Threads i7 (wr (i7 + 1)) none l10 .opt hl10 (by intro y hy; cases hy)) ?_
   refine Dt (po s_LStmt l10) ?_
   refine Dh 3 [(16,bx 16 1),(52,.agg [po s_Decl r4.Decls,po s_LStmt l10])] [(16,cb 1 26 2 (.agg [po s_Decl r4.Decls,po s_LStmt l10])),(11,cb 0 26 2 (eProg r4))] 2 [(9,[16]),(10,[16])] [] ?_
   refine De ?_
   refine Wk_done ?_
   refine Qgd hT 1 [4,11,13,14,40,41,54] [(54,.agg [po s_Decl r4.Decls,po s_LStmt l10])] ?_
   obtain ⟨r11,hr11,h⟩:=bsome h
   refine Pt' (vs:=[.agg [po s_Decl r4.Decls,po s_LStmt l10]]) en26 (PT_args ((names_Check_ok hr11)) ⟨VLe.agg ⟨VLe.refl _,VLe.refl _,trivial⟩,trivial⟩) ?_
   refine Szd hT 5 [4,11,13,14,18,40,41] [(18,vi r11.2)] ?_
   refine Rgd hT 2 [4,11,13,18,40,41,59] [(59,vb b6)] ?_
   cases hb : (b6 : Bool)
   ·replace h:=cfalse hb h
    refine Sgd hT 4 [4,11,13,14,40,41] [(14,vb false)] ?_
    exact oK [4,11,13,14,40,41] [(11,11,0)] ⟨false,h,rfl⟩
   replace h:=ctrue hb h
   refine Sgd hT 4 [4,11,13,14,40,41] [(14,vb (r11.2 == 0))] ?_
   exact oK [4,11,13,14,40,41] [(11,11,0)] ⟨(r11.2 == 0),h,rfl⟩
  subst hJ9
  rintro s ⟨b8,h,rfl⟩
  skip
  refine Rgd hT 2 [4,11,13,14,40,41] [(41,vi (wr (i7 + 1)))] ?_
  exact oK [4,11,13,14,40,41] [(11,11,0)] ⟨_,by omega,by omega,b8,wr (i7 + 1),h,rfl⟩
 refine WA_exit ?_
 refine Qzh hT 3 [4,11,13,14,19] [(19,bx 19 1)] [(19,cb 1 26 2 (eProg r4)),(11,cb 0 26 2 (eProg r4))] 2 ?_
 refine Qg hT 3 [4,11,13,14,19,65,67] ⟨[(4,vi a4),(11,bx 11 0),(13,vi r5.2),(14,vb b6),(19,bx 19 1),(65,vs 65 2 s_Decl ([] : List Decl)),(67,po s_Decl r4.Decls)],[(65,⟨2,58,4,false,false,s_Decl.F ([] : List Decl)⟩),(19,cb 1 26 2 (eProg r4)),(11,cb 0 26 2 (eProg r4))],3⟩ ?_
 obtain ⟨g12,h⟩:=gsome h
 refine Oa hT s_Decl 65 2 false ([] : List Decl) r4.Decls (by kernel_rfl) g12 ?_
 refine Sgh hT 1 [4,11,13,14,19,68,69] [(68,vs 68 3 s_Decl (([] : List Decl) ++ r4.Decls)),(69,vi a4)] [(68,rb 3 s_Decl (([] : List Decl) ++ r4.Decls)),(19,cb 1 26 2 (eProg r4)),(11,cb 0 26 2 (eProg r4))] 4 ?_
 obtain ⟨r13,hr13,h⟩:=bsome h
 refine Pt' en17 (hand_Pick_ok hr13) ?_
 refine Sgh hT 3 [4,11,13,14,19,68,73] [(73,vs 73 4 s_Decl [(Decl.mk (wr (1 + r13)) k_unheard 0 c0)])] [(73,⟨4,58,4,false,false,s_Decl.F [(Decl.mk (wr (1 + r13)) k_unheard 0 c0)]⟩),(68,rb 3 s_Decl (([] : List Decl) ++ r4.Decls)),(19,cb 1 26 2 (eProg r4)),(11,cb 0 26 2 (eProg r4))] 5 ?_
 obtain ⟨g14,h⟩:=gsome h
 refine Oa hT s_Decl 68 3 true (([] : List Decl) ++ r4.Decls) [(Decl.mk (wr (1 + r13)) k_unheard 0 c0)] (eO s_Decl 73 4 true ⟨4,58,4,false,false,s_Decl.F [(Decl.mk (wr (1 + r13)) k_unheard 0 c0)]⟩ [(Decl.mk (wr (1 + r13)) k_unheard 0 c0)]) g14 ?_
 refine Szh hT 2 [4,11,13,14,19] [] [(19,cb 1 26 2 (.agg [vs 74 5 s_Decl ((([] : List Decl) ++ r4.Decls) ++ [(Decl.mk (wr (1 + r13)) k_unheard 0 c0)]),po s_LStmt r4.Threads])),(74,rb 5 s_Decl ((([] : List Decl) ++ r4.Decls) ++ [(Decl.mk (wr (1 + r13)) k_unheard 0 c0)])),(73,⟨4,58,4,false,false,s_Decl.F [(Decl.mk (wr (1 + r13)) k_unheard 0 c0)]⟩),(11,cb 0 26 2 (eProg r4))] 6 ?_
 refine Qgd hT 1 [4,11,13,14,77] [(77,.agg [vs 74 5 s_Decl ((([] : List Decl) ++ r4.Decls) ++ [(Decl.mk (wr (1 + r13)) k_unheard 0 c0)]),po s_LStmt r4.Threads])] ?_
 refine WO_weak (wF 74 5 (rb 5 s_Decl ((([] : List Decl) ++ r4.Decls) ++ [(Decl.mk (wr (1 + r13)) k_unheard 0 c0)])) [(4,vi a4),(11,bx 11 0),(13,vi r5.2),(14,vb b6),(77,.agg [po s_Decl ((([] : List Decl) ++ r4.Decls) ++ [(Decl.mk (wr (1 + r13)) k_unheard 0 c0)]),po s_LStmt r4.Threads])] [(19,cb 1 26 2 (.agg [po s_Decl ((([] : List Decl) ++ r4.Decls) ++ [(Decl.mk (wr (1 + r13)) k_unheard 0 c0)]),po s_LStmt r4.Threads])),(73,⟨4,58,4,false,false,s_Decl.F [(Decl.mk (wr (1 + r13)) k_unheard 0 c0)]⟩),(11,cb 0 26 2 (eProg r4))] ⟨rfl,.keep _,rfl,.keep _,rfl,.keep _,rfl,.keep _,rfl,.aggs ⟨.hit true,.keep _,trivial⟩,trivial⟩ ⟨rfl,.inr ⟨rfl,rfl,.aggs ⟨.hit true,.keep _,trivial⟩,trivial⟩,rfl,.inl rfl,rfl,.inl rfl,trivial⟩) ?_
 obtain ⟨r15,hr15,h⟩:=bsome h
 refine Pt' (vs:=[.agg [po s_Decl ((([] : List Decl) ++ r4.Decls) ++ [(Decl.mk (wr (1 + r13)) k_unheard 0 c0)]),po s_LStmt r4.Threads]]) en26 (PT_args ((names_Check_ok hr15)) ⟨VLe.agg ⟨VLe.refl _,VLe.refl _,trivial⟩,trivial⟩) ?_
 refine Szd hT 5 [4,11,13,14,21] [(21,vi r15.2)] ?_
 refine Qzh hT 3 [4,11,13,14,21,22] [(22,bx 22 6)] [(22,cb 6 26 2 (eProg r4)),(19,cb 1 26 2 (.agg [po s_Decl ((([] : List Decl) ++ r4.Decls) ++ [(Decl.mk (wr (1 + r13)) k_unheard 0 c0)]),po s_LStmt r4.Threads])),(73,⟨4,58,4,false,false,s_Decl.F [(Decl.mk (wr (1 + r13)) k_unheard 0 c0)]⟩),(11,cb 0 26 2 (eProg r4))] 7 ?_
 refine WA_seq ?_
 refine WA_drawW hT hM (by kernel_rfl) ?_
 refine Ds 3 [(84,po s_Decl r4.Decls),(83,bx 11 0),(82,.ps .full (s_Decl.F ([] : List Decl)))] [] [(1,[11]),(2,[11])] ?_
 obtain ⟨g16,h⟩:=gsome h
 by_cases hne : r4.Decls = []
 ·refine Dw rfl (ev_appendF0 s_Decl .full ([] : List Decl) r4.Decls (by decide) (by kernel_rfl) (by kernel_rfl) hne) ?_
  refine Dh 1 [(86,vi a4)] [(22,cb 6 26 2 (eProg r4)),(19,cb 1 26 2 (.agg [po s_Decl ((([] : List Decl) ++ r4.Decls) ++ [(Decl.mk (wr (1 + r13)) k_unheard 0 c0)]),po s_LStmt r4.Threads])),(73,⟨4,58,4,false,false,s_Decl.F [(Decl.mk (wr (1 + r13)) k_unheard 0 c0)]⟩),(11,cb 0 26 2 (eProg r4))] 7 [] [] ?_
  obtain ⟨r17,hr17,h⟩:=bsome h
  refine Dp [vi a4,vi 6] (vi r17) en17 (hand_Pick_ok hr17) ?_
  refine Ds 6 [(93,po s_Decl r4.Decls),(92,bx 11 0),(91,vi a4),(90,po s_Decl r4.Decls),(89,bx 11 0),(88,vi (wr (1 + r17)))] [] [(7,[11]),(8,[11]),(10,[11]),(11,[11])] ?_
  refine Dl rfl (v_len s_Decl .opt r4.Decls) ?_
  refine Dt (vi (ln r4.Decls)) ?_
  obtain ⟨r18,hr18,h⟩:=bsome h
  refine Dp [vi a4,vi (ln r4.Decls)] (vi r18) en17 (hand_Pick_ok hr18) ?_
  obtain ⟨x19,hx19,h⟩:=bsome h
  refine Dl rfl (v_index s_Decl .opt r4.Decls .i64 r18 hx19) ?_
  refine Dt (.ref (eDecl x19) 0) ?_
  refine Ds 4 [(100,.ps .full (s_Decl.F [(Decl.mk (wr (1 + r17)) x19.Name 0 (⟨4636666922610458624,4621256167635550208⟩ : Cx))])),(99,.agg [vi (wr (1 + r17)),vw x19.Name,vi 0,vz (⟨4636666922610458624,4621256167635550208⟩ : Cx)]),(98,vw x19.Name),(97,.ref (eDecl x19) 1)] [] [] ?_
  obtain ⟨g20,h⟩:=gsome h
  refine Dw rfl (ev_appendF s_Decl .full (([] : List Decl) ++ r4.Decls) [(Decl.mk (wr (1 + r17)) x19.Name 0 (⟨4636666922610458624,4621256167635550208⟩ : Cx))] (by decide) (by kernel_rfl) (by kernel_rfl) (by simp) g20) ?_
  refine Dh 2 [(102,bx 22 6)] [(22,cb 6 26 2 (.agg [vs 101 7 s_Decl ((([] : List Decl) ++ r4.Decls) ++ [(Decl.mk (wr (1 + r17)) x19.Name 0 (⟨4636666922610458624,4621256167635550208⟩ : Cx))]),po s_LStmt r4.Threads])),(101,⟨7,58,4,false,false,s_Decl.F ((([] : List Decl) ++ r4.Decls) ++ [(Decl.mk (wr (1 + r17)) x19.Name 0 (⟨4636666922610458624,4621256167635550208⟩ : Cx))])⟩),(19,cb 1 26 2 (.agg [po s_Decl ((([] : List Decl) ++ r4.Decls) ++ [(Decl.mk (wr (1 + r13)) k_unheard 0 c0)]),po s_LStmt r4.Threads])),(73,⟨4,58,4,false,false,s_Decl.F [(Decl.mk (wr (1 + r13)) k_unheard 0 c0)]⟩),(11,cb 0 26 2 (eProg r4))] 8 [(21,[22])] [(20,[22])] ?_
  refine De ?_
  refine Wk_done ?_
  refine Qg hT 1 [13,14,21,104] ⟨[(13,vi r5.2),(14,vb b6),(21,vi r15.2),(104,.agg [vs 101 7 s_Decl ((([] : List Decl) ++ r4.Decls) ++ [(Decl.mk (wr (1 + r17)) x19.Name 0 (⟨4636666922610458624,4621256167635550208⟩ : Cx))]),po s_LStmt r4.Threads])],[(22,cb 6 26 2 (.agg [vs 101 7 s_Decl ((([] : List Decl) ++ r4.Decls) ++ [(Decl.mk (wr (1 + r17)) x19.Name 0 (⟨4636666922610458624,4621256167635550208⟩ : Cx))]),po s_LStmt r4.Threads])),(101,⟨7,58,4,false,false,s_Decl.F ((([] : List Decl) ++ r4.Decls) ++ [(Decl.mk (wr (1 + r17)) x19.Name 0 (⟨4636666922610458624,4621256167635550208⟩ : Cx))])⟩),(19,cb 1 26 2 (.agg [po s_Decl ((([] : List Decl) ++ r4.Decls) ++ [(Decl.mk (wr (1 + r13)) k_unheard 0 c0)]),po s_LStmt r4.Threads])),(73,⟨4,58,4,false,false,s_Decl.F [(Decl.mk (wr (1 + r13)) k_unheard 0 c0)]⟩),(11,cb 0 26 2 (eProg r4))],8⟩ ?_
  refine WO_weak (wF 101 7 ⟨7,58,4,false,false,s_Decl.F ((([] : List Decl) ++ r4.Decls) ++ [(Decl.mk (wr (1 + r17)) x19.Name 0 (⟨4636666922610458624,4621256167635550208⟩ : Cx))])⟩ [(13,vi r5.2),(14,vb b6),(21,vi r15.2),(104,.agg [po s_Decl ((([] : List Decl) ++ r4.Decls) ++ [(Decl.mk (wr (1 + r17)) x19.Name 0 (⟨4636666922610458624,4621256167635550208⟩ : Cx))]),po s_LStmt r4.Threads])] [(22,cb 6 26 2 (.agg [po s_Decl ((([] : List Decl) ++ r4.Decls) ++ [(Decl.mk (wr (1 + r17)) x19.Name 0 (⟨4636666922610458624,4621256167635550208⟩ : Cx))]),po s_LStmt r4.Threads])),(19,cb 1 26 2 (.agg [po s_Decl ((([] : List Decl) ++ r4.Decls) ++ [(Decl.mk (wr (1 + r13)) k_unheard 0 c0)]),po s_LStmt r4.Threads])),(73,⟨4,58,4,false,false,s_Decl.F [(Decl.mk (wr (1 + r13)) k_unheard 0 c0)]⟩),(11,cb 0 26 2 (eProg r4))] ⟨rfl,.keep _,rfl,.keep _,rfl,.keep _,rfl,.aggs ⟨.hit true,.keep _,trivial⟩,trivial⟩ ⟨rfl,.inr ⟨rfl,rfl,.aggs ⟨.hit true,.keep _,trivial⟩,trivial⟩,rfl,.inl rfl,rfl,.inl rfl,rfl,.inl rfl,trivial⟩) ?_
  obtain ⟨r21,hr21,h⟩:=bsome h
  refine Pt' (vs:=[.agg [po s_Decl ((([] : List Decl) ++ r4.Decls) ++ [(Decl.mk (wr (1 + r17)) x19.Name 0 (⟨4636666922610458624,4621256167635550208⟩ : Cx))]),po s_LStmt r4.Threads]]) en26 (PT_args ((names_Check_ok hr21)) ⟨VLe.agg ⟨VLe.refl _,VLe.refl _,trivial⟩,trivial⟩) ?_
  refine Sz hT 5 [13,14,21,23,24] ⟨[(13,vi r5.2),(14,vb b6),(21,vi r15.2),(23,vz r21.1),(24,vi r21.2)],[(22,cb 6 26 2 (.agg [po s_Decl ((([] : List Decl) ++ r4.Decls) ++ [(Decl.mk (wr (1 + r17)) x19.Name 0 (⟨4636666922610458624,4621256167635550208⟩ : Cx))]),po s_LStmt r4.Threads])),(19,cb 1 26 2 (.agg [po s_Decl ((([] : List Decl) ++ r4.Decls) ++ [(Decl.mk (wr (1 + r13)) k_unheard 0 c0)]),po s_LStmt r4.Threads])),(73,⟨4,58,4,false,false,s_Decl.F [(Decl.mk (wr (1 + r13)) k_unheard 0 c0)]⟩),(11,cb 0 26 2 (eProg r4))],8⟩ ?_
  refine WA_seq ?_
  obtain ⟨J23,hJ23,h⟩:=jsome h
  refine WA_join (fun s=>∃ (b22 : Bool),J23 b22 = some r ∧ s = ⟨[(10,vb b22)],[],1⟩) ?_ ?_
  ·refine WA_region ?_
   obtain ⟨r24,hr24,h⟩:=bsome h
   refine Pt' en29 (law8_known_ok hr24) ?_
   refine Sg hT 1 [13,14,21,23,24,109] ⟨[(13,vi r5.2),(14,vb b6),(21,vi r15.2),(23,vz r21.1),(24,vi r21.2),(109,vb r24)],[(22,cb 6 26 2 (.agg [po s_Decl ((([] : List Decl) ++ r4.Decls) ++ [(Decl.mk (wr (1 + r17)) x19.Name 0 (⟨4636666922610458624,4621256167635550208⟩ : Cx))]),po s_LStmt r4.Threads])),(19,cb 1 26 2 (.agg [po s_Decl ((([] : List Decl) ++ r4.Decls) ++ [(Decl.mk (wr (1 + r13)) k_unheard 0 c0)]),po s_LStmt r4.Threads])),(73,⟨4,58,4,false,false,s_Decl.F [(Decl.mk (wr (1 + r13)) k_unheard 0 c0)]⟩),(11,cb 0 26 2 (eProg r4))],8⟩ ?_
   cases hb : (r24 : Bool)
   ·replace h:=cfalse hb h
    refine Sg hT 23 [10] ⟨[(10,vb false)],[(22,cb 6 26 2 (.agg [po s_Decl ((([] : List Decl) ++ r4.Decls) ++ [(Decl.mk (wr (1 + r17)) x19.Name 0 (⟨4636666922610458624,4621256167635550208⟩ : Cx))]),po s_LStmt r4.Threads])),(19,cb 1 26 2 (.agg [po s_Decl ((([] : List Decl) ++ r4.Decls) ++ [(Decl.mk (wr (1 + r13)) k_unheard 0 c0)]),po s_LStmt r4.Threads])),(73,⟨4,58,4,false,false,s_Decl.F [(Decl.mk (wr (1 + r13)) k_unheard 0 c0)]⟩),(11,cb 0 26 2 (eProg r4))],8⟩ ?_
    exact oK [10] [] ⟨false,h,rfl⟩
   replace h:=ctrue hb h
   refine Sg hT 6 [13,21,23,24,115] ⟨[(13,vi r5.2),(21,vi r15.2),(23,vz r21.1),(24,vi r21.2),(115,vb ((r5.2 == 0) == b6))],[(22,cb 6 26 2 (.agg [po s_Decl ((([] : List Decl) ++ r4.Decls) ++ [(Decl.mk (wr (1 + r17)) x19.Name 0 (⟨4636666922610458624,4621256167635550208⟩ : Cx))]),po s_LStmt r4.Threads])),(19,cb 1 26 2 (.agg [po s_Decl ((([] : List Decl) ++ r4.Decls) ++ [(Decl.mk (wr (1 + r13)) k_unheard 0 c0)]),po s_LStmt r4.Threads])),(73,⟨4,58,4,false,false,s_Decl.F [(Decl.mk (wr (1 + r13)) k_unheard 0 c0)]⟩),(11,cb 0 26 2 (eProg r4))],8⟩ ?_
   cases hb : (((r5.2 == 0) == b6) : Bool)
   ·replace h:=cfalse hb h
    refine Sg hT 17 [10] ⟨[(10,vb false)],[(22,cb 6 26 2 (.agg [po s_Decl ((([] : List Decl) ++ r4.Decls) ++ [(Decl.mk (wr (1 + r17)) x19.Name 0 (⟨4636666922610458624,4621256167635550208⟩ : Cx))]),po s_LStmt r4.Threads])),(19,cb 1 26 2 (.agg [po s_Decl ((([] : List Decl) ++ r4.Decls) ++ [(Decl.mk (wr (1 + r13)) k_unheard 0 c0)]),po s_LStmt r4.Threads])),(73,⟨4,58,4,false,false,s_Decl.F [(Decl.mk (wr (1 + r13)) k_unheard 0 c0)]⟩),(11,cb 0 26 2 (eProg r4))],8⟩ ?_
    exact oK [10] [] ⟨false,h,rfl⟩
   replace h:=ctrue hb h
   refine Sg hT 5 [13,23,24,120] ⟨[(13,vi r5.2),(23,vz r21.1),(24,vi r21.2),(120,vb (r15.2 == r5.2))],[(22,cb 6 26 2 (.agg [po s_Decl ((([] : List Decl) ++ r4.Decls) ++ [(Decl.mk (wr (1 + r17)) x19.Name 0 (⟨4636666922610458624,4621256167635550208⟩ : Cx))]),po s_LStmt r4.Threads])),(19,cb 1 26 2 (.agg [po s_Decl ((([] : List Decl) ++ r4.Decls) ++ [(Decl.mk (wr (1 + r13)) k_unheard 0 c0)]),po s_LStmt r4.Threads])),(73,⟨4,58,4,false,false,s_Decl.F [(Decl.mk (wr (1 + r13)) k_unheard 0 c0)]⟩),(11,cb 0 26 2 (eProg r4))],8⟩ ?_
   cases hb : ((r15.2 == r5.2) : Bool)
   ·replace h:=cfalse hb h
    refine Sg hT 12 [10] ⟨[(10,vb false)],[(22,cb 6 26 2 (.agg [po s_Decl ((([] : List Decl) ++ r4.Decls) ++ [(Decl.mk (wr (1 + r17)) x19.Name 0 (⟨4636666922610458624,4621256167635550208⟩ : Cx))]),po s_LStmt r4.Threads])),(19,cb 1 26 2 (.agg [po s_Decl ((([] : List Decl) ++ r4.Decls) ++ [(Decl.mk (wr (1 + r13)) k_unheard 0 c0)]),po s_LStmt r4.Threads])),(73,⟨4,58,4,false,false,s_Decl.F [(Decl.mk (wr (1 + r13)) k_unheard 0 c0)]⟩),(11,cb 0 26 2 (eProg r4))],8⟩ ?_
    exact oK [10] [] ⟨false,h,rfl⟩
   replace h:=ctrue hb h
   refine Sg hT 4 [13,23,124] ⟨[(13,vi r5.2),(23,vz r21.1),(124,vb (r21.2 == 3))],[(22,cb 6 26 2 (.agg [po s_Decl ((([] : List Decl) ++ r4.Decls) ++ [(Decl.mk (wr (1 + r17)) x19.Name 0 (⟨4636666922610458624,4621256167635550208⟩ : Cx))]),po s_LStmt r4.Threads])),(19,cb 1 26 2 (.agg [po s_Decl ((([] : List Decl) ++ r4.Decls) ++ [(Decl.mk (wr (1 + r13)) k_unheard 0 c0)]),po s_LStmt r4.Threads])),(73,⟨4,58,4,false,false,s_Decl.F [(Decl.mk (wr (1 + r13)) k_unheard 0 c0)]⟩),(11,cb 0 26 2 (eProg r4))],8⟩ ?_
   cases hb : ((r21.2 == 3) : Bool)
   ·replace h:=cfalse hb h
    refine Sg hT 8 [10] ⟨[(10,vb false)],[(22,cb 6 26 2 (.agg [po s_Decl ((([] : List Decl) ++ r4.Decls) ++ [(Decl.mk (wr (1 + r17)) x19.Name 0 (⟨4636666922610458624,4621256167635550208⟩ : Cx))]),po s_LStmt r4.Threads])),(19,cb 1 26 2 (.agg [po s_Decl ((([] : List Decl) ++ r4.Decls) ++ [(Decl.mk (wr (1 + r13)) k_unheard 0 c0)]),po s_LStmt r4.Threads])),(73,⟨4,58,4,false,false,s_Decl.F [(Decl.mk (wr (1 + r13)) k_unheard 0 c0)]⟩),(11,cb 0 26 2 (eProg r4))],8⟩ ?_
    exact oK [10] [] ⟨false,h,rfl⟩
   replace h:=ctrue hb h
   refine Sg hT 3 [23,124,127] ⟨[(23,vz r21.1),(124,vb true),(127,vb (r5.2 != 0))],[(22,cb 6 26 2 (.agg [po s_Decl ((([] : List Decl) ++ r4.Decls) ++ [(Decl.mk (wr (1 + r17)) x19.Name 0 (⟨4636666922610458624,4621256167635550208⟩ : Cx))]),po s_LStmt r4.Threads])),(19,cb 1 26 2 (.agg [po s_Decl ((([] : List Decl) ++ r4.Decls) ++ [(Decl.mk (wr (1 + r13)) k_unheard 0 c0)]),po s_LStmt r4.Threads])),(73,⟨4,58,4,false,false,s_Decl.F [(Decl.mk (wr (1 + r13)) k_unheard 0 c0)]⟩),(11,cb 0 26 2 (eProg r4))],8⟩ ?_
   cases hb : ((r5.2 != 0) : Bool)
   ·replace h:=cfalse hb h
    refine Sg hT 5 [10] ⟨[(10,vb ((FloatKind.f64.format.order r21.1.re (⟨4636666922610458624,4621256167635550208⟩ : Cx).re == some .eq) && (FloatKind.f64.format.order r21.1.im (⟨4636666922610458624,4621256167635550208⟩ : Cx).im == some .eq)))],[(22,cb 6 26 2 (.agg [po s_Decl ((([] : List Decl) ++ r4.Decls) ++ [(Decl.mk (wr (1 + r17)) x19.Name 0 (⟨4636666922610458624,4621256167635550208⟩ : Cx))]),po s_LStmt r4.Threads])),(19,cb 1 26 2 (.agg [po s_Decl ((([] : List Decl) ++ r4.Decls) ++ [(Decl.mk (wr (1 + r13)) k_unheard 0 c0)]),po s_LStmt r4.Threads])),(73,⟨4,58,4,false,false,s_Decl.F [(Decl.mk (wr (1 + r13)) k_unheard 0 c0)]⟩),(11,cb 0 26 2 (eProg r4))],8⟩ ?_
    exact oK [10] [] ⟨((FloatKind.f64.format.order r21.1.re (⟨4636666922610458624,4621256167635550208⟩ : Cx).re == some .eq) && (FloatKind.f64.format.order r21.1.im (⟨4636666922610458624,4621256167635550208⟩ : Cx).im == some .eq)),h,rfl⟩
   replace h:=ctrue hb h
   refine Sg hT 5 [10] ⟨[(10,vb true)],[(22,cb 6 26 2 (.agg [po s_Decl ((([] : List Decl) ++ r4.Decls) ++ [(Decl.mk (wr (1 + r17)) x19.Name 0 (⟨4636666922610458624,4621256167635550208⟩ : Cx))]),po s_LStmt r4.Threads])),(19,cb 1 26 2 (.agg [po s_Decl ((([] : List Decl) ++ r4.Decls) ++ [(Decl.mk (wr (1 + r13)) k_unheard 0 c0)]),po s_LStmt r4.Threads])),(73,⟨4,58,4,false,false,s_Decl.F [(Decl.mk (wr (1 + r13)) k_unheard 0 c0)]⟩),(11,cb 0 26 2 (eProg r4))],8⟩ ?_
   exact oK [10] [] ⟨true,h,rfl⟩
  subst hJ23
  rintro s ⟨b22,h,rfl⟩
  skip
  obtain rfl:=Option.some.inj h
  exact rK [10] [] ⟨[(10,vb b22)],[],1⟩ ⟨by kernel_rfl,rfl⟩
 ·refine Dw rfl (ev_appendF s_Decl .full ([] : List Decl) r4.Decls (by decide) (by kernel_rfl) (by kernel_rfl) hne g16) ?_
  refine Dh 1 [(86,vi a4)] [(85,⟨7,58,4,false,false,s_Decl.F (([] : List Decl) ++ r4.Decls)⟩),(22,cb 6 26 2 (eProg r4)),(19,cb 1 26 2 (.agg [po s_Decl ((([] : List Decl) ++ r4.Decls) ++ [(Decl.mk (wr (1 + r13)) k_unheard 0 c0)]),po s_LStmt r4.Threads])),(73,⟨4,58,4,false,false,s_Decl.F [(Decl.mk (wr (1 + r13)) k_unheard 0 c0)]⟩),(11,cb 0 26 2 (eProg r4))] 8 [] [] ?_
  obtain ⟨r17,hr17,h⟩:=bsome h
  refine Dp [vi a4,vi 6] (vi r17) en17 (hand_Pick_ok hr17) ?_
  refine Ds 6 [(93,po s_Decl r4.Decls),(92,bx 11 0),(91,vi a4),(90,po s_Decl r4.Decls),(89,bx 11 0),(88,vi (wr (1 + r17)))] [] [(7,[11]),(8,[11]),(10,[11]),(11,[11])] ?_
  refine Dl rfl (v_len s_Decl .opt r4.Decls) ?_
  refine Dt (vi (ln r4.Decls)) ?_
  obtain ⟨r18,hr18,h⟩:=bsome h
  refine Dp [vi a4,vi (ln r4.Decls)] (vi r18) en17 (hand_Pick_ok hr18) ?_
  obtain ⟨x19,hx19,h⟩:=bsome h
  refine Dl rfl (v_index s_Decl .opt r4.Decls .i64 r18 hx19) ?_
  refine Dt (.ref (eDecl x19) 0) ?_
  refine Ds 4 [(100,.ps .full (s_Decl.F [(Decl.mk (wr (1 + r17)) x19.Name 0 (⟨4636666922610458624,4621256167635550208⟩ : Cx))])),(99,.agg [vi (wr (1 + r17)),vw x19.Name,vi 0,vz (⟨4636666922610458624,4621256167635550208⟩ : Cx)]),(98,vw x19.Name),(97,.ref (eDecl x19) 1)] [] [] ?_
  obtain ⟨g20,h⟩:=gsome h
  refine Dw rfl (ev_append s_Decl 85 7 false (([] : List Decl) ++ r4.Decls) [(Decl.mk (wr (1 + r17)) x19.Name 0 (⟨4636666922610458624,4621256167635550208⟩ : Cx))] (by kernel_rfl) (by kernel_rfl) (by kernel_rfl) (by simp) g20) ?_
  refine Dh 2 [(102,bx 22 6)] [(22,cb 6 26 2 (.agg [vs 101 8 s_Decl ((([] : List Decl) ++ r4.Decls) ++ [(Decl.mk (wr (1 + r17)) x19.Name 0 (⟨4636666922610458624,4621256167635550208⟩ : Cx))]),po s_LStmt r4.Threads])),(101,⟨8,58,4,false,false,s_Decl.F ((([] : List Decl) ++ r4.Decls) ++ [(Decl.mk (wr (1 + r17)) x19.Name 0 (⟨4636666922610458624,4621256167635550208⟩ : Cx))])⟩),(19,cb 1 26 2 (.agg [po s_Decl ((([] : List Decl) ++ r4.Decls) ++ [(Decl.mk (wr (1 + r13)) k_unheard 0 c0)]),po s_LStmt r4.Threads])),(73,⟨4,58,4,false,false,s_Decl.F [(Decl.mk (wr (1 + r13)) k_unheard 0 c0)]⟩),(11,cb 0 26 2 (eProg r4))] 9 [(21,[22])] [(20,[22])] ?_
  refine De ?_
  refine Wk_done ?_
  refine Qg hT 1 [13,14,21,104] ⟨[(13,vi r5.2),(14,vb b6),(21,vi r15.2),(104,.agg [vs 101 8 s_Decl ((([] : List Decl) ++ r4.Decls) ++ [(Decl.mk (wr (1 + r17)) x19.Name 0 (⟨4636666922610458624,4621256167635550208⟩ : Cx))]),po s_LStmt r4.Threads])],[(22,cb 6 26 2 (.agg [vs 101 8 s_Decl ((([] : List Decl) ++ r4.Decls) ++ [(Decl.mk (wr (1 + r17)) x19.Name 0 (⟨4636666922610458624,4621256167635550208⟩ : Cx))]),po s_LStmt r4.Threads])),(101,⟨8,58,4,false,false,s_Decl.F ((([] : List Decl) ++ r4.Decls) ++ [(Decl.mk (wr (1 + r17)) x19.Name 0 (⟨4636666922610458624,4621256167635550208⟩ : Cx))])⟩),(19,cb 1 26 2 (.agg [po s_Decl ((([] : List Decl) ++ r4.Decls) ++ [(Decl.mk (wr (1 + r13)) k_unheard 0 c0)]),po s_LStmt r4.Threads])),(73,⟨4,58,4,false,false,s_Decl.F [(Decl.mk (wr (1 + r13)) k_unheard 0 c0)]⟩),(11,cb 0 26 2 (eProg r4))],9⟩ ?_
  refine WO_weak (wF 101 8 ⟨8,58,4,false,false,s_Decl.F ((([] : List Decl) ++ r4.Decls) ++ [(Decl.mk (wr (1 + r17)) x19.Name 0 (⟨4636666922610458624,4621256167635550208⟩ : Cx))])⟩ [(13,vi r5.2),(14,vb b6),(21,vi r15.2),(104,.agg [po s_Decl ((([] : List Decl) ++ r4.Decls) ++ [(Decl.mk (wr (1 + r17)) x19.Name 0 (⟨4636666922610458624,4621256167635550208⟩ : Cx))]),po s_LStmt r4.Threads])] [(22,cb 6 26 2 (.agg [po s_Decl ((([] : List Decl) ++ r4.Decls) ++ [(Decl.mk (wr (1 + r17)) x19.Name 0 (⟨4636666922610458624,4621256167635550208⟩ : Cx))]),po s_LStmt r4.Threads])),(19,cb 1 26 2 (.agg [po s_Decl ((([] : List Decl) ++ r4.Decls) ++ [(Decl.mk (wr (1 + r13)) k_unheard 0 c0)]),po s_LStmt r4.Threads])),(73,⟨4,58,4,false,false,s_Decl.F [(Decl.mk (wr (1 + r13)) k_unheard 0 c0)]⟩),(11,cb 0 26 2 (eProg r4))] ⟨rfl,.keep _,rfl,.keep _,rfl,.keep _,rfl,.aggs ⟨.hit true,.keep _,trivial⟩,trivial⟩ ⟨rfl,.inr ⟨rfl,rfl,.aggs ⟨.hit true,.keep _,trivial⟩,trivial⟩,rfl,.inl rfl,rfl,.inl rfl,rfl,.inl rfl,trivial⟩) ?_
  obtain ⟨r21,hr21,h⟩:=bsome h
  refine Pt' (vs:=[.agg [po s_Decl ((([] : List Decl) ++ r4.Decls) ++ [(Decl.mk (wr (1 + r17)) x19.Name 0 (⟨4636666922610458624,4621256167635550208⟩ : Cx))]),po s_LStmt r4.Threads]]) en26 (PT_args ((names_Check_ok hr21)) ⟨VLe.agg ⟨VLe.refl _,VLe.refl _,trivial⟩,trivial⟩) ?_
  refine Sz hT 5 [13,14,21,23,24] ⟨[(13,vi r5.2),(14,vb b6),(21,vi r15.2),(23,vz r21.1),(24,vi r21.2)],[(22,cb 6 26 2 (.agg [po s_Decl ((([] : List Decl) ++ r4.Decls) ++ [(Decl.mk (wr (1 + r17)) x19.Name 0 (⟨4636666922610458624,4621256167635550208⟩ : Cx))]),po s_LStmt r4.Threads])),(19,cb 1 26 2 (.agg [po s_Decl ((([] : List Decl) ++ r4.Decls) ++ [(Decl.mk (wr (1 + r13)) k_unheard 0 c0)]),po s_LStmt r4.Threads])),(73,⟨4,58,4,false,false,s_Decl.F [(Decl.mk (wr (1 + r13)) k_unheard 0 c0)]⟩),(11,cb 0 26 2 (eProg r4))],9⟩ ?_
  refine WA_seq ?_
  obtain ⟨J23,hJ23,h⟩:=jsome h
  refine WA_join (fun s=>∃ (b22 : Bool),J23 b22 = some r ∧ s = ⟨[(10,vb b22)],[],1⟩) ?_ ?_
  ·refine WA_region ?_
   obtain ⟨r24,hr24,h⟩:=bsome h
   refine Pt' en29 (law8_known_ok hr24) ?_
   refine Sg hT 1 [13,14,21,23,24,109] ⟨[(13,vi r5.2),(14,vb b6),(21,vi r15.2),(23,vz r21.1),(24,vi r21.2),(109,vb r24)],[(22,cb 6 26 2 (.agg [po s_Decl ((([] : List Decl) ++ r4.Decls) ++ [(Decl.mk (wr (1 + r17)) x19.Name 0 (⟨4636666922610458624,4621256167635550208⟩ : Cx))]),po s_LStmt r4.Threads])),(19,cb 1 26 2 (.agg [po s_Decl ((([] : List Decl) ++ r4.Decls) ++ [(Decl.mk (wr (1 + r13)) k_unheard 0 c0)]),po s_LStmt r4.Threads])),(73,⟨4,58,4,false,false,s_Decl.F [(Decl.mk (wr (1 + r13)) k_unheard 0 c0)]⟩),(11,cb 0 26 2 (eProg r4))],9⟩ ?_
   cases hb : (r24 : Bool)
   ·replace h:=cfalse hb h
    refine Sg hT 23 [10] ⟨[(10,vb false)],[(22,cb 6 26 2 (.agg [po s_Decl ((([] : List Decl) ++ r4.Decls) ++ [(Decl.mk (wr (1 + r17)) x19.Name 0 (⟨4636666922610458624,4621256167635550208⟩ : Cx))]),po s_LStmt r4.Threads])),(19,cb 1 26 2 (.agg [po s_Decl ((([] : List Decl) ++ r4.Decls) ++ [(Decl.mk (wr (1 + r13)) k_unheard 0 c0)]),po s_LStmt r4.Threads])),(73,⟨4,58,4,false,false,s_Decl.F [(Decl.mk (wr (1 + r13)) k_unheard 0 c0)]⟩),(11,cb 0 26 2 (eProg r4))],9⟩ ?_
    exact oK [10] [] ⟨false,h,rfl⟩
   replace h:=ctrue hb h
   refine Sg hT 6 [13,21,23,24,115] ⟨[(13,vi r5.2),(21,vi r15.2),(23,vz r21.1),(24,vi r21.2),(115,vb ((r5.2 == 0) == b6))],[(22,cb 6 26 2 (.agg [po s_Decl ((([] : List Decl) ++ r4.Decls) ++ [(Decl.mk (wr (1 + r17)) x19.Name 0 (⟨4636666922610458624,4621256167635550208⟩ : Cx))]),po s_LStmt r4.Threads])),(19,cb 1 26 2 (.agg [po s_Decl ((([] : List Decl) ++ r4.Decls) ++ [(Decl.mk (wr (1 + r13)) k_unheard 0 c0)]),po s_LStmt r4.Threads])),(73,⟨4,58,4,false,false,s_Decl.F [(Decl.mk (wr (1 + r13)) k_unheard 0 c0)]⟩),(11,cb 0 26 2 (eProg r4))],9⟩ ?_
   cases hb : (((r5.2 == 0) == b6) : Bool)
   ·replace h:=cfalse hb h
    refine Sg hT 17 [10] ⟨[(10,vb false)],[(22,cb 6 26 2 (.agg [po s_Decl ((([] : List Decl) ++ r4.Decls) ++ [(Decl.mk (wr (1 + r17)) x19.Name 0 (⟨4636666922610458624,4621256167635550208⟩ : Cx))]),po s_LStmt r4.Threads])),(19,cb 1 26 2 (.agg [po s_Decl ((([] : List Decl) ++ r4.Decls) ++ [(Decl.mk (wr (1 + r13)) k_unheard 0 c0)]),po s_LStmt r4.Threads])),(73,⟨4,58,4,false,false,s_Decl.F [(Decl.mk (wr (1 + r13)) k_unheard 0 c0)]⟩),(11,cb 0 26 2 (eProg r4))],9⟩ ?_
    exact oK [10] [] ⟨false,h,rfl⟩
   replace h:=ctrue hb h
   refine Sg hT 5 [13,23,24,120] ⟨[(13,vi r5.2),(23,vz r21.1),(24,vi r21.2),(120,vb (r15.2 == r5.2))],[(22,cb 6 26 2 (.agg [po s_Decl ((([] : List Decl) ++ r4.Decls) ++ [(Decl.mk (wr (1 + r17)) x19.Name 0 (⟨4636666922610458624,4621256167635550208⟩ : Cx))]),po s_LStmt r4.Threads])),(19,cb 1 26 2 (.agg [po s_Decl ((([] : List Decl) ++ r4.Decls) ++ [(Decl.mk (wr (1 + r13)) k_unheard 0 c0)]),po s_LStmt r4.Threads])),(73,⟨4,58,4,false,false,s_Decl.F [(Decl.mk (wr (1 + r13)) k_unheard 0 c0)]⟩),(11,cb 0 26 2 (eProg r4))],9⟩ ?_
   cases hb : ((r15.2 == r5.2) : Bool)
   ·replace h:=cfalse hb h
    refine Sg hT 12 [10] ⟨[(10,vb false)],[(22,cb 6 26 2 (.agg [po s_Decl ((([] : List Decl) ++ r4.Decls) ++ [(Decl.mk (wr (1 + r17)) x19.Name 0 (⟨4636666922610458624,4621256167635550208⟩ : Cx))]),po s_LStmt r4.Threads])),(19,cb 1 26 2 (.agg [po s_Decl ((([] : List Decl) ++ r4.Decls) ++ [(Decl.mk (wr (1 + r13)) k_unheard 0 c0)]),po s_LStmt r4.Threads])),(73,⟨4,58,4,false,false,s_Decl.F [(Decl.mk (wr (1 + r13)) k_unheard 0 c0)]⟩),(11,cb 0 26 2 (eProg r4))],9⟩ ?_
    exact oK [10] [] ⟨false,h,rfl⟩
   replace h:=ctrue hb h
   refine Sg hT 4 [13,23,124] ⟨[(13,vi r5.2),(23,vz r21.1),(124,vb (r21.2 == 3))],[(22,cb 6 26 2 (.agg [po s_Decl ((([] : List Decl) ++ r4.Decls) ++ [(Decl.mk (wr (1 + r17)) x19.Name 0 (⟨4636666922610458624,4621256167635550208⟩ : Cx))]),po s_LStmt r4.Threads])),(19,cb 1 26 2 (.agg [po s_Decl ((([] : List Decl) ++ r4.Decls) ++ [(Decl.mk (wr (1 + r13)) k_unheard 0 c0)]),po s_LStmt r4.Threads])),(73,⟨4,58,4,false,false,s_Decl.F [(Decl.mk (wr (1 + r13)) k_unheard 0 c0)]⟩),(11,cb 0 26 2 (eProg r4))],9⟩ ?_
   cases hb : ((r21.2 == 3) : Bool)
   ·replace h:=cfalse hb h
    refine Sg hT 8 [10] ⟨[(10,vb false)],[(22,cb 6 26 2 (.agg [po s_Decl ((([] : List Decl) ++ r4.Decls) ++ [(Decl.mk (wr (1 + r17)) x19.Name 0 (⟨4636666922610458624,4621256167635550208⟩ : Cx))]),po s_LStmt r4.Threads])),(19,cb 1 26 2 (.agg [po s_Decl ((([] : List Decl) ++ r4.Decls) ++ [(Decl.mk (wr (1 + r13)) k_unheard 0 c0)]),po s_LStmt r4.Threads])),(73,⟨4,58,4,false,false,s_Decl.F [(Decl.mk (wr (1 + r13)) k_unheard 0 c0)]⟩),(11,cb 0 26 2 (eProg r4))],9⟩ ?_
    exact oK [10] [] ⟨false,h,rfl⟩
   replace h:=ctrue hb h
   refine Sg hT 3 [23,124,127] ⟨[(23,vz r21.1),(124,vb true),(127,vb (r5.2 != 0))],[(22,cb 6 26 2 (.agg [po s_Decl ((([] : List Decl) ++ r4.Decls) ++ [(Decl.mk (wr (1 + r17)) x19.Name 0 (⟨4636666922610458624,4621256167635550208⟩ : Cx))]),po s_LStmt r4.Threads])),(19,cb 1 26 2 (.agg [po s_Decl ((([] : List Decl) ++ r4.Decls) ++ [(Decl.mk (wr (1 + r13)) k_unheard 0 c0)]),po s_LStmt r4.Threads])),(73,⟨4,58,4,false,false,s_Decl.F [(Decl.mk (wr (1 + r13)) k_unheard 0 c0)]⟩),(11,cb 0 26 2 (eProg r4))],9⟩ ?_
   cases hb : ((r5.2 != 0) : Bool)
   ·replace h:=cfalse hb h
    refine Sg hT 5 [10] ⟨[(10,vb ((FloatKind.f64.format.order r21.1.re (⟨4636666922610458624,4621256167635550208⟩ : Cx).re == some .eq) && (FloatKind.f64.format.order r21.1.im (⟨4636666922610458624,4621256167635550208⟩ : Cx).im == some .eq)))],[(22,cb 6 26 2 (.agg [po s_Decl ((([] : List Decl) ++ r4.Decls) ++ [(Decl.mk (wr (1 + r17)) x19.Name 0 (⟨4636666922610458624,4621256167635550208⟩ : Cx))]),po s_LStmt r4.Threads])),(19,cb 1 26 2 (.agg [po s_Decl ((([] : List Decl) ++ r4.Decls) ++ [(Decl.mk (wr (1 + r13)) k_unheard 0 c0)]),po s_LStmt r4.Threads])),(73,⟨4,58,4,false,false,s_Decl.F [(Decl.mk (wr (1 + r13)) k_unheard 0 c0)]⟩),(11,cb 0 26 2 (eProg r4))],9⟩ ?_
    exact oK [10] [] ⟨((FloatKind.f64.format.order r21.1.re (⟨4636666922610458624,4621256167635550208⟩ : Cx).re == some .eq) && (FloatKind.f64.format.order r21.1.im (⟨4636666922610458624,4621256167635550208⟩ : Cx).im == some .eq)),h,rfl⟩
   replace h:=ctrue hb h
   refine Sg hT 5 [10] ⟨[(10,vb true)],[(22,cb 6 26 2 (.agg [po s_Decl ((([] : List Decl) ++ r4.Decls) ++ [(Decl.mk (wr (1 + r17)) x19.Name 0 (⟨4636666922610458624,4621256167635550208⟩ : Cx))]),po s_LStmt r4.Threads])),(19,cb 1 26 2 (.agg [po s_Decl ((([] : List Decl) ++ r4.Decls) ++ [(Decl.mk (wr (1 + r13)) k_unheard 0 c0)]),po s_LStmt r4.Threads])),(73,⟨4,58,4,false,false,s_Decl.F [(Decl.mk (wr (1 + r13)) k_unheard 0 c0)]⟩),(11,cb 0 26 2 (eProg r4))],9⟩ ?_
   exact oK [10] [] ⟨true,h,rfl⟩
  subst hJ23
  rintro s ⟨b22,h,rfl⟩
  skip
  obtain rfl:=Option.some.inj h
  exact rK [10] [] ⟨[(10,vb b22)],[],1⟩ ⟨by kernel_rfl,rfl⟩
end Go.Su.Ytfmgnboplbgniaa
namespace Go.Mx
set_option linter.unusedVariables false
def Ev {α : Type} (f : Nat → Option α) (r : α) : Prop:=∃ k,∀ n,k ≤ n → f n = some r
namespace Ev
variable {α β : Type}
theorem get {f : Nat → Option α} {r : α} (h : Ev f r) : ∃ n,f n = some r:=by
 obtain ⟨k,hk⟩:=h
 exact ⟨k,hk k (Nat.le_refl _)⟩
theorem ret (r : α) : Ev (fun _=>some r) r:=⟨0,fun _ _=>rfl⟩
theorem of_eq {f g : Nat → Option α} {r : α} (h : ∀ n,f n = g n) (hg : Ev g r) : Ev f r:=by
 obtain ⟨k,hk⟩:=hg
 exact ⟨k,fun n hn=>(h n).trans (hk n hn)⟩
theorem step {f : Nat → Option α} {r : α} (h : Ev (fun n=>f (n + 1)) r) : Ev f r:=by
 obtain ⟨k,hk⟩:=h
 refine ⟨k + 1,fun n hn=>?_⟩
 obtain ⟨m,rfl⟩ : ∃ m,n = m + 1:=⟨n - 1,by omega⟩
 exact hk m (by omega)
theorem bind {f : Nat → Option α} {g : Nat → α → Option β} {x : α} {r : β} (h : Ev f x) (h' : Ev (fun n=>g n x) r) : Ev (fun n=>(f n).bind (g n)) r:=by
 obtain ⟨k,hk⟩:=h
 obtain ⟨k',hk'⟩:=h'
 refine ⟨max k k',fun n hn=>?_⟩
 show (f n).bind (g n) = some r
 rw [hk n (by omega)]
 exact hk' n (by omega)
theorem opt {o : Option α} {g : Nat → α → Option β} {x : α} {r : β} (h : o = some x) (h' : Ev (fun n=>g n x) r) : Ev (fun n=>o.bind (g n)) r:=by
 subst h; exact h'
theorem yes {b : Bool} {f g : Nat → Option α} {r : α} (hb : b = true) (ht : Ev f r) : Ev (fun n=>bif b then f n else g n) r:=by
 subst hb; exact ht
theorem no {b : Bool} {f g : Nat → Option α} {r : α} (hb : b = false) (hf : Ev g r) : Ev (fun n=>bif b then f n else g n) r:=by
 subst hb; exact hf
theorem unique {f : Nat → Option α} {r s : α} (h : Ev f r) (h' : Ev f s) : r = s:=by
 obtain ⟨k,hk⟩:=h
 obtain ⟨k',hk'⟩:=h'
 have h1:=hk (max k k') (by omega)
 rw [hk' (max k k') (by omega)] at h1
 exact (Option.some.inj h1).symm
end Ev
theorem wr_of {x : Int} (h : -9223372036854775808 ≤ x ∧ x ≤ 9223372036854775807) : wr x = x:=by
 have e : wr x = (x + 9223372036854775808) % 18446744073709551616 - 9223372036854775808:=by
  simp only [wr,IntKind.wrap,IntKind.bits,IntKind.signed,Bool.true_and]
  by_cases h0 : x % 18446744073709551616 ≥ 9223372036854775808
  ·rw [if_pos (by simpa using h0)]; omega
  ·rw [if_neg (by simpa using h0)]; omega
 rw [e]; omega
theorem room_of {bt a b : Nat} (h : (a + b) * bt ≤ 140737488355328) : room bt a b = true:=by
 unfold room; simpa using h
theorem idx_of {α : Type} {l : List α} {n : Int} {a : α} (h0 : 0 ≤ n) (h : l[n.toNat]? = some a) : idx l n = some a:=by
 unfold idx
 rw [h]
 have : ¬ n < 0:=by omega
 simp [this]
theorem gomin_eq (a b : Int) : gomin a b = min a b:=by
 unfold gomin; split <;> omega
theorem gomax_eq (a b : Int) : gomax a b = max a b:=by
 unfold gomax; split <;> omega
end Go.Mx
namespace Go.Su.Ytfmgnboplbgniaa
open Go.Mx Go.Proofs
set_option linter.unusedVariables false
set_option linter.unusedSimpArgs false
set_option maxHeartbeats 4000000
theorem pick_eq (n : Nat) (a k : Int) (hk : 0 < k) (hk2 : k ≤ 1000000) : hand_Pick n a k = some (a % k):=by
 have h1 : (k == 0) = false:=by simp; omega
 have h2 : a.tmod k = if 0 ≤ a then a % k else -((-a) % k):=by
  by_cases h : 0 ≤ a
  ·rw [if_pos h,Int.tmod_eq_emod_of_nonneg h]
  ·rw [if_neg h,← Int.tmod_eq_emod_of_nonneg (by omega : 0 ≤ -a),Int.neg_tmod,Int.neg_neg]
 have h3:=Int.emod_nonneg a (by omega : k ≠ 0)
 have h4:=Int.emod_lt_of_pos a hk
 have h5:=Int.emod_nonneg (-a) (by omega : k ≠ 0)
 have h6:=Int.emod_lt_of_pos (-a) hk
 show (bif (k == 0) then none else bif decide (a.tmod k < 0) then some (wr (a.tmod k + k)) else some (a.tmod k)) = _
 rw [h1,cond_false]
 by_cases h : 0 ≤ a
 ·rw [if_pos h] at h2
  rw [h2,show decide (a % k < 0) = false by simp; omega,cond_false]
 ·rw [if_neg h] at h2
  rw [h2]
  by_cases h7 : (-a) % k = 0
  ·have h8 : a % k = 0:=Int.emod_eq_zero_of_dvd (Int.dvd_neg.1 (Int.dvd_of_emod_eq_zero h7))
   rw [h7,h8]; rfl
  ·have h8 : a % k = k - (-a) % k:=by
    have e1 : a = k * (a / k) + a % k:=(Int.mul_ediv_add_emod a k).symm
    have e2 : -a = k * ((-a) / k) + (-a) % k:=(Int.mul_ediv_add_emod (-a) k).symm
    have e3 : (a % k + (-a) % k) % k = 0:=by rw [← Int.add_emod,show a + -a = 0 by omega,Int.zero_emod]
    have e4 : 0 < a % k + (-a) % k:=by omega
    have e5 : a % k + (-a) % k < 2 * k:=by omega
    obtain ⟨c,hc⟩:=Int.dvd_of_emod_eq_zero e3
    have : c = 1:=by
     have c1 : 0 < c:=by
      by_cases h : 0 < c
      ·exact h
      ·have:=Int.mul_nonneg (by omega : 0 ≤ k) (by omega : 0 ≤ -c); rw [Int.mul_neg] at this; omega
     have c2 : c < 2:=by
      by_cases h : c < 2
      ·exact h
      ·have:=Int.mul_le_mul_of_nonneg_left (by omega : 2 ≤ c) (by omega : 0 ≤ k); omega
     omega
    subst this; omega
   rw [h8,show decide (-((-a) % k) < 0) = true by simp; omega,cond_true,wr_of (by omega)]
   congr 1; omega
theorem sub_of {α : Type} {l : List α} {a b : Nat} (h1 : a ≤ b) (h2 : b ≤ l.length) : sub l (a : Int) (b : Int) = some ((l.drop a).take (b - a)):=by
 unfold sub
 have : (decide ((0 : Int) ≤ a) && decide ((a : Int) ≤ b) && decide ((b : Int) ≤ l.length)) = true:=by simp; omega
 rw [this]; simp
theorem sub_tail {α : Type} (x : α) (l : List α) : sub (x :: l) 1 (ln (x :: l)) = some l:=by
 exact (sub_of (l:=x :: l) (a:=1) (b:=(x :: l).length) (by simp) (Nat.le_refl _)).trans (by simp)
mutual
def szE : Expr → Nat
 | ⟨_,_,_,l⟩=>1 + szEl l
def szEl : List Expr → Nat
 | []=>0
 | e :: r=>szE e + szEl r
end
theorem szE_mk (k n : Int) (w : ByteArray) (l : List Expr) : szE ⟨k,n,w,l⟩ = 1 + szEl l:=by rw [szE]
def okE : Nat → Expr → Prop
 | 0,_=>False
 | d + 1,e=>(e.Kind = 1 ∧ 0 ≤ e.N ∧ e.N ≤ 4 ∧ e.Name = b0 ∧ e.Of = []) ∨ (e.Kind = 2 ∧ e.N = 0 ∧ (e.Name ∈ [k_x,k_y,k_z,k_a,k_t]) ∧ e.Of = []) ∨
  (e.Kind = 3 ∧ e.N = 0 ∧ e.Name = b0 ∧ ∃ x,e.Of = [x] ∧ okE d x) ∨ (4 ≤ e.Kind ∧ e.Kind ≤ 10 ∧ e.N = 0 ∧ e.Name = b0 ∧ ∃ x y,e.Of = [x,y] ∧ okE d x ∧ okE d y)
theorem plain_ev (a : Int) : ∃ w,(∀ n,hand_plain n a = some w) ∧ w ∈ [k_x,k_y,k_z,k_a,k_t]:=by
 have h:=Int.emod_nonneg a (show (8 : Int) ≠ 0 by omega)
 have h2:=Int.emod_lt_of_pos a (show (0 : Int) < 8 by omega)
 have key : ∀ r : Int,0 ≤ r → r < 8 → ∃ w,(idx [k_x,k_x,k_y,k_z,k_a,k_t,k_x,k_y] r).bind (fun x2=>some x2) = some w ∧ w ∈ [k_x,k_y,k_z,k_a,k_t]:=by
  intro r h0 h1
  have : r = 0 ∨ r = 1 ∨ r = 2 ∨ r = 3 ∨ r = 4 ∨ r = 5 ∨ r = 6 ∨ r = 7:=by omega
  rcases this with rfl | rfl | rfl | rfl | rfl | rfl | rfl | rfl <;> exact ⟨_,rfl,by simp⟩
 obtain ⟨w,h3,h4⟩:=key _ h h2
 refine ⟨w,fun n=>?_,h4⟩
 unfold hand_plain
 rw [pick_eq n a 8 (by omega) (by omega)]
 exact h3
theorem expr_ev : ∀ (m : Nat) (l : List Int) (d : Nat),l.length ≤ m → d ≤ 6 → l.length ≤ 9223372036854775807 → ∃ e,Ev (fun n=>hand_Expr n l d) e ∧ okE (l.length + 1) e ∧ szE e ≤ 2 * l.length + 1 ∧ szE e + 1 ≤ 2 ^ (7 - d):=by
 intro m
 induction m with
 | zero =>
  intro l d hl hd hL
  have : l = []:=by cases l with
   | nil=>rfl
   | cons a r=>simp at hl
  subst this
  have p1:=Nat.one_le_two_pow (n:=6 - d)
  have e7 : 2 ^ (7 - d) = 2 * 2 ^ (6 - d):=by rw [show 7 - d = (6 - d) + 1 by omega,Nat.pow_succ]; omega
  refine ⟨⟨1,1,b0,[]⟩,Ev.step (Ev.of_eq (fun n=>by simp only [hand_Expr]; rfl) (Ev.ret _)),by simp [okE],by simp [szE,szEl],by simp [szE,szEl]; omega⟩
 | succ m ih =>
  intro l d hl hd hL
  have p1:=Nat.one_le_two_pow (n:=6 - d)
  have e7 : 2 ^ (7 - d) = 2 * 2 ^ (6 - d):=by rw [show 7 - d = (6 - d) + 1 by omega,Nat.pow_succ]; omega
  have e8 : 2 ^ (7 - (d + 1)) = 2 ^ (6 - d):=by rw [show 7 - (d + 1) = 6 - d by omega]
  cases l with
  | nil=>exact ⟨⟨1,1,b0,[]⟩,Ev.step (Ev.of_eq (fun n=>by simp only [hand_Expr]; rfl) (Ev.ret _)),by simp [okE],by simp [szE,szEl],by simp [szE,szEl]; omega⟩
  | cons x l =>
   simp only [List.length_cons] at hl hL
   have hp : ∀ n,hand_Pick n x 16 = some (x % 16):=fun n=>pick_eq n x 16 (by omega) (by omega)
   have hlen : (ln (x :: l) == 0) = false:=by simp
   have h0 : idx (x :: l) 0 = some x:=rfl
   have r0:=Int.emod_nonneg x (show (16 : Int) ≠ 0 by omega)
   have r1:=Int.emod_lt_of_pos x (show (0 : Int) < 16 by omega)
   obtain ⟨w,hw,hw2⟩:=plain_ev (wr (x.tdiv 16))
   by_cases hb : x % 16 < 5 ∨ 5 < d
   ·refine ⟨⟨2,0,w,[]⟩,Ev.step (Ev.of_eq (g:=fun _=>some ⟨2,0,w,[]⟩) (fun n=>?_) (Ev.ret _)),.inr (.inl ⟨rfl,rfl,hw2,rfl⟩),by simp [szE,szEl],by simp [szE,szEl]; omega⟩
    simp only [hand_Expr,hlen,cond_false,h0,Option.bind_some,hp,jn,hw,cond_true]
    by_cases h5 : x % 16 < 5
    ·simp [h5]
    ·have : (5 : Int) < d:=by omega
     simp [h5,this]
   ·have b1 : decide (x % 16 < 5) = false:=by simp; omega
    have b2 : decide ((d : Int) > 5) = false:=by simp; omega
    have hwd : wr ((d : Int) + 1) = ((d + 1 : Nat) : Int):=by rw [wr_of (by omega)]; rfl
    by_cases h8 : x % 16 < 8
    ·have p5 : ∀ n,hand_Pick n (wr (x.tdiv 16)) 5 = some (wr (x.tdiv 16) % 5):=fun n=>pick_eq n _ 5 (by omega) (by omega)
     refine ⟨⟨1,wr (x.tdiv 16) % 5,b0,[]⟩,Ev.step (Ev.of_eq (g:=fun _=>some ⟨1,wr (x.tdiv 16) % 5,b0,[]⟩) (fun n=>?_) (Ev.ret _)),.inl ⟨rfl,?_,?_,rfl,rfl⟩,by simp [szE,szEl],by simp [szE,szEl]; omega⟩
     ·simp only [hand_Expr,hlen,cond_false,h0,Option.bind_some,hp,jn,b1,b2,h8,decide_true,cond_true,p5]
     ·exact Int.emod_nonneg _ (by omega)
     ·have:=Int.emod_lt_of_pos (wr (x.tdiv 16)) (show (0 : Int) < 5 by omega); show wr (x.tdiv 16) % 5 ≤ 4; omega
    ·by_cases h9 : x % 16 = 8
     ·obtain ⟨e,he,h1,h2,s2'⟩:=ih l (d + 1) (by omega) (by omega) (by omega)
      refine ⟨⟨3,0,b0,[e]⟩,Ev.step (Ev.of_eq (g:=fun n=>(hand_Expr n l ((d + 1 : Nat) : Int)).bind fun r9=>some ⟨3,0,b0,[r9]⟩) (fun n=>?_) (Ev.bind he (Ev.ret _))),.inr (.inr (.inl ⟨rfl,rfl,rfl,e,rfl,?_⟩)),?_,?_⟩
      ·simp only [hand_Expr,hlen,cond_false,h0,Option.bind_some,hp,jn,b1,b2,h8,decide_false,h9,sub_tail,hwd]
       try rfl
      ·exact h1
      ·rw [szE_mk,szEl,szEl]; simp only [List.length_cons]; omega
      ·rw [szE_mk,szEl,szEl]; omega
     ·have p7 : ∀ n,hand_Pick n (wr (x.tdiv 16)) 7 = some (wr (x.tdiv 16) % 7):=fun n=>pick_eq n _ 7 (by omega) (by omega)
      have q0:=Int.emod_nonneg (wr (x.tdiv 16)) (show (7 : Int) ≠ 0 by omega)
      have q1:=Int.emod_lt_of_pos (wr (x.tdiv 16)) (show (0 : Int) < 7 by omega)
      have hm : wr (1 + wr ((ln (x :: l)).tdiv 2)) = ((1 + (l.length + 1) / 2 : Nat) : Int):=by
       have : (ln (x :: l)).tdiv 2 = (((l.length + 1) / 2 : Nat) : Int):=by
        show (((l.length + 1 : Nat) : Int)).tdiv 2 = _
        rw [Int.tdiv_eq_ediv_of_nonneg (by omega)]; rfl
       rw [this,wr_of (x:=(((l.length + 1) / 2 : Nat) : Int)) (by omega),wr_of (by omega)]; rfl
      have s1:=sub_of (l:=x :: l) (a:=1) (b:=1 + (l.length + 1) / 2) (by omega) (by simp only [List.length_cons]; omega)
      have s2:=sub_of (l:=x :: l) (a:=1 + (l.length + 1) / 2) (b:=(x :: l).length) (by simp only [List.length_cons]; omega) (Nat.le_refl _)
      generalize hl1 : ((x :: l).drop 1).take (1 + (l.length + 1) / 2 - 1) = l1 at s1
      generalize hl2 : ((x :: l).drop (1 + (l.length + 1) / 2)).take ((x :: l).length - (1 + (l.length + 1) / 2)) = l2 at s2
      have n1 : l1.length ≤ (l.length + 1) / 2 ∧ l1.length ≤ l.length:=by rw [← hl1]; simp only [List.length_take,List.length_drop,List.length_cons]; omega
      have n2 : l1.length + l2.length = l.length:=by rw [← hl1,← hl2]; simp only [List.length_take,List.length_drop,List.length_cons]; omega
      obtain ⟨e,he,h1,h2,s3'⟩:=ih l1 (d + 1) (by omega) (by omega) (by omega)
      obtain ⟨f,hf,h3,h4,s4'⟩:=ih l2 (d + 1) (by omega) (by omega) (by omega)
      have up : ∀ (k : Nat) (e : Expr),okE k e → ∀ j,k ≤ j → okE j e:=by
       intro k
       induction k with
       | zero=>intro e h; exact h.elim
       | succ k ihk =>
        intro e h j hj
        obtain ⟨j,rfl⟩ : ∃ j',j = j' + 1:=⟨j - 1,by omega⟩
        rcases h with h | h | ⟨a1,a2,a3,x,a4,a5⟩ | ⟨a1,a2,a3,a4,x,y,a5,a6,a7⟩
        ·exact .inl h
        ·exact .inr (.inl h)
        ·exact .inr (.inr (.inl ⟨a1,a2,a3,x,a4,ihk x a5 j (by omega)⟩))
        ·exact .inr (.inr (.inr ⟨a1,a2,a3,a4,x,y,a5,ihk x a6 j (by omega),ihk y a7 j (by omega)⟩))
      refine ⟨⟨wr (4 + wr (x.tdiv 16) % 7),0,b0,[e,f]⟩,Ev.step (Ev.of_eq (g:=fun n=>(hand_Expr n l1 ((d + 1 : Nat) : Int)).bind fun r12=>(hand_Expr n l2 ((d + 1 : Nat) : Int)).bind fun r14=>some ⟨wr (4 + wr (x.tdiv 16) % 7),0,b0,[r12,r14]⟩) (fun n=>?_) (Ev.bind he (Ev.bind hf (Ev.ret _)))),.inr (.inr (.inr ⟨?_,?_,rfl,rfl,e,f,rfl,up _ e h1 _ (by simp only [List.length_cons]; omega),up _ f h3 _ (by simp only [List.length_cons]; omega)⟩)),?_,?_⟩
      ·have b9 : (x % 16 == 8) = false:=by simp [h9]
       have s1' : sub (x :: l) 1 ((1 + (l.length + 1) / 2 : Nat) : Int) = some l1:=s1
       simp only [hand_Expr,hlen,cond_false,h0,Option.bind_some,hp,jn,b1,b2,h8,decide_false,b9,p7,hm,hwd,s1',s2]
      ·show 4 ≤ wr _; rw [wr_of (by omega)]; omega
      ·show wr _ ≤ 10; rw [wr_of (by omega)]; omega
      ·rw [szE_mk,szEl,szEl,szEl]; simp only [List.length_cons]; omega
      ·rw [szE_mk,szEl,szEl,szEl]; omega
theorem okE_up : ∀ (k : Nat) (e : Expr),okE k e → ∀ j,k ≤ j → okE j e:=by
 intro k
 induction k with
 | zero=>intro e h; exact h.elim
 | succ k ihk =>
  intro e h j hj
  obtain ⟨j,rfl⟩ : ∃ j',j = j' + 1:=⟨j - 1,by omega⟩
  rcases h with h | h | ⟨a1,a2,a3,x,a4,a5⟩ | ⟨a1,a2,a3,a4,x,y,a5,a6,a7⟩
  ·exact .inl h
  ·exact .inr (.inl h)
  ·exact .inr (.inr (.inl ⟨a1,a2,a3,x,a4,ihk x a5 j (by omega)⟩))
  ·exact .inr (.inr (.inr ⟨a1,a2,a3,a4,x,y,a5,ihk x a6 j (by omega),ihk y a7 j (by omega)⟩))
theorem short_ev (x : Act) : ∃ e,Ev (fun n=>hand_short n x) e ∧ okE 4 e ∧ szE e ≤ 7:=by
 by_cases h : 3 < x.E.length
 ·have s:=sub_of (l:=x.E) (a:=0) (b:=3) (by omega) (by omega)
  obtain ⟨e,he,h1,h2,_⟩:=expr_ev 3 ((x.E.drop 0).take (3 - 0)) 0 (by simp; omega) (by omega) (by simp; omega)
  have hl : ((x.E.drop 0).take (3 - 0)).length = 3:=by simp; omega
  rw [hl] at h1 h2
  refine ⟨e,?_,h1,h2⟩
  refine Ev.of_eq (g:=fun n=>(hand_Expr n ((x.E.drop 0).take (3 - 0)) 0).bind fun r=>some r) (fun n=>?_) (Ev.bind he (Ev.ret _))
  have s' : sub x.E 0 3 = some ((x.E.drop 0).take (3 - 0)):=s
  have hd : decide (ln x.E > 3) = true:=decide_eq_true (by show (x.E.length : Int) > 3; omega)
  simp only [hand_short,jn,hd,cond_true,s',Option.bind_some]
 ·obtain ⟨e,he,h1,h2,_⟩:=expr_ev 3 x.E 0 (by omega) (by omega) (by omega)
  refine ⟨e,?_,okE_up _ e h1 4 (by omega),by omega⟩
  refine Ev.of_eq (g:=fun n=>(hand_Expr n x.E 0).bind fun r=>some r) (fun n=>?_) (Ev.bind he (Ev.ret _))
  have hd : decide (ln x.E > 3) = false:=decide_eq_false (by show ¬ (x.E.length : Int) > 3; omega)
  simp only [hand_short,jn,hd,cond_false]
def eN : Expr:=⟨0,0,b0,[]⟩
inductive okH : Stmt → Prop
 | assign (w e) (hw : w ∈ [k_x,k_y,k_z,k_a,k_t]) (he : okE 4 e) : okH ⟨1,w,b0,0,e,[],[],c0⟩
 | lock : okH ⟨2,k_m,b0,0,eN,[],[],c0⟩
 | unlock : okH ⟨3,k_m,b0,0,eN,[],[],c0⟩
 | send (w e) (hw : w ∈ [k_c,k_d]) (he : okE 4 e) : okH ⟨4,w,b0,0,e,[],[],c0⟩
 | recv (w v) (hw : w ∈ [k_c,k_d]) (hv : v ∈ [k_x,k_y,k_z,k_a,k_t]) : okH ⟨5,w,v,0,eN,[],[],c0⟩
 | print (e) (he : okE 4 e) : okH ⟨6,b0,b0,0,e,[],[],c0⟩
 | cond (e b l) (he : okE 4 e) : okH ⟨7,b0,b0,0,e,b,l,c0⟩
 | rep (k b) (h0 : 0 ≤ k) (h1 : k ≤ 2) : okH ⟨8,b0,b0,k,eN,b,[],c0⟩
 | goto (w) (hw : w ∈ [k_l,k_k]) : okH ⟨9,w,b0,0,eN,[],[],c0⟩
 | label (w) (hw : w ∈ [k_l,k_k]) : okH ⟨10,w,b0,0,eN,[],[],c0⟩
mutual
def okS : Nat → Stmt → Prop
 | d,⟨k,w,v,m,e,b,l,at_⟩=>okH ⟨k,w,v,m,e,b,l,at_⟩ ∧ (d = 0 → b = [] ∧ l = []) ∧ szE e ≤ 7 ∧ okSl (d - 1) b ∧ okSl (d - 1) l
def okSl : Nat → List Stmt → Prop
 | _,[]=>True
 | d,s :: r=>okS d s ∧ okSl d r
end
mutual
def wt : Stmt → Nat
 | ⟨_,_,_,_,_,b,l,_⟩=>10 + 2 * (wtl b + wtl l)
def wtl : List Stmt → Nat
 | []=>0
 | s :: r=>wt s + wtl r
end
theorem two_ev (a : Int) (u v : ByteArray) : ∃ r w,(∀ n,hand_Pick n a 2 = some r) ∧ idx [u,v] r = some w ∧ w ∈ [u,v] ∧ 0 ≤ r ∧ r ≤ 1:=by
 have h:=Int.emod_nonneg a (show (2 : Int) ≠ 0 by omega)
 have h2:=Int.emod_lt_of_pos a (show (0 : Int) < 2 by omega)
 have : a % 2 = 0 ∨ a % 2 = 1:=by omega
 rcases this with e | e
 ·exact ⟨a % 2,u,fun n=>pick_eq n a 2 (by omega) (by omega),by rw [e]; rfl,by simp,by omega,by omega⟩
 ·exact ⟨a % 2,v,fun n=>pick_eq n a 2 (by omega) (by omega),by rw [e]; rfl,by simp,by omega,by omega⟩
def cw (d : Nat) : Nat:=10 * 2 ^ d
def handK (n : Nat) (a0 : List Act) (a1 a2 : Int) (l2 : List Stmt) (l8 : List Act) (s : Stmt) : Option (List Stmt × List Act) :=
 bif room s_Stmt.i1.bytes l2.length [s].length then hand_stmts_L0 n a0 a1 a2 l8 (l2 ++ [s]) else none
theorem stmts_L0 (a1 : Int) (h1 : a1 ≤ 100) : ∀ (m : Nat) (l1 : List Act),l1.length ≤ m → ∀ (d : Nat) (a0 : List Act) (l2 : List Stmt),d ≤ 2 → l2.length ≤ 100 →
  ∀ a1 : Int,a1 ≤ 100 → ∃ out rest,Ev (fun n=>hand_stmts_L0 n a0 a1 (3 - d : Nat) l1 l2) (l2 ++ out,rest) ∧ okSl d out ∧ rest.length ≤ l1.length ∧ wtl out + cw d * rest.length ≤ cw d * l1.length:=by
 intro m
 induction m with
 | zero =>
  intro l1 hl d a0 l2 hd h2 a1 h1
  have : l1 = []:=by cases l1 with
   | nil=>rfl
   | cons a r=>simp at hl
  subst this
  refine ⟨[],[],Ev.step (Ev.of_eq (g:=fun _=>some (l2,[])) (fun n=>?_) (by simpa using Ev.ret _)),by simp [okSl],by simp,by simp [wtl]⟩
  simp only [hand_stmts_L0,jn]
  cases decide (ln l2 < a1) <;> rfl
 | succ m ih =>
  intro l1 hl d a0 l2 hd h2 a1 h1
  by_cases hlt : (l2.length : Int) < a1
  case neg =>
   refine ⟨[],l1,Ev.step (Ev.of_eq (g:=fun _=>some (l2,l1)) (fun n=>?_) (by simpa using Ev.ret _)),by simp [okSl],by simp,by simp [wtl]⟩
   have : decide (ln l2 < a1) = false:=decide_eq_false hlt
   simp only [hand_stmts_L0,jn,this,cond_false]
  cases l1 with
  | nil =>
   refine ⟨[],[],Ev.step (Ev.of_eq (g:=fun _=>some (l2,[])) (fun n=>?_) (by simpa using Ev.ret _)),by simp [okSl],by simp,by simp [wtl]⟩
   simp only [hand_stmts_L0,jn]
   cases decide (ln l2 < a1) <;> rfl
  | cons x l6 =>
   simp only [List.length_cons] at hl
   have e1 : decide (ln l2 < a1) = true:=decide_eq_true hlt
   have e2 : decide (ln (x :: l6) > 0) = true:=decide_eq_true (by show ((l6.length + 1 : Nat) : Int) > 0; omega)
   have e3 : idx (x :: l6) 0 = some x:=rfl
   have e4:=sub_tail x l6
   have e5 : ∀ n,hand_Pick n x.What 24 = some (x.What % 24):=fun n=>pick_eq n _ 24 (by omega) (by omega)

   have more : ∀ (l8 : List Act) (s : Stmt),l8.length ≤ l6.length → okS d s → wt s + cw d * l8.length ≤ cw d * (l6.length + 1) →
     ∃ out rest,Ev (fun n=>handK n a0 a1 (3 - d : Nat) l2 l8 s) (l2 ++ out,rest) ∧ okSl d out ∧ rest.length ≤ l6.length + 1 ∧ wtl out + cw d * rest.length ≤ cw d * (l6.length + 1):=by
    intro l8 s h8 hs hw
    have hr : room s_Stmt.i1.bytes l2.length [s].length = true:=room_of (by
     have : s_Stmt.i1.bytes = 168:=rfl
     rw [this]; simp only [List.length_singleton]; omega)
    obtain ⟨out,rest,k1,k2,k3,k4⟩:=ih l8 (by omega) d a0 (l2 ++ [s]) hd (by simp; omega) a1 h1
    refine ⟨s :: out,rest,Ev.of_eq (g:=fun n=>hand_stmts_L0 n a0 a1 (3 - d : Nat) l8 (l2 ++ [s])) (fun n=>by unfold handK; rw [hr]; rfl) (by simpa using k1),⟨hs,k2⟩,by omega,?_⟩
    rw [wtl]; omega
   have nest : ∀ (l : List Act) (b : Int),l.length ≤ m → b ≤ 100 → ∀ d',d = d' + 1 → ∃ out rest,Ev (fun n=>hand_stmts n l b (3 - d' : Nat)) (out,rest) ∧ okSl d' out ∧ rest.length ≤ l.length ∧ wtl out + cw d' * rest.length ≤ cw d' * l.length:=by
    intro l b hl' hb d' hd'
    obtain ⟨out,rest,k1,k2,k3,k4⟩:=ih l hl' d' l [] (by omega) (by simp) b hb
    exact ⟨out,rest,Ev.step (Ev.of_eq (fun n=>by simp only [hand_stmts]) k1),k2,k3,k4⟩
   have hcw : 10 ≤ cw d:=by unfold cw; have:=Nat.one_le_two_pow (n:=d); omega
   have hL : List.length (x :: l6) = l6.length + 1:=rfl
   rw [hL]
   obtain ⟨⟨ek,en,ew,eo⟩,hes,oes,zes⟩:=short_ev x
   obtain ⟨wA,hwA,hwA2⟩:=plain_ev x.A
   obtain ⟨wB,hwB,hwB2⟩:=plain_ev x.B
   obtain ⟨rc,wc,hrc,hwc,hwc2,_,_⟩:=two_ev x.A k_c k_d
   obtain ⟨rl,wl,hrl,hwl,hwl2,_,_⟩:=two_ev x.A k_l k_k
   obtain ⟨rA,_,hrA,_,_,rA0,rA1⟩:=two_ev x.A k_l k_k
   obtain ⟨rN,_,hrN,_,_,rN0,rN1⟩:=two_ev x.N k_l k_k
   have z0 : szE eN ≤ 7:=by simp [eN,szE,szEl]
   have q0:=Int.emod_nonneg x.What (show (24 : Int) ≠ 0 by omega)
   have q1:=Int.emod_lt_of_pos x.What (show (0 : Int) < 24 by omega)
   generalize x.What % 24 = r at e5 q0 q1
   have leaf : ∀ s : Stmt,okH s → s.Body = [] → s.Else = [] → szE s.E ≤ 7 → ∃ out rest,Ev (fun n=>handK n a0 a1 (3 - d : Nat) l2 l6 s) (l2 ++ out,rest) ∧ okSl d out ∧ rest.length ≤ l6.length + 1 ∧ wtl out + cw d * rest.length ≤ cw d * (l6.length + 1):=by
    intro s h1 h2 h3 h4
    obtain ⟨k,w,v,m,e,b,l,at_⟩:=s
    simp only at h2 h3 h4
    subst h2 h3
    exact more l6 _ (Nat.le_refl _) ⟨h1,fun _=>⟨rfl,rfl⟩,h4,trivial,trivial⟩ (by simp only [wt,wtl,Nat.mul_add]; omega)
   by_cases h9 : r < 9
   ·obtain ⟨out,rest,k1,k2,k3,k4⟩:=leaf ⟨1,wA,b0,0,⟨ek,en,ew,eo⟩,[],[],c0⟩ (.assign wA ⟨ek,en,ew,eo⟩ hwA2 oes) rfl rfl zes
    refine ⟨out,rest,Ev.step (Ev.of_eq (g:=fun n=>(hand_short n x).bind fun e=>handK n a0 a1 (3 - d : Nat) l2 l6 ⟨1,wA,b0,0,⟨e.Kind,e.N,e.Name,e.Of⟩,[],[],c0⟩) (fun n=>?_) (Ev.bind hes k1)),k2,k3,k4⟩
    simp only [hand_stmts_L0,jn,e1,e2,cond_true,cond_false,e3,e4,e5,Option.bind_some,decide_eq_true h9,hwA]
    rfl
   have f9:=decide_eq_false h9
   by_cases h11 : r < 11
   ·obtain ⟨out,rest,k1,k2,k3,k4⟩:=leaf ⟨2,k_m,b0,0,eN,[],[],c0⟩ (.lock) rfl rfl z0
    refine ⟨out,rest,Ev.step (Ev.of_eq (g:=fun n=>handK n a0 a1 (3 - d : Nat) l2 l6 ⟨2,k_m,b0,0,eN,[],[],c0⟩) (fun n=>?_) k1),k2,k3,k4⟩
    simp only [hand_stmts_L0,jn,e1,e2,cond_true,cond_false,e3,e4,e5,Option.bind_some,decide_eq_true h11,f9]
    rfl
   have f11:=decide_eq_false h11
   by_cases h13 : r < 13
   ·obtain ⟨out,rest,k1,k2,k3,k4⟩:=leaf ⟨3,k_m,b0,0,eN,[],[],c0⟩ (.unlock) rfl rfl z0
    refine ⟨out,rest,Ev.step (Ev.of_eq (g:=fun n=>handK n a0 a1 (3 - d : Nat) l2 l6 ⟨3,k_m,b0,0,eN,[],[],c0⟩) (fun n=>?_) k1),k2,k3,k4⟩
    simp only [hand_stmts_L0,jn,e1,e2,cond_true,cond_false,e3,e4,e5,Option.bind_some,decide_eq_true h13,f9,f11]
    rfl
   have f13:=decide_eq_false h13
   by_cases h15 : r < 15
   ·obtain ⟨out,rest,k1,k2,k3,k4⟩:=leaf ⟨4,wc,b0,0,⟨ek,en,ew,eo⟩,[],[],c0⟩ (.send wc ⟨ek,en,ew,eo⟩ hwc2 oes) rfl rfl zes
    refine ⟨out,rest,Ev.step (Ev.of_eq (g:=fun n=>(hand_short n x).bind fun e=>handK n a0 a1 (3 - d : Nat) l2 l6 ⟨4,wc,b0,0,⟨e.Kind,e.N,e.Name,e.Of⟩,[],[],c0⟩) (fun n=>?_) (Ev.bind hes k1)),k2,k3,k4⟩
    simp only [hand_stmts_L0,jn,e1,e2,cond_true,cond_false,e3,e4,e5,Option.bind_some,decide_eq_true h15,f9,f11,f13,hrc,hwc]
    rfl
   have f15:=decide_eq_false h15
   by_cases h17 : r < 17
   ·obtain ⟨out,rest,k1,k2,k3,k4⟩:=leaf ⟨5,wc,wB,0,eN,[],[],c0⟩ (.recv wc wB hwc2 hwB2) rfl rfl z0
    refine ⟨out,rest,Ev.step (Ev.of_eq (g:=fun n=>handK n a0 a1 (3 - d : Nat) l2 l6 ⟨5,wc,wB,0,eN,[],[],c0⟩) (fun n=>?_) k1),k2,k3,k4⟩
    simp only [hand_stmts_L0,jn,e1,e2,cond_true,cond_false,e3,e4,e5,Option.bind_some,decide_eq_true h17,f9,f11,f13,f15,hrc,hwc,hwB]
    rfl
   have f17:=decide_eq_false h17
   by_cases h18 : r < 18
   ·obtain ⟨out,rest,k1,k2,k3,k4⟩:=leaf ⟨6,b0,b0,0,⟨ek,en,ew,eo⟩,[],[],c0⟩ (.print ⟨ek,en,ew,eo⟩ oes) rfl rfl zes
    refine ⟨out,rest,Ev.step (Ev.of_eq (g:=fun n=>(hand_short n x).bind fun e=>handK n a0 a1 (3 - d : Nat) l2 l6 ⟨6,b0,b0,0,⟨e.Kind,e.N,e.Name,e.Of⟩,[],[],c0⟩) (fun n=>?_) (Ev.bind hes k1)),k2,k3,k4⟩
    simp only [hand_stmts_L0,jn,e1,e2,cond_true,cond_false,e3,e4,e5,Option.bind_some,decide_eq_true h18,f9,f11,f13,f15,f17]
    rfl
   have f18:=decide_eq_false h18
   have goto_ : ∃ out rest,Ev (fun n=>handK n a0 a1 (3 - d : Nat) l2 l6 ⟨9,wl,b0,0,eN,[],[],c0⟩) (l2 ++ out,rest) ∧ okSl d out ∧ rest.length ≤ l6.length + 1 ∧ wtl out + cw d * rest.length ≤ cw d * (l6.length + 1):=leaf _ (.goto wl hwl2) rfl rfl z0
   by_cases h22 : 21 ≤ r
   ·have f20 : decide (r < 20) = false:=decide_eq_false (by omega)
    have f21 : decide (r < 21) = false:=decide_eq_false (by omega)
    by_cases h23 : r < 22
    ·obtain ⟨out,rest,k1,k2,k3,k4⟩:=goto_
     refine ⟨out,rest,Ev.step (Ev.of_eq (g:=fun n=>_) (fun n=>?_) k1),k2,k3,k4⟩
     simp only [hand_stmts_L0,jn,e1,e2,cond_true,cond_false,e3,e4,e5,Option.bind_some,f20,f21,decide_eq_true h23,f9,f11,f13,f15,f17,f18,hrl,hwl]
     rfl
    have f22:=decide_eq_false h23
    by_cases h24 : r < 23
    ·obtain ⟨out,rest,k1,k2,k3,k4⟩:=leaf ⟨10,wl,b0,0,eN,[],[],c0⟩ (.label wl hwl2) rfl rfl z0
     refine ⟨out,rest,Ev.step (Ev.of_eq (g:=fun n=>_) (fun n=>?_) k1),k2,k3,k4⟩
     simp only [hand_stmts_L0,jn,e1,e2,cond_true,cond_false,e3,e4,e5,Option.bind_some,f20,f21,f22,decide_eq_true h24,f9,f11,f13,f15,f17,f18,hrl,hwl]
     rfl
    ·obtain ⟨out,rest,k1,k2,k3,k4⟩:=leaf ⟨1,k_t,b0,0,⟨ek,en,ew,eo⟩,[],[],c0⟩ (.assign k_t ⟨ek,en,ew,eo⟩ (by simp) oes) rfl rfl zes
     refine ⟨out,rest,Ev.step (Ev.of_eq (g:=fun n=>(hand_short n x).bind fun e=>handK n a0 a1 (3 - d : Nat) l2 l6 ⟨1,k_t,b0,0,⟨e.Kind,e.N,e.Name,e.Of⟩,[],[],c0⟩) (fun n=>?_) (Ev.bind hes k1)),k2,k3,k4⟩
     simp only [hand_stmts_L0,jn,e1,e2,cond_true,cond_false,e3,e4,e5,Option.bind_some,f20,f21,f22,decide_eq_false h24,f9,f11,f13,f15,f17,f18]
     rfl
   have g22 : decide (r < 22) = true:=decide_eq_true (by omega)
   have g21 : decide (r < 21) = true:=decide_eq_true (by omega)
   rcases Nat.eq_zero_or_pos d with hd0 | hd0
   ·
    have fa : decide (((3 - d : Nat) : Int) < 3) = false:=decide_eq_false (by omega)
    obtain ⟨out,rest,k1,k2,k3,k4⟩:=goto_
    refine ⟨out,rest,Ev.step (Ev.of_eq (g:=fun n=>_) (fun n=>?_) k1),k2,k3,k4⟩
    cases h20 : decide (r < 20) <;> simp only [hand_stmts_L0,jn,e1,e2,cond_true,cond_false,e3,e4,e5,Option.bind_some,h20,g21,g22,fa,f9,f11,f13,f15,f17,f18,hrl,hwl] <;> rfl
   obtain ⟨d',rfl⟩ : ∃ d',d = d' + 1:=⟨d - 1,by omega⟩
   have fa : decide (((3 - (d' + 1) : Nat) : Int) < 3) = true:=decide_eq_true (by omega)
   have hw1 : wr (((3 - (d' + 1) : Nat) : Int) + 1) = ((3 - d' : Nat) : Int):=by rw [wr_of (by omega)]; omega
   have hA1 : wr (1 + rA) ≤ 100:=by rw [wr_of (by omega)]; omega
   have hN1 : wr (1 + rN) ≤ 100:=by rw [wr_of (by omega)]; omega
   have hcc : cw (d' + 1) = 2 * cw d':=by unfold cw; rw [Nat.pow_succ]; omega
   obtain ⟨b,lb,b1,b2,b3,b4⟩:=nest l6 (wr (1 + rA)) (by omega) hA1 d' rfl
   by_cases h20 : r < 20
   ·have f20:=decide_eq_true h20
    cases hB : (x.B.tmod 3 == 0)
    ·obtain ⟨out,rest,k1,k2,k3,k4⟩:=more lb ⟨7,b0,b0,0,⟨ek,en,ew,eo⟩,b,[],c0⟩ b3 ⟨.cond ⟨ek,en,ew,eo⟩ b [] oes,fun h=>by omega,zes,b2,trivial⟩ (by
      have : cw (d' + 1) * lb.length = 2 * (cw d' * lb.length):=by rw [hcc,Nat.mul_assoc]
      have : cw (d' + 1) * l6.length = 2 * (cw d' * l6.length):=by rw [hcc,Nat.mul_assoc]
      simp only [wt,wtl,Nat.mul_add]; omega)
     refine ⟨out,rest,Ev.step (Ev.of_eq (g:=fun n=>(hand_short n x).bind fun e=>(hand_stmts n l6 (wr (1 + rA)) (3 - d' : Nat)).bind fun r36=>handK n a0 a1 (3 - (d' + 1) : Nat) l2 r36.2 ⟨7,b0,b0,0,⟨e.Kind,e.N,e.Name,e.Of⟩,r36.1,[],c0⟩) (fun n=>?_) (Ev.bind hes (Ev.bind b1 k1))),k2,k3,k4⟩
     simp only [hand_stmts_L0,jn,e1,e2,cond_true,cond_false,e3,e4,e5,Option.bind_some,f20,fa,hrA,hw1,hB,f9,f11,f13,f15,f17,f18]
     rfl
    ·obtain ⟨l,ll,l1',l2',l3',l4'⟩:=nest lb (wr (1 + rN)) (by omega) hN1 d' rfl
     obtain ⟨out,rest,k1,k2,k3,k4⟩:=more ll ⟨7,b0,b0,0,⟨ek,en,ew,eo⟩,b,l,c0⟩ (by omega) ⟨.cond ⟨ek,en,ew,eo⟩ b l oes,fun h=>by omega,zes,b2,l2'⟩ (by
      have : cw (d' + 1) * ll.length = 2 * (cw d' * ll.length):=by rw [hcc,Nat.mul_assoc]
      have : cw (d' + 1) * l6.length = 2 * (cw d' * l6.length):=by rw [hcc,Nat.mul_assoc]
      simp only [wt,Nat.mul_add]; omega)
     refine ⟨out,rest,Ev.step (Ev.of_eq (g:=fun n=>(hand_short n x).bind fun e=>(hand_stmts n l6 (wr (1 + rA)) (3 - d' : Nat)).bind fun r36=>(hand_stmts n r36.2 (wr (1 + rN)) (3 - d' : Nat)).bind fun r38=>handK n a0 a1 (3 - (d' + 1) : Nat) l2 r38.2 ⟨7,b0,b0,0,⟨e.Kind,e.N,e.Name,e.Of⟩,r36.1,r38.1,c0⟩) (fun n=>?_) (Ev.bind hes (Ev.bind b1 (Ev.bind l1' k1)))),k2,k3,k4⟩
     simp only [hand_stmts_L0,jn,e1,e2,cond_true,cond_false,e3,e4,e5,Option.bind_some,f20,fa,hrA,hrN,hw1,hB,f9,f11,f13,f15,f17,f18]
     rfl
   ·have f20:=decide_eq_false h20
    have p3 : ∀ n,hand_Pick n x.N 3 = some (x.N % 3):=fun n=>pick_eq n _ 3 (by omega) (by omega)
    obtain ⟨out,rest,k1,k2,k3,k4⟩:=more lb ⟨8,b0,b0,x.N % 3,eN,b,[],c0⟩ b3 ⟨.rep _ b (Int.emod_nonneg _ (by omega)) (by have:=Int.emod_lt_of_pos x.N (show (0 : Int) < 3 by omega); omega),fun h=>by omega,z0,b2,trivial⟩ (by
      have : cw (d' + 1) * lb.length = 2 * (cw d' * lb.length):=by rw [hcc,Nat.mul_assoc]
      have : cw (d' + 1) * l6.length = 2 * (cw d' * l6.length):=by rw [hcc,Nat.mul_assoc]
      simp only [wt,wtl,Nat.mul_add]; omega)
    refine ⟨out,rest,Ev.step (Ev.of_eq (g:=fun n=>(hand_stmts n l6 (wr (1 + rA)) (3 - d' : Nat)).bind fun r43=>handK n a0 a1 (3 - (d' + 1) : Nat) l2 r43.2 ⟨8,b0,b0,x.N % 3,eN,r43.1,[],c0⟩) (fun n=>?_) (Ev.bind b1 k1)),k2,k3,k4⟩
    simp only [hand_stmts_L0,jn,e1,e2,cond_true,cond_false,e3,e4,e5,Option.bind_some,f20,g21,fa,hrA,hw1,p3,f9,f11,f13,f15,f17,f18]
    rfl
theorem stmts_ev (l : List Act) (hl : l.length ≤ 16) (most : Int) (h : most ≤ 100) : ∃ out rest,Ev (fun n=>hand_stmts n l most 1) (out,rest) ∧ okSl 2 out ∧ wtl out ≤ 640:=by
 obtain ⟨out,rest,k1,k2,k3,k4⟩:=stmts_L0 0 (by omega) 16 l hl 2 l [] (by omega) (by simp) most h
 refine ⟨out,rest,Ev.step (Ev.of_eq (g:=fun n=>_) (fun n=>?_) k1),k2,?_⟩
 ·simp only [hand_stmts]; rfl
 ·have : cw 2 = 40:=rfl
  rw [this] at k4; omega
def okDecls (D : List Decl) : Prop:=∃ k0 k1 r,((k0 = 1 ∧ k1 = 1) ∨ (k0 = 2 ∧ k1 = 1) ∨ (k0 = 1 ∧ k1 = 2) ∨ (k0 = 3 ∧ k1 = 1)) ∧ 0 ≤ r ∧ r ≤ 2 ∧
 D = [⟨k0,k_x,0,c0⟩,⟨k1,k_y,0,c0⟩,⟨2,k_z,0,c0⟩,⟨3,k_a,0,c0⟩,⟨4,k_t,0,c0⟩,⟨5,k_m,0,c0⟩,⟨6,k_c,r,c0⟩,⟨6,k_d,0,c0⟩]
theorem decls_ev (how : Int) : ∃ D,(∀ n,hand_Decls n how = some D) ∧ okDecls D:=by
 have p1 : ∀ n,hand_Pick n how 3 = some (how % 3):=fun n=>pick_eq n _ 3 (by omega) (by omega)
 have p2 : ∀ n,hand_Pick n (wr (how.tdiv 3)) 7 = some (wr (how.tdiv 3) % 7):=fun n=>pick_eq n _ 7 (by omega) (by omega)
 have r0:=Int.emod_nonneg how (show (3 : Int) ≠ 0 by omega)
 have r1:=Int.emod_lt_of_pos how (show (0 : Int) < 3 by omega)
 generalize how % 3 = r at *
 generalize wr (how.tdiv 3) % 7 = q at *
 by_cases h4 : q = 4
 ·refine ⟨[⟨2,k_x,0,c0⟩,⟨1,k_y,0,c0⟩,⟨2,k_z,0,c0⟩,⟨3,k_a,0,c0⟩,⟨4,k_t,0,c0⟩,⟨5,k_m,0,c0⟩,⟨6,k_c,r,c0⟩,⟨6,k_d,0,c0⟩],fun n=>?_,2,1,r,by simp,r0,by omega,rfl⟩
  subst h4; unfold hand_Decls; rw [p1,p2]; rfl
 by_cases h5 : q = 5
 ·refine ⟨[⟨1,k_x,0,c0⟩,⟨2,k_y,0,c0⟩,⟨2,k_z,0,c0⟩,⟨3,k_a,0,c0⟩,⟨4,k_t,0,c0⟩,⟨5,k_m,0,c0⟩,⟨6,k_c,r,c0⟩,⟨6,k_d,0,c0⟩],fun n=>?_,1,2,r,by simp,r0,by omega,rfl⟩
  subst h5; unfold hand_Decls; rw [p1,p2]; rfl
 by_cases h6 : q = 6
 ·refine ⟨[⟨3,k_x,0,c0⟩,⟨1,k_y,0,c0⟩,⟨2,k_z,0,c0⟩,⟨3,k_a,0,c0⟩,⟨4,k_t,0,c0⟩,⟨5,k_m,0,c0⟩,⟨6,k_c,r,c0⟩,⟨6,k_d,0,c0⟩],fun n=>?_,3,1,r,by simp,r0,by omega,rfl⟩
  subst h6; unfold hand_Decls; rw [p1,p2]; rfl
 ·refine ⟨[⟨1,k_x,0,c0⟩,⟨1,k_y,0,c0⟩,⟨2,k_z,0,c0⟩,⟨3,k_a,0,c0⟩,⟨4,k_t,0,c0⟩,⟨5,k_m,0,c0⟩,⟨6,k_c,r,c0⟩,⟨6,k_d,0,c0⟩],fun n=>?_,1,1,r,by simp,r0,by omega,rfl⟩
  have b4 : (q == 4) = false:=by simpa using h4
  have b5 : (q == 5) = false:=by simpa using h5
  have b6 : (q == 6) = false:=by simpa using h6
  simp only [hand_Decls,p1,p2,Option.bind_some,jn,b4,b5,b6,cond_false]
theorem acts_ev (l : List Act) : ∃ l',(∀ n,hand_acts n l = some l') ∧ l'.length ≤ 16:=by
 by_cases h : 16 < l.length
 ·have s:=sub_of (l:=l) (a:=0) (b:=16) (by omega) (by omega)
  refine ⟨_,fun n=>?_,show ((l.drop 0).take (16 - 0)).length ≤ 16 by simp; omega⟩
  have hd : decide (ln l > 16) = true:=decide_eq_true (by show (l.length : Int) > 16; omega)
  have s' : sub l 0 16 = some ((l.drop 0).take (16 - 0)):=s
  simp only [hand_acts,hd,cond_true,s',Option.bind_some]
 ·refine ⟨l,fun n=>?_,by omega⟩
  have hd : decide (ln l > 16) = false:=decide_eq_false (by show ¬ (l.length : Int) > 16; omega)
  simp only [hand_acts,hd,cond_false]
def okTs (ts : List (List Stmt)) : Prop:=∀ t ∈ ts,okSl 2 t ∧ wtl t ≤ 640
end Go.Su.Ytfmgnboplbgniaa
namespace Go.Su.Ytfmgnboplbgniaa
open Go.Mx Go.Proofs
set_option linter.unusedVariables false
set_option linter.unusedSimpArgs false
theorem expr_ind {P : Expr → Prop} {Q : List Expr → Prop} (h1 : ∀ k n w l,Q l → P ⟨k,n,w,l⟩) (h2 : Q []) (h3 : ∀ e r,P e → Q r → Q (e :: r)) : (∀ e,P e) ∧ ∀ l,Q l :=
 ⟨fun e=>Expr.rec (motive_1:=P) (motive_2:=Q) h1 h2 h3 e,fun l=>Expr.rec_1 (motive_1:=P) (motive_2:=Q) h1 h2 h3 l⟩
theorem stmt_ind {P : Stmt → Prop} {Q : List Stmt → Prop} (h1 : ∀ k w v m e b l a,Q b → Q l → P ⟨k,w,v,m,e,b,l,a⟩) (h2 : Q []) (h3 : ∀ s r,P s → Q r → Q (s :: r)) : (∀ s,P s) ∧ ∀ l,Q l :=
 ⟨fun e=>Stmt.rec (motive_1:=P) (motive_2:=Q) h1 h2 h3 e,fun l=>Stmt.rec_1 (motive_1:=P) (motive_2:=Q) h1 h2 h3 l⟩
section loops
variable {α : Type}
theorem ix_lt (pre : List α) (x : α) (r : List α) : decide ((pre.length : Int) < ln (pre ++ x :: r)) = true:=decide_eq_true (by show (pre.length : Int) < ((pre ++ x :: r).length : Int); simp; omega)
theorem ix_ge (l : List α) : decide ((l.length : Int) < ln l) = false:=decide_eq_false (by show ¬ (l.length : Int) < l.length; omega)
theorem ix_get (pre : List α) (x : α) (r : List α) : idx (pre ++ x :: r) (pre.length : Int) = some x:=idx_of (by omega) (by simp)
theorem ix_wr (pre : List α) (x : α) (h : pre.length + 1 ≤ 9223372036854775807) : wr ((pre.length : Int) + 1) = ((pre ++ [x]).length : Int):=by rw [wr_of (by omega)]; simp
theorem ix_cons (pre : List α) (x : α) (r : List α) : pre ++ x :: r = (pre ++ [x]) ++ r:=by simp
end loops
end Go.Su.Ytfmgnboplbgniaa
