/-
  CandsEach: what its code computes is true.
-/
import Derived.Test.YtepcmciljmennaaZfPlGood
import Derived.Test.YtepcmciljmennaaZfPlGood2
import Derived.Test.YtepcmciljmennaaZfRowT
import Derived.KernelRfl
namespace Go.Su.Ytepcmciljmennaa
open Go.Mx Go.Proofs
set_option linter.unusedVariables false
set_option linter.unusedSimpArgs false
set_option maxHeartbeats 4000000
set_option maxRecDepth 1000000
def mkC (f : Nat → Cx) : List (Bool × List Int) → Nat → List Cand
 | [],_=>[]
 | g :: r,i=>⟨g.1,g.2,f i⟩ :: mkC f r (i + 1)
theorem mkC_of : ∀ (l : List Cand) (i : Nat) (f0 : Nat → Cx),∃ f,l = mkC f (l.map fun c=>(c.Guard,c.Names)) i ∧ ∀ j,j < i → f j = f0 j
 | [],i,f0=>⟨f0,rfl,fun _ _=>rfl⟩
 | c :: r,i,f0=>by
  obtain ⟨f,h1,h2⟩:=mkC_of r (i + 1) (fun j=>if j = i then c.Cost else f0 j)
  refine ⟨f,?_,fun j hj=>?_⟩
  ·rw [List.map_cons,mkC,← h1]
   have:=h2 i (by omega)
   rw [if_pos rfl] at this
   rw [this]
  ·rw [h2 j (by omega),if_neg (by omega)]
theorem known23_ev : Ev (fun n=>law23_known n) true:=by
 refine ⟨200,fun n hn=>?_⟩
 obtain ⟨k,rfl⟩ : ∃ k,n = k + 200:=⟨n - 200,by omega⟩
 have : ∀ k,law23_known (k + 200) = some true:=by intro k; kernel_rfl
 exact this k
def CE (p : Prog) (r : List Int) (G : List (Bool × List Int)) : Prop:=∀ (k : Nat) (a0 : Int) (a1 a2 : List Act) (a3 : Int) (w : ByteArray) (r3 : Int) (f : Nat → Cx),law23_CandsEach_L0 (k + 700) a0 a1 a2 a3 w p r3 r (mkC f G 0) false 0 = some true
theorem ce_11_n (n0 n1 n2 : ByteArray) (m0 m1 m2 : Int) (z0 z1 z2 : Cx) (D : List Decl) (ts : List (List Stmt)) : CE ⟨⟨1,n0,m0,z0⟩ :: ⟨1,n1,m1,z1⟩ :: ⟨2,n2,m2,z2⟩ :: D,ts⟩ [] []:=by
 intro k a0 a1 a2 a3 w r3 f; kernel_rfl
theorem ce_11_0 (n0 n1 n2 : ByteArray) (m0 m1 m2 : Int) (z0 z1 z2 : Cx) (D : List Decl) (ts : List (List Stmt)) : CE ⟨⟨1,n0,m0,z0⟩ :: ⟨1,n1,m1,z1⟩ :: ⟨2,n2,m2,z2⟩ :: D,ts⟩ [0] [(false,[0]),(true,[0])]:=by
 intro k a0 a1 a2 a3 w r3 f; kernel_rfl
theorem ce_11_1 (n0 n1 n2 : ByteArray) (m0 m1 m2 : Int) (z0 z1 z2 : Cx) (D : List Decl) (ts : List (List Stmt)) : CE ⟨⟨1,n0,m0,z0⟩ :: ⟨1,n1,m1,z1⟩ :: ⟨2,n2,m2,z2⟩ :: D,ts⟩ [1] [(false,[1]),(true,[1])]:=by
 intro k a0 a1 a2 a3 w r3 f; kernel_rfl
theorem ce_11_01 (n0 n1 n2 : ByteArray) (m0 m1 m2 : Int) (z0 z1 z2 : Cx) (D : List Decl) (ts : List (List Stmt)) : CE ⟨⟨1,n0,m0,z0⟩ :: ⟨1,n1,m1,z1⟩ :: ⟨2,n2,m2,z2⟩ :: D,ts⟩ [0,1] [(false,[0]),(false,[1]),(true,[0]),(true,[1]),(true,[0,1])]:=by
 intro k a0 a1 a2 a3 w r3 f; kernel_rfl
theorem ce_11_2 (n0 n1 n2 : ByteArray) (m0 m1 m2 : Int) (z0 z1 z2 : Cx) (D : List Decl) (ts : List (List Stmt)) : CE ⟨⟨1,n0,m0,z0⟩ :: ⟨1,n1,m1,z1⟩ :: ⟨2,n2,m2,z2⟩ :: D,ts⟩ [2] [(true,[2])]:=by
 intro k a0 a1 a2 a3 w r3 f; kernel_rfl
theorem ce_11_02 (n0 n1 n2 : ByteArray) (m0 m1 m2 : Int) (z0 z1 z2 : Cx) (D : List Decl) (ts : List (List Stmt)) : CE ⟨⟨1,n0,m0,z0⟩ :: ⟨1,n1,m1,z1⟩ :: ⟨2,n2,m2,z2⟩ :: D,ts⟩ [0,2] [(false,[0]),(true,[0]),(true,[2]),(true,[0,2])]:=by
 intro k a0 a1 a2 a3 w r3 f; kernel_rfl
theorem ce_11_12 (n0 n1 n2 : ByteArray) (m0 m1 m2 : Int) (z0 z1 z2 : Cx) (D : List Decl) (ts : List (List Stmt)) : CE ⟨⟨1,n0,m0,z0⟩ :: ⟨1,n1,m1,z1⟩ :: ⟨2,n2,m2,z2⟩ :: D,ts⟩ [1,2] [(false,[1]),(true,[1]),(true,[2]),(true,[1,2])]:=by
 intro k a0 a1 a2 a3 w r3 f; kernel_rfl
theorem ce_11_012 (n0 n1 n2 : ByteArray) (m0 m1 m2 : Int) (z0 z1 z2 : Cx) (D : List Decl) (ts : List (List Stmt)) : CE ⟨⟨1,n0,m0,z0⟩ :: ⟨1,n1,m1,z1⟩ :: ⟨2,n2,m2,z2⟩ :: D,ts⟩ [0,1,2] [(false,[0]),(false,[1]),(true,[0]),(true,[1]),(true,[0,1]),(true,[2]),(true,[0,2]),(true,[1,2]),(true,[0,1,2])]:=by
 intro k a0 a1 a2 a3 w r3 f; kernel_rfl
theorem ce_21_n (n0 n1 n2 : ByteArray) (m0 m1 m2 : Int) (z0 z1 z2 : Cx) (D : List Decl) (ts : List (List Stmt)) : CE ⟨⟨2,n0,m0,z0⟩ :: ⟨1,n1,m1,z1⟩ :: ⟨2,n2,m2,z2⟩ :: D,ts⟩ [] []:=by
 intro k a0 a1 a2 a3 w r3 f; kernel_rfl
theorem ce_21_0 (n0 n1 n2 : ByteArray) (m0 m1 m2 : Int) (z0 z1 z2 : Cx) (D : List Decl) (ts : List (List Stmt)) : CE ⟨⟨2,n0,m0,z0⟩ :: ⟨1,n1,m1,z1⟩ :: ⟨2,n2,m2,z2⟩ :: D,ts⟩ [0] [(true,[0])]:=by
 intro k a0 a1 a2 a3 w r3 f; kernel_rfl
theorem ce_21_1 (n0 n1 n2 : ByteArray) (m0 m1 m2 : Int) (z0 z1 z2 : Cx) (D : List Decl) (ts : List (List Stmt)) : CE ⟨⟨2,n0,m0,z0⟩ :: ⟨1,n1,m1,z1⟩ :: ⟨2,n2,m2,z2⟩ :: D,ts⟩ [1] [(false,[1]),(true,[1])]:=by
 intro k a0 a1 a2 a3 w r3 f; kernel_rfl
theorem ce_21_01 (n0 n1 n2 : ByteArray) (m0 m1 m2 : Int) (z0 z1 z2 : Cx) (D : List Decl) (ts : List (List Stmt)) : CE ⟨⟨2,n0,m0,z0⟩ :: ⟨1,n1,m1,z1⟩ :: ⟨2,n2,m2,z2⟩ :: D,ts⟩ [0,1] [(false,[1]),(true,[0]),(true,[1]),(true,[0,1])]:=by
 intro k a0 a1 a2 a3 w r3 f; kernel_rfl
theorem ce_21_2 (n0 n1 n2 : ByteArray) (m0 m1 m2 : Int) (z0 z1 z2 : Cx) (D : List Decl) (ts : List (List Stmt)) : CE ⟨⟨2,n0,m0,z0⟩ :: ⟨1,n1,m1,z1⟩ :: ⟨2,n2,m2,z2⟩ :: D,ts⟩ [2] [(true,[2])]:=by
 intro k a0 a1 a2 a3 w r3 f; kernel_rfl
theorem ce_21_02 (n0 n1 n2 : ByteArray) (m0 m1 m2 : Int) (z0 z1 z2 : Cx) (D : List Decl) (ts : List (List Stmt)) : CE ⟨⟨2,n0,m0,z0⟩ :: ⟨1,n1,m1,z1⟩ :: ⟨2,n2,m2,z2⟩ :: D,ts⟩ [0,2] [(true,[0]),(true,[2]),(true,[0,2])]:=by
 intro k a0 a1 a2 a3 w r3 f; kernel_rfl
theorem ce_21_12 (n0 n1 n2 : ByteArray) (m0 m1 m2 : Int) (z0 z1 z2 : Cx) (D : List Decl) (ts : List (List Stmt)) : CE ⟨⟨2,n0,m0,z0⟩ :: ⟨1,n1,m1,z1⟩ :: ⟨2,n2,m2,z2⟩ :: D,ts⟩ [1,2] [(false,[1]),(true,[1]),(true,[2]),(true,[1,2])]:=by
 intro k a0 a1 a2 a3 w r3 f; kernel_rfl
theorem ce_21_012 (n0 n1 n2 : ByteArray) (m0 m1 m2 : Int) (z0 z1 z2 : Cx) (D : List Decl) (ts : List (List Stmt)) : CE ⟨⟨2,n0,m0,z0⟩ :: ⟨1,n1,m1,z1⟩ :: ⟨2,n2,m2,z2⟩ :: D,ts⟩ [0,1,2] [(false,[1]),(true,[0]),(true,[1]),(true,[0,1]),(true,[2]),(true,[0,2]),(true,[1,2]),(true,[0,1,2])]:=by
 intro k a0 a1 a2 a3 w r3 f; kernel_rfl
theorem ce_12_n (n0 n1 n2 : ByteArray) (m0 m1 m2 : Int) (z0 z1 z2 : Cx) (D : List Decl) (ts : List (List Stmt)) : CE ⟨⟨1,n0,m0,z0⟩ :: ⟨2,n1,m1,z1⟩ :: ⟨2,n2,m2,z2⟩ :: D,ts⟩ [] []:=by
 intro k a0 a1 a2 a3 w r3 f; kernel_rfl
theorem ce_12_0 (n0 n1 n2 : ByteArray) (m0 m1 m2 : Int) (z0 z1 z2 : Cx) (D : List Decl) (ts : List (List Stmt)) : CE ⟨⟨1,n0,m0,z0⟩ :: ⟨2,n1,m1,z1⟩ :: ⟨2,n2,m2,z2⟩ :: D,ts⟩ [0] [(false,[0]),(true,[0])]:=by
 intro k a0 a1 a2 a3 w r3 f; kernel_rfl
theorem ce_12_1 (n0 n1 n2 : ByteArray) (m0 m1 m2 : Int) (z0 z1 z2 : Cx) (D : List Decl) (ts : List (List Stmt)) : CE ⟨⟨1,n0,m0,z0⟩ :: ⟨2,n1,m1,z1⟩ :: ⟨2,n2,m2,z2⟩ :: D,ts⟩ [1] [(true,[1])]:=by
 intro k a0 a1 a2 a3 w r3 f; kernel_rfl
theorem ce_12_01 (n0 n1 n2 : ByteArray) (m0 m1 m2 : Int) (z0 z1 z2 : Cx) (D : List Decl) (ts : List (List Stmt)) : CE ⟨⟨1,n0,m0,z0⟩ :: ⟨2,n1,m1,z1⟩ :: ⟨2,n2,m2,z2⟩ :: D,ts⟩ [0,1] [(false,[0]),(true,[0]),(true,[1]),(true,[0,1])]:=by
 intro k a0 a1 a2 a3 w r3 f; kernel_rfl
theorem ce_12_2 (n0 n1 n2 : ByteArray) (m0 m1 m2 : Int) (z0 z1 z2 : Cx) (D : List Decl) (ts : List (List Stmt)) : CE ⟨⟨1,n0,m0,z0⟩ :: ⟨2,n1,m1,z1⟩ :: ⟨2,n2,m2,z2⟩ :: D,ts⟩ [2] [(true,[2])]:=by
 intro k a0 a1 a2 a3 w r3 f; kernel_rfl
theorem ce_12_02 (n0 n1 n2 : ByteArray) (m0 m1 m2 : Int) (z0 z1 z2 : Cx) (D : List Decl) (ts : List (List Stmt)) : CE ⟨⟨1,n0,m0,z0⟩ :: ⟨2,n1,m1,z1⟩ :: ⟨2,n2,m2,z2⟩ :: D,ts⟩ [0,2] [(false,[0]),(true,[0]),(true,[2]),(true,[0,2])]:=by
 intro k a0 a1 a2 a3 w r3 f; kernel_rfl
theorem ce_12_12 (n0 n1 n2 : ByteArray) (m0 m1 m2 : Int) (z0 z1 z2 : Cx) (D : List Decl) (ts : List (List Stmt)) : CE ⟨⟨1,n0,m0,z0⟩ :: ⟨2,n1,m1,z1⟩ :: ⟨2,n2,m2,z2⟩ :: D,ts⟩ [1,2] [(true,[1]),(true,[2]),(true,[1,2])]:=by
 intro k a0 a1 a2 a3 w r3 f; kernel_rfl
theorem ce_12_012 (n0 n1 n2 : ByteArray) (m0 m1 m2 : Int) (z0 z1 z2 : Cx) (D : List Decl) (ts : List (List Stmt)) : CE ⟨⟨1,n0,m0,z0⟩ :: ⟨2,n1,m1,z1⟩ :: ⟨2,n2,m2,z2⟩ :: D,ts⟩ [0,1,2] [(false,[0]),(true,[0]),(true,[1]),(true,[0,1]),(true,[2]),(true,[0,2]),(true,[1,2]),(true,[0,1,2])]:=by
 intro k a0 a1 a2 a3 w r3 f; kernel_rfl
theorem ce_31_n (n0 n1 n2 : ByteArray) (m0 m1 m2 : Int) (z0 z1 z2 : Cx) (D : List Decl) (ts : List (List Stmt)) : CE ⟨⟨3,n0,m0,z0⟩ :: ⟨1,n1,m1,z1⟩ :: ⟨2,n2,m2,z2⟩ :: D,ts⟩ [] []:=by
 intro k a0 a1 a2 a3 w r3 f; kernel_rfl
theorem ce_31_1 (n0 n1 n2 : ByteArray) (m0 m1 m2 : Int) (z0 z1 z2 : Cx) (D : List Decl) (ts : List (List Stmt)) : CE ⟨⟨3,n0,m0,z0⟩ :: ⟨1,n1,m1,z1⟩ :: ⟨2,n2,m2,z2⟩ :: D,ts⟩ [1] [(false,[1]),(true,[1])]:=by
 intro k a0 a1 a2 a3 w r3 f; kernel_rfl
theorem ce_31_2 (n0 n1 n2 : ByteArray) (m0 m1 m2 : Int) (z0 z1 z2 : Cx) (D : List Decl) (ts : List (List Stmt)) : CE ⟨⟨3,n0,m0,z0⟩ :: ⟨1,n1,m1,z1⟩ :: ⟨2,n2,m2,z2⟩ :: D,ts⟩ [2] [(true,[2])]:=by
 intro k a0 a1 a2 a3 w r3 f; kernel_rfl
theorem ce_31_12 (n0 n1 n2 : ByteArray) (m0 m1 m2 : Int) (z0 z1 z2 : Cx) (D : List Decl) (ts : List (List Stmt)) : CE ⟨⟨3,n0,m0,z0⟩ :: ⟨1,n1,m1,z1⟩ :: ⟨2,n2,m2,z2⟩ :: D,ts⟩ [1,2] [(false,[1]),(true,[1]),(true,[2]),(true,[1,2])]:=by
 intro k a0 a1 a2 a3 w r3 f; kernel_rfl
theorem st_n : Ev (fun n=>cands_sets n []) [] ∧ SetsOk [] []:=by
 refine ⟨⟨100,fun n hn=>?_⟩,by simp,rfl,by simp,by simp⟩
 obtain ⟨k,rfl⟩ : ∃ k,n = k + 100:=⟨n - 100,by omega⟩
 have : ∀ k,cands_sets (k + 100) [] = some []:=by intro k; kernel_rfl
 exact this k
theorem st_0 : Ev (fun n=>cands_sets n [0]) [[0]] ∧ SetsOk [0] [[0]]:=by
 refine ⟨⟨100,fun n hn=>?_⟩,by simp,rfl,by simp,by simp⟩
 obtain ⟨k,rfl⟩ : ∃ k,n = k + 100:=⟨n - 100,by omega⟩
 have : ∀ k,cands_sets (k + 100) [0] = some [[0]]:=by intro k; kernel_rfl
 exact this k
theorem st_1 : Ev (fun n=>cands_sets n [1]) [[1]] ∧ SetsOk [1] [[1]]:=by
 refine ⟨⟨100,fun n hn=>?_⟩,by simp,rfl,by simp,by simp⟩
 obtain ⟨k,rfl⟩ : ∃ k,n = k + 100:=⟨n - 100,by omega⟩
 have : ∀ k,cands_sets (k + 100) [1] = some [[1]]:=by intro k; kernel_rfl
 exact this k
theorem st_01 : Ev (fun n=>cands_sets n [0,1]) [[0],[1],[0,1]] ∧ SetsOk [0,1] [[0],[1],[0,1]]:=by
 refine ⟨⟨100,fun n hn=>?_⟩,by simp,rfl,by simp,by simp⟩
 obtain ⟨k,rfl⟩ : ∃ k,n = k + 100:=⟨n - 100,by omega⟩
 have : ∀ k,cands_sets (k + 100) [0,1] = some [[0],[1],[0,1]]:=by intro k; kernel_rfl
 exact this k
theorem st_2 : Ev (fun n=>cands_sets n [2]) [[2]] ∧ SetsOk [2] [[2]]:=by
 refine ⟨⟨100,fun n hn=>?_⟩,by simp,rfl,by simp,by simp⟩
 obtain ⟨k,rfl⟩ : ∃ k,n = k + 100:=⟨n - 100,by omega⟩
 have : ∀ k,cands_sets (k + 100) [2] = some [[2]]:=by intro k; kernel_rfl
 exact this k
theorem st_02 : Ev (fun n=>cands_sets n [0,2]) [[0],[2],[0,2]] ∧ SetsOk [0,2] [[0],[2],[0,2]]:=by
 refine ⟨⟨100,fun n hn=>?_⟩,by simp,rfl,by simp,by simp⟩
 obtain ⟨k,rfl⟩ : ∃ k,n = k + 100:=⟨n - 100,by omega⟩
 have : ∀ k,cands_sets (k + 100) [0,2] = some [[0],[2],[0,2]]:=by intro k; kernel_rfl
 exact this k
theorem st_12 : Ev (fun n=>cands_sets n [1,2]) [[1],[2],[1,2]] ∧ SetsOk [1,2] [[1],[2],[1,2]]:=by
 refine ⟨⟨100,fun n hn=>?_⟩,by simp,rfl,by simp,by simp⟩
 obtain ⟨k,rfl⟩ : ∃ k,n = k + 100:=⟨n - 100,by omega⟩
 have : ∀ k,cands_sets (k + 100) [1,2] = some [[1],[2],[1,2]]:=by intro k; kernel_rfl
 exact this k
theorem st_012 : Ev (fun n=>cands_sets n [0,1,2]) [[0],[1],[0,1],[2],[0,2],[1,2],[0,1,2]] ∧ SetsOk [0,1,2] [[0],[1],[0,1],[2],[0,2],[1,2],[0,1,2]]:=by
 refine ⟨⟨100,fun n hn=>?_⟩,by simp,rfl,by simp,by simp⟩
 obtain ⟨k,rfl⟩ : ∃ k,n = k + 100:=⟨n - 100,by omega⟩
 have : ∀ k,cands_sets (k + 100) [0,1,2] = some [[0],[1],[0,1],[2],[0,2],[1,2],[0,1,2]]:=by intro k; kernel_rfl
 exact this k
theorem fin_ev (p : Prog) (D : List Decl) (ts : List (List Stmt)) (hp : p = ⟨D,ts⟩) (hz : szT ts ≤ 40000) (hw : ∀ t ∈ ts,wfl 8 t) (r : List Int) (ss : List (List Int)) (hr : r.length ≤ 3) (hi : InD D r) (hs : Ev (fun n=>cands_sets n r) ss ∧ SetsOk r ss) (G : List (Bool × List Int))
  (hG : ((r.filter (pln D)).map fun v=>(false,[v])) ++ ss.map (fun s=>(true,s)) = G) (hce : CE p r G) (a0 : Int) (a1 a2 : List Act) (a3 : Int) (w : ByteArray) (r3 : Int) :
  Ev (fun n=>(cands_Of n p r).bind fun r5=>(law23_known n).bind fun r8=>bif (bif !r8 then true else decide (ln r > 4)) then some false else law23_CandsEach_L0 n a0 a1 a2 a3 w p r3 r r5 false 0) true:=by
 subst hp
 obtain ⟨ups,u1,u2,u3⟩:=Of_ev D ts r ss hz hw (by omega) hi hs.1 hs.2
 refine Ev.bind u3 (Ev.bind known23_ev ?_)
 have d : (bif !true then true else decide (ln r > 4)) = false:=by
  show decide (((r.length : Nat) : Int) > 4) = false
  exact decide_eq_false (by omega)
 refine Ev.no d ?_
 obtain ⟨f,hf,_⟩:=mkC_of (ups ++ ss.map (gc D ts)) 0 (fun _=>c0)
 have hm : (ups ++ ss.map (gc D ts)).map (fun c=>(c.Guard,c.Names)) = G:=by
  rw [List.map_append,u1,List.map_map,← hG]; rfl
 rw [hm] at hf
 rw [hf]
 refine ⟨700,fun n hn=>?_⟩
 obtain ⟨k,rfl⟩ : ∃ k,n = k + 700:=⟨n - 700,by omega⟩
 exact hce k a0 a1 a2 a3 w r3 f
theorem len8 (D : List Decl) (h : D.length = 8) : ∃ d0 d1 d2 d3 d4 d5 d6 d7,D = [d0,d1,d2,d3,d4,d5,d6,d7]:=by
 rcases D with _ | ⟨d0,_ | ⟨d1,_ | ⟨d2,_ | ⟨d3,_ | ⟨d4,_ | ⟨d5,_ | ⟨d6,_ | ⟨d7,_ | ⟨d8,D⟩⟩⟩⟩⟩⟩⟩⟩⟩
 any_goals (exfalso; simp at h; done)
 exact ⟨d0,d1,d2,d3,d4,d5,d6,d7,rfl⟩
theorem inD3 (d0 d1 d2 : Decl) (D : List Decl) (r : List Int) (h : ∀ v ∈ r,v = 0 ∨ v = 1 ∨ v = 2) : InD (d0 :: d1 :: d2 :: D) r:=fun v hv=>by
 rcases h v hv with rfl | rfl | rfl
 ·exact ⟨0,rfl,by simp⟩
 ·exact ⟨1,rfl,by simp⟩
 ·exact ⟨2,rfl,by simp⟩
theorem law23_CandsEach_true (a0 : Int) (a1 a2 : List Act) (a3 : Int) (h0 : okInt .i64 a0) (h1 : okActs a1) (h2 : okActs a2) (h3 : okInt .i64 a3) : ∃ n,law23_CandsEach n a0 a1 a2 a3 = some true:=by
 obtain ⟨w,D0,D,ts0,ts,hw,hpar,oD,_,hD,_⟩:=Good2_ev a0 a1 a2 4 (by omega)
 obtain ⟨p',i',e',hpar',okp⟩:=parse_ev w
 have hu:=Ev.unique hpar' hpar
 rw [Prod.mk.injEq] at hu
 rw [hu.1] at okp
 obtain ⟨okD,okn,okz,okw⟩:=okp
 simp only at okD okn okz okw
 have hread : Ev (fun n=>law23_read n w) ⟨D,ts⟩:=Ev.of_eq (g:=fun n=>(ref1_Parse n w).bind fun r1=>some r1.1) (fun n=>by simp only [law23_read]) (Ev.bind hpar (Ev.ret _))
 have p3 : ∀ n,hand_Pick n a3 256 = some (a3 % 256):=fun n=>pick_eq n _ 256 (by omega) (by omega)
 have hr:=racy_ev D ts (a3 % 256) okD.1
 refine Ev.get ?_
 refine Ev.of_eq (g:=fun n=>(hand_Good n a0 a1 a2 [] 4).bind fun r1=>(law23_read n r1).bind fun r2=>(law23_racy n r2 (a3 % 256)).bind fun r4=>(cands_Of n r2 r4).bind fun r5=>(law23_known n).bind fun r8=>bif (bif !r8 then true else decide (ln r4 > 4)) then some false else law23_CandsEach_L0 n a0 a1 a2 a3 r1 r2 (a3 % 256) r4 r5 false 0) (fun n=>?_) ?_
 ·simp only [law23_CandsEach,p3,Option.bind_some,jn]
  cases hand_Good n a0 a1 a2 [] 4 with
  | none=>rfl
  | some x1 =>
   simp only [Option.bind_some]
   cases law23_read n x1 with
   | none=>rfl
   | some x2 =>
    simp only [Option.bind_some]
    cases law23_racy n x2 (a3 % 256) with
    | none=>rfl
    | some x4 =>
     simp only [Option.bind_some]
     cases cands_Of n x2 x4 with
     | none=>rfl
     | some x5 =>
      simp only [Option.bind_some]
      cases law23_known n with
      | none=>rfl
      | some x8 =>
       simp only [Option.bind_some]
       cases x8
       ·rfl
       ·cases hd : decide (ln x4 > 4)
        ·simp only [Bool.not_true,cond_false,hd]
        ·simp only [Bool.not_true,cond_false,hd,cond_true]
 refine Ev.bind hw (Ev.bind hread (Ev.bind hr ?_))
 generalize a3 % 256 = q
 obtain ⟨k0,k1,c,hk,c0',c1,rfl⟩:=oD
 obtain ⟨d0,d1,d2,d3,d4,d5,d6,d7,rfl⟩:=len8 D (by have:=congrArg List.length hD; simpa using this)
 ·simp only [List.map_cons,List.map_nil,List.cons.injEq,and_true,erd,Decl.mk.injEq] at hD
  obtain ⟨⟨e0,_⟩,⟨e1,_⟩,⟨e2,_⟩,⟨e3,_⟩,⟨e4,_⟩,⟨e5,_⟩,⟨e6,_⟩,⟨e7,_⟩⟩:=hD
  obtain ⟨x0,n0,m0,z0⟩:=d0
  obtain ⟨x1,n1,m1,z1⟩:=d1
  obtain ⟨x2,n2,m2,z2⟩:=d2
  simp only at e0 e1 e2 e3 e4 e5 e6 e7
  subst e0; subst e1; subst e2
  have hrc : rcy q [⟨x0,n0,m0,z0⟩,⟨x1,n1,m1,z1⟩,⟨2,n2,m2,z2⟩,d3,d4,d5,d6,d7] 0 = (bif decide (x0 ≤ 2) && bitK q 0 then [0] else []) ++ ((bif decide (x1 ≤ 2) && bitK q 1 then [1] else []) ++ ((bif bitK q 2 then [2] else []) ++ [])):=by
   simp only [rcy,e3,e4,e5,e6,e7]
   rfl
  rw [hrc]
  have dd : ∀ v : Int,∀ l : List Int,v ∈ l → (l.all fun v=>v == 0 || v == 1 || v == 2) = true → v = 0 ∨ v = 1 ∨ v = 2:=fun v l hv hl=>by
   have:=List.all_eq_true.1 hl v hv
   simpa [or_assoc] using this

  rcases hk with ⟨rfl,rfl⟩ | ⟨rfl,rfl⟩ | ⟨rfl,rfl⟩ | ⟨rfl,rfl⟩
  ·cases b0 : bitK q 0 <;> cases b1 : bitK q 1 <;> cases b2 : bitK q 2
   ·exact fin_ev _ _ ts rfl okz okw [] _ (by simp) (inD3 _ _ _ _ _ fun v hv=>dd v _ hv rfl) st_n _ rfl (ce_11_n n0 n1 n2 m0 m1 m2 z0 z1 z2 _ ts) a0 a1 a2 a3 w q
   ·exact fin_ev _ _ ts rfl okz okw [2] _ (by simp) (inD3 _ _ _ _ _ fun v hv=>dd v _ hv rfl) st_2 _ rfl (ce_11_2 n0 n1 n2 m0 m1 m2 z0 z1 z2 _ ts) a0 a1 a2 a3 w q
   ·exact fin_ev _ _ ts rfl okz okw [1] _ (by simp) (inD3 _ _ _ _ _ fun v hv=>dd v _ hv rfl) st_1 _ rfl (ce_11_1 n0 n1 n2 m0 m1 m2 z0 z1 z2 _ ts) a0 a1 a2 a3 w q
   ·exact fin_ev _ _ ts rfl okz okw [1,2] _ (by simp) (inD3 _ _ _ _ _ fun v hv=>dd v _ hv rfl) st_12 _ rfl (ce_11_12 n0 n1 n2 m0 m1 m2 z0 z1 z2 _ ts) a0 a1 a2 a3 w q
   ·exact fin_ev _ _ ts rfl okz okw [0] _ (by simp) (inD3 _ _ _ _ _ fun v hv=>dd v _ hv rfl) st_0 _ rfl (ce_11_0 n0 n1 n2 m0 m1 m2 z0 z1 z2 _ ts) a0 a1 a2 a3 w q
   ·exact fin_ev _ _ ts rfl okz okw [0,2] _ (by simp) (inD3 _ _ _ _ _ fun v hv=>dd v _ hv rfl) st_02 _ rfl (ce_11_02 n0 n1 n2 m0 m1 m2 z0 z1 z2 _ ts) a0 a1 a2 a3 w q
   ·exact fin_ev _ _ ts rfl okz okw [0,1] _ (by simp) (inD3 _ _ _ _ _ fun v hv=>dd v _ hv rfl) st_01 _ rfl (ce_11_01 n0 n1 n2 m0 m1 m2 z0 z1 z2 _ ts) a0 a1 a2 a3 w q
   ·exact fin_ev _ _ ts rfl okz okw [0,1,2] _ (by simp) (inD3 _ _ _ _ _ fun v hv=>dd v _ hv rfl) st_012 _ rfl (ce_11_012 n0 n1 n2 m0 m1 m2 z0 z1 z2 _ ts) a0 a1 a2 a3 w q
  ·cases b0 : bitK q 0 <;> cases b1 : bitK q 1 <;> cases b2 : bitK q 2
   ·exact fin_ev _ _ ts rfl okz okw [] _ (by simp) (inD3 _ _ _ _ _ fun v hv=>dd v _ hv rfl) st_n _ rfl (ce_21_n n0 n1 n2 m0 m1 m2 z0 z1 z2 _ ts) a0 a1 a2 a3 w q
   ·exact fin_ev _ _ ts rfl okz okw [2] _ (by simp) (inD3 _ _ _ _ _ fun v hv=>dd v _ hv rfl) st_2 _ rfl (ce_21_2 n0 n1 n2 m0 m1 m2 z0 z1 z2 _ ts) a0 a1 a2 a3 w q
   ·exact fin_ev _ _ ts rfl okz okw [1] _ (by simp) (inD3 _ _ _ _ _ fun v hv=>dd v _ hv rfl) st_1 _ rfl (ce_21_1 n0 n1 n2 m0 m1 m2 z0 z1 z2 _ ts) a0 a1 a2 a3 w q
   ·exact fin_ev _ _ ts rfl okz okw [1,2] _ (by simp) (inD3 _ _ _ _ _ fun v hv=>dd v _ hv rfl) st_12 _ rfl (ce_21_12 n0 n1 n2 m0 m1 m2 z0 z1 z2 _ ts) a0 a1 a2 a3 w q
   ·exact fin_ev _ _ ts rfl okz okw [0] _ (by simp) (inD3 _ _ _ _ _ fun v hv=>dd v _ hv rfl) st_0 _ rfl (ce_21_0 n0 n1 n2 m0 m1 m2 z0 z1 z2 _ ts) a0 a1 a2 a3 w q
   ·exact fin_ev _ _ ts rfl okz okw [0,2] _ (by simp) (inD3 _ _ _ _ _ fun v hv=>dd v _ hv rfl) st_02 _ rfl (ce_21_02 n0 n1 n2 m0 m1 m2 z0 z1 z2 _ ts) a0 a1 a2 a3 w q
   ·exact fin_ev _ _ ts rfl okz okw [0,1] _ (by simp) (inD3 _ _ _ _ _ fun v hv=>dd v _ hv rfl) st_01 _ rfl (ce_21_01 n0 n1 n2 m0 m1 m2 z0 z1 z2 _ ts) a0 a1 a2 a3 w q
   ·exact fin_ev _ _ ts rfl okz okw [0,1,2] _ (by simp) (inD3 _ _ _ _ _ fun v hv=>dd v _ hv rfl) st_012 _ rfl (ce_21_012 n0 n1 n2 m0 m1 m2 z0 z1 z2 _ ts) a0 a1 a2 a3 w q
  ·cases b0 : bitK q 0 <;> cases b1 : bitK q 1 <;> cases b2 : bitK q 2
   ·exact fin_ev _ _ ts rfl okz okw [] _ (by simp) (inD3 _ _ _ _ _ fun v hv=>dd v _ hv rfl) st_n _ rfl (ce_12_n n0 n1 n2 m0 m1 m2 z0 z1 z2 _ ts) a0 a1 a2 a3 w q
   ·exact fin_ev _ _ ts rfl okz okw [2] _ (by simp) (inD3 _ _ _ _ _ fun v hv=>dd v _ hv rfl) st_2 _ rfl (ce_12_2 n0 n1 n2 m0 m1 m2 z0 z1 z2 _ ts) a0 a1 a2 a3 w q
   ·exact fin_ev _ _ ts rfl okz okw [1] _ (by simp) (inD3 _ _ _ _ _ fun v hv=>dd v _ hv rfl) st_1 _ rfl (ce_12_1 n0 n1 n2 m0 m1 m2 z0 z1 z2 _ ts) a0 a1 a2 a3 w q
   ·exact fin_ev _ _ ts rfl okz okw [1,2] _ (by simp) (inD3 _ _ _ _ _ fun v hv=>dd v _ hv rfl) st_12 _ rfl (ce_12_12 n0 n1 n2 m0 m1 m2 z0 z1 z2 _ ts) a0 a1 a2 a3 w q
   ·exact fin_ev _ _ ts rfl okz okw [0] _ (by simp) (inD3 _ _ _ _ _ fun v hv=>dd v _ hv rfl) st_0 _ rfl (ce_12_0 n0 n1 n2 m0 m1 m2 z0 z1 z2 _ ts) a0 a1 a2 a3 w q
   ·exact fin_ev _ _ ts rfl okz okw [0,2] _ (by simp) (inD3 _ _ _ _ _ fun v hv=>dd v _ hv rfl) st_02 _ rfl (ce_12_02 n0 n1 n2 m0 m1 m2 z0 z1 z2 _ ts) a0 a1 a2 a3 w q
   ·exact fin_ev _ _ ts rfl okz okw [0,1] _ (by simp) (inD3 _ _ _ _ _ fun v hv=>dd v _ hv rfl) st_01 _ rfl (ce_12_01 n0 n1 n2 m0 m1 m2 z0 z1 z2 _ ts) a0 a1 a2 a3 w q
   ·exact fin_ev _ _ ts rfl okz okw [0,1,2] _ (by simp) (inD3 _ _ _ _ _ fun v hv=>dd v _ hv rfl) st_012 _ rfl (ce_12_012 n0 n1 n2 m0 m1 m2 z0 z1 z2 _ ts) a0 a1 a2 a3 w q
  ·cases b0 : bitK q 0 <;> cases b1 : bitK q 1 <;> cases b2 : bitK q 2
   ·exact fin_ev _ _ ts rfl okz okw [] _ (by simp) (inD3 _ _ _ _ _ fun v hv=>dd v _ hv rfl) st_n _ rfl (ce_31_n n0 n1 n2 m0 m1 m2 z0 z1 z2 _ ts) a0 a1 a2 a3 w q
   ·exact fin_ev _ _ ts rfl okz okw [2] _ (by simp) (inD3 _ _ _ _ _ fun v hv=>dd v _ hv rfl) st_2 _ rfl (ce_31_2 n0 n1 n2 m0 m1 m2 z0 z1 z2 _ ts) a0 a1 a2 a3 w q
   ·exact fin_ev _ _ ts rfl okz okw [1] _ (by simp) (inD3 _ _ _ _ _ fun v hv=>dd v _ hv rfl) st_1 _ rfl (ce_31_1 n0 n1 n2 m0 m1 m2 z0 z1 z2 _ ts) a0 a1 a2 a3 w q
   ·exact fin_ev _ _ ts rfl okz okw [1,2] _ (by simp) (inD3 _ _ _ _ _ fun v hv=>dd v _ hv rfl) st_12 _ rfl (ce_31_12 n0 n1 n2 m0 m1 m2 z0 z1 z2 _ ts) a0 a1 a2 a3 w q
   ·exact fin_ev _ _ ts rfl okz okw [] _ (by simp) (inD3 _ _ _ _ _ fun v hv=>dd v _ hv rfl) st_n _ rfl (ce_31_n n0 n1 n2 m0 m1 m2 z0 z1 z2 _ ts) a0 a1 a2 a3 w q
   ·exact fin_ev _ _ ts rfl okz okw [2] _ (by simp) (inD3 _ _ _ _ _ fun v hv=>dd v _ hv rfl) st_2 _ rfl (ce_31_2 n0 n1 n2 m0 m1 m2 z0 z1 z2 _ ts) a0 a1 a2 a3 w q
   ·exact fin_ev _ _ ts rfl okz okw [1] _ (by simp) (inD3 _ _ _ _ _ fun v hv=>dd v _ hv rfl) st_1 _ rfl (ce_31_1 n0 n1 n2 m0 m1 m2 z0 z1 z2 _ ts) a0 a1 a2 a3 w q
   ·exact fin_ev _ _ ts rfl okz okw [1,2] _ (by simp) (inD3 _ _ _ _ _ fun v hv=>dd v _ hv rfl) st_12 _ rfl (ce_31_12 n0 n1 n2 m0 m1 m2 z0 z1 z2 _ ts) a0 a1 a2 a3 w q
end Go.Su.Ytepcmciljmennaa
