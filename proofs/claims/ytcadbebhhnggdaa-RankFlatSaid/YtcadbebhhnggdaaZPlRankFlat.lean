/-
  RankFlat: what its code computes is true.
-/
import Derived.Test.YtcadbebhhnggdaaZPlRankK
import Derived.Test.YtcadbebhhnggdaaZPlGood
import Derived.Test.YtcadbebhhnggdaaZPlParse
import Derived.Test.YtcadbebhhnggdaaZRowT
namespace Go.Su.Ytcadbebhhnggdaa
open Go.Mx Go.Proofs
set_option linter.unusedVariables false
set_option linter.unusedSimpArgs false
set_option maxHeartbeats 4000000
def cutS (x : Stmt) : Stmt := ⟨x.Kind, x.Name, x.Other, x.N, x.E, [], [], x.At⟩
theorem cut_sz : ∀ l : List Stmt, szSl (l.map cutS) ≤ szSl l
 | [] => by simp
 | x :: r => by
  have := cut_sz r
  rw [List.map_cons, szSl, szSl]
  cases x
  simp only [cutS, szS, szSl]; omega
theorem cut_szT : ∀ ts : List (List Stmt), szT (ts.map (List.map cutS)) ≤ szT ts
 | [] => by simp
 | t :: r => by
  have := cut_szT r
  have := cut_sz t
  rw [List.map_cons, szT, szT]; omega
theorem cut_flat : ∀ l : List Stmt, flat (l.map cutS) = l.map cutS
 | [] => by simp [flat]
 | x :: r => by
  rw [List.map_cons, flat, cut_flat r, fl1_eq]
  simp [cutS, flat]
theorem cut_wn (ts : List (List Stmt)) : ∀ s ∈ flats (ts.map (List.map cutS)), wn s = 0 := by
 induction ts with
 | nil => intro s hs; simp [flats] at hs
 | cons t r ih =>
  intro s hs
  rw [List.map_cons, flats, cut_flat] at hs
  rcases List.mem_append.1 hs with hs | hs
  ·obtain ⟨x, _, rfl⟩ := List.mem_map.1 hs
   simp [wn, cutS, flat]
  ·exact ih s hs
theorem ins_no (E A : List Int) (h : ∀ j ∈ A, idx E j = some (j + 1)) (B : List Int) : ins E A B = false := by
 unfold ins
 rw [List.any_eq_false]
 intro k _
 rw [Bool.not_eq_true, List.any_eq_false]
 intro j hj
 unfold lt1
 rw [h j hj]
 simp only [Option.getD_some, Bool.and_eq_true, decide_eq_true_eq]
 omega
theorem pbs_no (E A : List Int) (a : Nat) (h : ∀ B, ins E A B = false) : ∀ (W : List (List Int)) (b : Nat), pbs E A a W b = []
 | [], _ => rfl
 | B :: r, b => by rw [pbs, h, Bool.and_false, pbs_no E A a h r]; rfl
theorem pas_no (E : List Int) (W : List (List Int)) : ∀ (l : List (List Int)) (a : Nat), (∀ A ∈ l, ∀ B, ins E A B = false) → pas E W l a = []
 | [], _, _ => rfl
 | A :: r, a, h => by rw [pas, pbs_no E A a (h A (by simp)), pas_no E W r (a + 1) (fun A' hA => h A' (by simp [hA]))]; rfl
theorem inside_no (ts : List (List Stmt)) (gs : List (List ByteArray)) : inside (ts.map (List.map cutS)) gs = [] := by
 unfold inside
 refine pas_no _ _ _ _ fun A hA B => ?_
 obtain ⟨g, _, rfl⟩ := List.mem_map.1 hA
 refine ins_no _ _ (fun j hj => ?_) B
 obtain ⟨k, s, rfl, hs⟩ := wf_mem _ g j hj
 rw [enL_idx _ k s hs, cut_wn ts s (List.mem_of_getElem? hs)]
 rfl
theorem nxg_keep (I : List Arr2_i64) (R : List Int) : ∀ (m i : Nat) (c : Int), 0 ≤ c → nxg I R m i c = c
 | 0, _, _, _ => rfl
 | m + 1, i, c, h => by
  rw [nxg, decide_eq_false (show ¬ c < 0 by omega), Bool.and_false]
  exact nxg_keep I R m (i + 1) c h
theorem nxg_flat (R : List Int) (i : Nat) (h1 : ∀ q, q < i → 0 ≤ R.getD q 0) (h2 : R.getD i 0 < 0) : ∀ (m j : Nat), j ≤ i → i < j + m → nxg [] R m j (-1) = i
 | 0, j, h3, h4 => absurd h4 (by omega)
 | m + 1, j, h3, h4 => by
  rw [nxg]
  by_cases e : j = i
  ·subst e
   have : fre [] R j = true := by unfold fre wts; rw [decide_eq_true h2]; rfl
   rw [this]
   exact nxg_keep [] R m (j + 1) j (by omega)
  ·have : fre [] R j = false := by unfold fre; rw [decide_eq_false (by have := h1 j (by omega); omega)]; rfl
   rw [this]
   exact nxg_flat R i h1 h2 m (j + 1) (by omega) (by omega)
def PR (n i : Nat) (R : List Int) : Prop := R.length = n ∧ (∀ q, q < i → R.getD q 0 = (q : Int)) ∧ ∀ q, i ≤ q → q < n → R.getD q 0 = -1
theorem rks_flat (n : Nat) : ∀ (m i : Nat) (R : List Int), m = n - i → i ≤ n → PR n i R → ∃ R', rks [] n m i R = (R', 0) ∧ PR n n R'
 | 0, i, R, hm, hi, h => by
  have : i = n := by omega
  subst this
  exact ⟨R, rfl, h⟩
 | m + 1, i, R, hm, hi, ⟨h0, h1, h2⟩ => by
  have hx := nxg_flat R i (fun q hq => by rw [h1 q hq]; omega) (by rw [h2 i (by omega) (by omega)]; omega) n 0 (by omega) (by omega)
  rw [rks, hx, decide_eq_false (by omega)]
  refine rks_flat n m (i + 1) _ (by omega) (by omega) ⟨by simpa using h0, fun q hq => ?_, fun q hq hn => ?_⟩
  ·rw [List.getD_eq_getElem?_getD, List.getElem?_set]
   by_cases e : i = q
   ·subst e
    rw [if_pos (by simp), if_pos (by simpa [h0] using (by omega : i < n))]; rfl
   ·rw [if_neg (by simpa using e), ← List.getD_eq_getElem?_getD]
    exact h1 q (by omega)
  ·rw [List.getD_eq_getElem?_getD, List.getElem?_set, if_neg (by simp; omega), ← List.getD_eq_getElem?_getD]
   exact h2 q (by omega) hn
theorem ranks_flat (n : Nat) : ∃ R, ranks [] n = (R, 0) ∧ PR n n R := by
 refine rks_flat n n 0 _ rfl (by omega) ⟨by simp, fun q hq => absurd hq (by omega), fun q _ hq => ?_⟩
 rw [List.getD_eq_getElem?_getD, List.getElem?_replicate, if_pos hq]; rfl
theorem law25_RankFlat_true (a0 : Int) (a1 a2 : List Act) (a3 : Int) (h0 : okInt .i64 a0) (h1 : okActs a1) (h2 : okActs a2) (h3 : okInt .i64 a3) : ∃ n, law25_RankFlat n a0 a1 a2 a3 = some true := by
 obtain ⟨w, hw⟩ := Good_ev a0 a1 a2 [] 5 (by omega)
 obtain ⟨⟨D, ts⟩, i, e, hpar, ok1⟩ := parse_ev w
 obtain ⟨okD, okn, okz, okw⟩ := ok1
 simp only at okD okn okz okw
 have hread : Ev (fun n => law25_read n w) ⟨D, ts⟩ := Ev.of_eq (g := fun n => (ref1_Parse n w).bind fun r1 => some r1.1) (fun n => by simp only [law25_read]) (Ev.bind hpar (Ev.ret _))
 obtain ⟨gs, g1, g2, g3⟩ := groups_eq a3
 have hz := cut_szT ts
 have hO := Order_ev D (ts.map (List.map cutS)) gs (by omega) (by omega) (fun g hg => by have := g3 g hg; omega)
 have hI := Inside_ev D (ts.map (List.map cutS)) gs (by omega) (by omega) (fun g hg => by have := g3 g hg; omega)
 rw [inside_no] at hO hI
 obtain ⟨R, hR, hP, hQ, _⟩ := ranks_flat gs.length
 rw [hR] at hO
 have hts := len_T ts

 have last : ∀ (l3 : List (List Stmt)) (i4 : Int) (m i : Nat), m = gs.length - i → i ≤ gs.length → Ev (fun n => law25_RankFlat_L2 n a0 a1 a2 a3 w ⟨D, ts⟩ l3 i4 gs (R, 0) false (i : Int)) true := by
  intro l3 i4 m
  induction m with
  | zero =>
   intro i hm hi
   have d : decide ((i : Int) < ln R) = false := decide_eq_false (by show ¬ (i : Int) < ((R.length : Nat) : Int); omega)
   exact Ev.step (Ev.of_eq (g := fun n => some true) (fun n => by simp only [law25_RankFlat_L2, d, cond_false]) (Ev.ret _))
  | succ m ih =>
   intro i hm hi
   have d : decide ((i : Int) < ln R) = true := decide_eq_true (by show (i : Int) < ((R.length : Nat) : Int); omega)
   have hiR : i < R.length := by omega
   have gd : R.getD i 0 = R[i] := by rw [List.getD_eq_getElem?_getD, List.getElem?_eq_getElem hiR]; rfl
   have g := idx_ok R i hiR
   rw [← gd, hQ i (by omega)] at g
   have b : ((i : Int) != (i : Int)) = false := by simp
   have e3 : wr ((i : Int) + 1) = ((i + 1 : Nat) : Int) := by rw [wr_of (by omega)]; rfl
   refine Ev.step (Ev.of_eq (fun n => ?_) (ih (i + 1) (by omega) (by omega)))
   simp only [law25_RankFlat_L2, d, cond_true, g, Option.bind_some, b, cond_false, e3]
 have inner : ∀ (acc : List (List Stmt)) (i4 : Int) (t : List Stmt), t.length ≤ 100000 → Ev (fun n => bif room s_LStmt.i1.bytes acc.length [t.map cutS].length then law25_RankFlat_L0 n a0 a1 a2 a3 w ⟨D, ts⟩ (acc ++ [t.map cutS]) (wr (i4 + 1)) else none) true →
   ∀ (l pre : List Stmt), t = pre ++ l → Ev (fun n => law25_RankFlat_L1 n a0 a1 a2 a3 w ⟨D, ts⟩ acc i4 t (pre.map cutS) pre.length) true := by
  intro acc i4 t ht hend l
  induction l with
  | nil =>
   intro pre e
   rw [List.append_nil] at e
   subst e
   refine Ev.step (Ev.of_eq (fun n => ?_) hend)
   simp only [law25_RankFlat_L1, ix_ge, cond_false]
  | cons x r ih =>
   intro pre e
   have hp : pre.length + 1 ≤ 100000 := by rw [e] at ht; simp at ht; omega
   have d : decide ((pre.length : Int) < ln t) = true := by rw [e]; exact ix_lt _ _ _
   have g : idx t (pre.length : Int) = some x := by rw [e]; exact ix_get _ _ _
   have rm : room s_Stmt.i1.bytes (pre.map cutS).length [(Stmt.mk x.Kind x.Name x.Other x.N x.E [] [] x.At)].length = true := room32 _ (by simp; omega) _
   have nx := ih (pre ++ [x]) (by rw [e]; exact ix_cons _ _ _)
   rw [List.map_append] at nx
   refine Ev.step (Ev.of_eq (fun n => ?_) nx)
   simp only [law25_RankFlat_L1, d, cond_true, g, Option.bind_some, rm]
   rw [ix_wr pre x (by omega)]; rfl
 have outer : ∀ (l pre : List (List Stmt)), ts = pre ++ l → Ev (fun n => law25_RankFlat_L0 n a0 a1 a2 a3 w ⟨D, ts⟩ (pre.map (List.map cutS)) pre.length) true := by
  intro l
  induction l with
  | nil =>
   intro pre e
   rw [List.append_nil] at e
   subst e
   have b1 : (ln R != ln gs) = false := by
    rw [bne_eq_false_iff_eq]
    show ((R.length : Nat) : Int) = ((gs.length : Nat) : Int)
    rw [hP]
   refine Ev.step (Ev.of_eq (g := fun n => (rank_Order n ⟨D, ts.map (List.map cutS)⟩ gs).bind fun r12 => (law25_known n).bind fun r15 => (fun J14 : Bool → Option Bool => bif !r15 then J14 true else bif (r12.2 != 0) then J14 true else bif ((ln r12.1) != (ln gs)) then J14 true else (rank_Inside n ⟨D, ts.map (List.map cutS)⟩ gs).bind fun r16 => J14 ((ln r16) != 0)) fun b13 => bif b13 then some false else law25_RankFlat_L2 n a0 a1 a2 a3 w ⟨D, ts⟩ (ts.map (List.map cutS)) ((ts.length : Nat) : Int) gs r12 b13 0) (fun n => ?_) (Ev.bind hO (Ev.bind known25_ev ?_)))
   ·simp only [law25_RankFlat_L0, ix_ge, cond_false, g1, Option.bind_some, jn]
   ·simp only [Bool.not_true, cond_false, b1, bne_self_eq_false]
    exact Ev.bind hI (last (ts.map (List.map cutS)) _ gs.length 0 rfl (by omega))
  | cons t r ih =>
   intro pre e
   have hp : pre.length + 1 ≤ 1000 := by
    have : ts.length ≤ 4 := okn
    rw [e] at this; simp at this; omega
   have d : decide ((pre.length : Int) < ln ts) = true := by rw [e]; exact ix_lt _ _ _
   have g : idx ts (pre.length : Int) = some t := by rw [e]; exact ix_get _ _ _
   have ht : szSl t ≤ szT ts := by
    rw [e]
    have : ∀ a b : List (List Stmt), szT (a ++ b) = szT a + szT b := by
     intro a b
     induction a with
     | nil => simp [szT]
     | cons x r ih => rw [List.cons_append, szT, szT, ih]; omega
    rw [this, szT]; omega
   have hl := len_Sl t
   have rm : room s_LStmt.i1.bytes (pre.map (List.map cutS)).length [t.map cutS].length = true := room_of (by
    have : s_LStmt.i1.bytes = 24 := rfl
    rw [this]; simp; omega)
   have nx := ih (pre ++ [t]) (by rw [e]; exact ix_cons _ _ _)
   rw [List.map_append] at nx
   have n1 := inner (pre.map (List.map cutS)) (pre.length : Int) t (by omega) (Ev.yes rm (by rw [ix_wr pre t (by omega)]; exact nx)) t [] rfl
   refine Ev.step (Ev.of_eq (fun n => ?_) n1)
   simp only [law25_RankFlat_L0, d, cond_true, g, Option.bind_some]; rfl
 refine Ev.get ?_
 exact Ev.of_eq (g := fun n => (hand_Good n a0 a1 a2 [] 5).bind fun r1 => (law25_read n r1).bind fun r2 => law25_RankFlat_L0 n a0 a1 a2 a3 r1 r2 [] 0) (fun n => by simp only [law25_RankFlat]) (Ev.bind hw (Ev.bind hread (outer ts [] rfl)))
end Go.Su.Ytcadbebhhnggdaa
