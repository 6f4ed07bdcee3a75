/-
  NamesFirst: what its code computes is true.
-/
import Derived.Test.YtfmgnboplbgniaaPlParse
import Derived.Test.YtfmgnboplbgniaaPlShow
import Derived.Test.YtfmgnboplbgniaaRowT
import Derived.KernelRfl
namespace Go.Su.Ytfmgnboplbgniaa
open Go.Mx Go.Proofs
set_option linter.unusedVariables false
set_option linter.unusedSimpArgs false
set_option maxHeartbeats 4000000

set_option maxRecDepth 1000000 in
theorem known8_ev : Ev (fun n => law8_known n) true := by
  refine ⟨100, fun n hn => ?_⟩
  obtain ⟨k, rfl⟩ : ∃ k, n = k + 100 := ⟨n - 100, by omega⟩
  have : ∀ k, law8_known (k + 100) = some true := by intro k; kernel_rfl
  exact this k

/-- How many declarations are read of a program that has no acts. -/
def lens (n : Nat) (x : Int) : Option Int :=
  (hand_Prog n x [] [] [] 1).bind fun r1 => (ref1_Show n r1).bind fun r2 => (law8_read n r2).bind fun r3 => some (ln r3.Decls)

set_option maxRecDepth 1000000 in
theorem lens_0 : ∀ k, lens (k + 300) 0 = some 8 := by intro k; kernel_rfl
set_option maxRecDepth 1000000 in
theorem lens_1 : ∀ k, lens (k + 300) 1 = some 8 := by intro k; kernel_rfl
set_option maxRecDepth 1000000 in
theorem lens_2 : ∀ k, lens (k + 300) 2 = some 8 := by intro k; kernel_rfl
set_option maxRecDepth 1000000 in
theorem lens_3 : ∀ k, lens (k + 300) 3 = some 8 := by intro k; kernel_rfl
set_option maxRecDepth 1000000 in
theorem lens_4 : ∀ k, lens (k + 300) 4 = some 8 := by intro k; kernel_rfl
set_option maxRecDepth 1000000 in
theorem lens_5 : ∀ k, lens (k + 300) 5 = some 8 := by intro k; kernel_rfl
set_option maxRecDepth 1000000 in
theorem lens_6 : ∀ k, lens (k + 300) 6 = some 8 := by intro k; kernel_rfl
set_option maxRecDepth 1000000 in
theorem lens_7 : ∀ k, lens (k + 300) 7 = some 8 := by intro k; kernel_rfl
set_option maxRecDepth 1000000 in
theorem lens_8 : ∀ k, lens (k + 300) 8 = some 8 := by intro k; kernel_rfl
set_option maxRecDepth 1000000 in
theorem lens_9 : ∀ k, lens (k + 300) 9 = some 8 := by intro k; kernel_rfl
set_option maxRecDepth 1000000 in
theorem lens_10 : ∀ k, lens (k + 300) 10 = some 8 := by intro k; kernel_rfl
set_option maxRecDepth 1000000 in
theorem lens_11 : ∀ k, lens (k + 300) 11 = some 8 := by intro k; kernel_rfl
set_option maxRecDepth 1000000 in
theorem lens_12 : ∀ k, lens (k + 300) 12 = some 8 := by intro k; kernel_rfl
set_option maxRecDepth 1000000 in
theorem lens_13 : ∀ k, lens (k + 300) 13 = some 8 := by intro k; kernel_rfl
set_option maxRecDepth 1000000 in
theorem lens_14 : ∀ k, lens (k + 300) 14 = some 8 := by intro k; kernel_rfl
set_option maxRecDepth 1000000 in
theorem lens_15 : ∀ k, lens (k + 300) 15 = some 8 := by intro k; kernel_rfl
set_option maxRecDepth 1000000 in
theorem lens_16 : ∀ k, lens (k + 300) 16 = some 8 := by intro k; kernel_rfl
set_option maxRecDepth 1000000 in
theorem lens_17 : ∀ k, lens (k + 300) 17 = some 8 := by intro k; kernel_rfl
set_option maxRecDepth 1000000 in
theorem lens_18 : ∀ k, lens (k + 300) 18 = some 8 := by intro k; kernel_rfl
set_option maxRecDepth 1000000 in
theorem lens_19 : ∀ k, lens (k + 300) 19 = some 8 := by intro k; kernel_rfl
set_option maxRecDepth 1000000 in
theorem lens_20 : ∀ k, lens (k + 300) 20 = some 8 := by intro k; kernel_rfl

theorem lens_small (x : Nat) (hx : x < 21) : Ev (fun n => lens n (x : Int)) 8 := by
  have all : ∀ k, lens (k + 300) (x : Int) = some 8 := by
    intro k
    match x, hx with
    | 0, _ => exact lens_0 k
    | 1, _ => exact lens_1 k
    | 2, _ => exact lens_2 k
    | 3, _ => exact lens_3 k
    | 4, _ => exact lens_4 k
    | 5, _ => exact lens_5 k
    | 6, _ => exact lens_6 k
    | 7, _ => exact lens_7 k
    | 8, _ => exact lens_8 k
    | 9, _ => exact lens_9 k
    | 10, _ => exact lens_10 k
    | 11, _ => exact lens_11 k
    | 12, _ => exact lens_12 k
    | 13, _ => exact lens_13 k
    | 14, _ => exact lens_14 k
    | 15, _ => exact lens_15 k
    | 16, _ => exact lens_16 k
    | 17, _ => exact lens_17 k
    | 18, _ => exact lens_18 k
    | 19, _ => exact lens_19 k
    | 20, _ => exact lens_20 k
    | y + 21, h => exact absurd h (by omega)
  refine ⟨300, fun n hn => ?_⟩
  obtain ⟨k, rfl⟩ : ∃ k, n = k + 300 := ⟨n - 300, by omega⟩
  exact all k

theorem Decls_eq (n : Nat) (a : Int) : hand_Decls n a = hand_Decls n (a % 3 + 3 * (wr (a.tdiv 3) % 7)) := by
  have q0 := Int.emod_nonneg a (show (3 : Int) ≠ 0 by omega)
  have q1 := Int.emod_lt_of_pos a (show (0 : Int) < 3 by omega)
  have q2 := Int.emod_nonneg (wr (a.tdiv 3)) (show (7 : Int) ≠ 0 by omega)
  have q3 := Int.emod_lt_of_pos (wr (a.tdiv 3)) (show (0 : Int) < 7 by omega)
  have e1 : (a % 3 + 3 * (wr (a.tdiv 3) % 7)) % 3 = a % 3 := by omega
  have e2 : wr ((a % 3 + 3 * (wr (a.tdiv 3) % 7)).tdiv 3) % 7 = wr (a.tdiv 3) % 7 := by
    rw [Int.tdiv_eq_ediv_of_nonneg (by omega), wr_of (by omega)]; omega
  unfold hand_Decls
  rw [pick_eq n _ 3 (by omega) (by omega), pick_eq n _ 7 (by omega) (by omega), pick_eq n (a % 3 + 3 * (wr (a.tdiv 3) % 7)) 3 (by omega) (by omega), e1, pick_eq n (wr ((a % 3 + 3 * (wr (a.tdiv 3) % 7)).tdiv 3)) 7 (by omega) (by omega), e2]

/-- hand_Prog's rounds look at the number no more. -/
theorem Prog_L0_eq (a b : Int) (D : List Decl) (J : List (List Stmt) → Option Prog) : ∀ (n : Nat) (l : List (List Stmt)) (i : Int), hand_Prog_L0 n a [] [] [] 1 D J l i = hand_Prog_L0 n b [] [] [] 1 D J l i
  | 0, _, _ => rfl
  | n + 1, l, i => by
    simp only [hand_Prog_L0]
    simp only [Prog_L0_eq a b D J n]

theorem lens_ev (a : Int) : Ev (fun n => lens n a) 8 := by
  have q0 := Int.emod_nonneg a (show (3 : Int) ≠ 0 by omega)
  have q1 := Int.emod_lt_of_pos a (show (0 : Int) < 3 by omega)
  have q2 := Int.emod_nonneg (wr (a.tdiv 3)) (show (7 : Int) ≠ 0 by omega)
  have q3 := Int.emod_lt_of_pos (wr (a.tdiv 3)) (show (0 : Int) < 7 by omega)
  obtain ⟨x, hx⟩ : ∃ x : Nat, a % 3 + 3 * (wr (a.tdiv 3) % 7) = x := ⟨(a % 3 + 3 * (wr (a.tdiv 3) % 7)).toNat, by omega⟩
  refine Ev.of_eq (fun n => ?_) (lens_small x (by omega))
  have e : hand_Prog n a [] [] [] 1 = hand_Prog n (x : Int) [] [] [] 1 := by
    unfold hand_Prog
    rw [Decls_eq n a, hx]
    congr 1; funext D
    unfold jn
    exact Prog_L0_eq _ _ _ _ _ _ _
  show lens n a = lens n (x : Int)
  unfold lens
  rw [e]

theorem turned_L0 (p : Prog) (ts : List (List Stmt)) (a1 : List Int) (hl1 : a1.length ≤ 9223372036854775807) : ∀ (rest pre : List Int), a1 = pre ++ rest → ∀ D : List Decl, D.length ≤ 1000 →
    ∃ D', Ev (fun n => law8_turned_L0 n p a1 (fun l2 => some ⟨l2, ts⟩) D pre.length) ⟨D', ts⟩ ∧ D'.length = D.length
  | [], pre, e, D, hD => by
    rw [List.append_nil] at e
    have l1 : decide ((pre.length : Int) < ln a1) = false := by rw [e]; exact ix_ge _
    exact ⟨D, Ev.step (Ev.of_eq (g := fun n => some ⟨D, ts⟩) (fun n => by simp only [law8_turned_L0, l1, cond_false]) (Ev.ret _)), rfl⟩
  | x :: rest, pre, e, D, hD => by
    have hpl : pre.length + 1 ≤ a1.length := by rw [e]; simp
    have l1 : decide ((pre.length : Int) < ln a1) = true := by rw [e]; exact ix_lt _ _ _
    have l2 : idx a1 (pre.length : Int) = some x := by rw [e]; exact ix_get _ _ _
    have hw := ix_wr pre x (by omega)
    by_cases hi : pre.length < D.length
    case neg =>
      have d1 : decide ((pre.length : Int) ≥ ln D) = true := decide_eq_true (by show (pre.length : Int) ≥ (D.length : Int); omega)
      exact ⟨D, Ev.step (Ev.of_eq (g := fun n => some ⟨D, ts⟩) (fun n => by simp only [law8_turned_L0, l1, l2, cond_true, Option.bind_some, d1]) (Ev.ret _)), rfl⟩
    have d1 : decide ((pre.length : Int) ≥ ln D) = false := decide_eq_false (by show ¬ (pre.length : Int) ≥ (D.length : Int); omega)
    have p9 : ∀ n, hand_Pick n x 9 = some (x % 9) := fun n => pick_eq n _ 9 (by omega) (by omega)
    have p6 : ∀ n, hand_Pick n (wr (x.tdiv 9)) 6 = some (wr (x.tdiv 9) % 6) := fun n => pick_eq n _ 6 (by omega) (by omega)
    have hln : ln D = (D.length : Int) := rfl
    have pD : ∀ n, hand_Pick n (wr (x.tdiv 9)) (ln D) = some (wr (x.tdiv 9) % (D.length : Int)) := fun n => pick_eq n _ _ (by rw [hln]; omega) (by rw [hln]; omega)
    have q0 := Int.emod_nonneg (wr (x.tdiv 9)) (show (D.length : Int) ≠ 0 by omega)
    have q1 := Int.emod_lt_of_pos (wr (x.tdiv 9)) (show (0 : Int) < (D.length : Int) by omega)
    obtain ⟨q, hq⟩ : ∃ q : Nat, wr (x.tdiv 9) % (D.length : Int) = q := ⟨(wr (x.tdiv 9) % (D.length : Int)).toNat, by omega⟩
    have iD : idx D (pre.length : Int) = some D[pre.length] := idx_of (by omega) (by rw [Int.toNat_natCast]; exact List.getElem?_eq_getElem hi)
    have hqlt : q < D.length := by omega
    have iQ : idx D (q : Int) = some D[q] := idx_of (by omega) (by rw [Int.toNat_natCast]; exact List.getElem?_eq_getElem hqlt)
    -- the rest of a round
    have fin : ∀ l8 : List Decl, l8.length = D.length → ∃ D', Ev (fun n => (idx l8 (pre.length : Int)).bind fun x16 => law8_turned_L0 n p a1 (fun l2 => some ⟨l2, ts⟩) (l8.set (pre.length : Int).toNat (Decl.mk x16.Kind x16.Name x16.N (⟨FloatKind.f64.nearest ((pre ++ [x]).length : Int), 4607182418800017408⟩ : Cx))) ((pre ++ [x]).length)) ⟨D', ts⟩ ∧ D'.length = D.length := by
      intro l8 hl8
      have i8 : idx l8 (pre.length : Int) = some (l8[pre.length]'(by omega)) := idx_of (by omega) (by rw [Int.toNat_natCast]; exact List.getElem?_eq_getElem (by omega))
      obtain ⟨D', m1, m2⟩ := turned_L0 p ts a1 hl1 rest (pre ++ [x]) (by rw [e]; exact ix_cons _ _ _) (l8.set pre.length (Decl.mk (l8[pre.length]'(by omega)).Kind (l8[pre.length]'(by omega)).Name (l8[pre.length]'(by omega)).N (⟨FloatKind.f64.nearest ((pre ++ [x]).length : Int), 4607182418800017408⟩ : Cx))) (by simp; omega)
      exact ⟨D', Ev.opt i8 m1, m2.trans (by simp [hl8])⟩
    have lift : ∀ (G : Nat → Option Prog), (∃ D', Ev G ⟨D', ts⟩ ∧ D'.length = D.length) → (∀ n, law8_turned_L0 (n + 1) p a1 (fun l2 => some ⟨l2, ts⟩) D pre.length = G n) → ∃ D', Ev (fun n => law8_turned_L0 n p a1 (fun l2 => some ⟨l2, ts⟩) D pre.length) ⟨D', ts⟩ ∧ D'.length = D.length :=
      fun G ⟨D', k1, k2⟩ hG => ⟨D', Ev.step (Ev.of_eq hG k1), k2⟩
    cases c6 : (x % 9 == 6)
    · cases c7 : (x % 9 == 7)
      · cases c8 : (x % 9 == 8)
        · refine lift _ (fin D rfl) fun n => ?_
          simp only [law8_turned_L0, l1, l2, cond_true, cond_false, Option.bind_some, d1, p9, jn, c6, c7, c8, hw]
        · refine lift _ (fin (D.set (pre.length : Int).toNat ⟨D[pre.length].Kind, k_other, D[pre.length].N, D[pre.length].At⟩) (by simp)) fun n => ?_
          simp only [law8_turned_L0, l1, l2, cond_true, cond_false, Option.bind_some, d1, p9, jn, c6, c7, c8, hw, iD]
      · refine lift _ (fin (D.set (pre.length : Int).toNat ⟨D[pre.length].Kind, D[q].Name, D[pre.length].N, D[pre.length].At⟩) (by simp)) fun n => ?_
        simp only [law8_turned_L0, l1, l2, cond_true, cond_false, Option.bind_some, d1, p9, jn, c6, c7, hw, pD, hq, iQ, iD]
    · refine lift _ (fin (D.set (pre.length : Int).toNat ⟨wr (1 + wr (x.tdiv 9) % 6), D[pre.length].Name, D[pre.length].N, D[pre.length].At⟩) (by simp)) fun n => ?_
      simp only [law8_turned_L0, l1, l2, cond_true, cond_false, Option.bind_some, d1, p9, jn, c6, hw, p6, iD]

theorem turned_ev (D : List Decl) (ts : List (List Stmt)) (a1 : List Int) (hl1 : a1.length ≤ 9223372036854775807) (hD : D.length ≤ 1000) : ∃ D', Ev (fun n => law8_turned n ⟨D, ts⟩ a1) ⟨D', ts⟩ ∧ D'.length = D.length := by
  have hr : room s_Decl.i1.bytes ([] : List Decl).length D.length = true := room_of (by
    have : s_Decl.i1.bytes = 48 := rfl
    rw [this]; simp only [List.length_nil]; omega)
  obtain ⟨D', m1, m2⟩ := turned_L0 ⟨D, ts⟩ ts a1 hl1 a1 [] rfl D hD
  exact ⟨D', Ev.of_eq (fun n => by simp only [law8_turned, hr, cond_true, jn, List.nil_append]; rfl) m1, m2⟩

def fnd : Nat → List Decl → ByteArray → Int
  | _, [], _ => -1
  | i, d :: r, w => if bytesEq d.Name w = true then (i : Int) else fnd (i + 1) r w

theorem bytesEq_self (a : ByteArray) : bytesEq a a = true := by rw [bytesEq_eq]; simp

theorem fnd_spec : ∀ (l : List Decl) (i : Nat) (w : ByteArray), (fnd i l w = -1 ∧ ∀ d ∈ l, bytesEq d.Name w = false) ∨ ∃ (k : Nat) (hk : k < l.length), fnd i l w = ((i + k : Nat) : Int) ∧ bytesEq l[k].Name w = true ∧ ∀ (j : Nat) (hj : j < k), bytesEq (l[j]'(by omega)).Name w = false
  | [], i, w => .inl ⟨rfl, fun d h => by simp at h⟩
  | d :: r, i, w => by
    rw [fnd]
    split
    · rename_i h
      exact .inr ⟨0, by simp, rfl, by simpa using h, fun j hj => absurd hj (by omega)⟩
    · rename_i h
      rcases fnd_spec r (i + 1) w with ⟨h1, h2⟩ | ⟨k, hk, h1, h2, h3⟩
      · refine .inl ⟨h1, fun x hx => ?_⟩
        rcases List.mem_cons.1 hx with rfl | hx
        · simpa using h
        · exact h2 x hx
      · refine .inr ⟨k + 1, by simp; omega, by rw [h1]; omega, by simpa using h2, fun j hj => ?_⟩
        match j, hj with
        | 0, _ => simpa using h
        | j + 1, hj => simpa using h3 j (by omega)

theorem tfind_L0 (w : ByteArray) : ∀ (l pre : List Decl), (pre ++ l).length ≤ 1000000 → Ev (fun n => IndexFunc_Decl_fnames_Find_1_L0 n (pre ++ l) w pre.length) (fnd pre.length l w)
  | [], pre, h => Ev.step (Ev.of_eq (g := fun n => some (-1)) (fun n => by simp only [IndexFunc_Decl_fnames_Find_1_L0, List.append_nil, ix_ge, cond_false]) (Ev.ret _))
  | d :: r, pre, h => by
    have hp : pre.length + 1 ≤ 1000000 := by simp at h; omega
    rw [fnd]
    cases hb : bytesEq d.Name w
    · have nx := tfind_L0 w r (pre ++ [d]) (by rw [← ix_cons]; exact h)
      refine Ev.step (Ev.of_eq (fun n => ?_) (by simpa using nx))
      simp only [IndexFunc_Decl_fnames_Find_1_L0, ix_lt, ix_get, cond_true, Option.bind_some, names_Find_1, hb, cond_false]
      rw [ix_wr pre d (by omega)]; simp
    · refine Ev.step (Ev.of_eq (g := fun n => some (pre.length : Int)) (fun n => ?_) (by simpa using Ev.ret _))
      simp only [IndexFunc_Decl_fnames_Find_1_L0, ix_lt, ix_get, cond_true, Option.bind_some, names_Find_1, hb]
theorem tfind_ev (D : List Decl) (ts : List (List Stmt)) (w : ByteArray) (h : D.length ≤ 1000000) : Ev (fun n => names_Find n ⟨D, ts⟩ w) (fnd 0 D w) :=
  Ev.of_eq (g := fun n => (IndexFunc_Decl_fnames_Find_1_L0 n D w 0).bind fun r1 => some r1) (fun n => by simp only [names_Find, IndexFunc_Decl_fnames_Find_1]) (Ev.bind (tfind_L0 w D [] (by simpa using h)) (Ev.ret _))

/-- The rounds over those ahead. -/
theorem first_L1 (a0 : Int) (a1 : List Int) (a2 : Int) (r1 : Prog) (r2 : ByteArray) (r3 : Prog) (D : List Decl) (ts : List (List Stmt)) (i5 : Int) (x6 : Decl) (k : Nat) (hk : k < D.length) (hD : D.length ≤ 1000)
    (h3 : ∀ (j : Nat) (hj : j < k), bytesEq (D[j]'(by omega)).Name x6.Name = false) (next : Ev (fun n => law8_NamesFirst_L0 n a0 a1 a2 r1 r2 r3 ⟨D, ts⟩ (wr (i5 + 1))) true) :
    ∀ (m j : Nat), k - j ≤ m → j ≤ k → Ev (fun n => law8_NamesFirst_L1 n a0 a1 a2 r1 r2 r3 ⟨D, ts⟩ i5 x6 (k : Int) false (j : Int)) true
  | 0, j, h1, h2 => by
    have d1 : decide ((j : Int) < (k : Int)) = false := decide_eq_false (by omega)
    exact Ev.step (Ev.of_eq (fun n => by simp only [law8_NamesFirst_L1, d1, cond_false]) next)
  | m + 1, j, h1, h2 => by
    by_cases hj : j < k
    · have d1 : decide ((j : Int) < (k : Int)) = true := decide_eq_true (by omega)
      have i1 : idx D (j : Int) = some (D[j]'(by omega)) := idx_of (by omega) (by rw [Int.toNat_natCast]; exact List.getElem?_eq_getElem (by omega))
      have e3 : wr ((j : Int) + 1) = ((j + 1 : Nat) : Int) := by rw [wr_of (by omega)]; rfl
      refine Ev.step (Ev.of_eq (fun n => ?_) (first_L1 a0 a1 a2 r1 r2 r3 D ts i5 x6 k hk hD h3 next m (j + 1) (by omega) (by omega)))
      simp only [law8_NamesFirst_L1, d1, cond_true, i1, Option.bind_some, h3 j hj, cond_false, e3]
    · exact first_L1 a0 a1 a2 r1 r2 r3 D ts i5 x6 k hk hD h3 next m j (by omega) (by omega)

theorem law8_NamesFirst_true (a0 : Int) (a1 : List Int) (a2 : Int) (h0 : okInt .i64 a0) (h1 : okInts a1) (h2 : okInt .i64 a2) : ∃ n, law8_NamesFirst n a0 a1 a2 = some true := by
  obtain ⟨D, ts, hp, oD, ots, hlen⟩ := prog_ev a0 [] [] [] 1 (by omega)
  obtain ⟨oSD, oSn⟩ := okSD_of oD
  obtain ⟨w, hw⟩ := Show_ev D ts oSD oSn (fun t ht => ⟨2, (ots t ht).1, by have := (ots t ht).2; omega⟩) (by omega)
  obtain ⟨⟨D1, ts1⟩, i, e, hpar, ok1⟩ := parse_ev w
  have hread : Ev (fun n => law8_read n w) ⟨D1, ts1⟩ := Ev.of_eq (g := fun n => (ref1_Parse n w).bind fun r1 => some r1.1) (fun n => by simp only [law8_read]) (Ev.bind hpar (Ev.ret _))
  have hl8 : ln D1 = 8 := by
    have m : Ev (fun n => lens n a0) (ln D1) := Ev.of_eq (g := fun n => (hand_Prog n a0 [] [] [] 1).bind fun r1 => (ref1_Show n r1).bind fun r2 => (law8_read n r2).bind fun r3 => some (ln r3.Decls)) (fun n => rfl) (Ev.bind hp (Ev.bind hw (Ev.bind hread (Ev.ret _))))
    exact Ev.unique m (lens_ev a0)
  have hD1 : D1.length = 8 := by
    have : (D1.length : Int) = 8 := hl8
    omega
  have hmax : maxLen = 9223372036854775807 := rfl
  have h4l := h1.1
  rw [hmax] at h4l
  obtain ⟨D2, ht, hD2⟩ := turned_ev D1 ts1 a1 h4l (by omega)
  have hL : D2.length = 8 := by omega
  have hln : ln D2 = 8 := by show (D2.length : Int) = 8; omega
  have b8 : (ln D2 == 0) = false := by rw [hln]; rfl
  refine Ev.get ?_
  refine Ev.of_eq (g := fun n => (hand_Prog n a0 [] [] [] 1).bind fun r1 => (ref1_Show n r1).bind fun r2 => (law8_read n r2).bind fun r3 => (law8_turned n r3 a1).bind fun r4 => bif ((ln r4.Decls) == 0) then some false else law8_NamesFirst_L0 n a0 a1 a2 r1 r2 r3 r4 0) (fun n => by simp only [law8_NamesFirst]) ?_
  refine Ev.bind hp (Ev.bind hw (Ev.bind hread (Ev.bind ht (Ev.no b8 ?_))))
  have loop : ∀ (j : Nat) (i5 : Nat), 8 - i5 ≤ j → i5 ≤ 8 → Ev (fun n => law8_NamesFirst_L0 n a0 a1 a2 ⟨D, ts⟩ w ⟨D1, ts1⟩ ⟨D2, ts1⟩ (i5 : Int)) true := by
    intro j
    induction j with
    | zero =>
      intro i5 hj hi
      have : i5 = 8 := by omega
      subst this
      have d1 : decide (((8 : Nat) : Int) < ln D2) = false := decide_eq_false (by rw [hln]; omega)
      have p8 : ∀ n, hand_Pick n a2 (ln D2) = some (a2 % 8) := fun n => by rw [hln]; exact pick_eq n _ 8 (by omega) (by omega)
      have q0 := Int.emod_nonneg a2 (show (8 : Int) ≠ 0 by omega)
      have q1 := Int.emod_lt_of_pos a2 (show (0 : Int) < 8 by omega)
      obtain ⟨q, hq⟩ : ∃ q : Nat, a2 % 8 = q := ⟨(a2 % 8).toNat, by omega⟩
      have hs : sub D2 (q : Int) (ln D2) = some (D2.drop q) := by
        rw [show ln D2 = ((D2.length : Nat) : Int) from rfl, sub_of (by omega) (Nat.le_refl _)]
        rw [List.take_of_length_le (by simp)]
      obtain ⟨d, r, hd⟩ : ∃ d r, D2.drop q = d :: r := by
        cases h : D2.drop q with
        | nil => have := congrArg List.length h; simp at this; omega
        | cons d r => exact ⟨d, r, rfl⟩
      rw [hd] at hs
      have i0 : idx (d :: r) 0 = some d := rfl
      have hlr : (d :: r).length ≤ 1000000 := by rw [← hd]; simp; omega
      have f1 := tfind_ev (d :: r) ts1 d.Name hlr
      have f2 := tfind_ev [] [] k_x (by simp)
      rw [fnd, if_pos (bytesEq_self _)] at f1
      rw [fnd] at f2
      have n1 : ((-1 : Int) == -1) = true := rfl
      have g1 : Ev (fun n => (names_Find n ⟨d :: r, ts1⟩ d.Name).bind fun r20 => some (r20 == 0)) true := Ev.bind f1 (Ev.ret _)
      refine Ev.step (Ev.of_eq (g := fun n => (law8_known n).bind fun r17 => bif r17 then ((names_Find n (Prog.mk [] []) k_x).bind fun r18 => bif (r18 == (-1)) then ((names_Find n ⟨d :: r, ts1⟩ d.Name).bind fun r20 => some (r20 == 0)) else some false) else some false) (fun n => ?_) (Ev.bind known8_ev (Ev.yes rfl (Ev.bind f2 (Ev.yes n1 g1)))))
      simp only [law8_NamesFirst_L0, d1, cond_false, p8, hq, Option.bind_some, hs, jn, i0]
    | succ j ih =>
      intro i5 hj hi
      by_cases hlt : i5 < 8
      · have d1 : decide ((i5 : Int) < ln D2) = true := decide_eq_true (by rw [hln]; omega)
        have i1 : idx D2 (i5 : Int) = some (D2[i5]'(by omega)) := idx_of (by omega) (by rw [Int.toNat_natCast]; exact List.getElem?_eq_getElem (by omega))
        have e3 : wr ((i5 : Int) + 1) = ((i5 + 1 : Nat) : Int) := by rw [wr_of (by omega)]; rfl
        have next := ih (i5 + 1) (by omega) (by omega)
        rw [← e3] at next
        have f1 := tfind_ev D2 ts1 (D2[i5]'(by omega)).Name (by omega)
        rcases fnd_spec D2 0 (D2[i5]'(by omega)).Name with ⟨_, h⟩ | ⟨k, hk, k1, k2, k3⟩
        · have := h _ (List.getElem_mem (show i5 < D2.length by omega))
          rw [bytesEq_self] at this; cases this
        have hki : k ≤ i5 := by
          apply Classical.byContradiction; intro hc
          have := k3 i5 (by omega)
          rw [bytesEq_self] at this; cases this
        rw [k1, Nat.zero_add] at f1
        have m := first_L1 a0 a1 a2 ⟨D, ts⟩ w ⟨D1, ts1⟩ D2 ts1 (i5 : Int) (D2[i5]'(by omega)) k hk (by omega) k3 next k 0 (by omega) (by omega)
        have d2 : decide ((k : Int) < 0) = false := decide_eq_false (by omega)
        have d3 : decide ((k : Int) > (i5 : Int)) = false := decide_eq_false (by omega)
        have i2 : idx D2 (k : Int) = some D2[k] := idx_of (by omega) (by rw [Int.toNat_natCast]; exact List.getElem?_eq_getElem hk)
        refine Ev.step (Ev.of_eq (fun n => ?_) (Ev.bind f1 (g := fun n r7 => jn (fun (b8 : Bool) => bif b8 then some false else law8_NamesFirst_L1 n a0 a1 a2 ⟨D, ts⟩ w ⟨D1, ts1⟩ ⟨D2, ts1⟩ (i5 : Int) (D2[i5]'(by omega)) r7 b8 0) fun J9 => bif decide (r7 < 0) then J9 true else bif decide (r7 > (i5 : Int)) then J9 true else (idx D2 r7).bind fun x10 => J9 (!bytesEq x10.Name (D2[i5]'(by omega)).Name)) (Ev.of_eq (fun n => ?_) m)))
        · simp only [law8_NamesFirst_L0, d1, cond_true, i1, Option.bind_some]
        · simp only [jn, d2, d3, cond_false, i2, Option.bind_some, k2, Bool.not_true]
          rfl
      · exact ih i5 (by omega) hi
  exact loop 8 0 (by omega) (by omega)

end Go.Su.Ytfmgnboplbgniaa
