/-
  NamesTells: what its code computes is true.
-/
import Derived.Test.YtfmgnboplbgniaaPlNames
import Derived.Test.YtfmgnboplbgniaaPlShow
import Derived.Test.YtfmgnboplbgniaaRowT
namespace Go.Su.Ytfmgnboplbgniaa
open Go.Mx Go.Proofs
set_option linter.unusedVariables false
set_option linter.unusedSimpArgs false
set_option maxHeartbeats 4000000

set_option maxRecDepth 1000000 in
theorem known8_ev : Ev (fun n => law8_known n) true := by
  refine ⟨100, fun n hn => ?_⟩
  obtain ⟨k, rfl⟩ : ∃ k, n = k + 100 := ⟨n - 100, by omega⟩
  have : ∀ k, law8_known (k + 100) = some true := by intro k; kernel_rfl
  exact this k

theorem one_f : FloatKind.f64.nearest ((1 : Nat) : Int) = 4607182418800017408 := by kernel_rfl

theorem turned_L0 (p : Prog) (ts : List (List Stmt)) (a1 : List Int) (hl1 : a1.length ≤ 9223372036854775807) : ∀ (rest pre : List Int), a1 = pre ++ rest → ∀ D : List Decl, D.length ≤ 1000 → (∀ d ∈ D, okA d.At) →
    ∃ D', Ev (fun n => law8_turned_L0 n p a1 (fun l2 => some ⟨l2, ts⟩) D pre.length) ⟨D', ts⟩ ∧ D'.length ≤ 1000 ∧ ∀ d ∈ D', okA d.At
  | [], pre, e, D, hD, hA => by
    rw [List.append_nil] at e
    have l1 : decide ((pre.length : Int) < ln a1) = false := by rw [e]; exact ix_ge _
    exact ⟨D, Ev.step (Ev.of_eq (g := fun n => some ⟨D, ts⟩) (fun n => by simp only [law8_turned_L0, l1, cond_false]) (Ev.ret _)), hD, hA⟩
  | x :: rest, pre, e, D, hD, hA => by
    have hpl : pre.length + 1 ≤ a1.length := by rw [e]; simp
    have l1 : decide ((pre.length : Int) < ln a1) = true := by rw [e]; exact ix_lt _ _ _
    have l2 : idx a1 (pre.length : Int) = some x := by rw [e]; exact ix_get _ _ _
    have hw := ix_wr pre x (by omega)
    by_cases hi : pre.length < D.length
    case neg =>
      have d1 : decide ((pre.length : Int) ≥ ln D) = true := decide_eq_true (by show (pre.length : Int) ≥ (D.length : Int); omega)
      exact ⟨D, Ev.step (Ev.of_eq (g := fun n => some ⟨D, ts⟩) (fun n => by simp only [law8_turned_L0, l1, l2, cond_true, Option.bind_some, d1]) (Ev.ret _)), hD, hA⟩
    have d1 : decide ((pre.length : Int) ≥ ln D) = false := decide_eq_false (by show ¬ (pre.length : Int) ≥ (D.length : Int); omega)
    have p9 : ∀ n, hand_Pick n x 9 = some (x % 9) := fun n => pick_eq n _ 9 (by omega) (by omega)
    have p6 : ∀ n, hand_Pick n (wr (x.tdiv 9)) 6 = some (wr (x.tdiv 9) % 6) := fun n => pick_eq n _ 6 (by omega) (by omega)
    have hln : ln D = (D.length : Int) := rfl
    have pD : ∀ n, hand_Pick n (wr (x.tdiv 9)) (ln D) = some (wr (x.tdiv 9) % (D.length : Int)) := fun n => pick_eq n _ _ (by rw [hln]; omega) (by rw [hln]; omega)
    have q0 := Int.emod_nonneg (wr (x.tdiv 9)) (show (D.length : Int) ≠ 0 by omega)
    have q1 := Int.emod_lt_of_pos (wr (x.tdiv 9)) (show (0 : Int) < (D.length : Int) by omega)
    obtain ⟨q, hq⟩ : ∃ q : Nat, wr (x.tdiv 9) % (D.length : Int) = q := ⟨(wr (x.tdiv 9) % (D.length : Int)).toNat, by omega⟩
    have iD : idx D (pre.length : Int) = some D[pre.length] := idx_of (by omega) (by rw [Int.toNat_natCast]; exact List.getElem?_eq_getElem hi)
    have hqlt : q < D.length := by omega
    have iQ : idx D (q : Int) = some D[q] := idx_of (by omega) (by rw [Int.toNat_natCast]; exact List.getElem?_eq_getElem hqlt)
    -- the rest of a round
    have fin : ∀ l8 : List Decl, l8.length = D.length → (∀ d ∈ l8, okA d.At) → ∃ D', Ev (fun n => (idx l8 (pre.length : Int)).bind fun x16 => law8_turned_L0 n p a1 (fun l2 => some ⟨l2, ts⟩) (l8.set (pre.length : Int).toNat (Decl.mk x16.Kind x16.Name x16.N (⟨FloatKind.f64.nearest ((pre ++ [x]).length : Int), 4607182418800017408⟩ : Cx))) ((pre ++ [x]).length)) ⟨D', ts⟩ ∧ D'.length ≤ 1000 ∧ ∀ d ∈ D', okA d.At := by
      intro l8 hl8 hA8
      have i8 : idx l8 (pre.length : Int) = some (l8[pre.length]'(by omega)) := idx_of (by omega) (by rw [Int.toNat_natCast]; exact List.getElem?_eq_getElem (by omega))
      obtain ⟨D', m1, m2⟩ := turned_L0 p ts a1 hl1 rest (pre ++ [x]) (by rw [e]; exact ix_cons _ _ _) (l8.set pre.length (Decl.mk (l8[pre.length]'(by omega)).Kind (l8[pre.length]'(by omega)).Name (l8[pre.length]'(by omega)).N (⟨FloatKind.f64.nearest ((pre ++ [x]).length : Int), 4607182418800017408⟩ : Cx))) (by simp; omega) (fun d hd => by
        rcases List.mem_or_eq_of_mem_set hd with h | h
        · exact hA8 d h
        · subst h
          exact ⟨(pre ++ [x]).length, 1, by simp; omega, by omega, by rw [one_f]⟩)
      exact ⟨D', Ev.opt i8 m1, m2⟩
    have lift : ∀ (G : Nat → Option Prog), (∃ D', Ev G ⟨D', ts⟩ ∧ D'.length ≤ 1000 ∧ ∀ d ∈ D', okA d.At) → (∀ n, law8_turned_L0 (n + 1) p a1 (fun l2 => some ⟨l2, ts⟩) D pre.length = G n) → ∃ D', Ev (fun n => law8_turned_L0 n p a1 (fun l2 => some ⟨l2, ts⟩) D pre.length) ⟨D', ts⟩ ∧ D'.length ≤ 1000 ∧ ∀ d ∈ D', okA d.At :=
      fun G ⟨D', k1, k2⟩ hG => ⟨D', Ev.step (Ev.of_eq hG k1), k2⟩
    have setA : ∀ d' : Decl, okA d'.At → ∀ d ∈ D.set (pre.length : Int).toNat d', okA d.At := fun d' h d hd => by
      rcases List.mem_or_eq_of_mem_set hd with h' | h'
      · exact hA d h'
      · subst h'; exact h
    have hAi := hA _ (List.getElem_mem hi)
    cases c6 : (x % 9 == 6)
    · cases c7 : (x % 9 == 7)
      · cases c8 : (x % 9 == 8)
        · refine lift _ (fin D rfl hA) fun n => ?_
          simp only [law8_turned_L0, l1, l2, cond_true, cond_false, Option.bind_some, d1, p9, jn, c6, c7, c8, hw]
        · refine lift _ (fin (D.set (pre.length : Int).toNat ⟨D[pre.length].Kind, k_other, D[pre.length].N, D[pre.length].At⟩) (by simp) (setA _ hAi)) fun n => ?_
          simp only [law8_turned_L0, l1, l2, cond_true, cond_false, Option.bind_some, d1, p9, jn, c6, c7, c8, hw, iD]
      · refine lift _ (fin (D.set (pre.length : Int).toNat ⟨D[pre.length].Kind, D[q].Name, D[pre.length].N, D[pre.length].At⟩) (by simp) (setA _ hAi)) fun n => ?_
        simp only [law8_turned_L0, l1, l2, cond_true, cond_false, Option.bind_some, d1, p9, jn, c6, c7, hw, pD, hq, iQ, iD]
    · refine lift _ (fin (D.set (pre.length : Int).toNat ⟨wr (1 + wr (x.tdiv 9) % 6), D[pre.length].Name, D[pre.length].N, D[pre.length].At⟩) (by simp) (setA _ hAi)) fun n => ?_
      simp only [law8_turned_L0, l1, l2, cond_true, cond_false, Option.bind_some, d1, p9, jn, c6, hw, p6, iD]

theorem turned_ev (D : List Decl) (ts : List (List Stmt)) (a1 : List Int) (hl1 : a1.length ≤ 9223372036854775807) (hD : D.length ≤ 1000) (hA : ∀ d ∈ D, okA d.At) : ∃ D', Ev (fun n => law8_turned n ⟨D, ts⟩ a1) ⟨D', ts⟩ ∧ D'.length ≤ 1000 ∧ ∀ d ∈ D', okA d.At := by
  have hr : room s_Decl.i1.bytes ([] : List Decl).length D.length = true := room_of (by
    have : s_Decl.i1.bytes = 48 := rfl
    rw [this]; simp only [List.length_nil]; omega)
  obtain ⟨D', m1, m2⟩ := turned_L0 ⟨D, ts⟩ ts a1 hl1 a1 [] rfl D hD hA
  exact ⟨D', Ev.of_eq (fun n => by simp only [law8_turned, hr, cond_true, jn, List.nil_append]; rfl) m1, m2⟩

theorem law8_NamesTells_true (a0 : Int) (a1 a2 a3 : List Act) (a4 : List Int) (a5 : ByteArray) (a6 : Int) (h0 : okInt .i64 a0) (h1 : okActs a1) (h2 : okActs a2) (h3 : okActs a3) (h4 : okInts a4) (h5 : okStr a5) (h6 : okInt .i64 a6) : ∃ n, law8_NamesTells n a0 a1 a2 a3 a4 a5 a6 = some true := by
  obtain ⟨D, ts, hp, oD, ots, hlen⟩ := prog_ev a0 a1 a2 a3 4 (by omega)
  obtain ⟨oSD, oSn⟩ := okSD_of oD
  obtain ⟨w, hw⟩ := Show_ev D ts oSD oSn (fun t ht => ⟨2, (ots t ht).1, by have := (ots t ht).2; omega⟩) (by omega)
  obtain ⟨⟨D1, ts1⟩, i, e, hpar, ok1⟩ := parse_ev w
  obtain ⟨okD1, okn1, okz1, okw1⟩ := ok1
  simp only at okD1 okn1 okz1 okw1
  have hmax : maxLen = 9223372036854775807 := rfl
  have h4l := h4.1
  rw [hmax] at h4l
  obtain ⟨D2, ht, hD2, hA2⟩ := turned_ev D1 ts1 a4 h4l (by have := okD1.1; omega) (fun d hd => (okD1.2 d hd).1)
  obtain ⟨z, er, c1, c2, c3⟩ := check_ev D2 ts1 (by omega) hA2 (by omega) okw1
  have hread : Ev (fun n => law8_read n w) ⟨D1, ts1⟩ := Ev.of_eq (g := fun n => (ref1_Parse n w).bind fun r1 => some r1.1) (fun n => by simp only [law8_read]) (Ev.bind hpar (Ev.ret _))
  have p9 : ∀ n, hand_Pick n a6 9 = some (a6 % 9) := fun n => pick_eq n _ 9 (by omega) (by omega)
  have hsame : ((FloatKind.f64.format.order z.re z.re == some .eq) && (FloatKind.f64.format.order z.im z.im == some .eq)) = true := sameAt_self c3
  refine Ev.get ?_
  refine Ev.of_eq (g := fun n => (hand_Prog n a0 a1 a2 a3 4).bind fun r1 => (ref1_Show n r1).bind fun r2 => (law8_read n r2).bind fun r3 => (law8_turned n r3 a4).bind fun r4 => (names_Check n r4).bind fun r5 => (ref8_Names n r4).bind fun r6 => (hand_Pick n a6 9).bind fun r7 => law8_NamesTells_L0 n a0 a1 a2 a3 a4 a5 a6 r1 r2 r3 r4 r5 r6 r7 0) (fun n => by simp only [law8_NamesTells]) ?_
  refine Ev.bind hp (Ev.bind hw (Ev.bind hread (Ev.bind ht (Ev.bind c1 (Ev.bind c2 ?_)))))
  simp only [p9, Option.bind_some]
  have loop : ∀ (j : Nat) (i8 : Nat), 4 - i8 ≤ j → i8 ≤ 4 → Ev (fun n => law8_NamesTells_L0 n a0 a1 a2 a3 a4 a5 a6 ⟨D, ts⟩ w ⟨D1, ts1⟩ ⟨D2, ts1⟩ (z, er) (z, er) (a6 % 9) (i8 : Int)) true := by
    intro j
    induction j with
    | zero =>
      intro i8 hj hi
      have : i8 = 4 := by omega
      subst this
      refine Ev.step (Ev.of_eq (g := fun n => (law8_known n).bind fun r14 => bif r14 then some true else some false) (fun n => ?_) (Ev.bind known8_ev (Ev.ret _)))
      have d4 : decide (((4 : Nat) : Int) < 4) = false := rfl
      have e1 : (er == er) = true := by simp
      have e2 : (shd (wr (a6 % 9 - 1)) == shd (wr (a6 % 9 - 1))) = true := by simp
      simp only [law8_NamesTells_L0, d4, cond_false, jn, hsame, cond_true, e1, tshared, rshared, Option.bind_some, e2]
    | succ j ih =>
      intro i8 hj hi
      by_cases hlt : i8 < 4
      · have d1 : decide ((i8 : Int) < 4) = true := decide_eq_true (by omega)
        obtain ⟨x, hx⟩ : ∃ x, idx [a5, k_x, k_other, k_c] (i8 : Int) = some x := ⟨_, idx_of (by omega) (by rw [Int.toNat_natCast]; exact List.getElem?_eq_getElem (by simpa using hlt))⟩
        have e3 : wr ((i8 : Int) + 1) = ((i8 + 1 : Nat) : Int) := by rw [wr_of (by omega)]; rfl
        have e4 : (fnd 0 D2 x != fnd 0 D2 x) = false := by simp
        refine Ev.step (Ev.of_eq (g := fun n => (names_Find n ⟨D2, ts1⟩ x).bind fun r10 => (ref8_Find n ⟨D2, ts1⟩ x).bind fun r11 => bif (r10 != r11) then some false else law8_NamesTells_L0 n a0 a1 a2 a3 a4 a5 a6 ⟨D, ts⟩ w ⟨D1, ts1⟩ ⟨D2, ts1⟩ (z, er) (z, er) (a6 % 9) ((i8 + 1 : Nat) : Int)) (fun n => ?_) (Ev.bind (tfind_ev D2 ts1 x (by omega)) (Ev.bind (rfind_ev D2 ts1 x (by omega)) (Ev.no e4 (ih (i8 + 1) (by omega) (by omega))))))
        simp only [law8_NamesTells_L0, d1, cond_true, hx, Option.bind_some, e3]
      · exact ih i8 (by omega) hi
  exact loop 4 0 (by omega) (by omega)

end Go.Su.Ytfmgnboplbgniaa
