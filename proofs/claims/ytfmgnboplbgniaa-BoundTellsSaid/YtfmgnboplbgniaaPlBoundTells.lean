/-
  BoundTells: what its code computes is true.
-/
import Derived.Test.YtfmgnboplbgniaaPlThr
import Derived.Test.YtfmgnboplbgniaaPlBound
import Derived.Test.YtfmgnboplbgniaaRowT
import Derived.KernelRfl
namespace Go.Su.Ytfmgnboplbgniaa
open Go.Mx Go.Proofs
set_option linter.unusedVariables false
set_option linter.unusedSimpArgs false
set_option maxHeartbeats 4000000

set_option maxRecDepth 1000000 in
theorem known10_ev : Ev (fun n => law10_known n) true := by
  refine ⟨60, fun n hn => ?_⟩
  obtain ⟨k, rfl⟩ : ∃ k, n = k + 60 := ⟨n - 60, by omega⟩
  have : ∀ k, law10_known (k + 60) = some true := by intro k; kernel_rfl
  exact this k

theorem rexpr_ev : (∀ e, szE e ≤ 1000000 → Ev (fun n => ref8_Expr n e) (ne e)) ∧
    ∀ l, ∀ (k m : Int) (w : ByteArray) (pre : List Expr) (b : Bool) (i acc : Int), (pre ++ l).length ≤ 1000000 → 0 ≤ acc → acc + szEl l ≤ 1000000 → Ev (fun n => ref8_Expr_L0 n ⟨k, m, w, pre ++ l⟩ b i acc pre.length) (acc + nel l) := by
  refine expr_ind ?_ ?_ ?_
  · intro k m w l ih h
    rw [szE] at h
    have hl := len_szEl l
    by_cases h1 : 1 ≤ k ∧ k ≤ 10
    · refine Ev.step (Ev.of_eq (g := fun n => ref8_Expr_L0 n ⟨k, m, w, [] ++ l⟩ true 1 1 0) (fun n => ?_) ?_)
      · simp only [ref8_Expr, jn, decide_eq_true (show k ≥ 1 from h1.1), decide_eq_true h1.2, cond_true]; rfl
      · have := ih k m w [] true 1 1 (by simp; omega) (by omega) (by omega)
        rw [ne, if_pos h1]; exact this
    · refine Ev.step (Ev.of_eq (g := fun n => ref8_Expr_L0 n ⟨k, m, w, [] ++ l⟩ false 0 0 0) (fun n => ?_) ?_)
      · by_cases h2 : k ≥ 1
        · have h3 : ¬ k ≤ 10 := by omega
          simp only [ref8_Expr, jn, decide_eq_true h2, decide_eq_false h3, cond_true, cond_false]; rfl
        · simp only [ref8_Expr, jn, decide_eq_false h2, cond_false]; rfl
      · have := ih k m w [] false 0 0 (by simp; omega) (by omega) (by omega)
        rw [ne, if_neg h1]; exact this
  · intro k m w pre b i acc hl h0 h1
    refine Ev.step (Ev.of_eq (g := fun n => some acc) (fun n => ?_) (by simpa [nel] using Ev.ret acc))
    simp only [ref8_Expr_L0, List.append_nil, ix_ge, cond_false]
  · intro e r ihe ihr k m w pre b i acc hl h0 h1
    rw [szEl] at h1
    have hn := ne_le.1 e
    have hp : pre.length ≤ 1000000 := by simp at hl; omega
    refine Ev.step (Ev.of_eq (g := fun n => (ref8_Expr n e).bind fun r8 => ref8_Expr_L0 n ⟨k, m, w, (pre ++ [e]) ++ r⟩ b i (wr (acc + r8)) ((pre ++ [e]).length)) (fun n => ?_) (Ev.bind (ihe (by omega)) ?_))
    · simp only [ref8_Expr_L0, ix_lt, cond_true, ix_get, Option.bind_some]
      rw [ix_wr pre e (by omega), ← ix_cons]
    · rw [wr_of (by omega), nel, ← Int.add_assoc]
      exact ihr k m w (pre ++ [e]) b i (acc + ne e) (by rw [← ix_cons]; exact hl) (by omega) (by omega)

/-- A round over a repeat. -/
theorem rep_step (q : Int) (e : Expr) (u : List Stmt) (a : Cx) (v : Int) (q0 : 0 ≤ q) (q1 : q ≤ 79) (hv : Ev (fun n => ref8_size n u) v) (v0 : 0 ≤ v) (v1 : v ≤ 1000) (pre r : List Stmt) (acc : Int) (h0 : 0 ≤ acc) (h1 : acc ≤ 1000) (hp : pre.length ≤ 1000000) {res : Int}
    (hk : Ev (fun n => ref8_size_L0 n ((pre ++ [(⟨8, b0, b0, q, e, u, [], a⟩ : Stmt)]) ++ r) (acc + q * v) ((pre ++ [(⟨8, b0, b0, q, e, u, [], a⟩ : Stmt)]).length)) res) : Ev (fun n => ref8_size_L0 n (pre ++ (⟨8, b0, b0, q, e, u, [], a⟩ : Stmt) :: r) acc pre.length) res := by
  have m0 := Int.mul_nonneg v0 q0
  have m1 : v * q ≤ v * 79 := Int.mul_le_mul_of_nonneg_left q1 v0
  have e1 : gomax 0 q = q := by rw [gomax_eq]; omega
  have e2 : wr (acc + wr (v * gomax 0 q)) = acc + q * v := by rw [e1, wr_of (x := v * q) (by omega), wr_of (by omega), Int.mul_comm]
  have e3 : gomin (acc + q * v) 2147483647 = acc + q * v := by rw [gomin_eq, Int.mul_comm]; omega
  refine Ev.step (Ev.of_eq (g := fun n => (ref8_size n u).bind fun r14 => bif decide (r14 > 0) then (bif (r14 == 0) then none else bif decide (q > (wr (Int.tdiv 2147483647 r14))) then ref8_size_L0 n (pre ++ (⟨8, b0, b0, q, e, u, [], a⟩ : Stmt) :: r) (gomin 2147483647 2147483647) (wr ((pre.length : Int) + 1)) else ref8_size_L0 n (pre ++ (⟨8, b0, b0, q, e, u, [], a⟩ : Stmt) :: r) (gomin (wr (acc + (wr (r14 * (gomax 0 q))))) 2147483647) (wr ((pre.length : Int) + 1)))
      else ref8_size_L0 n (pre ++ (⟨8, b0, b0, q, e, u, [], a⟩ : Stmt) :: r) (gomin (wr (acc + (wr (r14 * (gomax 0 q))))) 2147483647) (wr ((pre.length : Int) + 1))) (fun n => ?_) (Ev.bind hv ?_))
  · simp only [ref8_size_L0, ix_lt, cond_true, ix_get, Option.bind_some, jn]; rfl
  · rw [e2, e3, ix_wr pre _ (by omega)]
    by_cases hp0 : v > 0
    · have d1 : (v == 0) = false := by simp; omega
      have d2 : decide (q > wr (Int.tdiv 2147483647 v)) = false := by
        have k1 : Int.tdiv 2147483647 v = 2147483647 / v := Int.tdiv_eq_ediv_of_nonneg (by omega)
        have k2 : 2147483 ≤ 2147483647 / v := (Int.le_ediv_iff_mul_le hp0).2 (by omega)
        have k3 : 2147483647 / v ≤ 2147483647 := Int.ediv_le_self _ (by omega)
        rw [k1, wr_of (by omega)]
        exact decide_eq_false (by omega)
      simp only [decide_eq_true hp0, cond_true, d1, cond_false, d2]
      rw [ix_cons]; exact hk
    · simp only [decide_eq_false hp0, cond_false]
      rw [ix_cons]; exact hk

theorem rsize_ev : (∀ s d, okS d s → wt s ≤ 1000 → Ev (fun n => ref8_size n s.Body) (bl s.Body) ∧ Ev (fun n => ref8_size n s.Else) (bl s.Else)) ∧
    ∀ l d, okSl d l → ∀ (pre : List Stmt) (acc : Int), (pre ++ l).length ≤ 1000000 → 0 ≤ acc → acc + wtl l ≤ 1000 → Ev (fun n => ref8_size_L0 n (pre ++ l) acc pre.length) (acc + bl l) := by
  refine stmt_ind ?_ ?_ ?_
  · intro k w v m e b l a ihb ihl d h hw
    rw [okS] at h
    obtain ⟨h1, _, h3, h4, h5⟩ := h
    rw [wt] at hw
    have lb := len_wtl b
    have ll := len_wtl l
    exact ⟨Ev.step (Ev.of_eq (fun n => by simp only [ref8_size]; rfl) (by simpa using ihb _ h4 [] 0 (by simp; omega) (by omega) (by omega))),
      Ev.step (Ev.of_eq (fun n => by simp only [ref8_size]; rfl) (by simpa using ihl _ h5 [] 0 (by simp; omega) (by omega) (by omega)))⟩
  · intro d _ pre acc hl h0 h1
    refine Ev.step (Ev.of_eq (g := fun n => some acc) (fun n => ?_) (by simpa [bl] using Ev.ret acc))
    simp only [ref8_size_L0, List.append_nil, ix_ge, cond_false]
  · intro s r ihs ihr d h pre acc hl h0 h1
    rw [okSl] at h
    rw [wtl] at h1
    have hs := bs_le.1 s _ h.1
    have hp : pre.length ≤ 1000000 := by simp at hl; omega
    have hsub := ihs d h.1 (by omega)
    have hk := ihr _ h.2 (pre ++ [s]) (acc + bs s) (by rw [← ix_cons]; exact hl) (by omega) (by omega)
    rw [bl, ← Int.add_assoc]
    have hmin : gomin (acc + bs s) 2147483647 = acc + bs s := by rw [gomin_eq]; omega
    have hix := ix_wr pre s (by omega)
    obtain ⟨k, w, v, m, e, b, l, a⟩ := s
    obtain ⟨hH, hrest⟩ := (show okS d ⟨k, w, v, m, e, b, l, a⟩ from h.1)
    have hn := ne_le.1 e
    have he := rexpr_ev.1 e (by omega)
    rw [wt] at h1
    have hb := bs_le.2 b _ hrest.2.2.1
    have hL := bs_le.2 l _ hrest.2.2.2
    simp only at hsub
    -- what is alike in all rounds
    have fin : ∀ i4 : Int, i4 = acc + bs ⟨k, w, v, m, e, b, l, a⟩ → Ev (fun n => ref8_size_L0 n (pre ++ ⟨k, w, v, m, e, b, l, a⟩ :: r) (gomin i4 2147483647) (wr ((pre.length : Int) + 1))) (acc + bs ⟨k, w, v, m, e, b, l, a⟩ + bl r) := by
      intro i4 e4
      rw [e4, hmin, hix, ix_cons]; exact hk
    have w1 : wr (acc + 1) = acc + 1 := wr_of (by omega)
    have w2 : wr (acc + 1 + ne e) = acc + 1 + ne e := wr_of (by omega)
    cases hH
    case assign =>
      refine Ev.step (Ev.of_eq (g := fun n => (ref8_Expr n e).bind fun r8 => ref8_size_L0 n _ (gomin (wr ((wr (acc + 1)) + r8)) 2147483647) (wr ((pre.length : Int) + 1))) (fun n => ?_) (Ev.bind he (fin _ ?_)))
      · simp only [ref8_size_L0, ix_lt, cond_true, ix_get, Option.bind_some, jn]; rfl
      · rw [w1, w2]; simp [bs]; omega
    case send =>
      refine Ev.step (Ev.of_eq (g := fun n => (ref8_Expr n e).bind fun r8 => ref8_size_L0 n _ (gomin (wr ((wr (acc + 1)) + r8)) 2147483647) (wr ((pre.length : Int) + 1))) (fun n => ?_) (Ev.bind he (fin _ ?_)))
      · simp only [ref8_size_L0, ix_lt, cond_true, ix_get, Option.bind_some, jn]; rfl
      · rw [w1, w2]; simp [bs]; omega
    case print =>
      refine Ev.step (Ev.of_eq (g := fun n => (ref8_Expr n e).bind fun r8 => ref8_size_L0 n _ (gomin (wr ((wr (acc + 1)) + r8)) 2147483647) (wr ((pre.length : Int) + 1))) (fun n => ?_) (Ev.bind he (fin _ ?_)))
      · simp only [ref8_size_L0, ix_lt, cond_true, ix_get, Option.bind_some, jn]; rfl
      · rw [w1, w2]; simp [bs]; omega
    case lock =>
      refine Ev.step (Ev.of_eq (g := fun n => ref8_size_L0 n _ (gomin (wr (acc + 1)) 2147483647) (wr ((pre.length : Int) + 1))) (fun n => ?_) (fin _ ?_))
      · simp only [ref8_size_L0, ix_lt, cond_true, ix_get, Option.bind_some, jn]; rfl
      · rw [w1]; simp [bs]
    case unlock =>
      refine Ev.step (Ev.of_eq (g := fun n => ref8_size_L0 n _ (gomin (wr (acc + 1)) 2147483647) (wr ((pre.length : Int) + 1))) (fun n => ?_) (fin _ ?_))
      · simp only [ref8_size_L0, ix_lt, cond_true, ix_get, Option.bind_some, jn]; rfl
      · rw [w1]; simp [bs]
    case goto =>
      refine Ev.step (Ev.of_eq (g := fun n => ref8_size_L0 n _ (gomin (wr (acc + 1)) 2147483647) (wr ((pre.length : Int) + 1))) (fun n => ?_) (fin _ ?_))
      · simp only [ref8_size_L0, ix_lt, cond_true, ix_get, Option.bind_some, jn]; rfl
      · rw [w1]; simp [bs]
    case recv =>
      refine Ev.step (Ev.of_eq (g := fun n => ref8_size_L0 n _ (gomin (wr (acc + 2)) 2147483647) (wr ((pre.length : Int) + 1))) (fun n => ?_) (fin _ ?_))
      · simp only [ref8_size_L0, ix_lt, cond_true, ix_get, Option.bind_some, jn]; rfl
      · rw [wr_of (by omega)]; simp [bs]
    case label =>
      refine Ev.step (Ev.of_eq (g := fun n => ref8_size_L0 n _ (gomin acc 2147483647) (wr ((pre.length : Int) + 1))) (fun n => ?_) (fin _ ?_))
      · simp only [ref8_size_L0, ix_lt, cond_true, ix_get, Option.bind_some, jn]; rfl
      · simp [bs]
    case cond =>
      have w3 : wr (acc + 1 + ne e + bl b) = acc + 1 + ne e + bl b := wr_of (by omega)
      have w4 : wr (acc + 1 + ne e + bl b + 1) = acc + 1 + ne e + bl b + 1 := wr_of (by omega)
      have w5 : wr (acc + 1 + ne e + bl b + 1 + bl l) = acc + 1 + ne e + bl b + 1 + bl l := wr_of (by omega)
      cases l with
      | nil =>
        refine Ev.step (Ev.of_eq (g := fun n => (ref8_Expr n e).bind fun r11 => (ref8_size n b).bind fun r12 => ref8_size_L0 n _ (gomin (wr ((wr ((wr (acc + 1)) + r11)) + r12)) 2147483647) (wr ((pre.length : Int) + 1))) (fun n => ?_) (Ev.bind he (Ev.bind hsub.1 (fin _ ?_))))
        · simp only [ref8_size_L0, ix_lt, cond_true, ix_get, Option.bind_some, jn]; rfl
        · rw [w1, w2, w3]; simp [bs]; omega
      | cons s l' =>
        have hd : decide (ln (s :: l') > 0) = true := decide_eq_true (by show ((l'.length + 1 : Nat) : Int) > 0; omega)
        refine Ev.step (Ev.of_eq (g := fun n => (ref8_Expr n e).bind fun r11 => (ref8_size n b).bind fun r12 => (ref8_size n (s :: l')).bind fun r13 => ref8_size_L0 n _ (gomin (wr ((wr ((wr ((wr ((wr (acc + 1)) + r11)) + r12)) + 1)) + r13)) 2147483647) (wr ((pre.length : Int) + 1))) (fun n => ?_) (Ev.bind he (Ev.bind hsub.1 (Ev.bind hsub.2 (fin _ ?_)))))
        · simp only [ref8_size_L0, ix_lt, cond_true, ix_get, Option.bind_some, jn, hd]; rfl
        · rw [w1, w2, w3, w4, w5]; simp [bs]; omega
    case rep =>
      have k0 : 0 ≤ m := by assumption
      have k1 : m ≤ 2 := by assumption
      refine rep_step m _ b c0 (bl b) k0 (by omega) hsub.1 hb.1 (by omega) pre r acc h0 (by omega) hp ?_
      have e5 : bs ⟨8, b0, b0, m, eN, b, [], c0⟩ = m * bl b := by simp only [bs]; rw [show max 0 (min m 2147483647) = m by omega]; simp
      rw [e5] at hk ⊢
      exact hk

def wrapped (i : Nat) (q : Int) (u : List Stmt) : List Stmt := [⟨8, b0, b0, q, ⟨0, 0, b0, []⟩, u, [], ⟨4617315517961601024, FloatKind.f64.nearest i⟩⟩]
/-- A thread, zs it was, or repeated. -/
def GT (i : Nat) (t : List Stmt) : Prop := (okSl 2 t ∧ wtl t ≤ 640) ∨ ∃ q u, 0 ≤ q ∧ q ≤ 79 ∧ okSl 2 u ∧ wtl u ≤ 640 ∧ t = wrapped i q u

def tv (t : List Stmt) : Int := match t with
  | [⟨8, _, _, q, _, u, _, _⟩] => q * bl u
  | l => bl l

theorem gt_sizes (i : Nat) (t : List Stmt) (h : GT i t) : ∃ v, Ev (fun n => bound_block n t) v ∧ Ev (fun n => ref8_size n t) v ∧ (v > 300 → ∃ s r, t = s :: r ∧ (s.At = c0 ∨ s.At = ⟨4617315517961601024, FloatKind.f64.nearest i⟩)) ∧ szSl t ≤ 700 := by
  rcases h with ⟨h1, h2⟩ | ⟨q, u, q0, q1, h1, h2, rfl⟩
  · have hb := bs_le.2 t 2 h1
    have hl := len_wtl t
    have hz := szS_wt.2 t 2 h1
    refine ⟨bl t, bblock_ev t 2 h1 (by omega), Ev.step (Ev.of_eq (fun n => by simp only [ref8_size]; rfl) (by simpa using rsize_ev.2 t 2 h1 [] 0 (by simp; omega) (by omega) (by omega))), fun hv => ?_, by omega⟩
    cases t with
    | nil => simp [bl] at hv
    | cons s r =>
      refine ⟨s, r, rfl, .inl ?_⟩
      rw [okSl] at h1
      obtain ⟨k, w, v, m, e, b, l, a⟩ := s
      have := h1.1
      rw [okS] at this
      cases this.1 <;> rfl
  · have hb := bs_le.2 u 2 h1
    have hl := len_wtl u
    have hz := szS_wt.2 u 2 h1
    have hB := bblock_ev u 2 h1 (by omega)
    have m0 := Int.mul_nonneg q0 hb.1
    have m1 : q * bl u ≤ 79 * bl u := Int.mul_le_mul_of_nonneg_right q1 hb.1
    refine ⟨q * bl u, ?_, ?_, fun _ => ⟨_, [], rfl, .inr rfl⟩, ?_⟩
    · have e1 : gomax 0 (gomin q 2147483647) = q := by rw [gomin_eq, gomax_eq]; omega
      have e : q * bl u = gomin 2147483647 (wr (0 + q * bl u)) := by rw [wr_of (by omega), gomin_eq]; omega
      have hst : Ev (fun n => bound_stmt n ⟨8, b0, b0, q, ⟨0, 0, b0, []⟩, u, [], ⟨4617315517961601024, FloatKind.f64.nearest i⟩⟩) (q * bl u) := by
        refine Ev.step (Ev.of_eq (g := fun n => (bound_block n u).bind fun r11 => some (wr ((gomax 0 (gomin q 2147483647)) * r11))) (fun n => ?_) (Ev.bind hB ?_))
        · simp only [bound_stmt, jn]; rfl
        · rw [e1, wr_of (by omega)]; exact Ev.ret _
      refine Ev.step (Ev.of_eq (g := fun n => bound_block_L0 n (wrapped i q u) 0 0) (fun n => by simp only [bound_block]) ?_)
      refine Ev.step (Ev.of_eq (g := fun n => (bound_stmt n ⟨8, b0, b0, q, ⟨0, 0, b0, []⟩, u, [], ⟨4617315517961601024, FloatKind.f64.nearest i⟩⟩).bind fun r4 => bound_block_L0 n (wrapped i q u) (gomin 2147483647 (wr (0 + r4))) 1) (fun n => ?_) (Ev.bind hst ?_))
      · simp only [bound_block_L0]; rfl
      · rw [← e]
        exact Ev.step (Ev.of_eq (g := fun n => some (q * bl u)) (fun n => by simp only [bound_block_L0]; rfl) (Ev.ret _))
    · have hv : Ev (fun n => ref8_size n u) (bl u) := Ev.step (Ev.of_eq (fun n => by simp only [ref8_size]; rfl) (by simpa using rsize_ev.2 u 2 h1 [] 0 (by simp; omega) (by omega) (by omega)))
      unfold wrapped
      refine Ev.step (Ev.of_eq (g := fun n => ref8_size_L0 n ([] ++ _ :: []) 0 ([] : List Stmt).length) (fun n => by simp only [ref8_size]; rfl) (rep_step q _ u _ (bl u) q0 q1 hv hb.1 (by omega) [] [] 0 (by omega) (by omega) (by simp) ?_))
      refine Ev.step (Ev.of_eq (g := fun n => some (0 + q * bl u)) (fun n => by simp only [ref8_size_L0]; rfl) (by rw [Int.zero_add]; exact Ev.ret _))
    · simp [wrapped, szSl, szS, szE, szEl]; omega

theorem sizes_ev {f : List Stmt → Int} (D : List Decl) : ∀ (ts pre : List (List Stmt)) (acc : List Int), (pre ++ ts).length ≤ 1000 → acc.length = pre.length → (∀ t ∈ ts, Ev (fun n => bound_block n t) (f t)) →
    Ev (fun n => bound_Size_L0 n ⟨D, pre ++ ts⟩ acc pre.length) (acc ++ ts.map f)
  | [], pre, acc, hl, ha, h => by
    refine Ev.step (Ev.of_eq (g := fun n => some acc) (fun n => ?_) (by simpa using Ev.ret acc))
    simp only [bound_Size_L0, List.append_nil, ix_ge, cond_false, Clip_64, sub_all, Option.bind_some]
  | t :: r, pre, acc, hl, ha, h => by
    have hp : pre.length + r.length + 1 ≤ 1000 := by simp at hl; omega
    have hr : ∀ x : Int, room s30.i1.bytes acc.length [x].length = true := fun x => room_of (by
      have : s30.i1.bytes = 8 := rfl
      rw [this]; simp only [List.length_singleton]; omega)
    refine Ev.step (Ev.of_eq (g := fun n => (bound_block n t).bind fun r4 => bif room s30.i1.bytes acc.length [r4].length then bound_Size_L0 n ⟨D, (pre ++ [t]) ++ r⟩ (acc ++ [r4]) ((pre ++ [t]).length) else none) (fun n => ?_) (Ev.bind (h t (by simp)) ?_))
    · simp only [bound_Size_L0, ix_lt, cond_true, ix_get, Option.bind_some]
      rw [ix_wr pre t (by omega), ← ix_cons]
    · simp only [hr, cond_true]
      have := sizes_ev (f := f) D r (pre ++ [t]) (acc ++ [f t]) (by rw [← ix_cons]; exact hl) (by simp [ha]) (fun x hx => h x (by simp [hx]))
      simpa using this
theorem rsizes_ev {f : List Stmt → Int} (D : List Decl) : ∀ (ts pre : List (List Stmt)) (acc : List Int), (pre ++ ts).length ≤ 1000 → acc.length = pre.length → (∀ t ∈ ts, Ev (fun n => ref8_size n t) (f t)) →
    Ev (fun n => ref8_Size_L0 n ⟨D, pre ++ ts⟩ acc pre.length) (acc ++ ts.map f)
  | [], pre, acc, hl, ha, h => by
    refine Ev.step (Ev.of_eq (g := fun n => some acc) (fun n => ?_) (by simpa using Ev.ret acc))
    simp only [ref8_Size_L0, List.append_nil, ix_ge, cond_false]
  | t :: r, pre, acc, hl, ha, h => by
    have hp : pre.length + r.length + 1 ≤ 1000 := by simp at hl; omega
    have hr : ∀ x : Int, room s30.i1.bytes acc.length [x].length = true := fun x => room_of (by
      have : s30.i1.bytes = 8 := rfl
      rw [this]; simp only [List.length_singleton]; omega)
    refine Ev.step (Ev.of_eq (g := fun n => (ref8_size n t).bind fun r4 => bif room s30.i1.bytes acc.length [r4].length then ref8_Size_L0 n ⟨D, (pre ++ [t]) ++ r⟩ (acc ++ [r4]) ((pre ++ [t]).length) else none) (fun n => ?_) (Ev.bind (h t (by simp)) ?_))
    · simp only [ref8_Size_L0, ix_lt, cond_true, ix_get, Option.bind_some]
      rw [ix_wr pre t (by omega), ← ix_cons]
    · simp only [hr, cond_true]
      have := rsizes_ev (f := f) D r (pre ++ [t]) (acc ++ [f t]) (by rw [← ix_cons]; exact hl) (by simp [ha]) (fun x hx => h x (by simp [hx]))
      simpa using this

theorem thr_app : ∀ (a b : List (List Stmt)) (k : Nat), thr k (a ++ b) = thr k a ++ thr (k + a.length) b
  | [], b, k => by simp [thr]
  | t :: r, b, k => by rw [List.cons_append, thr, thr, thr_app r b (k + 1), List.append_assoc, List.length_cons, show k + 1 + r.length = k + (r.length + 1) by omega]
theorem thr_lt : ∀ (a : List (List Stmt)) (k : Nat), ∀ x ∈ thr k a, x < ((k + a.length : Nat) : Int)
  | [], k, x, h => by simp [thr] at h
  | t :: r, k, x, h => by
    rw [thr, List.mem_append] at h
    rcases h with h | h
    · rw [(List.mem_replicate.1 h).2, List.length_cons]; omega
    · have := thr_lt r (k + 1) x h
      rw [List.length_cons]; omega
theorem flats_app : ∀ a b : List (List Stmt), flats (a ++ b) = flats a ++ flats b
  | [], b => rfl
  | t :: r, b => by rw [List.cons_append, flats, flats, flats_app r b, List.append_assoc]

theorem index_ev (i : Int) : ∀ (a pre b : List Int), (∀ x ∈ a, x ≠ i) → (pre ++ a).length + 1 ≤ 9223372036854775807 → Ev (fun n => Index_68_L0 n (pre ++ (a ++ i :: b)) i pre.length) ((pre.length + a.length : Nat) : Int)
  | [], pre, b, h, hl => by
    refine Ev.step (Ev.of_eq (g := fun n => some ((pre.length : Int))) (fun n => ?_) (by simpa using Ev.ret _))
    simp only [Index_68_L0, List.nil_append, ix_lt, ix_get, cond_true, Option.bind_some, beq_self_eq_true]
  | x :: a, pre, b, h, hl => by
    have hx : (i == x) = false := by have := h x (by simp); simp; exact fun e => this e.symm
    have hp : pre.length + 1 ≤ 9223372036854775807 := by simp at hl; omega
    refine Ev.step (Ev.of_eq (g := fun n => Index_68_L0 n ((pre ++ [x]) ++ (a ++ i :: b)) i ((pre ++ [x]).length)) (fun n => ?_) ?_)
    · simp only [Index_68_L0, List.cons_append, ix_lt, ix_get, cond_true, Option.bind_some, hx, cond_false]
      rw [ix_wr pre x hp, ← ix_cons]
    · have := index_ev i a (pre ++ [x]) b (fun y hy => h y (by simp [hy])) (by rw [← ix_cons]; exact hl)
      have e : (pre ++ [x]).length + a.length = pre.length + (x :: a).length := by simp; omega
      rw [e] at this; exact this

def okAt (z : Cx) : Bool := (FloatKind.f64.format.order z.re z.re == some .eq) && (FloatKind.f64.format.order z.im z.im == some .eq)
theorem okAt_c0 : okAt c0 = true := by kernel_rfl
theorem okAt_i : ∀ i : Nat, i < 3 → okAt ⟨4617315517961601024, FloatKind.f64.nearest i⟩ = true := by
  intro i hi
  have k0 : okAt ⟨4617315517961601024, FloatKind.f64.nearest ((0 : Nat) : Int)⟩ = true := by kernel_rfl
  have k1 : okAt ⟨4617315517961601024, FloatKind.f64.nearest ((1 : Nat) : Int)⟩ = true := by kernel_rfl
  have k2 : okAt ⟨4617315517961601024, FloatKind.f64.nearest ((2 : Nat) : Int)⟩ = true := by kernel_rfl
  have : i = 0 ∨ i = 1 ∨ i = 2 := by omega
  rcases this with rfl | rfl | rfl
  · exact k0
  · exact k1
  · exact k2

theorem check_ev (D : List Decl) (ts : List (List Stmt)) (f : List Stmt → Int) (hz : szT ts ≤ 100000) (hn : ts.length ≤ 3)
    (hf : ∀ t ∈ ts, f t > 300 → ∃ s r i, t = s :: r ∧ i < 3 ∧ (s.At = c0 ∨ s.At = ⟨4617315517961601024, FloatKind.f64.nearest (i : Nat)⟩)) : ∀ l pre, ts = pre ++ l →
    ∃ z e, Ev (fun n => bound_Check_L0 n ⟨D, ts⟩ (thr 0 ts) (ts.map f) pre.length) (z, e) ∧ Ev (fun n => ref8_Bound_L0 n ⟨D, ts⟩ (ts.map f) pre.length) (z, e) ∧ okAt z = true := by
  intro l
  induction l with
  | nil =>
    intro pre e
    have l1 : decide ((pre.length : Int) < ln (ts.map f)) = false := decide_eq_false (by show ¬ (pre.length : Int) < ((ts.map f).length : Int); rw [e]; simp)
    refine ⟨c0, 0, Ev.step (Ev.of_eq (g := fun n => some (c0, 0)) (fun n => ?_) (Ev.ret _)), Ev.step (Ev.of_eq (g := fun n => some (c0, 0)) (fun n => ?_) (Ev.ret _)), okAt_c0⟩
    · simp only [bound_Check_L0, l1, cond_false]
    · simp only [ref8_Bound_L0, l1, cond_false]
  | cons t r ih =>
    intro pre e
    have l1 : decide ((pre.length : Int) < ln (ts.map f)) = true := decide_eq_true (by show (pre.length : Int) < ((ts.map f).length : Int); rw [e]; simp; omega)
    have l2 : idx (ts.map f) (pre.length : Int) = some (f t) := idx_of (by omega) (by rw [e]; simp)
    have l3 : idx ts (pre.length : Int) = some t := by rw [e]; exact ix_get _ _ _
    have hw : wr ((pre.length : Int) + 1) = ((pre ++ [t]).length : Int) := ix_wr pre t (by rw [e] at hn; simp at hn; omega)
    by_cases hv : f t > 300
    · obtain ⟨s, t', i, rfl, hi, hat⟩ := hf t (by rw [e]; simp) hv
      have hz2 : szT ts ≤ 1000000 := by omega
      have hT := len_T ts
      have hfl : flats ts = flats pre ++ (s :: (flat s.Body ++ flat s.Else ++ flat t' ++ flats r)) := by
        rw [e, flats_app, flats, flat, fl1_eq]; simp
      have hth : thr 0 ts = [] ++ (thr 0 pre ++ (pre.length : Int) :: (List.replicate ((flat s.Body).length + (flat s.Else).length + (flat t').length) (pre.length : Int) ++ thr (0 + pre.length + 1) r)) := by
        rw [e, thr_app, thr, flat, fl1_eq]
        simp only [List.cons_append, List.length_cons, List.length_append, List.replicate_succ, List.nil_append, Nat.zero_add]
      have hix : Ev (fun n => Index_68 n (thr 0 ts) (pre.length : Int)) (((flats pre).length : Nat) : Int) := by
        refine Ev.of_eq (g := fun n => Index_68_L0 n (thr 0 ts) (pre.length : Int) 0) (fun n => by simp only [Index_68]) ?_
        have hl : (thr 0 pre).length = (flats pre).length := thr_len pre 0
        have := index_ev (pre.length : Int) (thr 0 pre) [] (List.replicate ((flat s.Body).length + (flat s.Else).length + (flat t').length) (pre.length : Int) ++ thr (0 + pre.length + 1) r)
          (fun x hx => by have := thr_lt pre 0 x hx; omega) (by simp only [List.nil_append, hl]; rw [hfl] at hT; simp only [List.length_append] at hT; omega)
        rw [← hth] at this
        simpa [hl] using this
      have l4 : idx (flats ts) (((flats pre).length : Nat) : Int) = some s := by rw [hfl]; exact ix_get _ _ _
      have hok : okAt s.At = true := by
        rcases hat with h | h
        · rw [h]; exact okAt_c0
        · rw [h]; exact okAt_i i hi
      refine ⟨s.At, 5, Ev.step (Ev.of_eq (g := fun n => (tree_List n ⟨D, ts⟩).bind fun r5 => (Index_68 n (thr 0 ts) (pre.length : Int)).bind fun r6 => (idx r5 r6).bind fun x7 => some (x7.At, 5)) (fun n => ?_) (Ev.bind (List_ev D ts hz2) (Ev.bind hix (Ev.opt l4 (Ev.ret _))))),
        Ev.step (Ev.of_eq (g := fun n => some (s.At, 5)) (fun n => ?_) (Ev.ret _)), hok⟩
      · simp only [bound_Check_L0, l1, l2, cond_true, Option.bind_some, decide_eq_true hv]
      · have l5 : idx (s :: t') 0 = some s := rfl
        simp only [ref8_Bound_L0, l1, l2, l3, l5, cond_true, Option.bind_some, decide_eq_true hv]
    · obtain ⟨z, e', h1, h2, h3⟩ := ih (pre ++ [t]) (by rw [e]; exact ix_cons _ _ _)
      refine ⟨z, e', Ev.step (Ev.of_eq (fun n => ?_) h1), Ev.step (Ev.of_eq (fun n => ?_) h2), h3⟩
      · simp only [bound_Check_L0, l1, l2, cond_true, cond_false, Option.bind_some, decide_eq_false hv, hw]
      · simp only [ref8_Bound_L0, l1, l2, cond_true, cond_false, Option.bind_some, decide_eq_false hv, hw]

theorem law10_BoundTells_true (a0 : Int) (a1 a2 a3 : List Act) (a4 a5 : List Int) (h0 : okInt .i64 a0) (h1 : okActs a1) (h2 : okActs a2) (h3 : okActs a3) (h4 : okInts a4) (h5 : okInts a5) : ∃ n, law10_BoundTells n a0 a1 a2 a3 a4 a5 = some true := by
  obtain ⟨D, ts, hp, _, ots, hlen⟩ := prog_ev a0 a1 a2 a3 4 (by omega)
  have hmax : maxLen = 9223372036854775807 := rfl
  have h4l := h4.1
  have h5l := h5.1
  rw [hmax] at h4l h5l
  obtain ⟨ex, hex, _, _, hex2⟩ := expr_ev a5.length a5 0 (Nat.le_refl _) (by omega) h5l
  have hsz : szE ex ≤ 1000000 := by simp at hex2; omega
  have hb1 := bexpr_ev.1 ex hsz
  have hb2 := rexpr_ev.1 ex hsz
  refine Ev.get ?_
  refine Ev.of_eq (g := fun n => (hand_Prog n a0 a1 a2 a3 4).bind fun r1 => law10_BoundTells_L0 n a0 a1 a2 a3 a4 a5 r1 r1.Threads 0) (fun n => by simp only [law10_BoundTells]) (Ev.bind hp ?_)
  have loop : ∀ (rest pre : List Int), a4 = pre ++ rest → ∀ l2 : List (List Stmt), l2.length = ts.length → (∀ i t, l2[i]? = some t → (i < pre.length → GT i t) ∧ (pre.length ≤ i → okSl 2 t ∧ wtl t ≤ 640)) →
      Ev (fun n => law10_BoundTells_L0 n a0 a1 a2 a3 a4 a5 ⟨D, ts⟩ l2 pre.length) true := by
    intro rest
    induction rest with
    | cons x rest ih =>
      intro pre e l2 hl hg
      have l1 : decide ((pre.length : Int) < ln a4) = true := by rw [e]; exact ix_lt _ _ _
      have l3 : idx a4 (pre.length : Int) = some x := by rw [e]; exact ix_get _ _ _
      have hw : wr ((pre.length : Int) + 1) = ((pre ++ [x]).length : Int) := ix_wr pre x (by rw [e] at h4l; simp at h4l; omega)
      have p8 : ∀ n, hand_Pick n x 80 = some (x % 80) := fun n => pick_eq n _ 80 (by omega) (by omega)
      have q0 := Int.emod_nonneg x (show (80 : Int) ≠ 0 by omega)
      have q1 := Int.emod_lt_of_pos x (show (0 : Int) < 80 by omega)
      by_cases hi : pre.length < l2.length
      · have d1 : decide ((pre.length : Int) < ln l2) = true := decide_eq_true (by show (pre.length : Int) < (l2.length : Int); omega)
        obtain ⟨t, ht⟩ : ∃ t, l2[pre.length]? = some t := ⟨l2[pre.length], List.getElem?_eq_getElem hi⟩
        have ht2 : idx l2 (pre.length : Int) = some t := idx_of (by omega) (by simpa using ht)
        have gt := (hg _ _ ht).2 (Nat.le_refl _)
        refine Ev.step (Ev.of_eq (g := fun n => law10_BoundTells_L0 n a0 a1 a2 a3 a4 a5 ⟨D, ts⟩ (l2.set pre.length (wrapped pre.length (x % 80) t)) ((pre ++ [x]).length)) (fun n => ?_) (ih (pre ++ [x]) (by rw [e]; exact ix_cons _ _ _) _ (by simpa using hl) ?_))
        · simp only [law10_BoundTells_L0, l1, l3, cond_true, Option.bind_some, jn, d1, p8, ht2, hw]; rfl
        · intro i t' hi'
          rw [List.getElem?_set] at hi'
          by_cases hip : pre.length = i
          · rw [if_pos hip, if_pos (by omega)] at hi'
            cases hi'
            subst hip
            exact ⟨fun _ => .inr ⟨x % 80, t, q0, by omega, gt.1, gt.2, rfl⟩, fun h => by simp at h; omega⟩
          · rw [if_neg hip] at hi'
            have := hg i t' hi'
            exact ⟨fun h => this.1 (by simp at h; omega), fun h => this.2 (by simp at h; omega)⟩
      · have d1 : decide ((pre.length : Int) < ln l2) = false := decide_eq_false (by show ¬ (pre.length : Int) < (l2.length : Int); omega)
        refine Ev.step (Ev.of_eq (g := fun n => law10_BoundTells_L0 n a0 a1 a2 a3 a4 a5 ⟨D, ts⟩ l2 ((pre ++ [x]).length)) (fun n => ?_) (ih (pre ++ [x]) (by rw [e]; exact ix_cons _ _ _) _ hl ?_))
        · simp only [law10_BoundTells_L0, l1, l3, cond_true, cond_false, Option.bind_some, jn, d1, hw]
        · intro i t' hi'
          have hii := (List.getElem?_eq_some_iff.1 hi').1
          have := hg i t' hi'
          exact ⟨fun h => this.1 (by omega), fun h => this.2 (by simp at h; omega)⟩
    | nil =>
      intro pre e l2 hl hg
      rw [List.append_nil] at e
      have l1 : decide ((pre.length : Int) < ln a4) = false := by rw [e]; exact ix_ge _
      have good : ∀ t ∈ l2, ∃ i, i < 3 ∧ GT i t := by
        intro t ht
        obtain ⟨i, hi, rfl⟩ := List.getElem_of_mem ht
        have := hg i _ (List.getElem?_eq_getElem hi)
        refine ⟨i, by omega, ?_⟩
        by_cases h : i < pre.length
        · exact this.1 h
        · exact .inl (this.2 (by omega))
      have hex3 : ∀ t : List Stmt, ∃ v : Int, t ∈ l2 → Ev (fun n => bound_block n t) v ∧ Ev (fun n => ref8_size n t) v ∧ (v > 300 → ∃ s r i, t = s :: r ∧ i < 3 ∧ (s.At = c0 ∨ s.At = ⟨4617315517961601024, FloatKind.f64.nearest (i : Nat)⟩)) := by
        intro t
        by_cases ht : t ∈ l2
        · obtain ⟨i, hi, hg'⟩ := good t ht
          obtain ⟨v, k1, k2, k3, _⟩ := gt_sizes i t hg'
          exact ⟨v, fun _ => ⟨k1, k2, fun h => by obtain ⟨s, r, k4, k5⟩ := k3 h; exact ⟨s, r, i, k4, hi, k5⟩⟩⟩
        · exact ⟨0, fun h => absurd h ht⟩
      obtain ⟨f, hf⟩ := Classical.axiomOfChoice hex3
      have hl3 : l2.length ≤ 3 := by omega
      have hzT : szT l2 ≤ 100000 := by
        have : ∀ l : List (List Stmt), (∀ t ∈ l, t ∈ l2) → szT l ≤ 701 * l.length := by
          intro l
          induction l with
          | nil => intro _; simp [szT]
          | cons t r ih =>
            intro h
            obtain ⟨i, hi, hg'⟩ := good t (h t (by simp))
            obtain ⟨v, _, _, _, k4⟩ := gt_sizes i t hg'
            have := ih (fun x hx => h x (by simp [hx]))
            rw [szT, List.length_cons]; omega
        have := this l2 (fun t h => h)
        omega
      have s1 : Ev (fun n => bound_Size n ⟨D, l2⟩) (l2.map f) := Ev.of_eq (fun n => by simp only [bound_Size]; rfl) (by simpa using sizes_ev (f := f) D l2 [] [] (by simp; omega) rfl fun t ht => (hf t ht).1)
      have s2 : Ev (fun n => ref8_Size n ⟨D, l2⟩) (l2.map f) := Ev.of_eq (fun n => by simp only [ref8_Size]; rfl) (by simpa using rsizes_ev (f := f) D l2 [] [] (by simp; omega) rfl fun t ht => (hf t ht).2.1)
      obtain ⟨z, er, c1, c2, c3⟩ := check_ev D l2 f hzT hl3 (fun t ht => (hf t ht).2.2) l2 [] rfl
      have t1 : Ev (fun n => bound_Check n ⟨D, l2⟩) (z, er) := Ev.of_eq (g := fun n => (tree_Threads n ⟨D, l2⟩).bind fun r1 => (bound_Size n ⟨D, l2⟩).bind fun r2 => bound_Check_L0 n ⟨D, l2⟩ r1 r2 0) (fun n => by simp only [bound_Check]) (Ev.bind (Threads_ev D l2 (by omega)) (Ev.bind s1 c1))
      have t2 : Ev (fun n => ref8_Bound n ⟨D, l2⟩) (z, er) := Ev.of_eq (g := fun n => (ref8_Size n ⟨D, l2⟩).bind fun r1 => ref8_Bound_L0 n ⟨D, l2⟩ r1 0) (fun n => by simp only [ref8_Bound]) (Ev.bind s2 c2)
      have d2 : (ln (l2.map f) != ln (l2.map f)) = false := by simp
      have d3 : (er != er) = false := by simp
      have d4 : (ne ex != ne ex) = false := by simp
      have c3' : ((FloatKind.f64.format.order z.re z.re == some .eq) && (FloatKind.f64.format.order z.im z.im == some .eq)) = true := c3
      have lp : ∀ (l p : List Int), l2.map f = p ++ l → Ev (fun n => law10_BoundTells_L1 n a0 a1 a2 a3 a4 a5 ⟨D, ts⟩ l2 pre.length (l2.map f) (l2.map f) (z, er) (z, er) false p.length) true := by
        intro l
        induction l with
        | nil =>
          intro p e2
          rw [List.append_nil] at e2
          have m1 : decide ((p.length : Int) < ln (l2.map f)) = false := by rw [e2]; exact ix_ge _
          exact Ev.step (Ev.of_eq (g := fun n => some true) (fun n => by simp only [law10_BoundTells_L1, m1, cond_false]) (Ev.ret _))
        | cons x l ih =>
          intro p e2
          have m1 : decide ((p.length : Int) < ln (l2.map f)) = true := by rw [e2]; exact ix_lt _ _ _
          have m2 : idx (l2.map f) (p.length : Int) = some x := by rw [e2]; exact ix_get _ _ _
          have m3 : (x != x) = false := by simp
          have hpl : p.length + 1 ≤ 3 := by have := congrArg List.length e2; simp at this; omega
          have m4 := ix_wr p x (by omega)
          exact Ev.step (Ev.of_eq (fun n => by simp only [law10_BoundTells_L1, m1, m2, m3, m4, cond_true, cond_false, Option.bind_some]) (ih (p ++ [x]) (by rw [e2]; exact ix_cons _ _ _)))
      refine Ev.step (Ev.of_eq (g := fun n => (bound_Size n ⟨D, l2⟩).bind fun r10 => (ref8_Size n ⟨D, l2⟩).bind fun r11 => (bound_Check n ⟨D, l2⟩).bind fun r12 => (ref8_Bound n ⟨D, l2⟩).bind fun r13 => (law10_known n).bind fun r16 =>
        bif !r16 then some false else bif ((ln r10) != (ln r11)) then some false else bif !((FloatKind.f64.format.order r12.1.re r13.1.re == some .eq) && (FloatKind.f64.format.order r12.1.im r13.1.im == some .eq)) then some false else bif (r12.2 != r13.2) then some false else
          (hand_Expr n a5 0).bind fun r17 => (bound_Expr n r17).bind fun r18 => (hand_Expr n a5 0).bind fun r19 => (ref8_Expr n r19).bind fun r20 => bif (r18 != r20) then some false else law10_BoundTells_L1 n a0 a1 a2 a3 a4 a5 ⟨D, ts⟩ l2 pre.length r10 r11 r12 r13 (r18 != r20) 0) (fun n => ?_)
        (Ev.bind s1 (Ev.bind s2 (Ev.bind t1 (Ev.bind t2 (Ev.bind known10_ev ?_))))))
      · simp only [law10_BoundTells_L0, l1, cond_false, jn, cond_true]
      · simp only [Bool.not_true, cond_false, d2, c3', d3]
        refine Ev.bind hex (Ev.bind hb1 (Ev.bind hex (Ev.bind hb2 ?_)))
        simp only [d4, cond_false]
        exact lp (l2.map f) [] rfl
  exact loop a4 [] rfl ts rfl (fun i t ht => ⟨fun h => by simp at h, fun _ => ots t (List.mem_of_getElem? ht)⟩)

end Go.Su.Ytfmgnboplbgniaa
