/-
  Sizes: what the program reckons of small programs.
-/
import Derived.Test.YtfmgnboplbgniaaPlIx
namespace Go.Su.Ytfmgnboplbgniaa
open Go.Mx Go.Proofs
set_option linter.unusedVariables false
set_option linter.unusedSimpArgs false
set_option maxHeartbeats 4000000

theorem len_szEl : ∀ l : List Expr, l.length ≤ szEl l
  | [] => by simp
  | e :: r => by
    have := len_szEl r
    cases e
    rw [List.length_cons, szEl, szE]; omega

mutual
def ne : Expr → Int
  | ⟨k, _, _, l⟩ => (if 1 ≤ k ∧ k ≤ 10 then 1 else 0) + nel l
def nel : List Expr → Int
  | [] => 0
  | e :: r => ne e + nel r
end
theorem ne_le : (∀ e, 0 ≤ ne e ∧ ne e ≤ szE e) ∧ ∀ l, 0 ≤ nel l ∧ nel l ≤ szEl l := by
  refine expr_ind ?_ (by simp [nel, szEl]) ?_
  · intro k n w l h
    rw [ne, szE]; split <;> omega
  · intro e r h1 h2
    rw [nel, szEl]; omega

theorem bexpr_ev : (∀ e, szE e ≤ 1000000 → Ev (fun n => bound_Expr n e) (ne e)) ∧
    ∀ l, ∀ (k m : Int) (w : ByteArray) (pre : List Expr) (b : Bool) (i acc : Int), (pre ++ l).length ≤ 1000000 → 0 ≤ acc → acc + szEl l ≤ 1000000 → Ev (fun n => bound_Expr_L0 n ⟨k, m, w, pre ++ l⟩ b i acc pre.length) (acc + nel l) := by
  refine expr_ind ?_ ?_ ?_
  · intro k m w l ih h
    rw [szE] at h
    have hl := len_szEl l
    have b1 : (bif decide (k ≥ 1) then decide (k ≤ 10) else false) = decide (1 ≤ k ∧ k ≤ 10) := by
      by_cases h1 : 1 ≤ k <;> by_cases h2 : k ≤ 10 <;> simp [h1, h2]
    by_cases h1 : 1 ≤ k ∧ k ≤ 10
    · refine Ev.step (Ev.of_eq (g := fun n => bound_Expr_L0 n ⟨k, m, w, [] ++ l⟩ true 1 1 0) (fun n => ?_) ?_)
      · simp only [bound_Expr, jn, decide_eq_true (show k ≥ 1 from h1.1), decide_eq_true h1.2, cond_true]; rfl
      · have := ih k m w [] true 1 1 (by simp; omega) (by omega) (by omega)
        rw [ne, if_pos h1]; exact this
    · refine Ev.step (Ev.of_eq (g := fun n => bound_Expr_L0 n ⟨k, m, w, [] ++ l⟩ false 0 0 0) (fun n => ?_) ?_)
      · by_cases h2 : k ≥ 1
        · have h3 : ¬ k ≤ 10 := by omega
          simp only [bound_Expr, jn, decide_eq_true h2, decide_eq_false h3, cond_true, cond_false]; rfl
        · simp only [bound_Expr, jn, decide_eq_false h2, cond_false]; rfl
      · have := ih k m w [] false 0 0 (by simp; omega) (by omega) (by omega)
        rw [ne, if_neg h1]; exact this
  · intro k m w pre b i acc hl h0 h1
    refine Ev.step (Ev.of_eq (g := fun n => some acc) (fun n => ?_) (by simpa [nel] using Ev.ret acc))
    simp only [bound_Expr_L0, List.append_nil, ix_ge, cond_false]
  · intro e r ihe ihr k m w pre b i acc hl h0 h1
    rw [szEl] at h1
    have hn := ne_le.1 e
    have hp : pre.length ≤ 1000000 := by simp at hl; omega
    refine Ev.step (Ev.of_eq (g := fun n => (bound_Expr n e).bind fun r8 => bound_Expr_L0 n ⟨k, m, w, (pre ++ [e]) ++ r⟩ b i (gomin 2147483647 (wr (acc + r8))) ((pre ++ [e]).length)) (fun n => ?_) (Ev.bind (ihe (by omega)) ?_))
    · simp only [bound_Expr_L0, ix_lt, cond_true, ix_get, Option.bind_some]
      rw [ix_wr pre e (by omega), ← ix_cons]
    · rw [wr_of (by omega), gomin_eq, show min (2147483647 : Int) (acc + ne e) = acc + ne e by omega, nel, ← Int.add_assoc]
      exact ihr k m w (pre ++ [e]) b i (acc + ne e) (by rw [← ix_cons]; exact hl) (by omega) (by omega)

mutual
def bs : Stmt → Int
  | ⟨k, _, _, m, e, b, l, _⟩ => if k = 1 ∨ k = 4 ∨ k = 6 then 1 + ne e else if k = 2 ∨ k = 3 ∨ k = 9 then 1 else if k = 5 then 2
    else if k = 7 then (if l.length = 0 then 1 + ne e + bl b else 1 + ne e + bl b + (1 + bl l)) else if k = 8 then max 0 (min m 2147483647) * bl b else 0
def bl : List Stmt → Int
  | [] => 0
  | s :: r => bs s + bl r
end

theorem len_wtl : ∀ l : List Stmt, l.length ≤ wtl l
  | [] => by simp
  | e :: r => by
    have := len_wtl r
    cases e
    rw [List.length_cons, wtl, wt]; omega

theorem bs_le : (∀ s d, okS d s → 0 ≤ bs s ∧ bs s ≤ wt s) ∧ ∀ l d, okSl d l → 0 ≤ bl l ∧ bl l ≤ wtl l := by
  refine stmt_ind ?_ (by simp [bl, wtl]) ?_
  · intro k w v m e b l a hb hl d h
    rw [okS] at h
    obtain ⟨h1, _, h3, h4, h5⟩ := h
    have hb := hb _ h4
    have hl := hl _ h5
    have hn := ne_le.1 e
    rw [bs, wt]
    cases h1 <;> simp <;> (try split) <;> (try simp only [bl, wtl] at *) <;> (try omega)
    have k0 : 0 ≤ m := by assumption
    have k1 : m ≤ 2 := by assumption
    have e1 : max 0 (min m 2147483647) = m := by omega
    rw [e1]
    have := Int.mul_nonneg k0 hb.1
    have h8 : m * bl b ≤ 2 * bl b := Int.mul_le_mul_of_nonneg_right k1 hb.1
    omega
  · intro s r h1 h2 d h
    rw [okSl] at h
    have := h1 _ h.1
    have := h2 _ h.2
    rw [bl, wtl]; omega

theorem bstmt_ev : (∀ s d, okS d s → wt s ≤ 1000000 → Ev (fun n => bound_stmt n s) (bs s)) ∧
    ∀ l d, okSl d l → ∀ (pre : List Stmt) (acc : Int), (pre ++ l).length ≤ 1000000 → 0 ≤ acc → acc + wtl l ≤ 1000000 → Ev (fun n => bound_block_L0 n (pre ++ l) acc pre.length) (acc + bl l) := by
  refine stmt_ind ?_ ?_ ?_
  · intro k w v m e b l a ihb ihl d h hw
    rw [okS] at h
    obtain ⟨h1, _, h3, h4, h5⟩ := h
    rw [wt] at hw
    have lb := len_wtl b
    have ll := len_wtl l
    have bb := bs_le.2 b _ h4
    have bL := bs_le.2 l _ h5
    have hn := ne_le.1 e
    have he := bexpr_ev.1 e (by omega)
    have hB : Ev (fun n => bound_block n b) (bl b) := Ev.step (Ev.of_eq (fun n => by simp only [bound_block]; rfl) (by simpa using ihb _ h4 [] 0 (by simp; omega) (by omega) (by omega)))
    have hL : Ev (fun n => bound_block n l) (bl l) := Ev.step (Ev.of_eq (fun n => by simp only [bound_block]; rfl) (by simpa using ihl _ h5 [] 0 (by simp; omega) (by omega) (by omega)))
    have w1 : wr (1 + ne e) = 1 + ne e := wr_of (by omega)
    cases h1
    case assign => 
      refine Ev.step (Ev.of_eq (g := fun n => (bound_Expr n e).bind fun r => some (wr (1 + r))) (fun n => ?_) (Ev.bind he ?_))
      · simp only [bound_stmt, jn]; rfl
      · rw [w1]; exact Ev.ret _
    case lock => exact Ev.step (Ev.of_eq (g := fun n => some 1) (fun n => by simp only [bound_stmt, jn]; rfl) (Ev.ret _))
    case unlock => exact Ev.step (Ev.of_eq (g := fun n => some 1) (fun n => by simp only [bound_stmt, jn]; rfl) (Ev.ret _))
    case goto => exact Ev.step (Ev.of_eq (g := fun n => some 1) (fun n => by simp only [bound_stmt, jn]; rfl) (Ev.ret _))
    case recv => exact Ev.step (Ev.of_eq (g := fun n => some 2) (fun n => by simp only [bound_stmt, jn]; rfl) (Ev.ret _))
    case label => exact Ev.step (Ev.of_eq (g := fun n => some 0) (fun n => by simp only [bound_stmt, jn]; rfl) (Ev.ret _))
    case send =>
      refine Ev.step (Ev.of_eq (g := fun n => (bound_Expr n e).bind fun r => some (wr (1 + r))) (fun n => ?_) (Ev.bind he ?_))
      · simp only [bound_stmt, jn]; rfl
      · rw [w1]; exact Ev.ret _
    case print =>
      refine Ev.step (Ev.of_eq (g := fun n => (bound_Expr n e).bind fun r => some (wr (1 + r))) (fun n => ?_) (Ev.bind he ?_))
      · simp only [bound_stmt, jn]; rfl
      · rw [w1]; exact Ev.ret _
    case cond =>
      have w2 : wr (1 + ne e + bl b) = 1 + ne e + bl b := wr_of (by omega)
      have w3 : wr (1 + bl l) = 1 + bl l := wr_of (by omega)
      have w4 : wr (1 + ne e + bl b + (1 + bl l)) = 1 + ne e + bl b + (1 + bl l) := wr_of (by omega)
      cases l with
      | nil =>
        refine Ev.step (Ev.of_eq (g := fun n => (bound_Expr n e).bind fun r6 => (bound_block n b).bind fun r7 => some (wr (wr (1 + r6) + r7))) (fun n => ?_) (Ev.bind he (Ev.bind hB ?_)))
        · simp only [bound_stmt, jn]; rfl
        · rw [w1, w2]; exact Ev.ret _
      | cons s r =>
        have hd : decide (ln (s :: r) > 0) = true := decide_eq_true (by show ((r.length + 1 : Nat) : Int) > 0; omega)
        refine Ev.step (Ev.of_eq (g := fun n => (bound_Expr n e).bind fun r6 => (bound_block n b).bind fun r7 => (bound_block n (s :: r)).bind fun r10 => some (wr ((wr ((wr (1 + r6)) + r7)) + (wr (1 + r10))))) (fun n => ?_) (Ev.bind he (Ev.bind hB (Ev.bind hL ?_))))
        · simp only [bound_stmt, jn, hd, cond_true]; rfl
        · rw [w1, w2, w3, w4]; exact Ev.ret _
    case rep =>
      have k0 : 0 ≤ m := by assumption
      have k1 : m ≤ 2 := by assumption
      have e1 : gomax 0 (gomin m 2147483647) = max 0 (min m 2147483647) := by rw [gomin_eq, gomax_eq]
      have e2 : max 0 (min m 2147483647) = m := by omega
      have := Int.mul_nonneg k0 bb.1
      have h8 : m * bl b ≤ 2 * bl b := Int.mul_le_mul_of_nonneg_right k1 bb.1
      refine Ev.step (Ev.of_eq (g := fun n => (bound_block n b).bind fun r11 => some (wr ((gomax 0 (gomin m 2147483647)) * r11))) (fun n => ?_) (Ev.bind hB ?_))
      · simp only [bound_stmt, jn]; rfl
      · rw [e1, wr_of (by rw [e2]; omega)]; exact Ev.ret _
  · intro d _ pre acc hl h0 h1
    refine Ev.step (Ev.of_eq (g := fun n => some acc) (fun n => ?_) (by simpa [bl] using Ev.ret acc))
    simp only [bound_block_L0, List.append_nil, ix_ge, cond_false]
  · intro s r ihs ihr d h pre acc hl h0 h1
    rw [okSl] at h
    rw [wtl] at h1
    have hs := bs_le.1 s _ h.1
    have hp : pre.length ≤ 1000000 := by simp at hl; omega
    refine Ev.step (Ev.of_eq (g := fun n => (bound_stmt n s).bind fun r4 => bound_block_L0 n ((pre ++ [s]) ++ r) (gomin 2147483647 (wr (acc + r4))) ((pre ++ [s]).length)) (fun n => ?_) (Ev.bind (ihs _ h.1 (by omega)) ?_))
    · simp only [bound_block_L0, ix_lt, cond_true, ix_get, Option.bind_some]
      rw [ix_wr pre s (by omega), ← ix_cons]
    · rw [wr_of (by omega), gomin_eq, show min (2147483647 : Int) (acc + bs s) = acc + bs s by omega, bl, ← Int.add_assoc]
      exact ihr _ h.2 (pre ++ [s]) (acc + bs s) (by rw [← ix_cons]; exact hl) (by omega) (by omega)

theorem bblock_ev (l : List Stmt) (d : Nat) (h : okSl d l) (hw : wtl l ≤ 1000000) : Ev (fun n => bound_block n l) (bl l) := by
  have := len_wtl l
  exact Ev.step (Ev.of_eq (fun n => by simp only [bound_block]; rfl) (by simpa using bstmt_ev.2 l d h [] 0 (by simp; omega) (by omega) (by omega)))
end Go.Su.Ytfmgnboplbgniaa
