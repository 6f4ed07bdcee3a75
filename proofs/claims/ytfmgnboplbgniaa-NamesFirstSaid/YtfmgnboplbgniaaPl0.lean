/-
  What a fuelled function comes to, once there is fuel enough.
-/
import Derived.Test.YtfmgnboplbgniaaDx11
namespace Go.Mx
set_option linter.unusedVariables false

def Ev {α : Type} (f : Nat → Option α) (r : α) : Prop := ∃ k, ∀ n, k ≤ n → f n = some r

namespace Ev
variable {α β : Type}
theorem get {f : Nat → Option α} {r : α} (h : Ev f r) : ∃ n, f n = some r := by
  obtain ⟨k, hk⟩ := h
  exact ⟨k, hk k (Nat.le_refl _)⟩
theorem ret (r : α) : Ev (fun _ => some r) r := ⟨0, fun _ _ => rfl⟩
theorem of_eq {f g : Nat → Option α} {r : α} (h : ∀ n, f n = g n) (hg : Ev g r) : Ev f r := by
  obtain ⟨k, hk⟩ := hg
  exact ⟨k, fun n hn => (h n).trans (hk n hn)⟩
theorem step {f : Nat → Option α} {r : α} (h : Ev (fun n => f (n + 1)) r) : Ev f r := by
  obtain ⟨k, hk⟩ := h
  refine ⟨k + 1, fun n hn => ?_⟩
  obtain ⟨m, rfl⟩ : ∃ m, n = m + 1 := ⟨n - 1, by omega⟩
  exact hk m (by omega)
theorem bind {f : Nat → Option α} {g : Nat → α → Option β} {x : α} {r : β} (h : Ev f x) (h' : Ev (fun n => g n x) r) : Ev (fun n => (f n).bind (g n)) r := by
  obtain ⟨k, hk⟩ := h
  obtain ⟨k', hk'⟩ := h'
  refine ⟨max k k', fun n hn => ?_⟩
  show (f n).bind (g n) = some r
  rw [hk n (by omega)]
  exact hk' n (by omega)
theorem opt {o : Option α} {g : Nat → α → Option β} {x : α} {r : β} (h : o = some x) (h' : Ev (fun n => g n x) r) : Ev (fun n => o.bind (g n)) r := by
  subst h; exact h'
theorem ite {b : Bool} {f g : Nat → Option α} {r : α} (ht : b = true → Ev f r) (hf : b = false → Ev g r) : Ev (fun n => bif b then f n else g n) r := by
  cases b
  · exact hf rfl
  · exact ht rfl
theorem yes {b : Bool} {f g : Nat → Option α} {r : α} (hb : b = true) (ht : Ev f r) : Ev (fun n => bif b then f n else g n) r := by
  subst hb; exact ht
theorem no {b : Bool} {f g : Nat → Option α} {r : α} (hb : b = false) (hf : Ev g r) : Ev (fun n => bif b then f n else g n) r := by
  subst hb; exact hf
theorem unique {f : Nat → Option α} {r s : α} (h : Ev f r) (h' : Ev f s) : r = s := by
  obtain ⟨k, hk⟩ := h
  obtain ⟨k', hk'⟩ := h'
  have h1 := hk (max k k') (by omega)
  rw [hk' (max k k') (by omega)] at h1
  exact (Option.some.inj h1).symm
end Ev

theorem wr_of {x : Int} (h : -9223372036854775808 ≤ x ∧ x ≤ 9223372036854775807) : wr x = x := by
  have e : wr x = (x + 9223372036854775808) % 18446744073709551616 - 9223372036854775808 := by
    simp only [wr, IntKind.wrap, IntKind.bits, IntKind.signed, Bool.true_and]
    by_cases h0 : x % 18446744073709551616 ≥ 9223372036854775808
    · rw [if_pos (by simpa using h0)]; omega
    · rw [if_neg (by simpa using h0)]; omega
  rw [e]; omega
theorem room_of {bt a b : Nat} (h : (a + b) * bt ≤ 140737488355328) : room bt a b = true := by
  unfold room; simpa using h
theorem idx_of {α : Type} {l : List α} {n : Int} {a : α} (h0 : 0 ≤ n) (h : l[n.toNat]? = some a) : idx l n = some a := by
  unfold idx
  rw [h]
  have : ¬ n < 0 := by omega
  simp [this]
theorem gomin_eq (a b : Int) : gomin a b = min a b := by
  unfold gomin; split <;> omega
theorem gomax_eq (a b : Int) : gomax a b = max a b := by
  unfold gomax; split <;> omega
end Go.Mx
