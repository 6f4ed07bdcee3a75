/-
  Programs out of raw numbers are shown: to an end, in not too long a text.
-/
import Derived.Test.YtfmgnboplbgniaaZDx16
import Derived.KernelRfl
import Derived.Test.YtfmgnboplbgniaaZPlSome
import Derived.Test.YtfmgnboplbgniaaZPlParse
import Derived.Test.YtfmgnboplbgniaaZPlCost
namespace Go.Mx
open Ieee
set_option linter.unusedVariables false
set_option maxRecDepth 20000
theorem cut0 (n : Nat) : Toward.even.cut false n 0 = n := by
 unfold Toward.cut
 simp [Nat.mod_one]
theorem cutE (n d : Nat) (hd : d ≤ (n * 2 ^ d).log2 + 2) : Toward.even.cut false (n * 2 ^ d) d = n := by
 have hp : 0 < 2 ^ d := Nat.pow_pos (by omega)
 have e1 : 1 <<< min d ((n * 2 ^ d).log2 + 2) = 2 ^ d := by rw [Nat.min_eq_left hd, Nat.one_shiftLeft]
 have e2 : n * 2 ^ d / 2 ^ d = n := Nat.mul_div_cancel _ hp
 have e3 : n * 2 ^ d % 2 ^ d = 0 := Nat.mul_mod_left _ _
 have e4 : decide (2 ^ d < 2 * 0) = false := by simp
 have e5 : ((2 ^ d == 2 * 0) : Bool) = false := by simp
 unfold Toward.cut
 simp only [e1, e2, e3, e4, e5, Bool.false_and, Bool.or_false, Bool.toNat_false, Nat.add_zero]
theorem log_mul (N k : Nat) (h0 : 0 < N) : (N * 2 ^ k).log2 = N.log2 + k := by
 have hp : 0 < 2 ^ k := Nat.pow_pos (by omega)
 have h1 : N * 2 ^ k ≠ 0 := by
  have := Nat.mul_pos h0 hp; omega
 rw [Nat.log2_eq_iff h1]
 obtain ⟨l1, l2⟩ := (Nat.log2_eq_iff (n := N) (k := N.log2) (by omega)).1 rfl
 constructor
 ·rw [Nat.pow_add]; exact Nat.mul_le_mul_right _ l1
 ·rw [show N.log2 + k + 1 = (N.log2 + 1) + k by omega, Nat.pow_add]
  exact Nat.mul_lt_mul_of_pos_right l2 hp
theorem near_nat (N k : Nat) (h0 : 0 < N) (h : N < 2 ^ 53) (hk : k ≤ 1074) : double.nearest false (N * 2 ^ k) (-(k : Int)) = (N.log2 + 1022) * 2 ^ 52 + N * 2 ^ (52 - N.log2) := by
 obtain ⟨l1, l2⟩ := (Nat.log2_eq_iff (n := N) (k := N.log2) (by omega)).1 rfl
 have hL : N.log2 ≤ 52 := by
  apply Classical.byContradiction; intro hc
  have : 2 ^ 53 ≤ 2 ^ N.log2 := Nat.pow_le_pow_right (by omega) (by omega)
  omega
 have hp : 0 < 2 ^ k := Nat.pow_pos (by omega)
 have hm : N * 2 ^ k ≠ 0 := by
  have := Nat.mul_pos h0 hp; omega
 have hl := log_mul N k h0
 have hlp : double.leastPlace = -1074 := by kernel_rfl
 have hfb : (double.fractionBits : Int) = 52 := rfl
 have hbin : double.binade = 2 ^ 52 := rfl
 have hinf : double.infRung = 2047 * 2 ^ 52 := by kernel_rfl
 have hlast : max (-(k : Int) + ((N * 2 ^ k).log2 : Int) - (double.fractionBits : Int)) double.leastPlace = (N.log2 : Int) - 52 := by
  rw [hl, hlp, hfb]; omega
 have hK : N * 2 ^ (52 - N.log2) < 2 ^ 53 := by
  have : N * 2 ^ (52 - N.log2) < 2 ^ (N.log2 + 1) * 2 ^ (52 - N.log2) := Nat.mul_lt_mul_of_pos_right l2 (Nat.pow_pos (by omega))
  rw [← Nat.pow_add, show N.log2 + 1 + (52 - N.log2) = 53 by omega] at this
  exact this
 have hcut : Toward.even.cut false ((N * 2 ^ k) <<< (-(k : Int) - ((N.log2 : Int) - 52)).toNat) ((N.log2 : Int) - 52 - -(k : Int)).toNat = N * 2 ^ (52 - N.log2) := by
  by_cases hc : k + N.log2 ≤ 52
  ·rw [show (-(k : Int) - ((N.log2 : Int) - 52)).toNat = 52 - N.log2 - k by omega, show ((N.log2 : Int) - 52 - -(k : Int)).toNat = 0 by omega, cut0, Nat.shiftLeft_eq, Nat.mul_assoc, ← Nat.pow_add, show k + (52 - N.log2 - k) = 52 - N.log2 by omega]
  ·rw [show (-(k : Int) - ((N.log2 : Int) - 52)).toNat = 0 by omega, show ((N.log2 : Int) - 52 - -(k : Int)).toNat = N.log2 + k - 52 by omega, Nat.shiftLeft_zero]
   have e : N * 2 ^ k = (N * 2 ^ (52 - N.log2)) * 2 ^ (N.log2 + k - 52) := by
    rw [Nat.mul_assoc, ← Nat.pow_add, show 52 - N.log2 + (N.log2 + k - 52) = k by omega]
   rw [e]
   exact cutE _ _ (by rw [← e, hl]; omega)
 unfold Format.nearest
 rw [if_neg hm]
 simp only [hlast, hcut]
 unfold Format.word
 rw [hlp, hbin, hinf, show ((N.log2 : Int) - 52 - -1074).toNat = N.log2 + 1022 by omega]
 simp only [Bool.false_eq_true, if_false]
 rw [Nat.min_eq_left]
 omega
theorem read_nat (N : Nat) (h : N < 2 ^ 53) : ∃ (m : Nat) (p : Nat), p ≤ 1074 ∧ double.read (double.nearest false N 0) = .number false m (-(p : Int)) ∧ m = N * 2 ^ p ∧ (0 < N → p ≤ 52) := by
 by_cases h0 : N = 0
 ·subst h0
  obtain ⟨p, hp⟩ : ∃ p : Nat, p = 1074 := ⟨_, rfl⟩
  exact ⟨0, p, by omega, by rw [hp]; kernel_rfl, (Nat.zero_mul _).symm, fun h => absurd h (by omega)⟩
 ·have hn := near_nat N 0 (by omega) h (by omega)
  rw [Nat.pow_zero, Nat.mul_one, show (-((0 : Nat) : Int)) = 0 from rfl] at hn
  obtain ⟨l1, l2⟩ := (Nat.log2_eq_iff (n := N) (k := N.log2) (by omega)).1 rfl
  have hL : N.log2 ≤ 52 := by
   apply Classical.byContradiction; intro hc
   have : 2 ^ 53 ≤ 2 ^ N.log2 := Nat.pow_le_pow_right (by omega) (by omega)
   omega
  have hK : N * 2 ^ (52 - N.log2) < 2 ^ 53 := by
   have : N * 2 ^ (52 - N.log2) < 2 ^ (N.log2 + 1) * 2 ^ (52 - N.log2) := Nat.mul_lt_mul_of_pos_right l2 (Nat.pow_pos (by omega))
   rw [← Nat.pow_add, show N.log2 + 1 + (52 - N.log2) = 53 by omega] at this
   exact this
  have hK2 : 2 ^ 52 ≤ N * 2 ^ (52 - N.log2) := by
   have : 2 ^ N.log2 * 2 ^ (52 - N.log2) ≤ N * 2 ^ (52 - N.log2) := Nat.mul_le_mul_right _ l1
   rw [← Nat.pow_add, show N.log2 + (52 - N.log2) = 52 by omega] at this
   exact this
  refine ⟨N * 2 ^ (52 - N.log2), 52 - N.log2, by omega, ?_, rfl, fun _ => by omega⟩
  have hlp : double.leastPlace = -1074 := by kernel_rfl
  have hbin : double.binade = 2 ^ 52 := rfl
  have hinf : double.infRung = 2047 * 2 ^ 52 := by kernel_rfl
  have hsw : double.signWeight = 2 ^ 63 := rfl
  rw [hn]
  generalize hR : (N.log2 + 1022) * 2 ^ 52 + N * 2 ^ (52 - N.log2) = R
  generalize N * 2 ^ (52 - N.log2) = K at hK hK2 hR ⊢
  unfold Format.read
  simp only [hsw, hbin, hinf, hlp]
  have r1 : R % 2 ^ 63 = R := Nat.mod_eq_of_lt (by omega)
  have r2 : R / 2 ^ 63 = 0 := Nat.div_eq_of_lt (by omega)
  rw [r1, r2, if_neg (by omega), if_pos (by omega)]
  have hp52 : (2 : Nat) ^ 52 = 4503599627370496 := by kernel_rfl
  have hp53 : (2 : Nat) ^ 53 = 9007199254740992 := by kernel_rfl
  rw [hp52] at hK2 hR ⊢
  rw [hp53] at hK
  have e1 : 4503599627370496 + R % 4503599627370496 = K := by omega
  have e2 : R / 4503599627370496 = N.log2 + 1023 := by omega
  have e3 : ((-1074 : Int) + ((N.log2 + 1023 - 1 : Nat) : Int)) = -((52 - N.log2 : Nat) : Int) := by omega
  rw [e1, e2, e3]
  rfl
theorem add_nat (a b : Nat) (h : a + b < 2 ^ 53) : FloatKind.f64.format.add (FloatKind.f64.nearest (a : Int)) (FloatKind.f64.nearest (b : Int)) = some (FloatKind.f64.nearest ((a + b : Nat) : Int)) := by
 have e : ∀ n : Nat, FloatKind.f64.nearest (n : Int) = double.nearest false n 0 := by
  intro n
  show double.nearest (decide ((n : Int) < 0)) (n : Int).natAbs 0 = _
  rw [decide_eq_false (by omega), Int.natAbs_natCast]
 rw [e, e, e]
 obtain ⟨m, p, hp, hr, hm, _⟩ := read_nat a (by omega)
 obtain ⟨t, q, hq, hs, ht, _⟩ := read_nat b (by omega)
 show ((double.read _).sum (double.read _)).map double.write = _
 rw [hr, hs]
 obtain ⟨k, hk, hkp, hkq⟩ : ∃ k : Nat, min (-(p : Int)) (-(q : Int)) = -(k : Int) ∧ p ≤ k ∧ q ≤ k ∧ k ≤ 1074 := ⟨max p q, by omega, by omega, by omega, by omega⟩
 have s1 : signed false m (-(p : Int) - -(k : Int)).toNat = ((a * 2 ^ k : Nat) : Int) := by
  unfold signed
  simp only [Bool.false_eq_true, if_false]
  rw [show (-(p : Int) - -(k : Int)).toNat = k - p by omega, Nat.shiftLeft_eq, hm, Nat.mul_assoc, ← Nat.pow_add, show p + (k - p) = k by omega]
 have s2 : signed false t (-(q : Int) - -(k : Int)).toNat = ((b * 2 ^ k : Nat) : Int) := by
  unfold signed
  simp only [Bool.false_eq_true, if_false]
  rw [show (-(q : Int) - -(k : Int)).toNat = k - q by omega, Nat.shiftLeft_eq, ht, Nat.mul_assoc, ← Nat.pow_add, show q + (k - q) = k by omega]
 have s3 : ((a * 2 ^ k : Nat) : Int) + ((b * 2 ^ k : Nat) : Int) = (((a + b) * 2 ^ k : Nat) : Int) := by rw [Nat.add_mul]; omega
 unfold Datum.sum
 simp only [hk, s1, s2, s3, Option.map_some, Bool.and_self]
 congr 1
 unfold Format.write
 simp only [Int.natAbs_natCast]
 have hneg : (if (((a + b) * 2 ^ k : Nat) : Int) = 0 then false else decide ((((a + b) * 2 ^ k : Nat) : Int) < 0)) = false := by
  split
  ·rfl
  ·exact decide_eq_false (by omega)
 rw [hneg]
 by_cases h0 : a + b = 0
 ·rw [h0, Nat.zero_mul]
  unfold Format.nearest
  rw [if_pos rfl, if_pos rfl]
 ·rw [near_nat (a + b) k (by omega) h hkq.2]
  have := near_nat (a + b) 0 (by omega) h (by omega)
  rw [Nat.pow_zero, Nat.mul_one, show (-((0 : Nat) : Int)) = 0 from rfl] at this
  rw [this]
theorem near_eq (n : Nat) : FloatKind.f64.nearest (n : Int) = double.nearest false n 0 := by
 show double.nearest (decide ((n : Int) < 0)) (n : Int).natAbs 0 = _
 rw [decide_eq_false (by omega), Int.natAbs_natCast]
theorem near_zero (f : Format) (k : Int) : f.nearest false 0 k = 0 := by
 unfold Format.nearest; rw [if_pos rfl]; rfl
theorem mul_nat (a b : Nat) (ha : a < 2 ^ 53) (hb : b < 2 ^ 53) (h : a * b < 2 ^ 53) : FloatKind.f64.format.mul (FloatKind.f64.nearest (a : Int)) (FloatKind.f64.nearest (b : Int)) = some (FloatKind.f64.nearest ((a * b : Nat) : Int)) := by
 rw [near_eq, near_eq, near_eq]
 obtain ⟨m, p, hp, hr, hm, hp2⟩ := read_nat a ha
 obtain ⟨t, q, hq, hs, ht, hq2⟩ := read_nat b hb
 show ((double.read _).product (double.read _)).map double.write = _
 rw [hr, hs]
 show some (double.nearest false (m * t) (-(p : Int) + -(q : Int))) = _
 congr 1
 by_cases h0 : a * b = 0
 ·have : m * t = 0 := by
   rcases Nat.mul_eq_zero.1 h0 with e | e
   ·rw [hm, e, Nat.zero_mul, Nat.zero_mul]
   ·rw [ht, e, Nat.zero_mul, Nat.mul_zero]
  rw [this, h0, near_zero, near_zero]
 ·have a0 : 0 < a := Nat.pos_of_ne_zero fun e => h0 (by rw [e, Nat.zero_mul])
  have b0 : 0 < b := Nat.pos_of_ne_zero fun e => h0 (by rw [e, Nat.mul_zero])
  have e1 : m * t = (a * b) * 2 ^ (p + q) := by rw [hm, ht, Nat.pow_add, Nat.mul_mul_mul_comm]
  have e2 : (-(p : Int) + -(q : Int)) = -((p + q : Nat) : Int) := by omega
  have := hp2 a0
  have := hq2 b0
  rw [e1, e2, near_nat (a * b) (p + q) (by omega) h (by omega)]
  have := near_nat (a * b) 0 (by omega) h (by omega)
  rw [Nat.pow_zero, Nat.mul_one, show (-((0 : Nat) : Int)) = 0 from rfl] at this
  rw [this]
theorem sub_zero_nat (a : Nat) (h : a < 2 ^ 53) : FloatKind.f64.format.sub (FloatKind.f64.nearest (a : Int)) 0 = some (FloatKind.f64.nearest (a : Int)) := by
 rw [near_eq]
 obtain ⟨m, p, hp, hr, hm, _⟩ := read_nat a h
 have hz : (double.read 0).opposite = .number true 0 (-1074) := by kernel_rfl
 show ((double.read _).sum (double.read 0).opposite).map double.write = _
 rw [hr, hz]
 have hk : min (-(p : Int)) (-1074) = -((1074 : Nat) : Int) := by omega
 have s1 : signed false m (-(p : Int) - -((1074 : Nat) : Int)).toNat = ((a * 2 ^ 1074 : Nat) : Int) := by
  unfold signed
  simp only [Bool.false_eq_true, if_false]
  rw [show (-(p : Int) - -((1074 : Nat) : Int)).toNat = 1074 - p by omega, Nat.shiftLeft_eq, hm, Nat.mul_assoc, ← Nat.pow_add, show p + (1074 - p) = 1074 by omega]
 have s2 : ∀ j, signed true 0 j = 0 := by
  intro j; unfold signed; simp
 unfold Datum.sum
 simp only [hk, s1, s2, Int.add_zero, Option.map_some, Bool.false_and]
 congr 1
 unfold Format.write
 simp only [Int.natAbs_natCast]
 generalize hg : (1074 : Nat) = g at *
 have hneg : (if ((a * 2 ^ g : Nat) : Int) = 0 then false else decide (((a * 2 ^ g : Nat) : Int) < 0)) = false := by
  split
  ·rfl
  ·exact decide_eq_false (by omega)
 rw [hneg]
 by_cases h0 : a = 0
 ·rw [h0, Nat.zero_mul, near_zero, near_zero]
 ·rw [near_nat a g (by omega) h (by omega)]
  have := near_nat a 0 (by omega) h (by omega)
  rw [Nat.pow_zero, Nat.mul_one, show (-((0 : Nat) : Int)) = 0 from rfl] at this
  rw [this]
end Go.Mx
namespace Go.Su.Ytfmgnboplbgniaa
open Go.Mx Go.Proofs
set_option linter.unusedVariables false
set_option linter.unusedSimpArgs false
set_option maxHeartbeats 4000000
theorem nx_bd (w k m B c : Int) (h0 : 0 ≤ w) (m0 : 0 ≤ m) (m9 : m ≤ 9) (hc : 1 ≤ c) (h : w * (c * 9) ≤ B) (hB : B ≤ 1000000000) : 0 ≤ nx w k m ∧ nx w k m * c ≤ B ∧ w ≤ B := by
 have e : w * (c * 9) = 9 * (w * c) := by rw [Int.mul_comm c 9, ← Int.mul_assoc, Int.mul_comm w 9, Int.mul_assoc]
 have hwc : w ≤ w * c := by
  have := Int.mul_le_mul_of_nonneg_left hc h0
  omega
 have hm1 : 0 ≤ w * m := Int.mul_nonneg h0 m0
 have hm2 : w * m ≤ w * 9 := Int.mul_le_mul_of_nonneg_left m9 h0
 have hwr : wr (w * m) = w * m := wr_of (by omega)
 unfold nx
 cases (k == 8)
 ·exact ⟨h0, by show w * c ≤ B; omega, by omega⟩
 ·refine ⟨by show 0 ≤ wr (w * m); omega, ?_, by omega⟩
  show wr (w * m) * c ≤ B
  rw [hwr]
  have : w * m * c ≤ w * 9 * c := Int.mul_le_mul_of_nonneg_right hm2 (by omega)
  have e2 : w * 9 * c = 9 * (w * c) := by rw [Int.mul_comm w 9, Int.mul_assoc]
  omega
theorem pow9 : ∀ d : Nat, (1 : Int) ≤ 9 ^ d
 | 0 => by simp
 | d + 1 => by have := pow9 d; rw [Int.pow_succ]; omega
theorem wg_bd (B : Int) (hB : B ≤ 1000000000) : (∀ s : Stmt, ∀ (d : Nat) (w : Int), 0 ≤ s.N → s.N ≤ 9 → wfl d s.Body → wfl d s.Else → 0 ≤ w → w * (9 ^ d * 9) ≤ B → ∀ v ∈ wgS s w, 0 ≤ v ∧ v ≤ B) ∧
  ∀ l : List Stmt, ∀ (d : Nat) (w : Int), wfl d l → 0 ≤ w → w * 9 ^ d ≤ B → ∀ v ∈ wgL l w, 0 ≤ v ∧ v ≤ B := by
 refine stmt_ind ?_ (fun d w _ _ _ v hv => by simp [wgL] at hv) ?_
 ·intro k u o m e b l a hb hl d w m0 m9 h1 h2 h3 h4 v hv
  obtain ⟨n1, n2, n3⟩ := nx_bd w k m B (9 ^ d) h3 m0 m9 (pow9 d) h4 hB
  rw [wgS, List.mem_cons, List.mem_append] at hv
  rcases hv with rfl | hv | hv
  ·exact ⟨h3, n3⟩
  ·exact hb d _ h1 n1 n2 v hv
  ·exact hl d _ h2 n1 n2 v hv
 ·intro s r hs hr d w h h3 h4 v hv
  cases d with
  | zero => exact absurd (show s :: r = [] from h) (by simp)
  | succ d =>
   rw [wgL, List.mem_append] at hv
   rcases hv with hv | hv
   ·obtain ⟨_, q2, q3, q4, q5⟩ := h s (by simp)
    exact hs d w q2 q3 q4 q5 h3 (by rw [← Int.pow_succ]; exact h4) v hv
   ·exact hr (d + 1) w (fun y hy => h y (by simp [hy])) h3 h4 v hv
theorem wgT_bd : ∀ ts : List (List Stmt), (∀ t ∈ ts, wfl 8 t) → ∀ v ∈ wgT ts, 0 ≤ v ∧ v ≤ 43046721
 | [], _, v, hv => by simp [wgT] at hv
 | t :: r, h, v, hv => by
  rw [wgT, List.mem_append] at hv
  rcases hv with hv | hv
  ·exact (wg_bd 43046721 (by omega)).2 t 8 1 (h t (by simp)) (by omega) (by decide) v hv
  ·exact wgT_bd r (fun x hx => h x (by simp [hx])) v hv
theorem one_add : FloatKind.f64.format.add 4607182418800017408 0 = some 4607182418800017408 := by kernel_rfl
theorem near0 : FloatKind.f64.nearest ((0 : Nat) : Int) = 0 := by kernel_rfl
theorem cadd_nat (a b : Nat) (h : a + b < 2 ^ 53) : cadd ⟨FloatKind.f64.nearest (a : Int), 4607182418800017408⟩ ⟨FloatKind.f64.nearest (b : Int), 0⟩ = some ⟨FloatKind.f64.nearest ((a + b : Nat) : Int), 4607182418800017408⟩ := by
 unfold cadd
 simp only [add_nat a b h, one_add, Option.bind_some]
end Go.Su.Ytfmgnboplbgniaa
namespace Go.Su.Ytfmgnboplbgniaa
open Go.Mx Go.Proofs
set_option linter.unusedVariables false
set_option linter.unusedSimpArgs false
set_option maxHeartbeats 4000000
theorem near2 : FloatKind.f64.nearest ((2 : Nat) : Int) = 4611686018427387904 := by kernel_rfl
theorem mul00 : FloatKind.f64.format.mul 0 0 = some 0 := by kernel_rfl
theorem mul20 : FloatKind.f64.format.mul 4611686018427387904 0 = some 0 := by kernel_rfl
theorem add00 : FloatKind.f64.format.add 0 0 = some 0 := by kernel_rfl
theorem cmul_nat (v : Nat) (h : 2 * v < 2 ^ 53) : cmul ⟨4611686018427387904, 0⟩ ⟨FloatKind.f64.nearest (v : Int), 0⟩ = some ⟨FloatKind.f64.nearest ((2 * v : Nat) : Int), 0⟩ := by
 have e1 : FloatKind.f64.format.mul 4611686018427387904 (FloatKind.f64.nearest (v : Int)) = some (FloatKind.f64.nearest ((2 * v : Nat) : Int)) := by
  rw [← near2]; exact mul_nat 2 v (by omega) (by omega) h
 have e2 : FloatKind.f64.format.mul 0 (FloatKind.f64.nearest (v : Int)) = some 0 := by
  have := mul_nat 0 v (by omega) (by omega) (by omega)
  rw [Nat.zero_mul, near0] at this; exact this
 have e3 := sub_zero_nat (2 * v) h
 unfold cmul
 simp only [e1, mul00, e3, mul20, e2, add00, Option.bind_some]
theorem Guard_L0 (p : Prog) (nm : List ByteArray) (W L : List Int) (hL : L.length ≤ 1000000) (hk : ∀ v ∈ L, ∃ k : Nat, k < W.length ∧ v = k) (hW : ∀ v ∈ W, 0 ≤ v ∧ v ≤ 43046721) :
  ∀ (m i s : Nat), L.length - i ≤ m → i ≤ L.length → s ≤ 86093442 * i →
   ∃ r : Nat, Ev (fun n => cost_Guard_L0 n p nm W L ⟨FloatKind.f64.nearest (s : Int), 4607182418800017408⟩ (i : Int)) ⟨FloatKind.f64.nearest (r : Int), 4607182418800017408⟩ ∧ Ev (fun n => ref22_Guard_L0 n p nm W L (s : Int) (i : Int)) (r : Int) ∧ r ≤ 86093442000000
 | m, i, s, h1, h2, h3 => by
  by_cases hi : i < L.length
  ·match m, h1 with
   | 0, h1 => exact absurd h1 (by omega)
   | m + 1, h1 =>
    have d1 : decide ((i : Int) < ln L) = true := decide_eq_true (by show (i : Int) < (L.length : Int); omega)
    obtain ⟨k, hkl, hkv⟩ := hk _ (List.getElem_mem hi)
    have i1 : idx L (i : Int) = some (k : Int) := by rw [← hkv]; exact idx_of (by omega) (by rw [Int.toNat_natCast]; exact List.getElem?_eq_getElem hi)
    have i2 : idx W (k : Int) = some (W[k]'hkl) := idx_of (by omega) (by rw [Int.toNat_natCast]; exact List.getElem?_eq_getElem hkl)
    have e3 : wr ((i : Int) + 1) = ((i + 1 : Nat) : Int) := by rw [wr_of (by omega)]; rfl
    have hw := hW _ (List.getElem_mem hkl)
    obtain ⟨v, hv⟩ : ∃ v : Nat, W[k]'hkl = (v : Int) := ⟨(W[k]'hkl).toNat, by omega⟩
    rw [hv] at i2 hw
    have hm := cmul_nat v (by omega)
    have hc := cadd_nat s (2 * v) (by omega)
    have e4 : wr ((s : Int) + wr (2 * (v : Int))) = ((s + 2 * v : Nat) : Int) := by rw [wr_of (x := 2 * (v : Int)) (by omega), wr_of (by omega)]; omega
    obtain ⟨r, k1, k2, k3⟩ := Guard_L0 p nm W L hL hk hW m (i + 1) (s + 2 * v) (by omega) (by omega) (by omega)
    refine ⟨r, Ev.step (Ev.of_eq (fun n => ?_) k1), Ev.step (Ev.of_eq (fun n => ?_) k2), k3⟩
    ·simp only [cost_Guard_L0, d1, cond_true, i1, i2, Option.bind_some, cost_whole, hm, hc, e3]
    ·simp only [ref22_Guard_L0, d1, cond_true, i1, i2, Option.bind_some, e3, e4]
  ·have d1 : decide ((i : Int) < ln L) = false := decide_eq_false (by show ¬ (i : Int) < (L.length : Int); omega)
   exact ⟨s, Ev.step (Ev.of_eq (g := fun n => some _) (fun n => by simp only [cost_Guard_L0, d1, cond_false]) (Ev.ret _)), Ev.step (Ev.of_eq (g := fun n => some _) (fun n => by simp only [ref22_Guard_L0, d1, cond_false]) (Ev.ret _)), by omega⟩
theorem Guard_ev (D : List Decl) (ts : List (List Stmt)) (nm : List ByteArray) (hn : nm.length ≤ 4000000) (hz : szT ts ≤ 40000) (hw : ∀ t ∈ ts, wfl 8 t) : ∃ r : Nat, Ev (fun n => cost_Guard n ⟨D, ts⟩ nm) ⟨FloatKind.f64.nearest (r : Int), 4607182418800017408⟩ ∧ Ev (fun n => ref22_Guard n ⟨D, ts⟩ nm) (r : Int) ∧ r ≤ 86093442000000 := by
 obtain ⟨L, w1, w2, w3, w4⟩ := Wrapped_ev D ts nm hn (by omega)
 obtain ⟨r, k1, k2, k3⟩ := Guard_L0 ⟨D, ts⟩ nm (wgT ts) L w3 (fun v hv => by rw [wgT_len]; exact w4 v hv) (wgT_bd ts hw) L.length 0 0 (by omega) (by omega) (by omega)
 rw [near0] at k1
 exact ⟨r, Ev.of_eq (g := fun n => (cost_Weights n ⟨D, ts⟩).bind fun r1 => (cost_Wrapped n ⟨D, ts⟩ nm).bind fun r2 => cost_Guard_L0 n ⟨D, ts⟩ nm r1 r2 ⟨0, 4607182418800017408⟩ 0) (fun n => by simp only [cost_Guard]) (Ev.bind (Weights_ev D ts (by omega)) (Ev.bind w1 k1)),
  Ev.of_eq (g := fun n => (ref22_Weights n ⟨D, ts⟩).bind fun r1 => (ref22_Wrapped n ⟨D, ts⟩ nm).bind fun r2 => ref22_Guard_L0 n ⟨D, ts⟩ nm r1 r2 0 0) (fun n => by simp only [ref22_Guard]) (Ev.bind (rWeights_ev D ts (by omega)) (Ev.bind w2 k2)), k3⟩
end Go.Su.Ytfmgnboplbgniaa
namespace Go.Su.Ytfmgnboplbgniaa
open Go.Mx Go.Proofs
set_option linter.unusedVariables false
set_option linter.unusedSimpArgs false
set_option maxHeartbeats 4000000
theorem sroom_of {a b : ByteArray} (h : a.size + b.size ≤ 9223372036854775807) : sroom a b = true := by
 unfold sroom
 have : ¬ (((a.size + b.size : Nat) : Int) > IntKind.i64.max) := by
  have e : IntKind.i64.max = 9223372036854775807 := rfl
  rw [e]; omega
 rw [decide_eq_false this]; rfl
theorem size_app (a b : ByteArray) : (a ++ b).size = a.size + b.size := ByteArray.size_append
theorem digits_ev (k : Int) (h0 : 0 ≤ k) (h1 : k ≤ 9) : ∃ w, Ev (fun n => ref1_Digits n k) w ∧ w.size ≤ 1 := by
 have d : decide (k < 10) = true := decide_eq_true (by omega)
 exact ⟨_, Ev.step (Ev.of_eq (g := fun n => some (b2s [IntKind.u8.wrap (wr (48 + k))])) (fun n => by simp only [ref1_Digits, d, cond_true]) (Ev.ret _)), Nat.le_of_eq rfl⟩
theorem level_ev (k : Int) : ∃ r, (∀ n, ref1_level n k = some r) ∧ (4 ≤ k → k ≤ 10 → 1 ≤ r ∧ r ≤ 3) ∧ 0 ≤ r ∧ r ≤ 5 := by
 by_cases h : 1 ≤ k ∧ k ≤ 10
 ·have : k = 1 ∨ k = 2 ∨ k = 3 ∨ k = 4 ∨ k = 5 ∨ k = 6 ∨ k = 7 ∨ k = 8 ∨ k = 9 ∨ k = 10 := by omega
  rcases this with rfl | rfl | rfl | rfl | rfl | rfl | rfl | rfl | rfl | rfl
  ·exact ⟨5, fun n => rfl, by omega, by omega, by omega⟩
  ·exact ⟨5, fun n => rfl, by omega, by omega, by omega⟩
  ·exact ⟨4, fun n => rfl, by omega, by omega, by omega⟩
  ·exact ⟨2, fun n => rfl, by omega, by omega, by omega⟩
  ·exact ⟨2, fun n => rfl, by omega, by omega, by omega⟩
  ·exact ⟨3, fun n => rfl, by omega, by omega, by omega⟩
  ·exact ⟨3, fun n => rfl, by omega, by omega, by omega⟩
  ·exact ⟨3, fun n => rfl, by omega, by omega, by omega⟩
  ·exact ⟨1, fun n => rfl, by omega, by omega, by omega⟩
  ·exact ⟨1, fun n => rfl, by omega, by omega, by omega⟩
 ·have b : ∀ c : Int, 1 ≤ c → c ≤ 10 → (k == c) = false := fun c h1 h2 => by simp; omega
  refine ⟨0, fun n => ?_, by omega, by omega, by omega⟩
  simp only [ref1_level, jn, b 1 (by omega) (by omega), b 2 (by omega) (by omega), b 3 (by omega) (by omega), b 4 (by omega) (by omega), b 5 (by omega) (by omega), b 6 (by omega) (by omega), b 7 (by omega) (by omega), b 8 (by omega) (by omega), b 9 (by omega) (by omega), b 10 (by omega) (by omega), cond_false]
theorem sign_w (k : Int) : ∃ w, (∀ n, ref1_sign n k = some w) ∧ w.size ≤ 2 := by
 unfold ref1_sign
 cases (k == 4) with
 | true => exact ⟨_, fun _ => rfl, by decide⟩
 | false =>
 cases (k == 5) with
 | true => exact ⟨_, fun _ => rfl, by decide⟩
 | false =>
 cases (k == 6) with
 | true => exact ⟨_, fun _ => rfl, by decide⟩
 | false =>
 cases (k == 7) with
 | true => exact ⟨_, fun _ => rfl, by decide⟩
 | false =>
 cases (k == 8) with
 | true => exact ⟨_, fun _ => rfl, by decide⟩
 | false =>
 cases (k == 9) with
 | true => exact ⟨_, fun _ => rfl, by decide⟩
 | false => exact ⟨_, fun _ => rfl, by decide⟩
theorem show_ev : ∀ (d : Nat) (e : Expr), okE d e → szE e ≤ 1000000 → (∃ w, Ev (fun n => ref1_show n e) w ∧ w.size ≤ 20 * szE e) ∧ ∀ low, ∃ w, Ev (fun n => ref1_side n e low) w ∧ w.size ≤ 20 * szE e + 2 := by
 intro d
 induction d with
 | zero => intro e h; exact h.elim
 | succ d ih =>
  intro e h hz
  have hs : ∃ w, Ev (fun n => ref1_show n e) w ∧ w.size ≤ 20 * szE e := by
   obtain ⟨k, m, w, l⟩ := e
   obtain ⟨lv, hlv, hlv2, lv0, lv5⟩ := level_ev k
   rcases h with ⟨h1, h2, h3, h4, h5⟩ | ⟨h1, h2, h3, h5⟩ | ⟨h1, h2, h3, x, h5, h6⟩ | ⟨h1, h1', h2, h3, x, y, h5, h6, h7⟩ <;> simp only at h1 h2 h3 h5 <;> subst h5
   ·subst h1
    obtain ⟨w, k1, k2⟩ := digits_ev m h2 (by omega)
    refine ⟨w, Ev.step (Ev.of_eq (g := fun n => (ref1_Digits n m).bind fun r4 => some r4) (fun n => ?_) (Ev.bind k1 (Ev.ret _))), by rw [szE]; omega⟩
    simp only [ref1_show, hlv, Option.bind_some, jn, decide_eq_true (show m ≥ 0 from h2)]; rfl
   ·subst h1
    refine ⟨w, Ev.step (Ev.of_eq (g := fun n => some w) (fun n => ?_) (Ev.ret _)), ?_⟩
    ·simp only [ref1_show, hlv, Option.bind_some, jn]; rfl
    ·have : w.size ≤ 1 := by
      simp only [List.mem_cons, List.not_mem_nil, or_false] at h3
      rcases h3 with rfl | rfl | rfl | rfl | rfl <;> decide
     rw [szE]; omega
   ·subst h1
    rw [szE, szEl, szEl] at hz ⊢
    obtain ⟨w', k1, k2⟩ := (ih x h6 (by omega)).2 4
    have hr : sroom x_2d w' = true := sroom_of (by have : x_2d.size = 1 := rfl; omega)
    refine ⟨x_2d ++ w', Ev.step (Ev.of_eq (g := fun n => (ref1_side n x 4).bind fun r8 => bif sroom x_2d r8 then some (x_2d ++ r8) else none) (fun n => ?_) (Ev.bind k1 ?_)), ?_⟩
    ·simp only [ref1_show, hlv, Option.bind_some, jn]; rfl
    ·simp only [hr, cond_true]; exact Ev.ret _
    ·rw [size_app]; have : x_2d.size = 1 := rfl; omega
   ·rw [szE, szEl, szEl, szEl] at hz ⊢
    obtain ⟨q1, q2⟩ := hlv2 h1 h1'
    have b1 : (k == 1) = false := by simp; omega
    have b2 : (k == 2) = false := by simp; omega
    have b3 : (k == 3) = false := by simp; omega
    obtain ⟨wl, k1, k2⟩ := (ih x h6 (by omega)).2 (bif (lv == 1) then 2 else lv)
    obtain ⟨wr', l1, l2⟩ := (ih y h7 (by omega)).2 (wr (lv + 1))
    obtain ⟨ws, s1, s2⟩ := sign_w k
    have z1 : x_20.size = 1 := rfl
    have r1 : sroom wl x_20 = true := sroom_of (by omega)
    have r2 : sroom (wl ++ x_20) ws = true := sroom_of (by rw [size_app]; omega)
    have r3 : sroom ((wl ++ x_20) ++ ws) x_20 = true := sroom_of (by rw [size_app, size_app]; omega)
    have r4 : sroom (((wl ++ x_20) ++ ws) ++ x_20) wr' = true := sroom_of (by rw [size_app, size_app, size_app]; omega)
    have i0 : idx [x, y] 0 = some x := rfl
    have i1 : idx [x, y] 1 = some y := rfl
    have l2' : (ln [x, y] == 2) = true := rfl
    refine ⟨(((wl ++ x_20) ++ ws) ++ x_20) ++ wr', Ev.step (Ev.of_eq (g := fun n => (ref1_side n x (bif (lv == 1) then 2 else lv)).bind fun r15 => bif sroom r15 x_20 then bif sroom (r15 ++ x_20) ws then bif sroom ((r15 ++ x_20) ++ ws) x_20 then (ref1_side n y (wr (lv + 1))).bind fun r21 =>
      bif sroom (((r15 ++ x_20) ++ ws) ++ x_20) r21 then some ((((r15 ++ x_20) ++ ws) ++ x_20) ++ r21) else none else none else none else none) (fun n => ?_) (Ev.bind k1 ?_)), ?_⟩
    ·have g1 : decide (lv ≥ 1) = true := decide_eq_true q1
     have g2 : decide (lv ≤ 3) = true := decide_eq_true q2
     cases hc : (lv == 1) <;> simp only [ref1_show, hlv, Option.bind_some, jn, b1, b2, b3, cond_false, cond_true, g1, g2, l2', hc, i0, i1, s1]
    ·simp only [r1, r2, r3, cond_true]
     refine Ev.bind l1 ?_
     simp only [r4, cond_true]; exact Ev.ret _
    ·simp only [size_app]; omega
  refine ⟨hs, fun low => ?_⟩
  obtain ⟨w, k1, k2⟩ := hs
  obtain ⟨lv, hlv, _⟩ := level_ev e.Kind
  by_cases hc : lv < low
  ·have z1 : x_28.size = 1 := rfl
   have z2 : x_29.size = 1 := rfl
   have r1 : sroom x_28 w = true := sroom_of (by omega)
   have r2 : sroom (x_28 ++ w) x_29 = true := sroom_of (by rw [size_app]; omega)
   refine ⟨(x_28 ++ w) ++ x_29, Ev.step (Ev.of_eq (g := fun n => (ref1_show n e).bind fun r2 => bif sroom x_28 r2 then bif sroom (x_28 ++ r2) x_29 then some ((x_28 ++ r2) ++ x_29) else none else none) (fun n => ?_) (Ev.bind k1 ?_)), by simp only [size_app]; omega⟩
   ·simp only [ref1_side, hlv, Option.bind_some, decide_eq_true hc, cond_true]
   ·simp only [r1, r2, cond_true]; exact Ev.ret _
  ·refine ⟨w, Ev.step (Ev.of_eq (g := fun n => (ref1_show n e).bind fun r5 => some r5) (fun n => ?_) (Ev.bind k1 (Ev.ret _))), by omega⟩
   simp only [ref1_side, hlv, Option.bind_some, decide_eq_false hc, cond_false]
theorem tabs_ev : ∀ m : Nat, m ≤ 100000 → ∃ w, Ev (fun n => ref1_tabs n (m : Int)) w ∧ w.size = m
 | 0, _ => ⟨b0, Ev.step (Ev.of_eq (g := fun n => some b0) (fun n => by simp only [ref1_tabs]; rfl) (Ev.ret _)), rfl⟩
 | m + 1, h => by
  obtain ⟨w, k1, k2⟩ := tabs_ev m (by omega)
  have d : decide (((m + 1 : Nat) : Int) ≤ 0) = false := decide_eq_false (by omega)
  have e : wr (((m + 1 : Nat) : Int) - 1) = (m : Int) := by rw [wr_of (by omega)]; omega
  have z : x_09.size = 1 := rfl
  have r : sroom x_09 w = true := sroom_of (by omega)
  refine ⟨x_09 ++ w, Ev.step (Ev.of_eq (g := fun n => (ref1_tabs n (m : Int)).bind fun r1 => bif sroom x_09 r1 then some (x_09 ++ r1) else none) (fun n => ?_) (Ev.bind k1 ?_)), by rw [size_app]; omega⟩
  ·simp only [ref1_tabs, d, cond_false, e]
  ·simp only [r, cond_true]; exact Ev.ret _
theorem lines_ev : (∀ s : Stmt, ∀ d m : Nat, okS d s → m + wt s ≤ 2000 → (∃ w, Ev (fun n => ref1_lines n s.Body ((m + 1 : Nat) : Int)) w ∧ w.size ≤ 1000 * wtl s.Body) ∧ ∃ w, Ev (fun n => ref1_lines n s.Else ((m + 1 : Nat) : Int)) w ∧ w.size ≤ 1000 * wtl s.Else) ∧
  ∀ l : List Stmt, ∀ (d m : Nat) (in_ : ByteArray) (pre : List Stmt) (acc : ByteArray), okSl d l → m + wtl l ≤ 2000 → in_.size = m → (pre ++ l).length ≤ 2000 → acc.size + 1000 * wtl l ≤ 100000000 → ∃ w, Ev (fun n => ref1_lines_L0 n (pre ++ l) (m : Int) in_ acc pre.length) w ∧ w.size ≤ acc.size + 1000 * wtl l := by
 have wlen : ∀ l : List Stmt, l.length ≤ wtl l := by
  intro l
  induction l with
  | nil => simp
  | cons s r ih => cases s; rw [List.length_cons, wtl, wt]; omega
 have blk : ∀ l : List Stmt, (∀ (d m : Nat) (in_ : ByteArray) (pre : List Stmt) (acc : ByteArray), okSl d l → m + wtl l ≤ 2000 → in_.size = m → (pre ++ l).length ≤ 2000 → acc.size + 1000 * wtl l ≤ 100000000 → ∃ w, Ev (fun n => ref1_lines_L0 n (pre ++ l) (m : Int) in_ acc pre.length) w ∧ w.size ≤ acc.size + 1000 * wtl l) →
   ∀ d m : Nat, okSl d l → m + wtl l ≤ 2000 → ∃ w, Ev (fun n => ref1_lines n l (m : Int)) w ∧ w.size ≤ 1000 * wtl l := by
  intro l ih d m h1 h2
  obtain ⟨t, k1, k2⟩ := tabs_ev m (by omega)
  obtain ⟨w, l1, l2⟩ := ih d m t [] b0 h1 h2 k2 (by have := wlen l; simp; omega) (by have : b0.size = 0 := rfl; omega)
  have z : b0.size = 0 := rfl
  exact ⟨w, Ev.step (Ev.of_eq (g := fun n => (ref1_tabs n (m : Int)).bind fun r1 => ref1_lines_L0 n l (m : Int) r1 b0 0) (fun n => by simp only [ref1_lines]) (Ev.bind k1 l1)), by omega⟩
 refine stmt_ind ?_ ?_ ?_
 ·intro k w v m e b l a ihb ihl d q h hq
  rw [okS] at h
  rw [wt] at hq
  exact ⟨blk b ihb _ (q + 1) h.2.2.2.1 (by omega), blk l ihl _ (q + 1) h.2.2.2.2 (by omega)⟩
 ·intro d m in_ pre acc _ _ _ _ _
  exact ⟨acc, Ev.step (Ev.of_eq (g := fun n => some acc) (fun n => by simp only [ref1_lines_L0, List.append_nil, ix_ge, cond_false]) (Ev.ret _)), by simp [wtl]⟩
 ·intro s r ihs ihr d m in_ pre acc h h2 h3 h4 h5
  rw [okSl] at h
  rw [wtl] at h2 h5
  have hp : pre.length + 1 ≤ 2000 := by simp at h4; omega
  have hsub := ihs d m h.1 (by omega)
  have hw := ix_wr pre s (by omega)
  have hws : 10 ≤ wt s ∧ wt s = 10 + 2 * (wtl s.Body + wtl s.Else) := by cases s; rw [wt]; simp
  obtain ⟨⟨wb, hb1, hb2⟩, wl, hl1, hl2⟩ := hsub
  have zn : x_0a.size = 1 := rfl
  obtain ⟨FF, hFF⟩ : ∃ FF : Nat → ByteArray → Option ByteArray, ∀ n line, FF n line = bif sroom acc in_ then bif sroom (acc ++ in_) line then bif sroom ((acc ++ in_) ++ line) x_0a then ref1_lines_L0 n (pre ++ s :: r) (m : Int) in_ (((acc ++ in_) ++ line) ++ x_0a) (wr ((pre.length : Int) + 1)) else none else none else none := ⟨_, fun _ _ => rfl⟩

  have fin : ∀ line : ByteArray, line.size ≤ 1000 * (wtl s.Body + wtl s.Else) + 2 * m + 1000 → ∃ w, Ev (fun n => FF n line) w ∧ w.size ≤ acc.size + 1000 * (wt s + wtl r) := by
   intro line hline
   have r1 : sroom acc in_ = true := sroom_of (by omega)
   have r2 : sroom (acc ++ in_) line = true := sroom_of (by rw [size_app]; omega)
   have r3 : sroom ((acc ++ in_) ++ line) x_0a = true := sroom_of (by rw [size_app, size_app]; omega)
   obtain ⟨w, k1, k2⟩ := ihr d m in_ (pre ++ [s]) (((acc ++ in_) ++ line) ++ x_0a) h.2 (by omega) h3 (by rw [← ix_cons]; exact h4) (by simp only [size_app]; omega)
   refine ⟨w, ?_, by simp only [size_app] at k2; omega⟩
   simp only [hFF, r1, r2, r3, cond_true, hw]
   rw [ix_cons]; exact k1
  rw [wtl]
  have nm : ∀ w ∈ [k_x, k_y, k_z, k_a, k_t], w.size ≤ 1 := by
   intro w hw
   simp only [List.mem_cons, List.not_mem_nil, or_false] at hw
   rcases hw with rfl | rfl | rfl | rfl | rfl <;> decide
  have nc : ∀ w ∈ [k_c, k_d], w.size ≤ 1 := by
   intro w hw
   simp only [List.mem_cons, List.not_mem_nil, or_false] at hw
   rcases hw with rfl | rfl <;> decide
  have nl : ∀ w ∈ [k_l, k_k], w.size ≤ 1 := by
   intro w hw
   simp only [List.mem_cons, List.not_mem_nil, or_false] at hw
   rcases hw with rfl | rfl <;> decide
  have zm : k_m.size = 1 := rfl
  have z20 : x_20.size = 1 := rfl
  have z7d : x_7d.size = 1 := rfl
  have ze : x_203d20.size = 3 := rfl
  have zlk : x_6c6f636b20.size = 5 := rfl
  have zul : x_756e6c6f636b20.size = 7 := rfl
  have zsd : x_73656e6420.size = 5 := rfl
  have zrc : x_7265637620.size = 5 := rfl
  have zpr : x_7072696e7420.size = 6 := rfl
  have zgo : x_676f746f20.size = 5 := rfl
  have zlb : x_6c6162656c20.size = 6 := rfl
  have zif : x_696620.size = 3 := rfl
  have zop : x_207b0a.size = 3 := rfl
  have zel : x_20656c7365207b0a.size = 8 := rfl
  have zrp : x_72657065617420.size = 7 := rfl
  obtain ⟨k, w, v, mm, e, b, l, a⟩ := s
  obtain ⟨hH, _, hzE, _, _⟩ := (show okS d ⟨k, w, v, mm, e, b, l, a⟩ from h.1)
  simp only at hb1 hb2 hl1 hl2 fin hws
  have lift : ∀ (G : Nat → Option ByteArray), (∃ w, Ev G w ∧ w.size ≤ acc.size + 1000 * (wt ⟨k, w, v, mm, e, b, l, a⟩ + wtl r)) → (∀ n, ref1_lines_L0 (n + 1) (pre ++ ⟨k, w, v, mm, e, b, l, a⟩ :: r) (m : Int) in_ acc pre.length = G n) → ∃ w', Ev (fun n => ref1_lines_L0 n (pre ++ ⟨k, w, v, mm, e, b, l, a⟩ :: r) (m : Int) in_ acc pre.length) w' ∧ w'.size ≤ acc.size + 1000 * (wt ⟨k, w, v, mm, e, b, l, a⟩ + wtl r) :=
   fun G ⟨w', k1, k2⟩ hG => ⟨w', Ev.step (Ev.of_eq hG k1), k2⟩
  cases hH
  case assign =>
   have he : okE 4 e := by assumption
   have hw' : w ∈ [k_x, k_y, k_z, k_a, k_t] := by assumption
   obtain ⟨⟨t, t1, t2⟩, _⟩ := show_ev 4 e he (by omega)
   have := nm w hw'
   obtain ⟨w', f1, f2⟩ := fin ((w ++ x_203d20) ++ t) (by simp only [size_app]; omega)
   refine lift (fun n => (ref1_show n e).bind fun r9 => bif sroom (w ++ x_203d20) r9 then FF n ((w ++ x_203d20) ++ r9) else none) ⟨w', Ev.bind t1 ?_, f2⟩ fun n => ?_
   ·simp only [show sroom (w ++ x_203d20) t = true from sroom_of (by simp only [size_app]; omega), cond_true]; exact f1
   ·simp only [ref1_lines_L0, ix_lt, cond_true, ix_get, Option.bind_some, jn, show sroom w x_203d20 = true from sroom_of (by omega), hFF]; try rfl
  case lock =>
   obtain ⟨w', f1, f2⟩ := fin (x_6c6f636b20 ++ k_m) (by simp only [size_app]; omega)
   refine lift (fun n => FF n (x_6c6f636b20 ++ k_m)) ⟨w', f1, f2⟩ fun n => ?_
   simp only [ref1_lines_L0, ix_lt, cond_true, ix_get, Option.bind_some, jn, show sroom x_6c6f636b20 k_m = true from sroom_of (by omega), hFF]; try rfl
  case unlock =>
   obtain ⟨w', f1, f2⟩ := fin (x_756e6c6f636b20 ++ k_m) (by simp only [size_app]; omega)
   refine lift (fun n => FF n (x_756e6c6f636b20 ++ k_m)) ⟨w', f1, f2⟩ fun n => ?_
   simp only [ref1_lines_L0, ix_lt, cond_true, ix_get, Option.bind_some, jn, show sroom x_756e6c6f636b20 k_m = true from sroom_of (by omega), hFF]; try rfl
  case send =>
   have he : okE 4 e := by assumption
   have hw' : w ∈ [k_c, k_d] := by assumption
   obtain ⟨⟨t, t1, t2⟩, _⟩ := show_ev 4 e he (by omega)
   have := nc w hw'
   obtain ⟨w', f1, f2⟩ := fin (((x_73656e6420 ++ w) ++ x_20) ++ t) (by simp only [size_app]; omega)
   refine lift (fun n => (ref1_show n e).bind fun r9 => bif sroom ((x_73656e6420 ++ w) ++ x_20) r9 then FF n (((x_73656e6420 ++ w) ++ x_20) ++ r9) else none) ⟨w', Ev.bind t1 ?_, f2⟩ fun n => ?_
   ·simp only [show sroom ((x_73656e6420 ++ w) ++ x_20) t = true from sroom_of (by simp only [size_app]; omega), cond_true]; exact f1
   ·simp only [ref1_lines_L0, ix_lt, cond_true, ix_get, Option.bind_some, jn, show sroom x_73656e6420 w = true from sroom_of (by omega), show sroom (x_73656e6420 ++ w) x_20 = true from sroom_of (by simp only [size_app]; omega), hFF]; try rfl
  case recv =>
   have hw' : w ∈ [k_c, k_d] := by assumption
   have hv : v ∈ [k_x, k_y, k_z, k_a, k_t] := by assumption
   have := nc w hw'
   have := nm v hv
   obtain ⟨w', f1, f2⟩ := fin (((x_7265637620 ++ w) ++ x_20) ++ v) (by simp only [size_app]; omega)
   refine lift (fun n => FF n (((x_7265637620 ++ w) ++ x_20) ++ v)) ⟨w', f1, f2⟩ fun n => ?_
   simp only [ref1_lines_L0, ix_lt, cond_true, ix_get, Option.bind_some, jn, show sroom x_7265637620 w = true from sroom_of (by omega), show sroom (x_7265637620 ++ w) x_20 = true from sroom_of (by simp only [size_app]; omega), show sroom ((x_7265637620 ++ w) ++ x_20) v = true from sroom_of (by simp only [size_app]; omega), hFF]; try rfl
  case print =>
   have he : okE 4 e := by assumption
   obtain ⟨⟨t, t1, t2⟩, _⟩ := show_ev 4 e he (by omega)
   obtain ⟨w', f1, f2⟩ := fin (x_7072696e7420 ++ t) (by simp only [size_app]; omega)
   refine lift (fun n => (ref1_show n e).bind fun r9 => bif sroom x_7072696e7420 r9 then FF n (x_7072696e7420 ++ r9) else none) ⟨w', Ev.bind t1 ?_, f2⟩ fun n => ?_
   ·simp only [show sroom x_7072696e7420 t = true from sroom_of (by omega), cond_true]; exact f1
   ·simp only [ref1_lines_L0, ix_lt, cond_true, ix_get, Option.bind_some, jn, hFF]; try rfl
  case goto =>
   have hw' : w ∈ [k_l, k_k] := by assumption
   have := nl w hw'
   obtain ⟨w', f1, f2⟩ := fin (x_676f746f20 ++ w) (by simp only [size_app]; omega)
   refine lift (fun n => FF n (x_676f746f20 ++ w)) ⟨w', f1, f2⟩ fun n => ?_
   simp only [ref1_lines_L0, ix_lt, cond_true, ix_get, Option.bind_some, jn, show sroom x_676f746f20 w = true from sroom_of (by omega), hFF]; try rfl
  case label =>
   have hw' : w ∈ [k_l, k_k] := by assumption
   have := nl w hw'
   obtain ⟨w', f1, f2⟩ := fin (x_6c6162656c20 ++ w) (by simp only [size_app]; omega)
   refine lift (fun n => FF n (x_6c6162656c20 ++ w)) ⟨w', f1, f2⟩ fun n => ?_
   simp only [ref1_lines_L0, ix_lt, cond_true, ix_get, Option.bind_some, jn, show sroom x_6c6162656c20 w = true from sroom_of (by omega), hFF]; try rfl
  case rep =>
   have q0 : 0 ≤ mm := by assumption
   have q1 : mm ≤ 2 := by assumption
   obtain ⟨t, t1, t2⟩ := digits_ev mm q0 (by omega)
   have hm1 : wr ((m : Int) + 1) = ((m + 1 : Nat) : Int) := by rw [wr_of (by omega)]; rfl
   obtain ⟨w', f1, f2⟩ := fin (((((x_72657065617420 ++ t) ++ x_207b0a) ++ wb) ++ in_) ++ x_7d) (by simp only [size_app]; omega)
   refine lift (fun n => (ref1_Digits n mm).bind fun r36 => bif sroom x_72657065617420 r36 then bif sroom (x_72657065617420 ++ r36) x_207b0a then (ref1_lines n b ((m + 1 : Nat) : Int)).bind fun r39 => bif sroom ((x_72657065617420 ++ r36) ++ x_207b0a) r39 then bif sroom (((x_72657065617420 ++ r36) ++ x_207b0a) ++ r39) in_ then bif sroom ((((x_72657065617420 ++ r36) ++ x_207b0a) ++ r39) ++ in_) x_7d then
    FF n (((((x_72657065617420 ++ r36) ++ x_207b0a) ++ r39) ++ in_) ++ x_7d) else none else none else none else none else none) ⟨w', Ev.bind t1 ?_, f2⟩ fun n => ?_
   ·simp only [show sroom x_72657065617420 t = true from sroom_of (by omega), show sroom (x_72657065617420 ++ t) x_207b0a = true from sroom_of (by simp only [size_app]; omega), cond_true]
    refine Ev.bind hb1 ?_
    simp only [show sroom ((x_72657065617420 ++ t) ++ x_207b0a) wb = true from sroom_of (by simp only [size_app]; omega), show sroom (((x_72657065617420 ++ t) ++ x_207b0a) ++ wb) in_ = true from sroom_of (by simp only [size_app]; omega), show sroom ((((x_72657065617420 ++ t) ++ x_207b0a) ++ wb) ++ in_) x_7d = true from sroom_of (by simp only [size_app]; omega), cond_true]
    exact f1
   ·simp only [ref1_lines_L0, ix_lt, cond_true, ix_get, Option.bind_some, jn, hm1, decide_eq_true (show mm ≥ 0 from q0), hFF]; try rfl
  case cond =>
   have he : okE 4 e := by assumption
   obtain ⟨⟨t, t1, t2⟩, _⟩ := show_ev 4 e he (by omega)
   have hm1 : wr ((m : Int) + 1) = ((m + 1 : Nat) : Int) := by rw [wr_of (by omega)]; rfl
   have s1 : sroom x_696620 t = true := sroom_of (by omega)
   have s2 : sroom (x_696620 ++ t) x_207b0a = true := sroom_of (by simp only [size_app]; omega)
   have s3 : sroom ((x_696620 ++ t) ++ x_207b0a) wb = true := sroom_of (by simp only [size_app]; omega)
   have s4 : sroom (((x_696620 ++ t) ++ x_207b0a) ++ wb) in_ = true := sroom_of (by simp only [size_app]; omega)
   have s5 : sroom ((((x_696620 ++ t) ++ x_207b0a) ++ wb) ++ in_) x_7d = true := sroom_of (by simp only [size_app]; omega)
   cases hE : decide (ln l > 0)
   ·obtain ⟨w', f1, f2⟩ := fin (((((x_696620 ++ t) ++ x_207b0a) ++ wb) ++ in_) ++ x_7d) (by simp only [size_app]; omega)
    refine lift (fun n => (ref1_show n e).bind fun r24 => bif sroom x_696620 r24 then bif sroom (x_696620 ++ r24) x_207b0a then (ref1_lines n b ((m + 1 : Nat) : Int)).bind fun r27 => bif sroom ((x_696620 ++ r24) ++ x_207b0a) r27 then bif sroom (((x_696620 ++ r24) ++ x_207b0a) ++ r27) in_ then bif sroom ((((x_696620 ++ r24) ++ x_207b0a) ++ r27) ++ in_) x_7d then
     FF n (((((x_696620 ++ r24) ++ x_207b0a) ++ r27) ++ in_) ++ x_7d) else none else none else none else none else none) ⟨w', Ev.bind t1 ?_, f2⟩ fun n => ?_
    ·simp only [s1, s2, cond_true]
     refine Ev.bind hb1 ?_
     simp only [s3, s4, s5, cond_true]
     exact f1
    ·simp only [ref1_lines_L0, ix_lt, cond_true, ix_get, Option.bind_some, jn, hm1, hE, cond_false, hFF]; try rfl
   ·have s6 : sroom (((((x_696620 ++ t) ++ x_207b0a) ++ wb) ++ in_) ++ x_7d) x_20656c7365207b0a = true := sroom_of (by simp only [size_app]; omega)
    have s7 : sroom ((((((x_696620 ++ t) ++ x_207b0a) ++ wb) ++ in_) ++ x_7d) ++ x_20656c7365207b0a) wl = true := sroom_of (by simp only [size_app]; omega)
    have s8 : sroom (((((((x_696620 ++ t) ++ x_207b0a) ++ wb) ++ in_) ++ x_7d) ++ x_20656c7365207b0a) ++ wl) in_ = true := sroom_of (by simp only [size_app]; omega)
    have s9 : sroom ((((((((x_696620 ++ t) ++ x_207b0a) ++ wb) ++ in_) ++ x_7d) ++ x_20656c7365207b0a) ++ wl) ++ in_) x_7d = true := sroom_of (by simp only [size_app]; omega)
    obtain ⟨w', f1, f2⟩ := fin (((((((((x_696620 ++ t) ++ x_207b0a) ++ wb) ++ in_) ++ x_7d) ++ x_20656c7365207b0a) ++ wl) ++ in_) ++ x_7d) (by simp only [size_app]; omega)
    refine lift (fun n => (ref1_show n e).bind fun r24 => bif sroom x_696620 r24 then bif sroom (x_696620 ++ r24) x_207b0a then (ref1_lines n b ((m + 1 : Nat) : Int)).bind fun r27 => bif sroom ((x_696620 ++ r24) ++ x_207b0a) r27 then bif sroom (((x_696620 ++ r24) ++ x_207b0a) ++ r27) in_ then bif sroom ((((x_696620 ++ r24) ++ x_207b0a) ++ r27) ++ in_) x_7d then
     bif sroom (((((x_696620 ++ r24) ++ x_207b0a) ++ r27) ++ in_) ++ x_7d) x_20656c7365207b0a then (ref1_lines n l ((m + 1 : Nat) : Int)).bind fun r32 => bif sroom ((((((x_696620 ++ r24) ++ x_207b0a) ++ r27) ++ in_) ++ x_7d) ++ x_20656c7365207b0a) r32 then bif sroom (((((((x_696620 ++ r24) ++ x_207b0a) ++ r27) ++ in_) ++ x_7d) ++ x_20656c7365207b0a) ++ r32) in_ then bif sroom ((((((((x_696620 ++ r24) ++ x_207b0a) ++ r27) ++ in_) ++ x_7d) ++ x_20656c7365207b0a) ++ r32) ++ in_) x_7d then
     FF n (((((((((x_696620 ++ r24) ++ x_207b0a) ++ r27) ++ in_) ++ x_7d) ++ x_20656c7365207b0a) ++ r32) ++ in_) ++ x_7d) else none else none else none else none else none else none else none else none else none) ⟨w', Ev.bind t1 ?_, f2⟩ fun n => ?_
    ·simp only [s1, s2, cond_true]
     refine Ev.bind hb1 ?_
     simp only [s3, s4, s5, s6, cond_true]
     refine Ev.bind hl1 ?_
     simp only [s7, s8, s9, cond_true]
     exact f1
    ·simp only [ref1_lines_L0, ix_lt, cond_true, ix_get, Option.bind_some, jn, hm1, hE, hFF]; try rfl
theorem linesB_ev (l : List Stmt) (d m : Nat) (h : okSl d l) (hw : m + wtl l ≤ 2000) : ∃ w, Ev (fun n => ref1_lines n l (m : Int)) w ∧ w.size ≤ 1000 * wtl l := by
 have wlen : ∀ l : List Stmt, l.length ≤ wtl l := by
  intro l
  induction l with
  | nil => simp
  | cons s r ih => cases s; rw [List.length_cons, wtl, wt]; omega
 obtain ⟨t, k1, k2⟩ := tabs_ev m (by omega)
 have z : b0.size = 0 := rfl
 obtain ⟨w, l1, l2⟩ := lines_ev.2 l d m t [] b0 h hw k2 (by have := wlen l; simp; omega) (by omega)
 exact ⟨w, Ev.step (Ev.of_eq (g := fun n => (ref1_tabs n (m : Int)).bind fun r1 => ref1_lines_L0 n l (m : Int) r1 b0 0) (fun n => by simp only [ref1_lines]) (Ev.bind k1 l1)), by omega⟩
def okSD (d : Decl) : Prop := 1 ≤ d.Kind ∧ d.Kind ≤ 6 ∧ 0 ≤ d.N ∧ d.N ≤ 9 ∧ d.Name.size ≤ 100
theorem Show_L1 (D : List Decl) (ts : List (List Stmt)) (w2 : ByteArray) (i3 : Int) (hts : ∀ t ∈ ts, ∃ d, okSl d t ∧ wtl t ≤ 1900) (hn : ts.length ≤ 100) : ∀ (l pre : List (List Stmt)) (acc : ByteArray), ts = pre ++ l → acc.size + 3000000 * l.length ≤ 1000000000000 → ∃ w, Ev (fun n => ref1_Show_L1 n ⟨D, ts⟩ w2 i3 acc pre.length) w
 | [], pre, acc, e, h => by
  rw [List.append_nil] at e
  have l1 : decide ((pre.length : Int) < ln ts) = false := by rw [e]; exact ix_ge _
  exact ⟨acc, Ev.step (Ev.of_eq (g := fun n => some acc) (fun n => by simp only [ref1_Show_L1, l1, cond_false]) (Ev.ret _))⟩
 | t :: r, pre, acc, e, h => by
  have hp : pre.length + 1 ≤ 100 := by have := congrArg List.length e; simp at this; omega
  have l1 : decide ((pre.length : Int) < ln ts) = true := by rw [e]; exact ix_lt _ _ _
  have l2 : idx ts (pre.length : Int) = some t := by rw [e]; exact ix_get _ _ _
  obtain ⟨d, h1, h2⟩ := hts t (by rw [e]; simp)
  obtain ⟨wl, k1, k2⟩ := linesB_ev t d 1 h1 (by omega)
  rw [List.length_cons] at h
  have z1 : x_676f207b0a.size = 5 := rfl
  have z2 : x_7d0a.size = 2 := rfl
  have r1 : sroom acc x_676f207b0a = true := sroom_of (by omega)
  have r2 : sroom (acc ++ x_676f207b0a) wl = true := sroom_of (by rw [size_app]; omega)
  have r3 : sroom ((acc ++ x_676f207b0a) ++ wl) x_7d0a = true := sroom_of (by rw [size_app, size_app]; omega)
  obtain ⟨w, m1⟩ := Show_L1 D ts w2 i3 hts hn r (pre ++ [t]) (((acc ++ x_676f207b0a) ++ wl) ++ x_7d0a) (by rw [e]; exact ix_cons _ _ _) (by simp only [size_app]; omega)
  refine ⟨w, Ev.step (Ev.of_eq (g := fun n => (ref1_lines n t ((1 : Nat) : Int)).bind fun r21 => bif sroom (acc ++ x_676f207b0a) r21 then bif sroom ((acc ++ x_676f207b0a) ++ r21) x_7d0a then ref1_Show_L1 n ⟨D, ts⟩ w2 i3 (((acc ++ x_676f207b0a) ++ r21) ++ x_7d0a) ((pre ++ [t]).length) else none else none) (fun n => ?_) (Ev.bind k1 ?_))⟩
  ·simp only [ref1_Show_L1, l1, l2, r1, cond_true, Option.bind_some]
   rw [ix_wr pre t (by omega)]; rfl
  ·simp only [r2, r3, cond_true]; exact m1
theorem Show_L0 (D : List Decl) (ts : List (List Stmt)) (hD : ∀ d ∈ D, okSD d) (hDn : D.length ≤ 1000) (hts : ∀ t ∈ ts, ∃ d, okSl d t ∧ wtl t ≤ 1900) (hn : ts.length ≤ 100) : ∀ (l pre : List Decl) (acc : ByteArray), D = pre ++ l → acc.size + 1000 * l.length ≤ 100000000 → ∃ w, Ev (fun n => ref1_Show_L0 n ⟨D, ts⟩ acc pre.length) w
 | [], pre, acc, e, h => by
  rw [List.append_nil] at e
  have l1 : decide ((pre.length : Int) < ln D) = false := by rw [e]; exact ix_ge _
  obtain ⟨w, m1⟩ := Show_L1 D ts acc (pre.length : Int) hts hn ts [] acc rfl (by simp at h; omega)
  exact ⟨w, Ev.step (Ev.of_eq (fun n => by simp only [ref1_Show_L0, l1, cond_false]; rfl) m1)⟩
 | t :: r, pre, acc, e, h => by
  have hp : pre.length + 1 ≤ 1000 := by have := congrArg List.length e; simp at this; omega
  have l1 : decide ((pre.length : Int) < ln D) = true := by rw [e]; exact ix_lt _ _ _
  have l2 : idx D (pre.length : Int) = some t := by rw [e]; exact ix_get _ _ _
  obtain ⟨a1, a2, a3, a4, a5⟩ := hD t (by rw [e]; simp)
  rw [List.length_cons] at h
  have hw := ix_wr pre t (by omega)
  obtain ⟨x7, hx7, z7⟩ : ∃ x7, idx [b0, k_var, k_wide, k_atomic, k_local, k_mutex, k_chan] t.Kind = some x7 ∧ x7.size ≤ 6 := by
   have : t.Kind = 1 ∨ t.Kind = 2 ∨ t.Kind = 3 ∨ t.Kind = 4 ∨ t.Kind = 5 ∨ t.Kind = 6 := by omega
   rcases this with h | h | h | h | h | h <;> rw [h] <;> exact ⟨_, rfl, by decide⟩
  have d1 : decide (t.Kind < 1) = false := decide_eq_false (by omega)
  have d2 : decide (t.Kind > 6) = false := decide_eq_false (by omega)
  have z20 : x_20.size = 1 := rfl
  have z0a : x_0a.size = 1 := rfl
  have r1 : sroom acc x7 = true := sroom_of (by omega)
  have r2 : sroom (acc ++ x7) x_20 = true := sroom_of (by rw [size_app]; omega)
  have r3 : sroom ((acc ++ x7) ++ x_20) t.Name = true := sroom_of (by rw [size_app, size_app]; omega)
  by_cases h6 : t.Kind = 6
  ·have e6 : (t.Kind == 6) = true := by simpa using h6
   have e7 : decide (t.N < 0) = false := decide_eq_false (by omega)
   obtain ⟨wd, k1, k2⟩ := digits_ev t.N a3 a4
   have r4 : sroom (((acc ++ x7) ++ x_20) ++ t.Name) x_20 = true := sroom_of (by simp only [size_app]; omega)
   have r5 : sroom ((((acc ++ x7) ++ x_20) ++ t.Name) ++ x_20) wd = true := sroom_of (by simp only [size_app]; omega)
   have r6 : sroom (((((acc ++ x7) ++ x_20) ++ t.Name) ++ x_20) ++ wd) x_0a = true := sroom_of (by simp only [size_app]; omega)
   obtain ⟨w, m1⟩ := Show_L0 D ts hD hDn hts hn r (pre ++ [t]) ((((((acc ++ x7) ++ x_20) ++ t.Name) ++ x_20) ++ wd) ++ x_0a) (by rw [e]; exact ix_cons _ _ _) (by simp only [size_app]; omega)
   refine ⟨w, Ev.step (Ev.of_eq (g := fun n => (ref1_Digits n t.N).bind fun r14 => bif sroom ((((acc ++ x7) ++ x_20) ++ t.Name) ++ x_20) r14 then bif sroom (((((acc ++ x7) ++ x_20) ++ t.Name) ++ x_20) ++ r14) x_0a then ref1_Show_L0 n ⟨D, ts⟩ ((((((acc ++ x7) ++ x_20) ++ t.Name) ++ x_20) ++ r14) ++ x_0a) ((pre ++ [t]).length) else none else none) (fun n => ?_) (Ev.bind k1 ?_))⟩
   ·simp only [ref1_Show_L0, l1, l2, jn, d1, d2, cond_true, cond_false, Option.bind_some, hx7, r1, r2, r3, e6, e7, r4, hw]
   ·simp only [r5, r6, cond_true]; exact m1
  ·have e6 : (t.Kind == 6) = false := by simpa using h6
   have r6 : sroom (((acc ++ x7) ++ x_20) ++ t.Name) x_0a = true := sroom_of (by simp only [size_app]; omega)
   obtain ⟨w, m1⟩ := Show_L0 D ts hD hDn hts hn r (pre ++ [t]) ((((acc ++ x7) ++ x_20) ++ t.Name) ++ x_0a) (by rw [e]; exact ix_cons _ _ _) (by simp only [size_app]; omega)
   refine ⟨w, Ev.step (Ev.of_eq (fun n => ?_) m1)⟩
   simp only [ref1_Show_L0, l1, l2, jn, d1, d2, cond_true, cond_false, Option.bind_some, hx7, r1, r2, r3, e6, r6, hw]
theorem Show_ev (D : List Decl) (ts : List (List Stmt)) (hD : ∀ d ∈ D, okSD d) (hDn : D.length ≤ 1000) (hts : ∀ t ∈ ts, ∃ d, okSl d t ∧ wtl t ≤ 1900) (hn : ts.length ≤ 100) : ∃ w, Ev (fun n => ref1_Show n ⟨D, ts⟩) w := by
 have z : b0.size = 0 := rfl
 obtain ⟨w, h⟩ := Show_L0 D ts hD hDn hts hn D [] b0 rfl (by omega)
 exact ⟨w, Ev.of_eq (fun n => by simp only [ref1_Show]; rfl) h⟩
theorem okSD_of {D : List Decl} (h : okDecls D) : (∀ d ∈ D, okSD d) ∧ D.length ≤ 1000 := by
 obtain ⟨k0, k1, r, hk, r0, r1, rfl⟩ := h
 refine ⟨fun d hd => ?_, by simp⟩
 have zx : k_x.size = 1 := rfl
 have zy : k_y.size = 1 := rfl
 have zz : k_z.size = 1 := rfl
 have za : k_a.size = 1 := rfl
 have zt : k_t.size = 1 := rfl
 have zm : k_m.size = 1 := rfl
 have zc : k_c.size = 1 := rfl
 have zd : k_d.size = 1 := rfl
 simp only [List.mem_cons, List.not_mem_nil, or_false] at hd
 rcases hd with rfl | rfl | rfl | rfl | rfl | rfl | rfl | rfl <;> refine ⟨?_, ?_, ?_, ?_, ?_⟩ <;> simp only <;> omega
end Go.Su.Ytfmgnboplbgniaa
