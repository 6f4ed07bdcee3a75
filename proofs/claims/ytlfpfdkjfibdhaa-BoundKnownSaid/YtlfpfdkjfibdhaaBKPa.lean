/-
  The functions of the program compute that.
-/
import Derived.Test.YtlfpfdkjfibdhaaBKF
namespace Go.Su.Ytlfpfdkjfibdhaa
open Go.Mx Go.Proofs
set_option maxRecDepth 100000
set_option maxHeartbeats 4000000
set_option linter.unusedVariables false
set_option linter.unusedSimpArgs false

theorem ref1_letter_ok {n : Nat} {a0 : Int} {r : Bool} (h : ref1_letter n a0 = some r) : PT Try.prog 148 [vu a0] (vb r) := by
  unfold ref1_letter at h
  refine PT_bodyA hT Try.func148 rfl (by kernel_rfl) fun bad w => ?_
  refine Qz hT 1 [0] ⟨[(0, vu a0)], [], 0⟩ ?_
  refine WA_seq ?_
  obtain ⟨J2, hJ2, h⟩ := jsome h
  refine WA_join (fun s => ∃ (b1 : Bool), J2 b1 = some r ∧ s = ⟨[(2, vb b1)], [], 1⟩) ?_ ?_
  · refine Rg hT 3 [0, 5] ⟨[(0, vu a0), (5, vb (decide (a0 ≥ 97)))], [], 0⟩ ?_
    cases hb : (decide (a0 ≥ 97) : Bool)
    · replace h := cfalse hb h
      refine Sg hT 4 [2] ⟨[(2, vb false)], [], 0⟩ ?_
      exact oK [2] [] ⟨false, h, rfl⟩
    replace h := ctrue hb h
    refine Sg hT 4 [2] ⟨[(2, vb (decide (a0 ≤ 122)))], [], 0⟩ ?_
    exact oK [2] [] ⟨decide (a0 ≤ 122), h, rfl⟩
  subst hJ2
  rintro s ⟨b1, h, rfl⟩
  obtain rfl := Option.some.inj h
  exact rK [2] [] ⟨[(2, vb b1)], [], 1⟩ ⟨by kernel_rfl, rfl⟩

theorem ref1_digit_ok {n : Nat} {a0 : Int} {r : Bool} (h : ref1_digit n a0 = some r) : PT Try.prog 149 [vu a0] (vb r) := by
  unfold ref1_digit at h
  refine PT_bodyA hT Try.func149 rfl (by kernel_rfl) fun bad w => ?_
  refine Qz hT 1 [0] ⟨[(0, vu a0)], [], 0⟩ ?_
  refine WA_seq ?_
  obtain ⟨J2, hJ2, h⟩ := jsome h
  refine WA_join (fun s => ∃ (b1 : Bool), J2 b1 = some r ∧ s = ⟨[(2, vb b1)], [], 1⟩) ?_ ?_
  · refine Rg hT 3 [0, 5] ⟨[(0, vu a0), (5, vb (decide (a0 ≥ 48)))], [], 0⟩ ?_
    cases hb : (decide (a0 ≥ 48) : Bool)
    · replace h := cfalse hb h
      refine Sg hT 4 [2] ⟨[(2, vb false)], [], 0⟩ ?_
      exact oK [2] [] ⟨false, h, rfl⟩
    replace h := ctrue hb h
    refine Sg hT 4 [2] ⟨[(2, vb (decide (a0 ≤ 57)))], [], 0⟩ ?_
    exact oK [2] [] ⟨decide (a0 ≤ 57), h, rfl⟩
  subst hJ2
  rintro s ⟨b1, h, rfl⟩
  obtain rfl := Option.some.inj h
  exact rK [2] [] ⟨[(2, vb b1)], [], 1⟩ ⟨by kernel_rfl, rfl⟩

theorem ref1_number_ok {n : Nat} {a0 : ByteArray} {r : Int × Bool} (h : ref1_number n a0 = some r) : PT Try.prog 150 [vw a0] (.tup [vi r.1, vb r.2]) := by
  unfold ref1_number at h
  refine PT_bodyA hT Try.func150 rfl (by kernel_rfl) fun bad w => ?_
  refine Qz hT 2 [0] ⟨[(0, vw a0)], [], 0⟩ ?_
  refine Qz hT 1 [0, 4] ⟨[(0, vw a0), (4, vi 0)], [], 0⟩ ?_
  refine WA_seq ?_
  refine Qz hT 1 [0, 4, 5] ⟨[(0, vw a0), (4, vi 0), (5, vi 0)], [], 0⟩ ?_
  refine WA_block ?_
  refine lK [0, 4, 5] [] (fun k s => ∃ q, q ≤ k ∧ q ≤ n ∧ ∃ (i1 : Int), ∃ (i2 : Int), ref1_number_L0 q a0 i1 i2 = some r ∧ s = ⟨[(0, vw a0), (4, vi i1), (5, vi i2)], [], 1⟩) n ⟨n, Nat.le_refl _, Nat.le_refl _, 0, 0, h, rfl⟩ (by rintro s ⟨q, hq, _, i1, i2, h, _⟩; obtain rfl := Nat.le_zero.1 hq; rw [ref1_number_L0] at h; cases h) ?_
  clear h
  rintro k1 s ⟨q1, hk1, hn1, i1, i2, h, rfl⟩
  rcases q1 with _ | q1
  · rw [ref1_number_L0] at h; cases h
  rw [ref1_number_L0] at h
  refine WA_seq ?_
  refine Qz hT 4 [0, 4, 5, 10] ⟨[(0, vw a0), (4, vi i1), (5, vi i2), (10, vb (decide (i2 < (a0.size : Int))))], [], 1⟩ ?_
  refine Cd (decide (i2 < (a0.size : Int))) ?_ ?_
  · intro hb; replace h := ctrue hb h
    refine WA_skip ?_
    refine WA_seq ?_
    refine WA_block ?_
    refine Qg hT 2 [0, 4, 5, 13, 14] ⟨[(0, vw a0), (4, vi i1), (5, vi i2), (13, vw a0), (14, vi i2)], [], 1⟩ ?_
    obtain ⟨x3, hx3, h⟩ := bsome h
    refine One hT rfl (ev_indexS a0 .i64 i2 hx3 (by kernel_rfl) (by kernel_rfl) rfl rfl) ?_
    refine Sz hT 3 [0, 4, 5, 6] ⟨[(0, vw a0), (4, vi i1), (5, vi i2), (6, vi (wr (IntKind.u8.wrap (x3 - 48))))], [], 1⟩ ?_
    refine WA_seq ?_
    refine Qz hT 5 [0, 4, 5, 6, 22] ⟨[(0, vw a0), (4, vi i1), (5, vi i2), (6, vi (wr (IntKind.u8.wrap (x3 - 48)))), (22, vb (decide (i1 > (wr ((wr (9223372036854775807 - (wr (IntKind.u8.wrap (x3 - 48))))).tdiv 10)))))], [], 1⟩ ?_
    refine Cd (decide (i1 > (wr ((wr (9223372036854775807 - (wr (IntKind.u8.wrap (x3 - 48))))).tdiv 10)))) ?_ ?_
    · intro hb; replace h := ctrue hb h
      refine Qz hT 2 [2, 3] ⟨[(2, vi 0), (3, vb false)], [], 1⟩ ?_
      obtain rfl := Option.some.inj h
      exact rK [2, 3] [] ⟨[(2, vi 0), (3, vb false)], [], 1⟩ ⟨by kernel_rfl, rfl⟩
    intro hb; replace h := cfalse hb h
    refine WA_skip ?_
    refine Rz hT 5 [0, 4, 5] ⟨[(0, vw a0), (4, vi (wr ((wr (10 * i1)) + (wr (IntKind.u8.wrap (x3 - 48)))))), (5, vi i2)], [], 1⟩ ?_
    refine Rg hT 3 [0, 4, 5] ⟨[(0, vw a0), (4, vi (wr ((wr (10 * i1)) + (wr (IntKind.u8.wrap (x3 - 48)))))), (5, vi (wr (i2 + 1)))], [], 1⟩ ?_
    exact oK [0, 4, 5] [] ⟨_, by omega, by omega, wr ((wr (10 * i1)) + (wr (IntKind.u8.wrap (x3 - 48)))), wr (i2 + 1), h, rfl⟩
  intro hb; replace h := cfalse hb h
  refine WA_exit ?_
  refine WA_seq ?_
  obtain ⟨J5, hJ5, h⟩ := jsome h
  refine WA_join (fun s => ∃ (b4 : Bool), J5 b4 = some r ∧ s = ⟨[(2, vi i1), (3, vb b4)], [], 1⟩) ?_ ?_
  · refine Rg hT 4 [0, 27, 30] ⟨[(0, vw a0), (27, vi i1), (30, vb (!bytesEq a0 b0))], [], 1⟩ ?_
    cases hb : (!bytesEq a0 b0 : Bool)
    · replace h := cfalse hb h
      refine Sg hT 10 [2, 3] ⟨[(2, vi i1), (3, vb false)], [], 1⟩ ?_
      exact oK [2, 3] [] ⟨false, h, rfl⟩
    replace h := ctrue hb h
    refine Sg hT 1 [0, 27, 30, 31] ⟨[(0, vw a0), (27, vi i1), (30, vb true), (31, vw a0)], [], 1⟩ ?_
    obtain ⟨x6, hx6, h⟩ := bsome h
    refine One hT rfl (ev_indexS a0 .i64 0 hx6 (by kernel_rfl) (by kernel_rfl) rfl rfl) ?_
    refine Sg hT 2 [0, 27, 30, 34] ⟨[(0, vw a0), (27, vi i1), (30, vb true), (34, vb (x6 != 48))], [], 1⟩ ?_
    cases hb : ((x6 != 48) : Bool)
    · replace h := cfalse hb h
      refine Sg hT 6 [2, 3] ⟨[(2, vi i1), (3, vb (bytesEq a0 tx1))], [], 1⟩ ?_
      exact oK [2, 3] [] ⟨bytesEq a0 tx1, h, rfl⟩
    replace h := ctrue hb h
    refine Sg hT 6 [2, 3] ⟨[(2, vi i1), (3, vb true)], [], 1⟩ ?_
    exact oK [2, 3] [] ⟨true, h, rfl⟩
  subst hJ5
  rintro s ⟨b4, h, rfl⟩
  obtain rfl := Option.some.inj h
  exact rK [2, 3] [] ⟨[(2, vi i1), (3, vb b4)], [], 1⟩ ⟨by kernel_rfl, rfl⟩

theorem ref1_one_ok {n : Nat} {a0 : ByteArray} {a1 : Int} {r : Token × Int} (h : ref1_one n a0 a1 = some r) : PT Try.prog 129 [vw a0, vi a1] (.tup [eToken r.1, vi r.2]) := by
  unfold ref1_one at h
  refine PT_bodyA hT Try.func129 rfl (by kernel_rfl) fun bad w => ?_
  refine Qz hT 2 [0, 1, 4] ⟨[(0, vw a0), (1, vi a1), (4, .box 4 0 0 0)], [(4, ⟨0, 124, 4, true, false, [.agg [vi 0, vw b0, vi 0, vi 0]]⟩)], 1⟩ ?_
  refine Qg hT 2 [0, 1, 4, 11, 12] ⟨[(0, vw a0), (1, vi a1), (4, .box 4 0 0 0), (11, vw a0), (12, vi a1)], [(4, ⟨0, 124, 4, true, false, [.agg [vi 0, vw b0, vi 0, vi 0]]⟩)], 1⟩ ?_
  obtain ⟨x1, hx1, h⟩ := bsome h
  refine One hT rfl (ev_indexS a0 .i64 a1 hx1 (by kernel_rfl) (by kernel_rfl) rfl rfl) ?_
  refine Sz hT 1 [0, 1, 4, 6] ⟨[(0, vw a0), (1, vi a1), (4, .box 4 0 0 0), (6, vu x1)], [(4, ⟨0, 124, 4, true, false, [.agg [vi 0, vw b0, vi 0, vi 0]]⟩)], 1⟩ ?_
  refine Qz hT 3 [0, 1, 4, 6, 7] ⟨[(0, vw a0), (1, vi a1), (4, .box 4 0 0 0), (6, vu x1), (7, vi (wr (a1 + 1)))], [(4, ⟨0, 124, 4, true, false, [.agg [vi 0, vw b0, vi 0, vi 0]]⟩)], 1⟩ ?_
  refine WA_seq ?_
  refine WA_block ?_
  refine Qg hT 1 [0, 1, 4, 6, 7, 17] ⟨[(0, vw a0), (1, vi a1), (4, .box 4 0 0 0), (6, vu x1), (7, vi (wr (a1 + 1))), (17, vu x1)], [(4, ⟨0, 124, 4, true, false, [.agg [vi 0, vw b0, vi 0, vi 0]]⟩)], 1⟩ ?_
  obtain ⟨r2, hr2, h⟩ := bsome h
  refine Pt en148 (ref1_letter_ok hr2) ?_
  refine Sz hT 1 [0, 1, 4, 6, 7, 16] ⟨[(0, vw a0), (1, vi a1), (4, .box 4 0 0 0), (6, vu x1), (7, vi (wr (a1 + 1))), (16, vb r2)], [(4, ⟨0, 124, 4, true, false, [.agg [vi 0, vw b0, vi 0, vi 0]]⟩)], 1⟩ ?_
  refine Cd r2 ?_ ?_
  · intro hb; replace h := ctrue hb h
    refine WA_seq ?_
    refine WA_block ?_
    refine lK [0, 1, 4, 7] [(4, 4, 0)] (fun k s => ∃ q, q ≤ k ∧ q ≤ n ∧ ∃ (w4 : ByteArray), ∃ (i5 : Int), ref1_one_L0 q a0 a1 x1 r2 w4 i5 = some r ∧ s = ⟨[(0, vw a0), (1, vi a1), (4, .box 4 0 0 0), (7, vi i5)], [(4, ⟨0, 124, 4, true, false, [.agg [vi 0, vw w4, vi 0, vi 0]]⟩)], 1⟩) n ⟨n, Nat.le_refl _, Nat.le_refl _, b0, wr (a1 + 1), h, rfl⟩ (by rintro s ⟨q, hq, _, w4, i5, h, _⟩; obtain rfl := Nat.le_zero.1 hq; rw [ref1_one_L0] at h; cases h) ?_
    clear h
    rintro k1 s ⟨q1, hk1, hn1, w4, i5, h, rfl⟩
    rcases q1 with _ | q1
    · rw [ref1_one_L0] at h; cases h
    rw [ref1_one_L0] at h
    refine WA_seq ?_
    refine WA_seq ?_
    obtain ⟨J7, hJ7, h⟩ := jsome h
    refine WA_join (fun s => ∃ (b6 : Bool), J7 b6 = some r ∧ s = ⟨[(0, vw a0), (1, vi a1), (4, .box 4 0 0 0), (7, vi i5), (34, vb b6)], [(4, ⟨0, 124, 4, true, false, [.agg [vi 0, vw w4, vi 0, vi 0]]⟩)], 1⟩) ?_ ?_
    · refine Rg hT 5 [0, 1, 4, 7, 23] ⟨[(0, vw a0), (1, vi a1), (4, .box 4 0 0 0), (7, vi i5), (23, vb (decide (i5 < (a0.size : Int))))], [(4, ⟨0, 124, 4, true, false, [.agg [vi 0, vw w4, vi 0, vi 0]]⟩)], 1⟩ ?_
      cases hb : (decide (i5 < (a0.size : Int)) : Bool)
      · replace h := cfalse hb h
        refine Sg hT 11 [0, 1, 4, 7, 34] ⟨[(0, vw a0), (1, vi a1), (4, .box 4 0 0 0), (7, vi i5), (34, vb false)], [(4, ⟨0, 124, 4, true, false, [.agg [vi 0, vw w4, vi 0, vi 0]]⟩)], 1⟩ ?_
        exact oK [0, 1, 4, 7, 34] [(4, 4, 0)] ⟨false, h, rfl⟩
      replace h := ctrue hb h
      refine Sg hT 2 [0, 1, 4, 7, 23, 24, 25] ⟨[(0, vw a0), (1, vi a1), (4, .box 4 0 0 0), (7, vi i5), (23, vb true), (24, vw a0), (25, vi i5)], [(4, ⟨0, 124, 4, true, false, [.agg [vi 0, vw w4, vi 0, vi 0]]⟩)], 1⟩ ?_
      obtain ⟨x8, hx8, h⟩ := bsome h
      refine One hT rfl (ev_indexS a0 .i64 i5 hx8 (by kernel_rfl) (by kernel_rfl) rfl rfl) ?_
      refine Sg hT 0 [0, 1, 4, 7, 23, 26] ⟨[(0, vw a0), (1, vi a1), (4, .box 4 0 0 0), (7, vi i5), (23, vb true), (26, vu x8)], [(4, ⟨0, 124, 4, true, false, [.agg [vi 0, vw w4, vi 0, vi 0]]⟩)], 1⟩ ?_
      obtain ⟨r9, hr9, h⟩ := bsome h
      refine Pt en148 (ref1_letter_ok hr9) ?_
      refine Sg hT 1 [0, 1, 4, 7, 23, 28] ⟨[(0, vw a0), (1, vi a1), (4, .box 4 0 0 0), (7, vi i5), (23, vb true), (28, vb r9)], [(4, ⟨0, 124, 4, true, false, [.agg [vi 0, vw w4, vi 0, vi 0]]⟩)], 1⟩ ?_
      cases hb : (r9 : Bool)
      · replace h := cfalse hb h
        refine Sg hT 2 [0, 1, 4, 7, 23, 28, 29, 30] ⟨[(0, vw a0), (1, vi a1), (4, .box 4 0 0 0), (7, vi i5), (23, vb true), (28, vb false), (29, vw a0), (30, vi i5)], [(4, ⟨0, 124, 4, true, false, [.agg [vi 0, vw w4, vi 0, vi 0]]⟩)], 1⟩ ?_
        obtain ⟨x10, hx10, h⟩ := bsome h
        refine One hT rfl (ev_indexS a0 .i64 i5 hx10 (by kernel_rfl) (by kernel_rfl) rfl rfl) ?_
        refine Sg hT 0 [0, 1, 4, 7, 23, 28, 31] ⟨[(0, vw a0), (1, vi a1), (4, .box 4 0 0 0), (7, vi i5), (23, vb true), (28, vb false), (31, vu x10)], [(4, ⟨0, 124, 4, true, false, [.agg [vi 0, vw w4, vi 0, vi 0]]⟩)], 1⟩ ?_
        obtain ⟨r11, hr11, h⟩ := bsome h
        refine Pt en149 (ref1_digit_ok hr11) ?_
        refine Sg hT 2 [0, 1, 4, 7, 34] ⟨[(0, vw a0), (1, vi a1), (4, .box 4 0 0 0), (7, vi i5), (34, vb r11)], [(4, ⟨0, 124, 4, true, false, [.agg [vi 0, vw w4, vi 0, vi 0]]⟩)], 1⟩ ?_
        exact oK [0, 1, 4, 7, 34] [(4, 4, 0)] ⟨r11, h, rfl⟩
      replace h := ctrue hb h
      refine Sg hT 6 [0, 1, 4, 7, 34] ⟨[(0, vw a0), (1, vi a1), (4, .box 4 0 0 0), (7, vi i5), (34, vb true)], [(4, ⟨0, 124, 4, true, false, [.agg [vi 0, vw w4, vi 0, vi 0]]⟩)], 1⟩ ?_
      exact oK [0, 1, 4, 7, 34] [(4, 4, 0)] ⟨true, h, rfl⟩
    subst hJ7
    rintro s ⟨b6, h, rfl⟩
    skip
    refine Cd b6 ?_ ?_
    · intro hb; replace h := ctrue hb h
      refine WA_skip ?_
      refine WA_block ?_
      refine Rg hT 3 [0, 1, 4, 7] ⟨[(0, vw a0), (1, vi a1), (4, .box 4 0 0 0), (7, vi (wr (i5 + 1)))], [(4, ⟨0, 124, 4, true, false, [.agg [vi 0, vw w4, vi 0, vi 0]]⟩)], 1⟩ ?_
      exact oK [0, 1, 4, 7] [(4, 4, 0)] ⟨_, by omega, by omega, w4, wr (i5 + 1), h, rfl⟩
    intro hb; replace h := cfalse hb h
    refine WA_exit ?_
    refine WA_seq ?_
    refine Qz hT 4 [0, 1, 4, 7, 40] ⟨[(0, vw a0), (1, vi a1), (4, .box 4 0 0 0), (7, vi i5), (40, vb (decide ((wr (i5 - a1)) > 12)))], [(4, ⟨0, 124, 4, true, false, [.agg [vi 0, vw w4, vi 0, vi 0]]⟩)], 1⟩ ?_
    refine Cd (decide ((wr (i5 - a1)) > 12)) ?_ ?_
    · intro hb; replace h := ctrue hb h
      refine Qz hT 3 [4, 5] ⟨[(4, .box 4 0 0 0), (5, vi 0)], [(4, ⟨0, 124, 4, true, false, [.agg [vi 0, vw b0, vi 0, vi 0]]⟩)], 1⟩ ?_
      refine aW [4, 5] ⟨[(4, .box 4 0 0 0), (5, vi 0)], [(4, ⟨0, 124, 4, true, false, [.agg [vi 0, vw b0, vi 0, vi 0]]⟩)], 1⟩ ?_
      refine WA_weak (Weak_leH [(4, .box 4 0 0 0), (5, vi 0)] [(4, ⟨0, 124, 4, true, false, [eToken (Token.mk 0 b0 0 0)]⟩)] (by kernel_rfl) ⟨VLf.refl _, VLf.refl _, trivial⟩ ⟨rfl, .inr (.inl ⟨rfl, rfl, CLe.agg ⟨VLf.refl _, VLf.refl _, VLf.refl _, VLf.refl _, trivial⟩, trivial⟩), trivial⟩) ?_
      obtain rfl := Option.some.inj h
      exact rR [(4, 1000, 0)] ⟨[(4, .box 1000 0 0 0), (5, vi 0)], [(1000, ⟨0, 124, 4, true, false, [eToken (Token.mk 0 b0 0 0)]⟩)], 1⟩ ⟨by kernel_rfl, rfl⟩
    intro hb; replace h := cfalse hb h
    refine WA_skip ?_
    refine Qg hT 3 [1, 4, 7, 42, 43, 44] ⟨[(1, vi a1), (4, .box 4 0 0 0), (7, vi i5), (42, vw a0), (43, vi a1), (44, vi i5)], [(4, ⟨0, 124, 4, true, false, [.agg [vi 0, vw w4, vi 0, vi 0]]⟩)], 1⟩ ?_
    obtain ⟨w12, hw12, h⟩ := bsome h
    refine One hT rfl (ev_ssub a0 a1 i5 hw12 (by kernel_rfl) (by kernel_rfl) (by kernel_rfl) rfl rfl) ?_
    refine Sz hT 7 [4, 5] ⟨[(4, .box 4 0 0 0), (5, vi (wr (i5 - a1)))], [(4, ⟨0, 124, 4, true, false, [.agg [vi 1, vw w12, vi 0, vi a1]]⟩)], 1⟩ ?_
    refine aW [4, 5] ⟨[(4, .box 4 0 0 0), (5, vi (wr (i5 - a1)))], [(4, ⟨0, 124, 4, true, false, [.agg [vi 1, vw w12, vi 0, vi a1]]⟩)], 1⟩ ?_
    refine WA_weak (Weak_leH [(4, .box 4 0 0 0), (5, vi (wr (i5 - a1)))] [(4, ⟨0, 124, 4, true, false, [eToken (Token.mk 1 w12 0 a1)]⟩)] (by kernel_rfl) ⟨VLf.refl _, VLf.refl _, trivial⟩ ⟨rfl, .inr (.inl ⟨rfl, rfl, CLe.agg ⟨VLf.refl _, VLf.refl _, VLf.refl _, VLf.refl _, trivial⟩, trivial⟩), trivial⟩) ?_
    obtain rfl := Option.some.inj h
    exact rR [(4, 1000, 0)] ⟨[(4, .box 1000 0 0 0), (5, vi (wr (i5 - a1)))], [(1000, ⟨0, 124, 4, true, false, [eToken (Token.mk 1 w12 0 a1)]⟩)], 1⟩ ⟨by kernel_rfl, rfl⟩
  intro hb; replace h := cfalse hb h
  refine Qg hT 1 [0, 1, 4, 6, 7, 52] ⟨[(0, vw a0), (1, vi a1), (4, .box 4 0 0 0), (6, vu x1), (7, vi (wr (a1 + 1))), (52, vu x1)], [(4, ⟨0, 124, 4, true, false, [.agg [vi 0, vw b0, vi 0, vi 0]]⟩)], 1⟩ ?_
  obtain ⟨r13, hr13, h⟩ := bsome h
  refine Pt en149 (ref1_digit_ok hr13) ?_
  refine Sz hT 1 [0, 1, 4, 6, 7, 51] ⟨[(0, vw a0), (1, vi a1), (4, .box 4 0 0 0), (6, vu x1), (7, vi (wr (a1 + 1))), (51, vb r13)], [(4, ⟨0, 124, 4, true, false, [.agg [vi 0, vw b0, vi 0, vi 0]]⟩)], 1⟩ ?_
  refine Cd r13 ?_ ?_
  · intro hb; replace h := ctrue hb h
    refine WA_seq ?_
    refine WA_block ?_
    refine lK [0, 1, 4, 7] [(4, 4, 0)] (fun k s => ∃ q, q ≤ k ∧ q ≤ n ∧ ∃ (w15 : ByteArray), ∃ (i16 : Int), ref1_one_L1 q a0 a1 x1 r2 r13 w15 i16 = some r ∧ s = ⟨[(0, vw a0), (1, vi a1), (4, .box 4 0 0 0), (7, vi i16)], [(4, ⟨0, 124, 4, true, false, [.agg [vi 0, vw w15, vi 0, vi 0]]⟩)], 1⟩) n ⟨n, Nat.le_refl _, Nat.le_refl _, b0, wr (a1 + 1), h, rfl⟩ (by rintro s ⟨q, hq, _, w15, i16, h, _⟩; obtain rfl := Nat.le_zero.1 hq; rw [ref1_one_L1] at h; cases h) ?_
    clear h
    rintro k1 s ⟨q1, hk1, hn1, w15, i16, h, rfl⟩
    rcases q1 with _ | q1
    · rw [ref1_one_L1] at h; cases h
    rw [ref1_one_L1] at h
    refine WA_seq ?_
    refine WA_seq ?_
    obtain ⟨J18, hJ18, h⟩ := jsome h
    refine WA_join (fun s => ∃ (b17 : Bool), J18 b17 = some r ∧ s = ⟨[(0, vw a0), (1, vi a1), (4, .box 4 0 0 0), (7, vi i16), (63, vb b17)], [(4, ⟨0, 124, 4, true, false, [.agg [vi 0, vw w15, vi 0, vi 0]]⟩)], 1⟩) ?_ ?_
    · refine Rg hT 5 [0, 1, 4, 7, 58] ⟨[(0, vw a0), (1, vi a1), (4, .box 4 0 0 0), (7, vi i16), (58, vb (decide (i16 < (a0.size : Int))))], [(4, ⟨0, 124, 4, true, false, [.agg [vi 0, vw w15, vi 0, vi 0]]⟩)], 1⟩ ?_
      cases hb : (decide (i16 < (a0.size : Int)) : Bool)
      · replace h := cfalse hb h
        refine Sg hT 5 [0, 1, 4, 7, 63] ⟨[(0, vw a0), (1, vi a1), (4, .box 4 0 0 0), (7, vi i16), (63, vb false)], [(4, ⟨0, 124, 4, true, false, [.agg [vi 0, vw w15, vi 0, vi 0]]⟩)], 1⟩ ?_
        exact oK [0, 1, 4, 7, 63] [(4, 4, 0)] ⟨false, h, rfl⟩
      replace h := ctrue hb h
      refine Sg hT 2 [0, 1, 4, 7, 58, 59, 60] ⟨[(0, vw a0), (1, vi a1), (4, .box 4 0 0 0), (7, vi i16), (58, vb true), (59, vw a0), (60, vi i16)], [(4, ⟨0, 124, 4, true, false, [.agg [vi 0, vw w15, vi 0, vi 0]]⟩)], 1⟩ ?_
      obtain ⟨x19, hx19, h⟩ := bsome h
      refine One hT rfl (ev_indexS a0 .i64 i16 hx19 (by kernel_rfl) (by kernel_rfl) rfl rfl) ?_
      refine Sg hT 0 [0, 1, 4, 7, 58, 61] ⟨[(0, vw a0), (1, vi a1), (4, .box 4 0 0 0), (7, vi i16), (58, vb true), (61, vu x19)], [(4, ⟨0, 124, 4, true, false, [.agg [vi 0, vw w15, vi 0, vi 0]]⟩)], 1⟩ ?_
      obtain ⟨r20, hr20, h⟩ := bsome h
      refine Pt en149 (ref1_digit_ok hr20) ?_
      refine Sg hT 1 [0, 1, 4, 7, 63] ⟨[(0, vw a0), (1, vi a1), (4, .box 4 0 0 0), (7, vi i16), (63, vb r20)], [(4, ⟨0, 124, 4, true, false, [.agg [vi 0, vw w15, vi 0, vi 0]]⟩)], 1⟩ ?_
      exact oK [0, 1, 4, 7, 63] [(4, 4, 0)] ⟨r20, h, rfl⟩
    subst hJ18
    rintro s ⟨b17, h, rfl⟩
    skip
    refine Cd b17 ?_ ?_
    · intro hb; replace h := ctrue hb h
      refine WA_skip ?_
      refine WA_block ?_
      refine Rg hT 3 [0, 1, 4, 7] ⟨[(0, vw a0), (1, vi a1), (4, .box 4 0 0 0), (7, vi (wr (i16 + 1)))], [(4, ⟨0, 124, 4, true, false, [.agg [vi 0, vw w15, vi 0, vi 0]]⟩)], 1⟩ ?_
      exact oK [0, 1, 4, 7] [(4, 4, 0)] ⟨_, by omega, by omega, w15, wr (i16 + 1), h, rfl⟩
    intro hb; replace h := cfalse hb h
    refine WA_exit ?_
    refine Qg hT 3 [0, 1, 4, 7, 67, 68, 69] ⟨[(0, vw a0), (1, vi a1), (4, .box 4 0 0 0), (7, vi i16), (67, vw a0), (68, vi a1), (69, vi i16)], [(4, ⟨0, 124, 4, true, false, [.agg [vi 0, vw w15, vi 0, vi 0]]⟩)], 1⟩ ?_
    obtain ⟨w21, hw21, h⟩ := bsome h
    refine One hT rfl (ev_ssub a0 a1 i16 hw21 (by kernel_rfl) (by kernel_rfl) (by kernel_rfl) rfl rfl) ?_
    refine Sg hT 0 [0, 1, 4, 7, 70] ⟨[(0, vw a0), (1, vi a1), (4, .box 4 0 0 0), (7, vi i16), (70, vw w21)], [(4, ⟨0, 124, 4, true, false, [.agg [vi 0, vw w15, vi 0, vi 0]]⟩)], 1⟩ ?_
    obtain ⟨r22, hr22, h⟩ := bsome h
    refine Pt en150 (ref1_number_ok hr22) ?_
    refine Sz hT 5 [0, 1, 4, 7, 8, 9] ⟨[(0, vw a0), (1, vi a1), (4, .box 4 0 0 0), (7, vi i16), (8, vi r22.1), (9, vb r22.2)], [(4, ⟨0, 124, 4, true, false, [.agg [vi 0, vw w15, vi 0, vi 0]]⟩)], 1⟩ ?_
    refine WA_seq ?_
    refine Qz hT 2 [0, 1, 4, 7, 8, 75] ⟨[(0, vw a0), (1, vi a1), (4, .box 4 0 0 0), (7, vi i16), (8, vi r22.1), (75, vb (!r22.2))], [(4, ⟨0, 124, 4, true, false, [.agg [vi 0, vw w15, vi 0, vi 0]]⟩)], 1⟩ ?_
    refine Cd (!r22.2) ?_ ?_
    · intro hb; replace h := ctrue hb h
      refine Qz hT 3 [4, 5] ⟨[(4, .box 4 0 0 0), (5, vi 0)], [(4, ⟨0, 124, 4, true, false, [.agg [vi 0, vw b0, vi 0, vi 0]]⟩)], 1⟩ ?_
      refine aW [4, 5] ⟨[(4, .box 4 0 0 0), (5, vi 0)], [(4, ⟨0, 124, 4, true, false, [.agg [vi 0, vw b0, vi 0, vi 0]]⟩)], 1⟩ ?_
      refine WA_weak (Weak_leH [(4, .box 4 0 0 0), (5, vi 0)] [(4, ⟨0, 124, 4, true, false, [eToken (Token.mk 0 b0 0 0)]⟩)] (by kernel_rfl) ⟨VLf.refl _, VLf.refl _, trivial⟩ ⟨rfl, .inr (.inl ⟨rfl, rfl, CLe.agg ⟨VLf.refl _, VLf.refl _, VLf.refl _, VLf.refl _, trivial⟩, trivial⟩), trivial⟩) ?_
      obtain rfl := Option.some.inj h
      exact rR [(4, 1000, 0)] ⟨[(4, .box 1000 0 0 0), (5, vi 0)], [(1000, ⟨0, 124, 4, true, false, [eToken (Token.mk 0 b0 0 0)]⟩)], 1⟩ ⟨by kernel_rfl, rfl⟩
    intro hb; replace h := cfalse hb h
    refine WA_skip ?_
    refine Qg hT 3 [1, 4, 7, 8, 77, 78, 79] ⟨[(1, vi a1), (4, .box 4 0 0 0), (7, vi i16), (8, vi r22.1), (77, vw a0), (78, vi a1), (79, vi i16)], [(4, ⟨0, 124, 4, true, false, [.agg [vi 0, vw w15, vi 0, vi 0]]⟩)], 1⟩ ?_
    obtain ⟨w23, hw23, h⟩ := bsome h
    refine One hT rfl (ev_ssub a0 a1 i16 hw23 (by kernel_rfl) (by kernel_rfl) (by kernel_rfl) rfl rfl) ?_
    refine Sz hT 8 [4, 5] ⟨[(4, .box 4 0 0 0), (5, vi (wr (i16 - a1)))], [(4, ⟨0, 124, 4, true, false, [.agg [vi 2, vw w23, vi r22.1, vi a1]]⟩)], 1⟩ ?_
    refine aW [4, 5] ⟨[(4, .box 4 0 0 0), (5, vi (wr (i16 - a1)))], [(4, ⟨0, 124, 4, true, false, [.agg [vi 2, vw w23, vi r22.1, vi a1]]⟩)], 1⟩ ?_
    refine WA_weak (Weak_leH [(4, .box 4 0 0 0), (5, vi (wr (i16 - a1)))] [(4, ⟨0, 124, 4, true, false, [eToken (Token.mk 2 w23 r22.1 a1)]⟩)] (by kernel_rfl) ⟨VLf.refl _, VLf.refl _, trivial⟩ ⟨rfl, .inr (.inl ⟨rfl, rfl, CLe.agg ⟨VLf.refl _, VLf.refl _, VLf.refl _, VLf.refl _, trivial⟩, trivial⟩), trivial⟩) ?_
    obtain rfl := Option.some.inj h
    exact rR [(4, 1000, 0)] ⟨[(4, .box 1000 0 0 0), (5, vi (wr (i16 - a1)))], [(1000, ⟨0, 124, 4, true, false, [eToken (Token.mk 2 w23 r22.1 a1)]⟩)], 1⟩ ⟨by kernel_rfl, rfl⟩
  intro hb; replace h := cfalse hb h
  refine WA_seq ?_
  obtain ⟨J26, hJ26, h⟩ := jsome h
  refine WA_join (fun s => ∃ (w24 : ByteArray), ∃ (b25 : Bool), J26 w24 b25 = some r ∧ s = ⟨[(0, vw a0), (1, vi a1), (4, .box 4 0 0 0), (6, vu x1), (7, vi (wr (a1 + 1))), (87, vb b25)], [(4, ⟨0, 124, 4, true, false, [.agg [vi 0, vw w24, vi 0, vi 0]]⟩)], 1⟩) ?_ ?_
  · refine Rg hT 3 [0, 1, 4, 6, 7, 90] ⟨[(0, vw a0), (1, vi a1), (4, .box 4 0 0 0), (6, vu x1), (7, vi (wr (a1 + 1))), (90, vb (x1 == 61))], [(4, ⟨0, 124, 4, true, false, [.agg [vi 0, vw b0, vi 0, vi 0]]⟩)], 1⟩ ?_
    cases hb : ((x1 == 61) : Bool)
    · replace h := cfalse hb h
      refine Sg hT 12 [0, 1, 4, 6, 7, 87] ⟨[(0, vw a0), (1, vi a1), (4, .box 4 0 0 0), (6, vu x1), (7, vi (wr (a1 + 1))), (87, vb false)], [(4, ⟨0, 124, 4, true, false, [.agg [vi 0, vw b0, vi 0, vi 0]]⟩)], 1⟩ ?_
      exact oK [0, 1, 4, 6, 7, 87] [(4, 4, 0)] ⟨b0, false, h, rfl⟩
    replace h := ctrue hb h
    refine Sg hT 6 [0, 1, 4, 6, 7, 96] ⟨[(0, vw a0), (1, vi a1), (4, .box 4 0 0 0), (6, vu x1), (7, vi (wr (a1 + 1))), (96, vb (decide ((wr (a1 + 1)) < (a0.size : Int))))], [(4, ⟨0, 124, 4, true, false, [.agg [vi 0, vw b0, vi 0, vi 0]]⟩)], 1⟩ ?_
    cases hb : (decide ((wr (a1 + 1)) < (a0.size : Int)) : Bool)
    · replace h := cfalse hb h
      refine Sg hT 6 [0, 1, 4, 6, 7, 87] ⟨[(0, vw a0), (1, vi a1), (4, .box 4 0 0 0), (6, vu x1), (7, vi (wr (a1 + 1))), (87, vb false)], [(4, ⟨0, 124, 4, true, false, [.agg [vi 0, vw b0, vi 0, vi 0]]⟩)], 1⟩ ?_
      exact oK [0, 1, 4, 6, 7, 87] [(4, 4, 0)] ⟨b0, false, h, rfl⟩
    replace h := ctrue hb h
    refine Sg hT 2 [0, 1, 4, 6, 7, 96, 97, 98] ⟨[(0, vw a0), (1, vi a1), (4, .box 4 0 0 0), (6, vu x1), (7, vi (wr (a1 + 1))), (96, vb true), (97, vw a0), (98, vi (wr (a1 + 1)))], [(4, ⟨0, 124, 4, true, false, [.agg [vi 0, vw b0, vi 0, vi 0]]⟩)], 1⟩ ?_
    obtain ⟨x27, hx27, h⟩ := bsome h
    refine One hT rfl (ev_indexS a0 .i64 (wr (a1 + 1)) hx27 (by kernel_rfl) (by kernel_rfl) rfl rfl) ?_
    refine Sg hT 3 [0, 1, 4, 6, 7, 87] ⟨[(0, vw a0), (1, vi a1), (4, .box 4 0 0 0), (6, vu x1), (7, vi (wr (a1 + 1))), (87, vb (x27 == 61))], [(4, ⟨0, 124, 4, true, false, [.agg [vi 0, vw b0, vi 0, vi 0]]⟩)], 1⟩ ?_
    exact oK [0, 1, 4, 6, 7, 87] [(4, 4, 0)] ⟨b0, (x27 == 61), h, rfl⟩
  subst hJ26
  rintro s ⟨w24, b25, h, rfl⟩
  refine Cd b25 ?_ ?_
  · intro hb; replace h := ctrue hb h
    refine Qz hT 4 [4, 5] ⟨[(4, .box 4 0 0 0), (5, vi 2)], [(4, ⟨0, 124, 4, true, false, [.agg [vi 3, vw tx2, vi 0, vi a1]]⟩)], 1⟩ ?_
    refine aW [4, 5] ⟨[(4, .box 4 0 0 0), (5, vi 2)], [(4, ⟨0, 124, 4, true, false, [.agg [vi 3, vw tx2, vi 0, vi a1]]⟩)], 1⟩ ?_
    refine WA_weak (Weak_leH [(4, .box 4 0 0 0), (5, vi 2)] [(4, ⟨0, 124, 4, true, false, [eToken (Token.mk 3 tx2 0 a1)]⟩)] (by kernel_rfl) ⟨VLf.refl _, VLf.refl _, trivial⟩ ⟨rfl, .inr (.inl ⟨rfl, rfl, CLe.agg ⟨VLf.refl _, VLf.refl _, VLf.refl _, VLf.refl _, trivial⟩, trivial⟩), trivial⟩) ?_
    obtain rfl := Option.some.inj h
    exact rR [(4, 1000, 0)] ⟨[(4, .box 1000 0 0 0), (5, vi 2)], [(1000, ⟨0, 124, 4, true, false, [eToken (Token.mk 3 tx2 0 a1)]⟩)], 1⟩ ⟨by kernel_rfl, rfl⟩
  intro hb; replace h := cfalse hb h
  refine WA_skip ?_
  refine WA_seq ?_
  refine Qz hT 1 [0, 1, 4, 6, 7, 10] ⟨[(0, vw a0), (1, vi a1), (4, .box 4 0 0 0), (6, vu x1), (7, vi (wr (a1 + 1))), (10, vi 0)], [(4, ⟨0, 124, 4, true, false, [.agg [vi 0, vw w24, vi 0, vi 0]]⟩)], 1⟩ ?_
  refine WA_block ?_
  refine lK [0, 1, 4, 6, 7, 10] [(4, 4, 0)] (fun k s => ∃ q, q ≤ k ∧ q ≤ n ∧ ∃ (i28 : Int), ref1_one_L2 q a0 a1 x1 r2 r13 w24 b25 i28 = some r ∧ s = ⟨[(0, vw a0), (1, vi a1), (4, .box 4 0 0 0), (6, vu x1), (7, vi (wr (a1 + 1))), (10, vi i28)], [(4, ⟨0, 124, 4, true, false, [.agg [vi 0, vw w24, vi 0, vi 0]]⟩)], 1⟩) n ⟨n, Nat.le_refl _, Nat.le_refl _, 0, h, rfl⟩ (by rintro s ⟨q, hq, _, i28, h, _⟩; obtain rfl := Nat.le_zero.1 hq; rw [ref1_one_L2] at h; cases h) ?_
  clear h
  rintro k1 s ⟨q1, hk1, hn1, i28, h, rfl⟩
  rcases q1 with _ | q1
  · rw [ref1_one_L2] at h; cases h
  rw [ref1_one_L2] at h
  refine WA_seq ?_
  refine Qz hT 2 [0, 1, 4, 6, 7, 10, 105] ⟨[(0, vw a0), (1, vi a1), (4, .box 4 0 0 0), (6, vu x1), (7, vi (wr (a1 + 1))), (10, vi i28), (105, vb (decide (i28 < 11)))], [(4, ⟨0, 124, 4, true, false, [.agg [vi 0, vw w24, vi 0, vi 0]]⟩)], 1⟩ ?_
  refine Cd (decide (i28 < 11)) ?_ ?_
  · intro hb; replace h := ctrue hb h
    refine WA_skip ?_
    refine WA_seq ?_
    refine WA_block ?_
    refine Qg hT 1 [0, 1, 4, 6, 7, 10, 108] ⟨[(0, vw a0), (1, vi a1), (4, .box 4 0 0 0), (6, vu x1), (7, vi (wr (a1 + 1))), (10, vi i28), (108, vi i28)], [(4, ⟨0, 124, 4, true, false, [.agg [vi 0, vw w24, vi 0, vi 0]]⟩)], 1⟩ ?_
    obtain ⟨x29, hx29, h⟩ := bsome h
    refine One hT rfl (ev_indexS tx3 .i64 i28 hx29 (by kernel_rfl) (by kernel_rfl) rfl rfl) ?_
    refine Sz hT 2 [0, 1, 4, 6, 7, 10, 111] ⟨[(0, vw a0), (1, vi a1), (4, .box 4 0 0 0), (6, vu x1), (7, vi (wr (a1 + 1))), (10, vi i28), (111, vb (x29 == x1))], [(4, ⟨0, 124, 4, true, false, [.agg [vi 0, vw w24, vi 0, vi 0]]⟩)], 1⟩ ?_
    refine Cd (x29 == x1) ?_ ?_
    · intro hb; replace h := ctrue hb h
      refine Qg hT 3 [1, 4, 112, 113, 114] ⟨[(1, vi a1), (4, .box 4 0 0 0), (112, vw a0), (113, vi a1), (114, vi (wr (a1 + 1)))], [(4, ⟨0, 124, 4, true, false, [.agg [vi 0, vw w24, vi 0, vi 0]]⟩)], 1⟩ ?_
      obtain ⟨w30, hw30, h⟩ := bsome h
      refine One hT rfl (ev_ssub a0 a1 (wr (a1 + 1)) hw30 (by kernel_rfl) (by kernel_rfl) (by kernel_rfl) rfl rfl) ?_
      refine Sz hT 4 [4, 5] ⟨[(4, .box 4 0 0 0), (5, vi 1)], [(4, ⟨0, 124, 4, true, false, [.agg [vi 3, vw w30, vi 0, vi a1]]⟩)], 1⟩ ?_
      refine aW [4, 5] ⟨[(4, .box 4 0 0 0), (5, vi 1)], [(4, ⟨0, 124, 4, true, false, [.agg [vi 3, vw w30, vi 0, vi a1]]⟩)], 1⟩ ?_
      refine WA_weak (Weak_leH [(4, .box 4 0 0 0), (5, vi 1)] [(4, ⟨0, 124, 4, true, false, [eToken (Token.mk 3 w30 0 a1)]⟩)] (by kernel_rfl) ⟨VLf.refl _, VLf.refl _, trivial⟩ ⟨rfl, .inr (.inl ⟨rfl, rfl, CLe.agg ⟨VLf.refl _, VLf.refl _, VLf.refl _, VLf.refl _, trivial⟩, trivial⟩), trivial⟩) ?_
      obtain rfl := Option.some.inj h
      exact rR [(4, 1000, 0)] ⟨[(4, .box 1000 0 0 0), (5, vi 1)], [(1000, ⟨0, 124, 4, true, false, [eToken (Token.mk 3 w30 0 a1)]⟩)], 1⟩ ⟨by kernel_rfl, rfl⟩
    intro hb; replace h := cfalse hb h
    refine WA_skip ?_
    refine Rg hT 3 [0, 1, 4, 6, 7, 10] ⟨[(0, vw a0), (1, vi a1), (4, .box 4 0 0 0), (6, vu x1), (7, vi (wr (a1 + 1))), (10, vi (wr (i28 + 1)))], [(4, ⟨0, 124, 4, true, false, [.agg [vi 0, vw w24, vi 0, vi 0]]⟩)], 1⟩ ?_
    exact oK [0, 1, 4, 6, 7, 10] [(4, 4, 0)] ⟨_, by omega, by omega, wr (i28 + 1), h, rfl⟩
  intro hb; replace h := cfalse hb h
  refine WA_exit ?_
  refine Qz hT 3 [4, 5] ⟨[(4, .box 4 0 0 0), (5, vi 0)], [(4, ⟨0, 124, 4, true, false, [.agg [vi 0, vw b0, vi 0, vi 0]]⟩)], 1⟩ ?_
  refine aW [4, 5] ⟨[(4, .box 4 0 0 0), (5, vi 0)], [(4, ⟨0, 124, 4, true, false, [.agg [vi 0, vw b0, vi 0, vi 0]]⟩)], 1⟩ ?_
  refine WA_weak (Weak_leH [(4, .box 4 0 0 0), (5, vi 0)] [(4, ⟨0, 124, 4, true, false, [eToken (Token.mk 0 b0 0 0)]⟩)] (by kernel_rfl) ⟨VLf.refl _, VLf.refl _, trivial⟩ ⟨rfl, .inr (.inl ⟨rfl, rfl, CLe.agg ⟨VLf.refl _, VLf.refl _, VLf.refl _, VLf.refl _, trivial⟩, trivial⟩), trivial⟩) ?_
  obtain rfl := Option.some.inj h
  exact rR [(4, 1000, 0)] ⟨[(4, .box 1000 0 0 0), (5, vi 0)], [(1000, ⟨0, 124, 4, true, false, [eToken (Token.mk 0 b0 0 0)]⟩)], 1⟩ ⟨by kernel_rfl, rfl⟩

theorem ref1_Tokens_ok {n : Nat} {a0 : ByteArray} {r : (List Token) × Int × Int} (h : ref1_Tokens n a0 = some r) : GO Try.prog 101 [] [vw a0] (.tup [vo 100 1 (s117.F r.1), vi r.2.1, vi r.2.2]) [(100, ⟨1, 124, 4, false, true, s117.F r.1⟩)] := by
  unfold ref1_Tokens at h
  refine GO_bodyA hT Try.func101 rfl [] (by kernel_rfl) fun bad w m => ?_
  refine Qz hT 3 [0] ⟨[(0, vw a0)], [], 1⟩ ?_
  refine WA_seq ?_
  refine Qz hT 3 [0, 12] ⟨[(0, vw a0), (12, vb (decide ((a0.size : Int) > 6000)))], [], 1⟩ ?_
  refine Cd (decide ((a0.size : Int) > 6000)) ?_ ?_
  · intro hb; replace h := ctrue hb h
    refine Qz hT 3 [2, 3, 4] ⟨[(2, .ps .nil []), (3, vi 6000), (4, vi 2)], [], 1⟩ ?_
    refine aW [2, 3, 4] ⟨[(2, .ps .nil []), (3, vi 6000), (4, vi 2)], [], 1⟩ ?_
    refine WA_weak (Weak_own 2 5000 124 4 (by kernel_rfl) (by kernel_rfl) (by kernel_rfl) (by kernel_rfl)) ?_
    obtain rfl := Option.some.inj h
    exact rK [2, 3, 4] [(5000, 100, 1)] ⟨[(2, vo 100 1 (s117.F ([] : List Token))), (3, vi 6000), (4, vi 2)], [(100, ⟨1, 124, 4, false, true, s117.F ([] : List Token)⟩)], 2⟩ ⟨by kernel_rfl, by kernel_rfl, rfl⟩
  intro hb; replace h := cfalse hb h
  refine WA_skip ?_
  refine Qz hT 1 [0, 5] ⟨[(0, vw a0), (5, .ps .nil [])], [], 1⟩ ?_
  refine Qz hT 1 [0, 5, 6] ⟨[(0, vw a0), (5, .ps .nil []), (6, vi 0)], [], 1⟩ ?_
  refine WA_seq ?_
  refine WA_block ?_
  refine aW [0, 5, 6] ⟨[(0, vw a0), (5, .ps .nil []), (6, vi 0)], [], 1⟩ ?_
  refine WA_weak (Weak_own 5 5000 124 4 (by kernel_rfl) (by kernel_rfl) (by kernel_rfl) (by kernel_rfl)) ?_
  refine lK [0, 5, 6] [(5000, 10005, 1)] (fun k s => ∃ q, q ≤ k ∧ q ≤ n ∧ ∃ (l1 : List Token), ∃ (i2 : Int), ref1_Tokens_L0 q a0 l1 i2 = some r ∧ s = ⟨[(0, vw a0), (5, vo 10005 1 (s117.F l1)), (6, vi i2)], [(10005, ⟨1, 124, 4, false, true, s117.F l1⟩)], 2⟩) n ⟨n, Nat.le_refl _, Nat.le_refl _, ([] : List Token), 0, h, rfl⟩ (by rintro s ⟨q, hq, _, l1, i2, h, _⟩; obtain rfl := Nat.le_zero.1 hq; rw [ref1_Tokens_L0] at h; cases h) ?_
  clear h
  rintro k1 s ⟨q1, hk1, hn1, l1, i2, h, rfl⟩
  rcases q1 with _ | q1
  · rw [ref1_Tokens_L0] at h; cases h
  rw [ref1_Tokens_L0] at h
  refine WA_seq ?_
  refine Qz hT 4 [0, 5, 6, 16] ⟨[(0, vw a0), (5, vo 10005 1 (s117.F l1)), (6, vi i2), (16, vb (decide (i2 < (a0.size : Int))))], [(10005, ⟨1, 124, 4, false, true, s117.F l1⟩)], 2⟩ ?_
  refine Cd (decide (i2 < (a0.size : Int))) ?_ ?_
  · intro hb; replace h := ctrue hb h
    refine WA_skip ?_
    refine WA_block ?_
    refine Qg hT 2 [0, 5, 6, 17, 18] ⟨[(0, vw a0), (5, vo 10005 1 (s117.F l1)), (6, vi i2), (17, vw a0), (18, vi i2)], [(10005, ⟨1, 124, 4, false, true, s117.F l1⟩)], 2⟩ ?_
    obtain ⟨x3, hx3, h⟩ := bsome h
    refine One hT rfl (ev_indexS a0 .i64 i2 hx3 (by kernel_rfl) (by kernel_rfl) rfl rfl) ?_
    refine Sz hT 1 [0, 5, 6, 7] ⟨[(0, vw a0), (5, vo 10005 1 (s117.F l1)), (6, vi i2), (7, vu x3)], [(10005, ⟨1, 124, 4, false, true, s117.F l1⟩)], 2⟩ ?_
    refine WA_seq ?_
    refine WA_seq ?_
    obtain ⟨J5, hJ5, h⟩ := jsome h
    refine WA_join (fun s => ∃ (b4 : Bool), J5 b4 = some r ∧ s = ⟨[(0, vw a0), (5, vo 10005 1 (s117.F l1)), (6, vi i2), (7, vu x3), (29, vb b4)], [(10005, ⟨1, 124, 4, false, true, s117.F l1⟩)], 2⟩) ?_ ?_
    · refine Rg hT 3 [0, 5, 6, 7, 22] ⟨[(0, vw a0), (5, vo 10005 1 (s117.F l1)), (6, vi i2), (7, vu x3), (22, vb (x3 == 32))], [(10005, ⟨1, 124, 4, false, true, s117.F l1⟩)], 2⟩ ?_
      cases hb : ((x3 == 32) : Bool)
      · replace h := cfalse hb h
        refine Sg hT 4 [0, 5, 6, 7, 26] ⟨[(0, vw a0), (5, vo 10005 1 (s117.F l1)), (6, vi i2), (7, vu x3), (26, vb (x3 == 9))], [(10005, ⟨1, 124, 4, false, true, s117.F l1⟩)], 2⟩ ?_
        cases hb : ((x3 == 9) : Bool)
        · replace h := cfalse hb h
          refine Sg hT 3 [0, 5, 6, 7, 29] ⟨[(0, vw a0), (5, vo 10005 1 (s117.F l1)), (6, vi i2), (7, vu x3), (29, vb (x3 == 10))], [(10005, ⟨1, 124, 4, false, true, s117.F l1⟩)], 2⟩ ?_
          exact oK [0, 5, 6, 7, 29] [(10005, 10005, 1)] ⟨(x3 == 10), h, rfl⟩
        replace h := ctrue hb h
        refine Sg hT 3 [0, 5, 6, 7, 29] ⟨[(0, vw a0), (5, vo 10005 1 (s117.F l1)), (6, vi i2), (7, vu x3), (29, vb true)], [(10005, ⟨1, 124, 4, false, true, s117.F l1⟩)], 2⟩ ?_
        exact oK [0, 5, 6, 7, 29] [(10005, 10005, 1)] ⟨true, h, rfl⟩
      replace h := ctrue hb h
      refine Sg hT 7 [0, 5, 6, 7, 29] ⟨[(0, vw a0), (5, vo 10005 1 (s117.F l1)), (6, vi i2), (7, vu x3), (29, vb true)], [(10005, ⟨1, 124, 4, false, true, s117.F l1⟩)], 2⟩ ?_
      exact oK [0, 5, 6, 7, 29] [(10005, 10005, 1)] ⟨true, h, rfl⟩
    subst hJ5
    rintro s ⟨b4, h, rfl⟩
    skip
    refine Cd b4 ?_ ?_
    · intro hb; replace h := ctrue hb h
      refine Qz hT 3 [0, 5, 6] ⟨[(0, vw a0), (5, vo 10005 1 (s117.F l1)), (6, vi (wr (i2 + 1)))], [(10005, ⟨1, 124, 4, false, true, s117.F l1⟩)], 2⟩ ?_
      exact eK [0, 5, 6] [(10005, 10005, 1)] ⟨_, by omega, by omega, l1, wr (i2 + 1), h, rfl⟩
    intro hb; replace h := cfalse hb h
    refine WA_skip ?_
    refine WA_seq ?_
    refine Qz hT 2 [0, 5, 6, 33] ⟨[(0, vw a0), (5, vo 10005 1 (s117.F l1)), (6, vi i2), (33, vb (x3 == 35))], [(10005, ⟨1, 124, 4, false, true, s117.F l1⟩)], 2⟩ ?_
    refine Cd (x3 == 35) ?_ ?_
    · intro hb; replace h := ctrue hb h
      refine WA_seq ?_
      refine WA_block ?_
      refine lK [0, 5, 6] [(10005, 10005, 1)] (fun k s => ∃ q, q ≤ k ∧ q ≤ q1 ∧ ∃ (i6 : Int), ref1_Tokens_L1 q a0 l1 i2 x3 b4 i6 = some r ∧ s = ⟨[(0, vw a0), (5, vo 10005 1 (s117.F l1)), (6, vi i6)], [(10005, ⟨1, 124, 4, false, true, s117.F l1⟩)], 2⟩) q1 ⟨q1, Nat.le_refl _, Nat.le_refl _, i2, h, rfl⟩ (by rintro s ⟨q, hq, _, i6, h, _⟩; obtain rfl := Nat.le_zero.1 hq; rw [ref1_Tokens_L1] at h; cases h) ?_
      clear h
      rintro k2 s ⟨q2, hk2, hn2, i6, h, rfl⟩
      rcases q2 with _ | q2
      · rw [ref1_Tokens_L1] at h; cases h
      rw [ref1_Tokens_L1] at h
      refine WA_seq ?_
      refine WA_seq ?_
      obtain ⟨J8, hJ8, h⟩ := jsome h
      refine WA_join (fun s => ∃ (b7 : Bool), J8 b7 = some r ∧ s = ⟨[(0, vw a0), (5, vo 10005 1 (s117.F l1)), (6, vi i6), (43, vb b7)], [(10005, ⟨1, 124, 4, false, true, s117.F l1⟩)], 2⟩) ?_ ?_
      · refine Rg hT 5 [0, 5, 6, 38] ⟨[(0, vw a0), (5, vo 10005 1 (s117.F l1)), (6, vi i6), (38, vb (decide (i6 < (a0.size : Int))))], [(10005, ⟨1, 124, 4, false, true, s117.F l1⟩)], 2⟩ ?_
        cases hb : (decide (i6 < (a0.size : Int)) : Bool)
        · replace h := cfalse hb h
          refine Sg hT 5 [0, 5, 6, 43] ⟨[(0, vw a0), (5, vo 10005 1 (s117.F l1)), (6, vi i6), (43, vb false)], [(10005, ⟨1, 124, 4, false, true, s117.F l1⟩)], 2⟩ ?_
          exact oK [0, 5, 6, 43] [(10005, 10005, 1)] ⟨false, h, rfl⟩
        replace h := ctrue hb h
        refine Sg hT 2 [0, 5, 6, 38, 39, 40] ⟨[(0, vw a0), (5, vo 10005 1 (s117.F l1)), (6, vi i6), (38, vb true), (39, vw a0), (40, vi i6)], [(10005, ⟨1, 124, 4, false, true, s117.F l1⟩)], 2⟩ ?_
        obtain ⟨x9, hx9, h⟩ := bsome h
        refine One hT rfl (ev_indexS a0 .i64 i6 hx9 (by kernel_rfl) (by kernel_rfl) rfl rfl) ?_
        refine Sg hT 2 [0, 5, 6, 43] ⟨[(0, vw a0), (5, vo 10005 1 (s117.F l1)), (6, vi i6), (43, vb (x9 != 10))], [(10005, ⟨1, 124, 4, false, true, s117.F l1⟩)], 2⟩ ?_
        exact oK [0, 5, 6, 43] [(10005, 10005, 1)] ⟨(x9 != 10), h, rfl⟩
      subst hJ8
      rintro s ⟨b7, h, rfl⟩
      skip
      refine Cd b7 ?_ ?_
      · intro hb; replace h := ctrue hb h
        refine WA_skip ?_
        refine WA_block ?_
        refine Rg hT 3 [0, 5, 6] ⟨[(0, vw a0), (5, vo 10005 1 (s117.F l1)), (6, vi (wr (i6 + 1)))], [(10005, ⟨1, 124, 4, false, true, s117.F l1⟩)], 2⟩ ?_
        exact oK [0, 5, 6] [(10005, 10005, 1)] ⟨_, by omega, by omega, wr (i6 + 1), h, rfl⟩
      intro hb; replace h := cfalse hb h
      refine WA_exit ?_
      exact eK [0, 5, 6] [(10005, 10005, 1)] ⟨_, by omega, by omega, l1, i6, h, rfl⟩
    intro hb; replace h := cfalse hb h
    refine WA_skip ?_
    refine Qg hT 2 [0, 5, 6, 47, 48] ⟨[(0, vw a0), (5, vo 10005 1 (s117.F l1)), (6, vi i2), (47, vw a0), (48, vi i2)], [(10005, ⟨1, 124, 4, false, true, s117.F l1⟩)], 2⟩ ?_
    obtain ⟨r10, hr10, h⟩ := bsome h
    refine Pt en129 (ref1_one_ok hr10) ?_
    refine Sz hT 6 [0, 5, 6, 8, 9] ⟨[(0, vw a0), (5, vo 10005 1 (s117.F l1)), (6, vi i2), (8, .box 8 2 0 0), (9, vi r10.2)], [(8, ⟨2, 124, 4, true, false, [eToken r10.1]⟩), (10005, ⟨1, 124, 4, false, true, s117.F l1⟩)], 3⟩ ?_
    refine WA_seq ?_
    refine Qz hT 2 [0, 5, 6, 8, 9, 53] ⟨[(0, vw a0), (5, vo 10005 1 (s117.F l1)), (6, vi i2), (8, .box 8 2 0 0), (9, vi r10.2), (53, vb (r10.2 == 0))], [(8, ⟨2, 124, 4, true, false, [eToken r10.1]⟩), (10005, ⟨1, 124, 4, false, true, s117.F l1⟩)], 3⟩ ?_
    refine Cd (r10.2 == 0) ?_ ?_
    · intro hb; replace h := ctrue hb h
      refine Qz hT 4 [2, 3, 4] ⟨[(2, .ps .nil []), (3, vi i2), (4, vi 2)], [(8, ⟨2, 124, 4, true, false, [eToken r10.1]⟩), (10005, ⟨1, 124, 4, false, true, s117.F l1⟩)], 3⟩ ?_
      refine aW [2, 3, 4] ⟨[(2, .ps .nil []), (3, vi i2), (4, vi 2)], [(8, ⟨2, 124, 4, true, false, [eToken r10.1]⟩), (10005, ⟨1, 124, 4, false, true, s117.F l1⟩)], 3⟩ ?_
      refine WA_weak (Weak_own 2 5000 124 4 (by kernel_rfl) (by kernel_rfl) (by kernel_rfl) (by kernel_rfl)) ?_
      obtain rfl := Option.some.inj h
      exact rK [2, 3, 4] [(5000, 100, 1)] ⟨[(2, vo 100 1 (s117.F ([] : List Token))), (3, vi i2), (4, vi 2)], [(100, ⟨1, 124, 4, false, true, s117.F ([] : List Token)⟩)], 2⟩ ⟨by kernel_rfl, by kernel_rfl, rfl⟩
    intro hb; replace h := cfalse hb h
    refine WA_skip ?_
    refine Qg hT 3 [0, 6, 9, 55, 57] ⟨[(0, vw a0), (6, vi i2), (9, vi r10.2), (55, vo 10005 1 (s117.F l1)), (57, vo 57 3 (s117.F [r10.1]))], [(57, ⟨3, 124, 4, false, false, s117.F [r10.1]⟩), (8, ⟨2, 124, 4, true, false, [eToken r10.1]⟩), (10005, ⟨1, 124, 4, false, true, s117.F l1⟩)], 4⟩ ?_
    obtain ⟨g11, h⟩ := gsome h
    refine WO_append hT s117 rfl (by kernel_rfl) 10005 1 true l1 [r10.1] rfl (by kernel_rfl) (by kernel_rfl) (elems_own s117 57 3 true ⟨3, 124, 4, false, false, s117.F [r10.1]⟩ [r10.1] (by kernel_rfl) (by kernel_rfl) rfl rfl rfl) g11 (by kernel_rfl) ?_
    refine Sz hT 1 [0, 5, 6, 9] ⟨[(0, vw a0), (5, vo 58 4 (s117.F (l1 ++ [r10.1]))), (6, vi i2), (9, vi r10.2)], [(58, ⟨4, 124, 4, false, true, s117.F (l1 ++ [r10.1])⟩), (57, ⟨3, 124, 4, false, false, s117.F [r10.1]⟩), (8, ⟨2, 124, 4, true, false, [eToken r10.1]⟩)], 5⟩ ?_
    refine Rg hT 4 [0, 5, 6] ⟨[(0, vw a0), (5, vo 58 4 (s117.F (l1 ++ [r10.1]))), (6, vi (wr (i2 + r10.2)))], [(58, ⟨4, 124, 4, false, true, s117.F (l1 ++ [r10.1])⟩), (57, ⟨3, 124, 4, false, false, s117.F [r10.1]⟩), (8, ⟨2, 124, 4, true, false, [eToken r10.1]⟩)], 5⟩ ?_
    exact oK [0, 5, 6] [(58, 10005, 1)] ⟨_, by omega, by omega, l1 ++ [r10.1], wr (i2 + r10.2), h, rfl⟩
  intro hb; replace h := cfalse hb h
  refine WA_exit ?_
  refine Qg hT 4 [62, 65] ⟨[(62, vo 10005 1 (s117.F l1)), (65, vo 65 2 (s117.F [(Token.mk 4 b0 0 i2)]))], [(65, ⟨2, 124, 4, false, false, s117.F [(Token.mk 4 b0 0 i2)]⟩), (10005, ⟨1, 124, 4, false, true, s117.F l1⟩)], 3⟩ ?_
  obtain ⟨g12, h⟩ := gsome h
  refine WO_append hT s117 rfl (by kernel_rfl) 10005 1 true l1 [(Token.mk 4 b0 0 i2)] rfl (by kernel_rfl) (by kernel_rfl) (elems_own s117 65 2 true ⟨2, 124, 4, false, false, s117.F [(Token.mk 4 b0 0 i2)]⟩ [(Token.mk 4 b0 0 i2)] (by kernel_rfl) (by kernel_rfl) rfl rfl rfl) g12 (by kernel_rfl) ?_
  refine Sz hT 3 [2, 3, 4] ⟨[(2, vo 66 3 (s117.F (l1 ++ [(Token.mk 4 b0 0 i2)]))), (3, vi 0), (4, vi 0)], [(66, ⟨3, 124, 4, false, true, s117.F (l1 ++ [(Token.mk 4 b0 0 i2)])⟩), (65, ⟨2, 124, 4, false, false, s117.F [(Token.mk 4 b0 0 i2)]⟩)], 4⟩ ?_
  obtain rfl := Option.some.inj h
  exact rK [2, 3, 4] [(66, 100, 1)] ⟨[(2, vo 100 1 (s117.F (l1 ++ [(Token.mk 4 b0 0 i2)]))), (3, vi 0), (4, vi 0)], [(100, ⟨1, 124, 4, false, true, s117.F (l1 ++ [(Token.mk 4 b0 0 i2)])⟩)], 2⟩ ⟨by kernel_rfl, by kernel_rfl, rfl⟩

theorem ref1_declKind_ok {n : Nat} {a0 : ByteArray} {r : Int} (h : ref1_declKind n a0 = some r) : PT Try.prog 102 [vw a0] (vi r) := by
  unfold ref1_declKind at h
  refine PT_bodyA hT Try.func102 rfl (by kernel_rfl) fun bad w => ?_
  refine Qz hT 1 [0] ⟨[(0, vw a0)], [], 0⟩ ?_
  refine WA_seq ?_
  refine Qz hT 2 [0, 5, 6] ⟨[(0, vw a0), (5, .agg [vw k_var, vw k_wide, vw k_atomic, vw k_local, vw k_mutex, vw k_chan]), (6, vi 0)], [], 0⟩ ?_
  refine WA_block ?_
  refine lK [0, 5, 6] [] (fun k s => ∃ q, q ≤ k ∧ q ≤ n ∧ ∃ (i1 : Int), ref1_declKind_L0 q a0 i1 = some r ∧ s = ⟨[(0, vw a0), (5, .agg [vw k_var, vw k_wide, vw k_atomic, vw k_local, vw k_mutex, vw k_chan]), (6, vi i1)], [], 1⟩) n ⟨n, Nat.le_refl _, Nat.le_refl _, 0, h, rfl⟩ (by rintro s ⟨q, hq, _, i1, h, _⟩; obtain rfl := Nat.le_zero.1 hq; rw [ref1_declKind_L0] at h; cases h) ?_
  clear h
  rintro k1 s ⟨q1, hk1, hn1, i1, h, rfl⟩
  rcases q1 with _ | q1
  · rw [ref1_declKind_L0] at h; cases h
  rw [ref1_declKind_L0] at h
  refine Qz hT 1 [0, 5, 6, 7] ⟨[(0, vw a0), (5, .agg [vw k_var, vw k_wide, vw k_atomic, vw k_local, vw k_mutex, vw k_chan]), (6, vi i1), (7, vb (decide (i1 < 6)))], [], 1⟩ ?_
  refine WA_seq ?_
  refine Cd (decide (i1 < 6)) ?_ ?_
  · intro hb; replace h := ctrue hb h
    refine WA_skip ?_
    refine WA_seq ?_
    refine WA_block ?_
    refine Qg hT 1 [0, 5, 6, 8] ⟨[(0, vw a0), (5, .agg [vw k_var, vw k_wide, vw k_atomic, vw k_local, vw k_mutex, vw k_chan]), (6, vi i1), (8, vi i1)], [], 1⟩ ?_
    obtain ⟨x2, hx2, h⟩ := bsome h
    refine One hT rfl (ev_indexA e_s [k_var, k_wide, k_atomic, k_local, k_mutex, k_chan] .i64 i1 _ _ 9 hx2 (by kernel_rfl) (by kernel_rfl) rfl rfl rfl rfl rfl) ?_
    refine Sz hT 2 [0, 3, 4, 5, 6] ⟨[(0, vw a0), (3, vi i1), (4, vw x2), (5, .agg [vw k_var, vw k_wide, vw k_atomic, vw k_local, vw k_mutex, vw k_chan]), (6, vi i1)], [], 1⟩ ?_
    refine Qz hT 3 [0, 3, 5, 6, 12] ⟨[(0, vw a0), (3, vi i1), (5, .agg [vw k_var, vw k_wide, vw k_atomic, vw k_local, vw k_mutex, vw k_chan]), (6, vi i1), (12, vb (bytesEq a0 x2))], [], 1⟩ ?_
    refine Cd (bytesEq a0 x2) ?_ ?_
    · intro hb; replace h := ctrue hb h
      refine Qz hT 3 [2] ⟨[(2, vi (wr (1 + i1)))], [], 1⟩ ?_
      obtain rfl := Option.some.inj h
      exact rK [2] [] ⟨[(2, vi (wr (1 + i1)))], [], 1⟩ ⟨by kernel_rfl, rfl⟩
    intro hb; replace h := cfalse hb h
    refine WA_skip ?_
    refine Rg hT 2 [0, 5, 6] ⟨[(0, vw a0), (5, .agg [vw k_var, vw k_wide, vw k_atomic, vw k_local, vw k_mutex, vw k_chan]), (6, vi (wr (i1 + 1)))], [], 1⟩ ?_
    exact oK [0, 5, 6] [] ⟨_, by omega, by omega, wr (i1 + 1), h, rfl⟩
  intro hb; replace h := cfalse hb h
  refine WA_exit ?_
  refine Qz hT 1 [2] ⟨[(2, vi 0)], [], 1⟩ ?_
  obtain rfl := Option.some.inj h
  exact rK [2] [] ⟨[(2, vi 0)], [], 1⟩ ⟨by kernel_rfl, rfl⟩

theorem ref1_Reader_failAt_ok {n : Nat} {a0 : Reader} {a1 : Int} {r : Reader} (h : ref1_Reader_failAt n a0 a1 = some r) : GO Try.prog 130 [(0, ⟨0, 122, 4, true, false, [eReader a0]⟩)] [.box 0 0 0 0, vi a1] (.tup []) [(0, ⟨0, 122, 4, true, false, [eReader r]⟩)] := by
  unfold ref1_Reader_failAt at h
  refine GO_bodyA hT Try.func130 rfl [] (by kernel_rfl) fun bad w m => ?_
  refine Qz hT 5 [0, 1, 8] ⟨[(0, .box 0 0 0 0), (1, vi a1), (8, vb (!a0.Fail))], [(0, ⟨0, 122, 4, true, false, [eReader a0]⟩)], 1⟩ ?_
  refine Cd (!a0.Fail) ?_ ?_
  · intro hb; replace h := ctrue hb h
    refine Qz hT 4 [0, 1] ⟨[(0, .box 0 0 0 0), (1, vi a1)], [(0, ⟨0, 122, 4, true, false, [.agg [.ps .opt (s117.F a0.T), vi a0.At, vb true, vi a0.Bad]]⟩)], 1⟩ ?_
    refine Rg hT 5 [] ⟨[], [(0, ⟨0, 122, 4, true, false, [.agg [.ps .opt (s117.F a0.T), vi a0.At, vb true, vi a1]]⟩)], 1⟩ ?_
    refine oW [] ⟨[], [(0, ⟨0, 122, 4, true, false, [.agg [.ps .opt (s117.F a0.T), vi a0.At, vb true, vi a1]]⟩)], 1⟩ ?_
    refine WO_weak (Weak_leH [] [(0, ⟨0, 122, 4, true, false, [eReader (Reader.mk a0.T a0.At true a1)]⟩)] (by kernel_rfl) trivial ⟨rfl, .inr (.inl ⟨rfl, rfl, CLe.agg ⟨VLf.refl _, VLf.refl _, VLf.refl _, VLf.refl _, trivial⟩, trivial⟩), trivial⟩) ?_
    obtain rfl := Option.some.inj h
    exact oR [(0, 0, 0)] (s' := ⟨[], [(0, ⟨0, 122, 4, true, false, [eReader (Reader.mk a0.T a0.At true a1)]⟩)], 2⟩) ⟨by kernel_rfl, by kernel_rfl, rfl⟩
  intro hb; replace h := cfalse hb h
  obtain rfl := Option.some.inj h
  exact sK [] [(0, 0, 0)] (s' := ⟨[], [(0, ⟨0, 122, 4, true, false, [eReader a0]⟩)], 2⟩) ⟨by kernel_rfl, by kernel_rfl, rfl⟩

theorem ref1_Reader_fail_ok {n : Nat} {a0 : Reader} {r : Reader} (h : ref1_Reader_fail n a0 = some r) : GO Try.prog 103 [(0, ⟨0, 122, 4, true, false, [eReader a0]⟩)] [.box 0 0 0 0] (.tup []) [(0, ⟨0, 122, 4, true, false, [eReader r]⟩)] := by
  unfold ref1_Reader_fail at h
  refine GO_bodyA hT Try.func103 rfl [] (by kernel_rfl) fun bad w m => ?_
  refine Rg hT 5 [2, 6] ⟨[(2, .box 0 0 0 0), (6, vi a0.At)], [(0, ⟨0, 122, 4, true, false, [eReader a0]⟩)], 1⟩ ?_
  obtain ⟨r1, hr1, h⟩ := bsome h
  refine WO_go rfl (by kernel_rfl) [(0, ⟨0, 122, 4, true, false, [eReader a0]⟩)] [(0, ⟨0, 122, 4, true, false, [eReader r1]⟩)] [.box 0 0 0 0, vi a0.At] [.box 0 0 0 0, vi a0.At] [(0, 0, 0)] [(0, 0, 0)] [(0, ⟨0, 122, 4, true, false, [eReader r1]⟩)] (.tup []) (.tup []) 2 rfl (by kernel_rfl) en130 (by kernel_rfl) (by kernel_rfl) (by kernel_rfl) (ref1_Reader_failAt_ok hr1) (by kernel_rfl) (by kernel_rfl) (by kernel_rfl) (by kernel_rfl) ?_
  refine Sg hT 0 [] ⟨[], [(0, ⟨0, 122, 4, true, false, [eReader r1]⟩)], 2⟩ ?_
  obtain rfl := Option.some.inj h
  exact oK [] [(0, 0, 0)] (s' := ⟨[], [(0, ⟨0, 122, 4, true, false, [eReader r1]⟩)], 2⟩) ⟨by kernel_rfl, by kernel_rfl, rfl⟩

theorem ref1_Within_ok {n : Nat} {a0 : Int} {a1 : Int} {a2 : Int} {r : Int} (h : ref1_Within n a0 a1 a2 = some r) : PT Try.prog 114 [vi a0, vi a1, vi a2] (vi r) := by
  unfold ref1_Within at h
  refine PT_bodyA hT Try.func114 rfl (by kernel_rfl) fun bad w => ?_
  refine Qz hT 1 [0, 1, 2] ⟨[(0, vi a0), (1, vi a1), (2, vi a2)], [], 0⟩ ?_
  refine Qz hT 6 [6] ⟨[(6, vi (gomax a1 (gomin a2 a0)))], [], 0⟩ ?_
  obtain rfl := Option.some.inj h
  exact rK [6] [] ⟨[(6, vi (gomax a1 (gomin a2 a0)))], [], 1⟩ ⟨by kernel_rfl, rfl⟩

theorem ref1_Spot_ok {n : Nat} {a0 : ByteArray} {a1 : Int} {r : Int × Int} (h : ref1_Spot n a0 a1 = some r) : PT Try.prog 72 [vw a0, vi a1] (.tup [vi r.1, vi r.2]) := by
  unfold ref1_Spot at h
  refine PT_bodyA hT Try.func72 rfl (by kernel_rfl) fun bad w => ?_
  refine Qz hT 2 [0, 1] ⟨[(0, vw a0), (1, vi a1)], [], 0⟩ ?_
  refine Qg hT 3 [0, 9, 11] ⟨[(0, vw a0), (9, vi a1), (11, vi (a0.size : Int))], [], 0⟩ ?_
  obtain ⟨r1, hr1, h⟩ := bsome h
  refine Pt en114 (ref1_Within_ok hr1) ?_
  refine Sz hT 1 [0, 1] ⟨[(0, vw a0), (1, vi r1)], [], 0⟩ ?_
  refine Qz hT 1 [0, 1, 6] ⟨[(0, vw a0), (1, vi r1), (6, vi 1)], [], 0⟩ ?_
  refine Qz hT 1 [0, 1, 6, 7] ⟨[(0, vw a0), (1, vi r1), (6, vi 1), (7, vi 1)], [], 0⟩ ?_
  refine WA_seq ?_
  refine Qz hT 1 [0, 1, 6, 7, 8] ⟨[(0, vw a0), (1, vi r1), (6, vi 1), (7, vi 1), (8, vi 0)], [], 0⟩ ?_
  refine WA_block ?_
  refine lK [0, 1, 6, 7, 8] [] (fun k s => ∃ q, q ≤ k ∧ q ≤ n ∧ ∃ (i2 : Int), ∃ (i3 : Int), ∃ (i4 : Int), ref1_Spot_L0 q a0 a1 r1 i2 i3 i4 = some r ∧ s = ⟨[(0, vw a0), (1, vi r1), (6, vi i2), (7, vi i3), (8, vi i4)], [], 1⟩) n ⟨n, Nat.le_refl _, Nat.le_refl _, 1, 1, 0, h, rfl⟩ (by rintro s ⟨q, hq, _, i2, i3, i4, h, _⟩; obtain rfl := Nat.le_zero.1 hq; rw [ref1_Spot_L0] at h; cases h) ?_
  clear h
  rintro k1 s ⟨q1, hk1, hn1, i2, i3, i4, h, rfl⟩
  rcases q1 with _ | q1
  · rw [ref1_Spot_L0] at h; cases h
  rw [ref1_Spot_L0] at h
  refine WA_seq ?_
  refine Qz hT 3 [0, 1, 6, 7, 8, 15] ⟨[(0, vw a0), (1, vi r1), (6, vi i2), (7, vi i3), (8, vi i4), (15, vb (decide (i4 < r1)))], [], 1⟩ ?_
  refine Cd (decide (i4 < r1)) ?_ ?_
  · intro hb; replace h := ctrue hb h
    refine WA_skip ?_
    refine WA_seq ?_
    obtain ⟨J7, hJ7, h⟩ := jsome h
    refine WA_join (fun s => ∃ (i5 : Int), ∃ (i6 : Int), J7 i5 i6 = some r ∧ s = ⟨[(0, vw a0), (1, vi r1), (6, vi i5), (7, vi i6), (8, vi i4)], [], 1⟩) ?_ ?_
    · refine WA_block ?_
      refine Qz hT 3 [0, 1, 6, 7, 8] ⟨[(0, vw a0), (1, vi r1), (6, vi i2), (7, vi (wr (i3 + 1))), (8, vi i4)], [], 1⟩ ?_
      refine Qg hT 2 [0, 1, 6, 7, 8, 20, 21] ⟨[(0, vw a0), (1, vi r1), (6, vi i2), (7, vi (wr (i3 + 1))), (8, vi i4), (20, vw a0), (21, vi i4)], [], 1⟩ ?_
      obtain ⟨x8, hx8, h⟩ := bsome h
      refine One hT rfl (ev_indexS a0 .i64 i4 hx8 (by kernel_rfl) (by kernel_rfl) rfl rfl) ?_
      refine Sz hT 1 [0, 1, 6, 7, 8, 23] ⟨[(0, vw a0), (1, vi r1), (6, vi i2), (7, vi (wr (i3 + 1))), (8, vi i4), (23, vb (x8 == 10))], [], 1⟩ ?_
      refine Cd (x8 == 10) ?_ ?_
      · intro hb; replace h := ctrue hb h
        refine Qz hT 3 [0, 1, 6, 8] ⟨[(0, vw a0), (1, vi r1), (6, vi (wr (i2 + 1))), (8, vi i4)], [], 1⟩ ?_
        refine Rg hT 1 [0, 1, 6, 7, 8] ⟨[(0, vw a0), (1, vi r1), (6, vi (wr (i2 + 1))), (7, vi 1), (8, vi i4)], [], 1⟩ ?_
        exact oK [0, 1, 6, 7, 8] [] ⟨wr (i2 + 1), 1, h, rfl⟩
      intro hb; replace h := cfalse hb h
      exact sK [0, 1, 6, 7, 8] [] ⟨i2, wr (i3 + 1), h, rfl⟩
    subst hJ7
    rintro s ⟨i5, i6, h, rfl⟩
    skip
    refine Rg hT 3 [0, 1, 6, 7, 8] ⟨[(0, vw a0), (1, vi r1), (6, vi i5), (7, vi i6), (8, vi (wr (i4 + 1)))], [], 1⟩ ?_
    exact oK [0, 1, 6, 7, 8] [] ⟨_, by omega, by omega, i5, i6, wr (i4 + 1), h, rfl⟩
  intro hb; replace h := cfalse hb h
  refine WA_exit ?_
  refine Qz hT 4 [4, 5] ⟨[(4, vi i2), (5, vi i3)], [], 1⟩ ?_
  obtain rfl := Option.some.inj h
  exact rK [4, 5] [] ⟨[(4, vi i2), (5, vi i3)], [], 1⟩ ⟨by kernel_rfl, rfl⟩

theorem ref1_Place_ok {n : Nat} {a0 : ByteArray} {a1 : Int} {r : Cx} (h : ref1_Place n a0 a1 = some r) : PT Try.prog 28 [vw a0, vi a1] (vz r) := by
  unfold ref1_Place at h
  refine PT_bodyA hT Try.func28 rfl (by kernel_rfl) fun bad w => ?_
  refine Qz hT 1 [0, 1] ⟨[(0, vw a0), (1, vi a1)], [], 0⟩ ?_
  refine Qg hT 2 [8, 9] ⟨[(8, vw a0), (9, vi a1)], [], 0⟩ ?_
  obtain ⟨r1, hr1, h⟩ := bsome h
  refine Pt en72 (ref1_Spot_ok hr1) ?_
  refine Sz hT 5 [5, 6] ⟨[(5, vi r1.1), (6, vi r1.2)], [], 0⟩ ?_
  refine Qz hT 6 [4] ⟨[(4, vz (⟨FloatKind.f64.nearest r1.1, FloatKind.f64.nearest r1.2⟩ : Cx))], [], 0⟩ ?_
  obtain rfl := Option.some.inj h
  exact rK [4] [] ⟨[(4, vz (⟨FloatKind.f64.nearest r1.1, FloatKind.f64.nearest r1.2⟩ : Cx))], [], 1⟩ ⟨by kernel_rfl, rfl⟩

theorem ref1_Keyword_ok {n : Nat} {a0 : ByteArray} {r : Bool} (h : ref1_Keyword n a0 = some r) : PT Try.prog 131 [vw a0] (vb r) := by
  unfold ref1_Keyword at h
  refine PT_bodyA hT Try.func131 rfl (by kernel_rfl) fun bad w => ?_
  refine Qz hT 1 [0] ⟨[(0, vw a0)], [], 0⟩ ?_
  refine WA_seq ?_
  refine Qz hT 2 [0, 5, 6] ⟨[(0, vw a0), (5, .agg [vw k_var, vw k_wide, vw k_atomic, vw k_local, vw k_mutex, vw k_chan, vw k_go, vw k_lock, vw k_unlock, vw k_send, vw k_recv, vw k_print, vw k_if, vw k_else, vw k_repeat, vw k_goto, vw k_label]), (6, vi 0)], [], 0⟩ ?_
  refine WA_block ?_
  refine lK [0, 5, 6] [] (fun k s => ∃ q, q ≤ k ∧ q ≤ n ∧ ∃ (i1 : Int), ref1_Keyword_L0 q a0 i1 = some r ∧ s = ⟨[(0, vw a0), (5, .agg [vw k_var, vw k_wide, vw k_atomic, vw k_local, vw k_mutex, vw k_chan, vw k_go, vw k_lock, vw k_unlock, vw k_send, vw k_recv, vw k_print, vw k_if, vw k_else, vw k_repeat, vw k_goto, vw k_label]), (6, vi i1)], [], 1⟩) n ⟨n, Nat.le_refl _, Nat.le_refl _, 0, h, rfl⟩ (by rintro s ⟨q, hq, _, i1, h, _⟩; obtain rfl := Nat.le_zero.1 hq; rw [ref1_Keyword_L0] at h; cases h) ?_
  clear h
  rintro k1 s ⟨q1, hk1, hn1, i1, h, rfl⟩
  rcases q1 with _ | q1
  · rw [ref1_Keyword_L0] at h; cases h
  rw [ref1_Keyword_L0] at h
  refine Qz hT 1 [0, 5, 6, 7] ⟨[(0, vw a0), (5, .agg [vw k_var, vw k_wide, vw k_atomic, vw k_local, vw k_mutex, vw k_chan, vw k_go, vw k_lock, vw k_unlock, vw k_send, vw k_recv, vw k_print, vw k_if, vw k_else, vw k_repeat, vw k_goto, vw k_label]), (6, vi i1), (7, vb (decide (i1 < 17)))], [], 1⟩ ?_
  refine WA_seq ?_
  refine Cd (decide (i1 < 17)) ?_ ?_
  · intro hb; replace h := ctrue hb h
    refine WA_skip ?_
    refine WA_seq ?_
    refine WA_block ?_
    refine Qg hT 0 [0, 5, 6] ⟨[(0, vw a0), (5, .agg [vw k_var, vw k_wide, vw k_atomic, vw k_local, vw k_mutex, vw k_chan, vw k_go, vw k_lock, vw k_unlock, vw k_send, vw k_recv, vw k_print, vw k_if, vw k_else, vw k_repeat, vw k_goto, vw k_label]), (6, vi i1)], [], 1⟩ ?_
    obtain ⟨x2, hx2, h⟩ := bsome h
    refine One hT rfl (ev_indexA e_s [k_var, k_wide, k_atomic, k_local, k_mutex, k_chan, k_go, k_lock, k_unlock, k_send, k_recv, k_print, k_if, k_else, k_repeat, k_goto, k_label] .i64 i1 _ _ 9 hx2 (by kernel_rfl) (by kernel_rfl) rfl rfl rfl rfl rfl) ?_
    refine Sz hT 1 [0, 4, 5, 6] ⟨[(0, vw a0), (4, vw x2), (5, .agg [vw k_var, vw k_wide, vw k_atomic, vw k_local, vw k_mutex, vw k_chan, vw k_go, vw k_lock, vw k_unlock, vw k_send, vw k_recv, vw k_print, vw k_if, vw k_else, vw k_repeat, vw k_goto, vw k_label]), (6, vi i1)], [], 1⟩ ?_
    refine Qz hT 3 [0, 5, 6, 11] ⟨[(0, vw a0), (5, .agg [vw k_var, vw k_wide, vw k_atomic, vw k_local, vw k_mutex, vw k_chan, vw k_go, vw k_lock, vw k_unlock, vw k_send, vw k_recv, vw k_print, vw k_if, vw k_else, vw k_repeat, vw k_goto, vw k_label]), (6, vi i1), (11, vb (bytesEq a0 x2))], [], 1⟩ ?_
    refine Cd (bytesEq a0 x2) ?_ ?_
    · intro hb; replace h := ctrue hb h
      refine Qz hT 1 [2] ⟨[(2, vb true)], [], 1⟩ ?_
      obtain rfl := Option.some.inj h
      exact rK [2] [] ⟨[(2, vb true)], [], 1⟩ ⟨by kernel_rfl, rfl⟩
    intro hb; replace h := cfalse hb h
    refine WA_skip ?_
    refine Rg hT 2 [0, 5, 6] ⟨[(0, vw a0), (5, .agg [vw k_var, vw k_wide, vw k_atomic, vw k_local, vw k_mutex, vw k_chan, vw k_go, vw k_lock, vw k_unlock, vw k_send, vw k_recv, vw k_print, vw k_if, vw k_else, vw k_repeat, vw k_goto, vw k_label]), (6, vi (wr (i1 + 1)))], [], 1⟩ ?_
    exact oK [0, 5, 6] [] ⟨_, by omega, by omega, wr (i1 + 1), h, rfl⟩
  intro hb; replace h := cfalse hb h
  refine WA_exit ?_
  refine Qz hT 1 [2] ⟨[(2, vb false)], [], 1⟩ ?_
  obtain rfl := Option.some.inj h
  exact rK [2] [] ⟨[(2, vb false)], [], 1⟩ ⟨by kernel_rfl, rfl⟩

theorem ref1_Reader_name_ok {n : Nat} {a0 : Reader} {r : ByteArray × Reader} (h : ref1_Reader_name n a0 = some r) : GO Try.prog 104 [(0, ⟨0, 122, 4, true, false, [eReader a0]⟩)] [.box 0 0 0 0] (vw r.1) [(0, ⟨0, 122, 4, true, false, [eReader r.2]⟩)] := by
  unfold ref1_Reader_name at h
  refine GO_bodyA hT Try.func104 rfl [] (by kernel_rfl) fun bad w m => ?_
  refine Qz hT 1 [0] ⟨[(0, .box 0 0 0 0)], [(0, ⟨0, 122, 4, true, false, [eReader a0]⟩)], 1⟩ ?_
  refine WA_seq ?_
  refine WA_seq ?_
  obtain ⟨J2, hJ2, h⟩ := jsome h
  refine WA_join (fun s => ∃ (b1 : Bool), J2 b1 = some r ∧ s = ⟨[(0, .box 0 0 0 0), (34, vb b1)], [(0, ⟨0, 122, 4, true, false, [eReader a0]⟩)], 2⟩) ?_ ?_
  · refine WA_drawW hT hM (by kernel_rfl) ?_
    refine WD_seg 5 ⟨[(7, vb a0.Fail), (6, vb a0.Fail), (5, .box 0 0 0 2), (4, .box 0 0 0 0), (3, .box 0 0 0 0), (0, .box 0 0 0 0)], [(0, ⟨0, 122, 4, true, false, [eReader a0]⟩)], 1⟩ [] [(1, [0]), (2, [0]), (3, [0])] (by kernel_rfl) (by kernel_rfl) ?_
    cases hb : (a0.Fail : Bool)
    · replace h := cfalse hb h
      refine WD_seg 8 ⟨[(15, vi a0.At), (14, .box 0 0 0 1), (13, .box 0 0 0 0), (12, .box 0 0 0 0), (11, .ps .opt (s117.F a0.T)), (10, .box 0 0 0 0), (9, .box 0 0 0 0), (8, .box 0 0 0 0), (7, vb false), (6, vb false), (5, .box 0 0 0 2), (4, .box 0 0 0 0), (3, .box 0 0 0 0), (0, .box 0 0 0 0)], [(0, ⟨0, 122, 4, true, false, [eReader a0]⟩)], 1⟩ [] [(1, [0]), (2, [0]), (3, [0]), (6, [0]), (7, [0]), (8, [0]), (10, [0]), (11, [0]), (12, [0])] (by kernel_rfl) (by kernel_rfl) ?_
      obtain ⟨x3, hx3, h⟩ := bsome h
      refine WD_loc rfl (by kernel_rfl) (by kernel_rfl) (by kernel_rfl) (ev_index s117 .opt a0.T .i64 a0.At hx3 (by decide) (by kernel_rfl) (by kernel_rfl)) (by kernel_rfl) ?_
      refine WD_seg 5 ⟨[(21, vb (x3.Kind != 1)), (20, vb (x3.Kind != 1)), (19, vb (x3.Kind != 1)), (18, vi x3.Kind), (17, .ref (eToken x3) 0), (16, .ref (eToken x3) 0), (15, vi a0.At), (14, .box 0 0 0 1), (13, .box 0 0 0 0), (12, .box 0 0 0 0), (11, .ps .opt (s117.F a0.T)), (10, .box 0 0 0 0), (9, .box 0 0 0 0), (8, .box 0 0 0 0), (7, vb false), (6, vb false), (5, .box 0 0 0 2), (4, .box 0 0 0 0), (3, .box 0 0 0 0), (0, .box 0 0 0 0)], [(0, ⟨0, 122, 4, true, false, [eReader a0]⟩)], 1⟩ [] [(1, [0]), (2, [0]), (3, [0]), (6, [0]), (7, [0]), (8, [0]), (10, [0]), (11, [0]), (12, [0])] (by kernel_rfl) (by kernel_rfl) ?_
      cases hb : ((x3.Kind != 1) : Bool)
      · replace h := cfalse hb h
        refine WD_seg 8 ⟨[(29, vi a0.At), (28, .box 0 0 0 1), (27, .box 0 0 0 0), (26, .box 0 0 0 0), (25, .ps .opt (s117.F a0.T)), (24, .box 0 0 0 0), (23, .box 0 0 0 0), (22, .box 0 0 0 0), (21, vb false), (20, vb false), (19, vb false), (18, vi x3.Kind), (17, .ref (eToken x3) 0), (16, .ref (eToken x3) 0), (15, vi a0.At), (14, .box 0 0 0 1), (13, .box 0 0 0 0), (12, .box 0 0 0 0), (11, .ps .opt (s117.F a0.T)), (10, .box 0 0 0 0), (9, .box 0 0 0 0), (8, .box 0 0 0 0), (7, vb false), (6, vb false), (5, .box 0 0 0 2), (4, .box 0 0 0 0), (3, .box 0 0 0 0), (0, .box 0 0 0 0)], [(0, ⟨0, 122, 4, true, false, [eReader a0]⟩)], 1⟩ [] [(1, [0]), (2, [0]), (3, [0]), (6, [0]), (7, [0]), (8, [0]), (10, [0]), (11, [0]), (12, [0]), (20, [0]), (21, [0]), (22, [0]), (24, [0]), (25, [0]), (26, [0])] (by kernel_rfl) (by kernel_rfl) ?_
        obtain ⟨x4, hx4, h⟩ := bsome h
        refine WD_loc rfl (by kernel_rfl) (by kernel_rfl) (by kernel_rfl) (ev_index s117 .opt a0.T .i64 a0.At hx4 (by decide) (by kernel_rfl) (by kernel_rfl)) (by kernel_rfl) ?_
        refine WD_seg 2 ⟨[(32, vw x4.Text), (31, .ref (eToken x4) 1), (30, .ref (eToken x4) 0), (29, vi a0.At), (28, .box 0 0 0 1), (27, .box 0 0 0 0), (26, .box 0 0 0 0), (25, .ps .opt (s117.F a0.T)), (24, .box 0 0 0 0), (23, .box 0 0 0 0), (22, .box 0 0 0 0), (21, vb false), (20, vb false), (19, vb false), (18, vi x3.Kind), (17, .ref (eToken x3) 0), (16, .ref (eToken x3) 0), (15, vi a0.At), (14, .box 0 0 0 1), (13, .box 0 0 0 0), (12, .box 0 0 0 0), (11, .ps .opt (s117.F a0.T)), (10, .box 0 0 0 0), (9, .box 0 0 0 0), (8, .box 0 0 0 0), (7, vb false), (6, vb false), (5, .box 0 0 0 2), (4, .box 0 0 0 0), (3, .box 0 0 0 0), (0, .box 0 0 0 0)], [(0, ⟨0, 122, 4, true, false, [eReader a0]⟩)], 1⟩ [] [(1, [0]), (2, [0]), (3, [0]), (6, [0]), (7, [0]), (8, [0]), (10, [0]), (11, [0]), (12, [0]), (20, [0]), (21, [0]), (22, [0]), (24, [0]), (25, [0]), (26, [0])] (by kernel_rfl) (by kernel_rfl) ?_
        obtain ⟨r5, hr5, h⟩ := bsome h
        refine WD_pt rfl (by kernel_rfl) (by kernel_rfl) [vw x4.Text] (vb r5) rfl (by kernel_rfl) en131 (by kernel_rfl) (ref1_Keyword_ok hr5) (by kernel_rfl) ?_
        refine WD_seg 1 ⟨[(34, vb r5), (33, vb r5), (32, vw x4.Text), (31, .ref (eToken x4) 1), (30, .ref (eToken x4) 0), (29, vi a0.At), (28, .box 0 0 0 1), (27, .box 0 0 0 0), (26, .box 0 0 0 0), (25, .ps .opt (s117.F a0.T)), (24, .box 0 0 0 0), (23, .box 0 0 0 0), (22, .box 0 0 0 0), (21, vb false), (20, vb false), (19, vb false), (18, vi x3.Kind), (17, .ref (eToken x3) 0), (16, .ref (eToken x3) 0), (15, vi a0.At), (14, .box 0 0 0 1), (13, .box 0 0 0 0), (12, .box 0 0 0 0), (11, .ps .opt (s117.F a0.T)), (10, .box 0 0 0 0), (9, .box 0 0 0 0), (8, .box 0 0 0 0), (7, vb false), (6, vb false), (5, .box 0 0 0 2), (4, .box 0 0 0 0), (3, .box 0 0 0 0), (0, .box 0 0 0 0)], [(0, ⟨0, 122, 4, true, false, [eReader a0]⟩)], 1⟩ [] [(1, [0]), (2, [0]), (3, [0]), (6, [0]), (7, [0]), (8, [0]), (10, [0]), (11, [0]), (12, [0]), (20, [0]), (21, [0]), (22, [0]), (24, [0]), (25, [0]), (26, [0])] (by kernel_rfl) (by kernel_rfl) ?_
        refine WD_end (by kernel_rfl) (by kernel_rfl) (by kernel_rfl) ?_
        exact wK [0, 34] [(0, 0, 0)] ⟨r5, h, rfl⟩
      replace h := ctrue hb h
      refine WD_seg 13 ⟨[(34, vb true), (33, .p Go.undef), (32, .p Go.undef), (31, .p Go.undef), (30, .p Go.undef), (29, .p Go.undef), (28, .p Go.undef), (27, .p Go.undef), (26, .p Go.undef), (25, .p Go.undef), (24, .p Go.undef), (23, .p Go.undef), (22, .p Go.undef), (21, vb true), (20, vb true), (19, vb true), (18, vi x3.Kind), (17, .ref (eToken x3) 0), (16, .ref (eToken x3) 0), (15, vi a0.At), (14, .box 0 0 0 1), (13, .box 0 0 0 0), (12, .box 0 0 0 0), (11, .ps .opt (s117.F a0.T)), (10, .box 0 0 0 0), (9, .box 0 0 0 0), (8, .box 0 0 0 0), (7, vb false), (6, vb false), (5, .box 0 0 0 2), (4, .box 0 0 0 0), (3, .box 0 0 0 0), (0, .box 0 0 0 0)], [(0, ⟨0, 122, 4, true, false, [eReader a0]⟩)], 1⟩ [] [(1, [0]), (2, [0]), (3, [0]), (6, [0]), (7, [0]), (8, [0]), (10, [0]), (11, [0]), (12, [0])] (by kernel_rfl) (by kernel_rfl) ?_
      refine WD_end (by kernel_rfl) (by kernel_rfl) (by kernel_rfl) ?_
      exact wK [0, 34] [(0, 0, 0)] ⟨true, h, rfl⟩
    replace h := ctrue hb h
    refine WD_seg 27 ⟨[(34, vb true), (33, .p Go.undef), (32, .p Go.undef), (31, .p Go.undef), (30, .p Go.undef), (29, .p Go.undef), (28, .p Go.undef), (27, .p Go.undef), (26, .p Go.undef), (25, .p Go.undef), (24, .p Go.undef), (23, .p Go.undef), (22, .p Go.undef), (21, vb true), (20, vb true), (19, .p Go.undef), (18, .p Go.undef), (17, .p Go.undef), (16, .p Go.undef), (15, .p Go.undef), (14, .p Go.undef), (13, .p Go.undef), (12, .p Go.undef), (11, .p Go.undef), (10, .p Go.undef), (9, .p Go.undef), (8, .p Go.undef), (7, vb true), (6, vb true), (5, .box 0 0 0 2), (4, .box 0 0 0 0), (3, .box 0 0 0 0), (0, .box 0 0 0 0)], [(0, ⟨0, 122, 4, true, false, [eReader a0]⟩)], 1⟩ [] [(1, [0]), (2, [0]), (3, [0])] (by kernel_rfl) (by kernel_rfl) ?_
    refine WD_end (by kernel_rfl) (by kernel_rfl) (by kernel_rfl) ?_
    exact wK [0, 34] [(0, 0, 0)] ⟨true, h, rfl⟩
  subst hJ2
  rintro s ⟨b1, h, rfl⟩
  refine Cd b1 ?_ ?_
  · intro hb; replace h := ctrue hb h
    refine Qg hT 1 [35] ⟨[(35, .box 0 0 0 0)], [(0, ⟨0, 122, 4, true, false, [eReader a0]⟩)], 2⟩ ?_
    obtain ⟨r6, hr6, h⟩ := bsome h
    refine WO_go rfl (by kernel_rfl) [(0, ⟨0, 122, 4, true, false, [eReader a0]⟩)] [(0, ⟨0, 122, 4, true, false, [eReader r6]⟩)] [.box 0 0 0 0] [.box 0 0 0 0] [(0, 0, 0)] [(0, 0, 0)] [(0, ⟨0, 122, 4, true, false, [eReader r6]⟩)] (.tup []) (.tup []) 3 rfl (by kernel_rfl) en103 (by kernel_rfl) (by kernel_rfl) (by kernel_rfl) (ref1_Reader_fail_ok hr6) (by kernel_rfl) (by kernel_rfl) (by kernel_rfl) (by kernel_rfl) ?_
    refine Sz hT 0 [] ⟨[], [(0, ⟨0, 122, 4, true, false, [eReader r6]⟩)], 3⟩ ?_
    refine Qz hT 1 [2] ⟨[(2, vw b0)], [(0, ⟨0, 122, 4, true, false, [eReader r6]⟩)], 3⟩ ?_
    obtain rfl := Option.some.inj h
    exact rK [2] [(0, 0, 0)] ⟨[(2, vw b0)], [(0, ⟨0, 122, 4, true, false, [eReader r6]⟩)], 2⟩ ⟨by kernel_rfl, by kernel_rfl, rfl⟩
  intro hb; replace h := cfalse hb h
  refine WA_skip ?_
  refine Qz hT 8 [0] ⟨[(0, .box 0 0 0 0)], [(0, ⟨0, 122, 4, true, false, [.agg [.ps .opt (s117.F a0.T), vi (wr (a0.At + 1)), vb a0.Fail, vi a0.Bad]]⟩)], 2⟩ ?_
  refine WA_seq ?_
  refine WA_drawW hT hM (by kernel_rfl) ?_
  refine WD_seg 9 ⟨[(52, vi (wr ((wr (a0.At + 1)) - 1))), (51, vi (wr (a0.At + 1))), (50, .box 0 0 0 1), (49, .box 0 0 0 0), (48, .box 0 0 0 0), (47, .ps .opt (s117.F a0.T)), (46, .box 0 0 0 0), (45, .box 0 0 0 0), (44, .box 0 0 0 0), (0, .box 0 0 0 0)], [(0, ⟨0, 122, 4, true, false, [.agg [.ps .opt (s117.F a0.T), vi (wr (a0.At + 1)), vb a0.Fail, vi a0.Bad]]⟩)], 2⟩ [] [(1, [0]), (2, [0]), (3, [0]), (5, [0]), (6, [0]), (7, [0])] (by kernel_rfl) (by kernel_rfl) ?_
  obtain ⟨x7, hx7, h⟩ := bsome h
  refine WD_loc rfl (by kernel_rfl) (by kernel_rfl) (by kernel_rfl) (ev_index s117 .opt a0.T .i64 (wr ((wr (a0.At + 1)) - 1)) hx7 (by decide) (by kernel_rfl) (by kernel_rfl)) (by kernel_rfl) ?_
  refine WD_seg 3 ⟨[(2, vw x7.Text), (55, vw x7.Text), (54, .ref (eToken x7) 1), (53, .ref (eToken x7) 0), (52, vi (wr ((wr (a0.At + 1)) - 1))), (51, vi (wr (a0.At + 1))), (50, .box 0 0 0 1), (49, .box 0 0 0 0), (48, .box 0 0 0 0), (47, .ps .opt (s117.F a0.T)), (46, .box 0 0 0 0), (45, .box 0 0 0 0), (44, .box 0 0 0 0), (0, .box 0 0 0 0)], [(0, ⟨0, 122, 4, true, false, [.agg [.ps .opt (s117.F a0.T), vi (wr (a0.At + 1)), vb a0.Fail, vi a0.Bad]]⟩)], 2⟩ [] [(1, [0]), (2, [0]), (3, [0]), (5, [0]), (6, [0]), (7, [0])] (by kernel_rfl) (by kernel_rfl) ?_
  refine WD_end (by kernel_rfl) (by kernel_rfl) (by kernel_rfl) ?_
  refine Wk_done ?_
  refine aW [2] ⟨[(2, vw x7.Text)], [(0, ⟨0, 122, 4, true, false, [.agg [.ps .opt (s117.F a0.T), vi (wr (a0.At + 1)), vb a0.Fail, vi a0.Bad]]⟩)], 2⟩ ?_
  refine WA_weak (Weak_leH [(2, vw x7.Text)] [(0, ⟨0, 122, 4, true, false, [eReader (Reader.mk a0.T (wr (a0.At + 1)) a0.Fail a0.Bad)]⟩)] (by kernel_rfl) ⟨VLf.refl _, trivial⟩ ⟨rfl, .inr (.inl ⟨rfl, rfl, CLe.agg ⟨VLf.refl _, VLf.refl _, VLf.refl _, VLf.refl _, trivial⟩, trivial⟩), trivial⟩) ?_
  obtain rfl := Option.some.inj h
  exact rR [(0, 0, 0)] ⟨[(2, vw x7.Text)], [(0, ⟨0, 122, 4, true, false, [eReader (Reader.mk a0.T (wr (a0.At + 1)) a0.Fail a0.Bad)]⟩)], 2⟩ ⟨by kernel_rfl, by kernel_rfl, rfl⟩

theorem ref1_Reader_number_ok {n : Nat} {a0 : Reader} {a1 : Int} {r : Int × Reader} (h : ref1_Reader_number n a0 a1 = some r) : GO Try.prog 105 [(0, ⟨0, 122, 4, true, false, [eReader a0]⟩)] [.box 0 0 0 0, vi a1] (vi r.1) [(0, ⟨0, 122, 4, true, false, [eReader r.2]⟩)] := by
  unfold ref1_Reader_number at h
  refine GO_bodyA hT Try.func105 rfl [] (by kernel_rfl) fun bad w m => ?_
  refine Qz hT 1 [0, 1] ⟨[(0, .box 0 0 0 0), (1, vi a1)], [(0, ⟨0, 122, 4, true, false, [eReader a0]⟩)], 1⟩ ?_
  refine WA_seq ?_
  refine WA_seq ?_
  obtain ⟨J2, hJ2, h⟩ := jsome h
  refine WA_join (fun s => ∃ (b1 : Bool), J2 b1 = some r ∧ s = ⟨[(0, .box 0 0 0 0), (37, vb b1)], [(0, ⟨0, 122, 4, true, false, [eReader a0]⟩)], 2⟩) ?_ ?_
  · refine WA_drawW hT hM (by kernel_rfl) ?_
    refine WD_seg 5 ⟨[(9, vb a0.Fail), (8, vb a0.Fail), (7, .box 0 0 0 2), (6, .box 0 0 0 0), (5, .box 0 0 0 0), (0, .box 0 0 0 0), (1, vi a1)], [(0, ⟨0, 122, 4, true, false, [eReader a0]⟩)], 1⟩ [] [(1, [0]), (2, [0]), (3, [0])] (by kernel_rfl) (by kernel_rfl) ?_
    cases hb : (a0.Fail : Bool)
    · replace h := cfalse hb h
      refine WD_seg 8 ⟨[(17, vi a0.At), (16, .box 0 0 0 1), (15, .box 0 0 0 0), (14, .box 0 0 0 0), (13, .ps .opt (s117.F a0.T)), (12, .box 0 0 0 0), (11, .box 0 0 0 0), (10, .box 0 0 0 0), (9, vb false), (8, vb false), (7, .box 0 0 0 2), (6, .box 0 0 0 0), (5, .box 0 0 0 0), (0, .box 0 0 0 0), (1, vi a1)], [(0, ⟨0, 122, 4, true, false, [eReader a0]⟩)], 1⟩ [] [(1, [0]), (2, [0]), (3, [0]), (6, [0]), (7, [0]), (8, [0]), (10, [0]), (11, [0]), (12, [0])] (by kernel_rfl) (by kernel_rfl) ?_
      obtain ⟨x3, hx3, h⟩ := bsome h
      refine WD_loc rfl (by kernel_rfl) (by kernel_rfl) (by kernel_rfl) (ev_index s117 .opt a0.T .i64 a0.At hx3 (by decide) (by kernel_rfl) (by kernel_rfl)) (by kernel_rfl) ?_
      refine WD_seg 5 ⟨[(23, vb (x3.Kind != 2)), (22, vb (x3.Kind != 2)), (21, vb (x3.Kind != 2)), (20, vi x3.Kind), (19, .ref (eToken x3) 0), (18, .ref (eToken x3) 0), (17, vi a0.At), (16, .box 0 0 0 1), (15, .box 0 0 0 0), (14, .box 0 0 0 0), (13, .ps .opt (s117.F a0.T)), (12, .box 0 0 0 0), (11, .box 0 0 0 0), (10, .box 0 0 0 0), (9, vb false), (8, vb false), (7, .box 0 0 0 2), (6, .box 0 0 0 0), (5, .box 0 0 0 0), (0, .box 0 0 0 0), (1, vi a1)], [(0, ⟨0, 122, 4, true, false, [eReader a0]⟩)], 1⟩ [] [(1, [0]), (2, [0]), (3, [0]), (6, [0]), (7, [0]), (8, [0]), (10, [0]), (11, [0]), (12, [0])] (by kernel_rfl) (by kernel_rfl) ?_
      cases hb : ((x3.Kind != 2) : Bool)
      · replace h := cfalse hb h
        refine WD_seg 8 ⟨[(31, vi a0.At), (30, .box 0 0 0 1), (29, .box 0 0 0 0), (28, .box 0 0 0 0), (27, .ps .opt (s117.F a0.T)), (26, .box 0 0 0 0), (25, .box 0 0 0 0), (24, .box 0 0 0 0), (23, vb false), (22, vb false), (21, vb false), (20, vi x3.Kind), (19, .ref (eToken x3) 0), (18, .ref (eToken x3) 0), (17, vi a0.At), (16, .box 0 0 0 1), (15, .box 0 0 0 0), (14, .box 0 0 0 0), (13, .ps .opt (s117.F a0.T)), (12, .box 0 0 0 0), (11, .box 0 0 0 0), (10, .box 0 0 0 0), (9, vb false), (8, vb false), (7, .box 0 0 0 2), (6, .box 0 0 0 0), (5, .box 0 0 0 0), (0, .box 0 0 0 0), (1, vi a1)], [(0, ⟨0, 122, 4, true, false, [eReader a0]⟩)], 1⟩ [] [(1, [0]), (2, [0]), (3, [0]), (6, [0]), (7, [0]), (8, [0]), (10, [0]), (11, [0]), (12, [0]), (20, [0]), (21, [0]), (22, [0]), (24, [0]), (25, [0]), (26, [0])] (by kernel_rfl) (by kernel_rfl) ?_
        obtain ⟨x4, hx4, h⟩ := bsome h
        refine WD_loc rfl (by kernel_rfl) (by kernel_rfl) (by kernel_rfl) (ev_index s117 .opt a0.T .i64 a0.At hx4 (by decide) (by kernel_rfl) (by kernel_rfl)) (by kernel_rfl) ?_
        refine WD_seg 5 ⟨[(37, vb (decide (x4.N > a1))), (36, vb (decide (x4.N > a1))), (35, vi a1), (34, vi x4.N), (33, .ref (eToken x4) 2), (32, .ref (eToken x4) 0), (31, vi a0.At), (30, .box 0 0 0 1), (29, .box 0 0 0 0), (28, .box 0 0 0 0), (27, .ps .opt (s117.F a0.T)), (26, .box 0 0 0 0), (25, .box 0 0 0 0), (24, .box 0 0 0 0), (23, vb false), (22, vb false), (21, vb false), (20, vi x3.Kind), (19, .ref (eToken x3) 0), (18, .ref (eToken x3) 0), (17, vi a0.At), (16, .box 0 0 0 1), (15, .box 0 0 0 0), (14, .box 0 0 0 0), (13, .ps .opt (s117.F a0.T)), (12, .box 0 0 0 0), (11, .box 0 0 0 0), (10, .box 0 0 0 0), (9, vb false), (8, vb false), (7, .box 0 0 0 2), (6, .box 0 0 0 0), (5, .box 0 0 0 0), (0, .box 0 0 0 0), (1, vi a1)], [(0, ⟨0, 122, 4, true, false, [eReader a0]⟩)], 1⟩ [] [(1, [0]), (2, [0]), (3, [0]), (6, [0]), (7, [0]), (8, [0]), (10, [0]), (11, [0]), (12, [0]), (20, [0]), (21, [0]), (22, [0]), (24, [0]), (25, [0]), (26, [0])] (by kernel_rfl) (by kernel_rfl) ?_
        refine WD_end (by kernel_rfl) (by kernel_rfl) (by kernel_rfl) ?_
        exact wK [0, 37] [(0, 0, 0)] ⟨decide (x4.N > a1), h, rfl⟩
      replace h := ctrue hb h
      refine WD_seg 14 ⟨[(37, vb true), (36, .p Go.undef), (35, .p Go.undef), (34, .p Go.undef), (33, .p Go.undef), (32, .p Go.undef), (31, .p Go.undef), (30, .p Go.undef), (29, .p Go.undef), (28, .p Go.undef), (27, .p Go.undef), (26, .p Go.undef), (25, .p Go.undef), (24, .p Go.undef), (23, vb true), (22, vb true), (21, vb true), (20, vi x3.Kind), (19, .ref (eToken x3) 0), (18, .ref (eToken x3) 0), (17, vi a0.At), (16, .box 0 0 0 1), (15, .box 0 0 0 0), (14, .box 0 0 0 0), (13, .ps .opt (s117.F a0.T)), (12, .box 0 0 0 0), (11, .box 0 0 0 0), (10, .box 0 0 0 0), (9, vb false), (8, vb false), (7, .box 0 0 0 2), (6, .box 0 0 0 0), (5, .box 0 0 0 0), (0, .box 0 0 0 0), (1, vi a1)], [(0, ⟨0, 122, 4, true, false, [eReader a0]⟩)], 1⟩ [] [(1, [0]), (2, [0]), (3, [0]), (6, [0]), (7, [0]), (8, [0]), (10, [0]), (11, [0]), (12, [0])] (by kernel_rfl) (by kernel_rfl) ?_
      refine WD_end (by kernel_rfl) (by kernel_rfl) (by kernel_rfl) ?_
      exact wK [0, 37] [(0, 0, 0)] ⟨true, h, rfl⟩
    replace h := ctrue hb h
    refine WD_seg 28 ⟨[(37, vb true), (36, .p Go.undef), (35, .p Go.undef), (34, .p Go.undef), (33, .p Go.undef), (32, .p Go.undef), (31, .p Go.undef), (30, .p Go.undef), (29, .p Go.undef), (28, .p Go.undef), (27, .p Go.undef), (26, .p Go.undef), (25, .p Go.undef), (24, .p Go.undef), (23, vb true), (22, vb true), (21, .p Go.undef), (20, .p Go.undef), (19, .p Go.undef), (18, .p Go.undef), (17, .p Go.undef), (16, .p Go.undef), (15, .p Go.undef), (14, .p Go.undef), (13, .p Go.undef), (12, .p Go.undef), (11, .p Go.undef), (10, .p Go.undef), (9, vb true), (8, vb true), (7, .box 0 0 0 2), (6, .box 0 0 0 0), (5, .box 0 0 0 0), (0, .box 0 0 0 0), (1, vi a1)], [(0, ⟨0, 122, 4, true, false, [eReader a0]⟩)], 1⟩ [] [(1, [0]), (2, [0]), (3, [0])] (by kernel_rfl) (by kernel_rfl) ?_
    refine WD_end (by kernel_rfl) (by kernel_rfl) (by kernel_rfl) ?_
    exact wK [0, 37] [(0, 0, 0)] ⟨true, h, rfl⟩
  subst hJ2
  rintro s ⟨b1, h, rfl⟩
  refine Cd b1 ?_ ?_
  · intro hb; replace h := ctrue hb h
    refine Qg hT 1 [38] ⟨[(38, .box 0 0 0 0)], [(0, ⟨0, 122, 4, true, false, [eReader a0]⟩)], 2⟩ ?_
    obtain ⟨r5, hr5, h⟩ := bsome h
    refine WO_go rfl (by kernel_rfl) [(0, ⟨0, 122, 4, true, false, [eReader a0]⟩)] [(0, ⟨0, 122, 4, true, false, [eReader r5]⟩)] [.box 0 0 0 0] [.box 0 0 0 0] [(0, 0, 0)] [(0, 0, 0)] [(0, ⟨0, 122, 4, true, false, [eReader r5]⟩)] (.tup []) (.tup []) 3 rfl (by kernel_rfl) en103 (by kernel_rfl) (by kernel_rfl) (by kernel_rfl) (ref1_Reader_fail_ok hr5) (by kernel_rfl) (by kernel_rfl) (by kernel_rfl) (by kernel_rfl) ?_
    refine Sz hT 0 [] ⟨[], [(0, ⟨0, 122, 4, true, false, [eReader r5]⟩)], 3⟩ ?_
    refine Qz hT 1 [4] ⟨[(4, vi 0)], [(0, ⟨0, 122, 4, true, false, [eReader r5]⟩)], 3⟩ ?_
    obtain rfl := Option.some.inj h
    exact rK [4] [(0, 0, 0)] ⟨[(4, vi 0)], [(0, ⟨0, 122, 4, true, false, [eReader r5]⟩)], 2⟩ ⟨by kernel_rfl, by kernel_rfl, rfl⟩
  intro hb; replace h := cfalse hb h
  refine WA_skip ?_
  refine Qz hT 8 [0] ⟨[(0, .box 0 0 0 0)], [(0, ⟨0, 122, 4, true, false, [.agg [.ps .opt (s117.F a0.T), vi (wr (a0.At + 1)), vb a0.Fail, vi a0.Bad]]⟩)], 2⟩ ?_
  refine WA_seq ?_
  refine WA_drawW hT hM (by kernel_rfl) ?_
  refine WD_seg 9 ⟨[(55, vi (wr ((wr (a0.At + 1)) - 1))), (54, vi (wr (a0.At + 1))), (53, .box 0 0 0 1), (52, .box 0 0 0 0), (51, .box 0 0 0 0), (50, .ps .opt (s117.F a0.T)), (49, .box 0 0 0 0), (48, .box 0 0 0 0), (47, .box 0 0 0 0), (0, .box 0 0 0 0)], [(0, ⟨0, 122, 4, true, false, [.agg [.ps .opt (s117.F a0.T), vi (wr (a0.At + 1)), vb a0.Fail, vi a0.Bad]]⟩)], 2⟩ [] [(1, [0]), (2, [0]), (3, [0]), (5, [0]), (6, [0]), (7, [0])] (by kernel_rfl) (by kernel_rfl) ?_
  obtain ⟨x6, hx6, h⟩ := bsome h
  refine WD_loc rfl (by kernel_rfl) (by kernel_rfl) (by kernel_rfl) (ev_index s117 .opt a0.T .i64 (wr ((wr (a0.At + 1)) - 1)) hx6 (by decide) (by kernel_rfl) (by kernel_rfl)) (by kernel_rfl) ?_
  refine WD_seg 3 ⟨[(4, vi x6.N), (58, vi x6.N), (57, .ref (eToken x6) 2), (56, .ref (eToken x6) 0), (55, vi (wr ((wr (a0.At + 1)) - 1))), (54, vi (wr (a0.At + 1))), (53, .box 0 0 0 1), (52, .box 0 0 0 0), (51, .box 0 0 0 0), (50, .ps .opt (s117.F a0.T)), (49, .box 0 0 0 0), (48, .box 0 0 0 0), (47, .box 0 0 0 0), (0, .box 0 0 0 0)], [(0, ⟨0, 122, 4, true, false, [.agg [.ps .opt (s117.F a0.T), vi (wr (a0.At + 1)), vb a0.Fail, vi a0.Bad]]⟩)], 2⟩ [] [(1, [0]), (2, [0]), (3, [0]), (5, [0]), (6, [0]), (7, [0])] (by kernel_rfl) (by kernel_rfl) ?_
  refine WD_end (by kernel_rfl) (by kernel_rfl) (by kernel_rfl) ?_
  refine Wk_done ?_
  refine aW [4] ⟨[(4, vi x6.N)], [(0, ⟨0, 122, 4, true, false, [.agg [.ps .opt (s117.F a0.T), vi (wr (a0.At + 1)), vb a0.Fail, vi a0.Bad]]⟩)], 2⟩ ?_
  refine WA_weak (Weak_leH [(4, vi x6.N)] [(0, ⟨0, 122, 4, true, false, [eReader (Reader.mk a0.T (wr (a0.At + 1)) a0.Fail a0.Bad)]⟩)] (by kernel_rfl) ⟨VLf.refl _, trivial⟩ ⟨rfl, .inr (.inl ⟨rfl, rfl, CLe.agg ⟨VLf.refl _, VLf.refl _, VLf.refl _, VLf.refl _, trivial⟩, trivial⟩), trivial⟩) ?_
  obtain rfl := Option.some.inj h
  exact rR [(0, 0, 0)] ⟨[(4, vi x6.N)], [(0, ⟨0, 122, 4, true, false, [eReader (Reader.mk a0.T (wr (a0.At + 1)) a0.Fail a0.Bad)]⟩)], 2⟩ ⟨by kernel_rfl, by kernel_rfl, rfl⟩

theorem ref1_Reader_word_ok {n : Nat} {a0 : Reader} {a1 : ByteArray} {r : Bool} (h : ref1_Reader_word n a0 a1 = some r) : PT Try.prog 106 [.ref (eReader a0) 0, vw a1] (vb r) := by
  unfold ref1_Reader_word at h
  refine PT_bodyA hT Try.func106 rfl (by kernel_rfl) fun bad w => ?_
  refine Qz hT 1 [0, 1] ⟨[(0, .ref (eReader a0) 0), (1, vw a1)], [], 0⟩ ?_
  refine WA_seq ?_
  obtain ⟨J2, hJ2, h⟩ := jsome h
  refine WA_join (fun s => ∃ (b1 : Bool), J2 b1 = some r ∧ s = ⟨[(4, vb b1)], [], 1⟩) ?_ ?_
  · refine WA_drawW hT hM (by kernel_rfl) ?_
    refine WD_seg 6 ⟨[(10, vb (!a0.Fail)), (9, vb (!a0.Fail)), (8, vb a0.Fail), (7, .ref (eReader a0) 2), (6, .ref (eReader a0) 0), (5, .ref (eReader a0) 0), (0, .ref (eReader a0) 0), (1, vw a1)], [], 0⟩ [] [] (by kernel_rfl) (by kernel_rfl) ?_
    cases hb : (!a0.Fail : Bool)
    · replace h := cfalse hb h
      refine WD_seg 29 ⟨[(4, vb false), (38, vb false), (37, .p Go.undef), (36, .p Go.undef), (35, .p Go.undef), (34, .p Go.undef), (33, .p Go.undef), (32, .p Go.undef), (31, .p Go.undef), (30, .p Go.undef), (29, .p Go.undef), (28, .p Go.undef), (27, .p Go.undef), (26, .p Go.undef), (25, .p Go.undef), (24, vb false), (23, vb false), (22, .p Go.undef), (21, .p Go.undef), (20, .p Go.undef), (19, .p Go.undef), (18, .p Go.undef), (17, .p Go.undef), (16, .p Go.undef), (15, .p Go.undef), (14, .p Go.undef), (13, .p Go.undef), (12, .p Go.undef), (11, .p Go.undef), (10, vb false), (9, vb false), (8, vb a0.Fail), (7, .ref (eReader a0) 2), (6, .ref (eReader a0) 0), (5, .ref (eReader a0) 0), (0, .ref (eReader a0) 0), (1, vw a1)], [], 0⟩ [] [] (by kernel_rfl) (by kernel_rfl) ?_
      refine WD_end (by kernel_rfl) (by kernel_rfl) (by kernel_rfl) ?_
      exact wK [4] [] ⟨false, h, rfl⟩
    replace h := ctrue hb h
    refine WD_seg 8 ⟨[(18, vi a0.At), (17, .ref (eReader a0) 1), (16, .ref (eReader a0) 0), (15, .ref (eReader a0) 0), (14, .ps .opt (s117.F a0.T)), (13, .ref (eReader a0) 0), (12, .ref (eReader a0) 0), (11, .ref (eReader a0) 0), (10, vb true), (9, vb true), (8, vb a0.Fail), (7, .ref (eReader a0) 2), (6, .ref (eReader a0) 0), (5, .ref (eReader a0) 0), (0, .ref (eReader a0) 0), (1, vw a1)], [], 0⟩ [] [] (by kernel_rfl) (by kernel_rfl) ?_
    obtain ⟨x3, hx3, h⟩ := bsome h
    refine WD_loc rfl (by kernel_rfl) (by kernel_rfl) (by kernel_rfl) (ev_index s117 .opt a0.T .i64 a0.At hx3 (by decide) (by kernel_rfl) (by kernel_rfl)) (by kernel_rfl) ?_
    refine WD_seg 5 ⟨[(24, vb (x3.Kind == 1)), (23, vb (x3.Kind == 1)), (22, vb (x3.Kind == 1)), (21, vi x3.Kind), (20, .ref (eToken x3) 0), (19, .ref (eToken x3) 0), (18, vi a0.At), (17, .ref (eReader a0) 1), (16, .ref (eReader a0) 0), (15, .ref (eReader a0) 0), (14, .ps .opt (s117.F a0.T)), (13, .ref (eReader a0) 0), (12, .ref (eReader a0) 0), (11, .ref (eReader a0) 0), (10, vb true), (9, vb true), (8, vb a0.Fail), (7, .ref (eReader a0) 2), (6, .ref (eReader a0) 0), (5, .ref (eReader a0) 0), (0, .ref (eReader a0) 0), (1, vw a1)], [], 0⟩ [] [] (by kernel_rfl) (by kernel_rfl) ?_
    cases hb : ((x3.Kind == 1) : Bool)
    · replace h := cfalse hb h
      refine WD_seg 15 ⟨[(4, vb false), (38, vb false), (37, .p Go.undef), (36, .p Go.undef), (35, .p Go.undef), (34, .p Go.undef), (33, .p Go.undef), (32, .p Go.undef), (31, .p Go.undef), (30, .p Go.undef), (29, .p Go.undef), (28, .p Go.undef), (27, .p Go.undef), (26, .p Go.undef), (25, .p Go.undef), (24, vb false), (23, vb false), (22, vb false), (21, vi x3.Kind), (20, .ref (eToken x3) 0), (19, .ref (eToken x3) 0), (18, vi a0.At), (17, .ref (eReader a0) 1), (16, .ref (eReader a0) 0), (15, .ref (eReader a0) 0), (14, .ps .opt (s117.F a0.T)), (13, .ref (eReader a0) 0), (12, .ref (eReader a0) 0), (11, .ref (eReader a0) 0), (10, vb true), (9, vb true), (8, vb a0.Fail), (7, .ref (eReader a0) 2), (6, .ref (eReader a0) 0), (5, .ref (eReader a0) 0), (0, .ref (eReader a0) 0), (1, vw a1)], [], 0⟩ [] [] (by kernel_rfl) (by kernel_rfl) ?_
      refine WD_end (by kernel_rfl) (by kernel_rfl) (by kernel_rfl) ?_
      exact wK [4] [] ⟨false, h, rfl⟩
    replace h := ctrue hb h
    refine WD_seg 8 ⟨[(32, vi a0.At), (31, .ref (eReader a0) 1), (30, .ref (eReader a0) 0), (29, .ref (eReader a0) 0), (28, .ps .opt (s117.F a0.T)), (27, .ref (eReader a0) 0), (26, .ref (eReader a0) 0), (25, .ref (eReader a0) 0), (24, vb true), (23, vb true), (22, vb true), (21, vi x3.Kind), (20, .ref (eToken x3) 0), (19, .ref (eToken x3) 0), (18, vi a0.At), (17, .ref (eReader a0) 1), (16, .ref (eReader a0) 0), (15, .ref (eReader a0) 0), (14, .ps .opt (s117.F a0.T)), (13, .ref (eReader a0) 0), (12, .ref (eReader a0) 0), (11, .ref (eReader a0) 0), (10, vb true), (9, vb true), (8, vb a0.Fail), (7, .ref (eReader a0) 2), (6, .ref (eReader a0) 0), (5, .ref (eReader a0) 0), (0, .ref (eReader a0) 0), (1, vw a1)], [], 0⟩ [] [] (by kernel_rfl) (by kernel_rfl) ?_
    obtain ⟨x4, hx4, h⟩ := bsome h
    refine WD_loc rfl (by kernel_rfl) (by kernel_rfl) (by kernel_rfl) (ev_index s117 .opt a0.T .i64 a0.At hx4 (by decide) (by kernel_rfl) (by kernel_rfl)) (by kernel_rfl) ?_
    refine WD_seg 6 ⟨[(4, vb (bytesEq x4.Text a1)), (38, vb (bytesEq x4.Text a1)), (37, vb (bytesEq x4.Text a1)), (36, vw a1), (35, vw x4.Text), (34, .ref (eToken x4) 1), (33, .ref (eToken x4) 0), (32, vi a0.At), (31, .ref (eReader a0) 1), (30, .ref (eReader a0) 0), (29, .ref (eReader a0) 0), (28, .ps .opt (s117.F a0.T)), (27, .ref (eReader a0) 0), (26, .ref (eReader a0) 0), (25, .ref (eReader a0) 0), (24, vb true), (23, vb true), (22, vb true), (21, vi x3.Kind), (20, .ref (eToken x3) 0), (19, .ref (eToken x3) 0), (18, vi a0.At), (17, .ref (eReader a0) 1), (16, .ref (eReader a0) 0), (15, .ref (eReader a0) 0), (14, .ps .opt (s117.F a0.T)), (13, .ref (eReader a0) 0), (12, .ref (eReader a0) 0), (11, .ref (eReader a0) 0), (10, vb true), (9, vb true), (8, vb a0.Fail), (7, .ref (eReader a0) 2), (6, .ref (eReader a0) 0), (5, .ref (eReader a0) 0), (0, .ref (eReader a0) 0), (1, vw a1)], [], 0⟩ [] [] (by kernel_rfl) (by kernel_rfl) ?_
    refine WD_end (by kernel_rfl) (by kernel_rfl) (by kernel_rfl) ?_
    exact wK [4] [] ⟨bytesEq x4.Text a1, h, rfl⟩
  subst hJ2
  rintro s ⟨b1, h, rfl⟩
  obtain rfl := Option.some.inj h
  exact rK [4] [] ⟨[(4, vb b1)], [], 1⟩ ⟨by kernel_rfl, rfl⟩

theorem ref1_Reader_sign_ok {n : Nat} {a0 : Reader} {a1 : ByteArray} {r : Bool} (h : ref1_Reader_sign n a0 a1 = some r) : PT Try.prog 133 [.ref (eReader a0) 0, vw a1] (vb r) := by
  unfold ref1_Reader_sign at h
  refine PT_bodyA hT Try.func133 rfl (by kernel_rfl) fun bad w => ?_
  refine Qz hT 1 [0, 1] ⟨[(0, .ref (eReader a0) 0), (1, vw a1)], [], 0⟩ ?_
  refine WA_seq ?_
  obtain ⟨J2, hJ2, h⟩ := jsome h
  refine WA_join (fun s => ∃ (b1 : Bool), J2 b1 = some r ∧ s = ⟨[(4, vb b1)], [], 1⟩) ?_ ?_
  · refine WA_drawW hT hM (by kernel_rfl) ?_
    refine WD_seg 6 ⟨[(10, vb (!a0.Fail)), (9, vb (!a0.Fail)), (8, vb a0.Fail), (7, .ref (eReader a0) 2), (6, .ref (eReader a0) 0), (5, .ref (eReader a0) 0), (0, .ref (eReader a0) 0), (1, vw a1)], [], 0⟩ [] [] (by kernel_rfl) (by kernel_rfl) ?_
    cases hb : (!a0.Fail : Bool)
    · replace h := cfalse hb h
      refine WD_seg 29 ⟨[(4, vb false), (38, vb false), (37, .p Go.undef), (36, .p Go.undef), (35, .p Go.undef), (34, .p Go.undef), (33, .p Go.undef), (32, .p Go.undef), (31, .p Go.undef), (30, .p Go.undef), (29, .p Go.undef), (28, .p Go.undef), (27, .p Go.undef), (26, .p Go.undef), (25, .p Go.undef), (24, vb false), (23, vb false), (22, .p Go.undef), (21, .p Go.undef), (20, .p Go.undef), (19, .p Go.undef), (18, .p Go.undef), (17, .p Go.undef), (16, .p Go.undef), (15, .p Go.undef), (14, .p Go.undef), (13, .p Go.undef), (12, .p Go.undef), (11, .p Go.undef), (10, vb false), (9, vb false), (8, vb a0.Fail), (7, .ref (eReader a0) 2), (6, .ref (eReader a0) 0), (5, .ref (eReader a0) 0), (0, .ref (eReader a0) 0), (1, vw a1)], [], 0⟩ [] [] (by kernel_rfl) (by kernel_rfl) ?_
      refine WD_end (by kernel_rfl) (by kernel_rfl) (by kernel_rfl) ?_
      exact wK [4] [] ⟨false, h, rfl⟩
    replace h := ctrue hb h
    refine WD_seg 8 ⟨[(18, vi a0.At), (17, .ref (eReader a0) 1), (16, .ref (eReader a0) 0), (15, .ref (eReader a0) 0), (14, .ps .opt (s117.F a0.T)), (13, .ref (eReader a0) 0), (12, .ref (eReader a0) 0), (11, .ref (eReader a0) 0), (10, vb true), (9, vb true), (8, vb a0.Fail), (7, .ref (eReader a0) 2), (6, .ref (eReader a0) 0), (5, .ref (eReader a0) 0), (0, .ref (eReader a0) 0), (1, vw a1)], [], 0⟩ [] [] (by kernel_rfl) (by kernel_rfl) ?_
    obtain ⟨x3, hx3, h⟩ := bsome h
    refine WD_loc rfl (by kernel_rfl) (by kernel_rfl) (by kernel_rfl) (ev_index s117 .opt a0.T .i64 a0.At hx3 (by decide) (by kernel_rfl) (by kernel_rfl)) (by kernel_rfl) ?_
    refine WD_seg 5 ⟨[(24, vb (x3.Kind == 3)), (23, vb (x3.Kind == 3)), (22, vb (x3.Kind == 3)), (21, vi x3.Kind), (20, .ref (eToken x3) 0), (19, .ref (eToken x3) 0), (18, vi a0.At), (17, .ref (eReader a0) 1), (16, .ref (eReader a0) 0), (15, .ref (eReader a0) 0), (14, .ps .opt (s117.F a0.T)), (13, .ref (eReader a0) 0), (12, .ref (eReader a0) 0), (11, .ref (eReader a0) 0), (10, vb true), (9, vb true), (8, vb a0.Fail), (7, .ref (eReader a0) 2), (6, .ref (eReader a0) 0), (5, .ref (eReader a0) 0), (0, .ref (eReader a0) 0), (1, vw a1)], [], 0⟩ [] [] (by kernel_rfl) (by kernel_rfl) ?_
    cases hb : ((x3.Kind == 3) : Bool)
    · replace h := cfalse hb h
      refine WD_seg 15 ⟨[(4, vb false), (38, vb false), (37, .p Go.undef), (36, .p Go.undef), (35, .p Go.undef), (34, .p Go.undef), (33, .p Go.undef), (32, .p Go.undef), (31, .p Go.undef), (30, .p Go.undef), (29, .p Go.undef), (28, .p Go.undef), (27, .p Go.undef), (26, .p Go.undef), (25, .p Go.undef), (24, vb false), (23, vb false), (22, vb false), (21, vi x3.Kind), (20, .ref (eToken x3) 0), (19, .ref (eToken x3) 0), (18, vi a0.At), (17, .ref (eReader a0) 1), (16, .ref (eReader a0) 0), (15, .ref (eReader a0) 0), (14, .ps .opt (s117.F a0.T)), (13, .ref (eReader a0) 0), (12, .ref (eReader a0) 0), (11, .ref (eReader a0) 0), (10, vb true), (9, vb true), (8, vb a0.Fail), (7, .ref (eReader a0) 2), (6, .ref (eReader a0) 0), (5, .ref (eReader a0) 0), (0, .ref (eReader a0) 0), (1, vw a1)], [], 0⟩ [] [] (by kernel_rfl) (by kernel_rfl) ?_
      refine WD_end (by kernel_rfl) (by kernel_rfl) (by kernel_rfl) ?_
      exact wK [4] [] ⟨false, h, rfl⟩
    replace h := ctrue hb h
    refine WD_seg 8 ⟨[(32, vi a0.At), (31, .ref (eReader a0) 1), (30, .ref (eReader a0) 0), (29, .ref (eReader a0) 0), (28, .ps .opt (s117.F a0.T)), (27, .ref (eReader a0) 0), (26, .ref (eReader a0) 0), (25, .ref (eReader a0) 0), (24, vb true), (23, vb true), (22, vb true), (21, vi x3.Kind), (20, .ref (eToken x3) 0), (19, .ref (eToken x3) 0), (18, vi a0.At), (17, .ref (eReader a0) 1), (16, .ref (eReader a0) 0), (15, .ref (eReader a0) 0), (14, .ps .opt (s117.F a0.T)), (13, .ref (eReader a0) 0), (12, .ref (eReader a0) 0), (11, .ref (eReader a0) 0), (10, vb true), (9, vb true), (8, vb a0.Fail), (7, .ref (eReader a0) 2), (6, .ref (eReader a0) 0), (5, .ref (eReader a0) 0), (0, .ref (eReader a0) 0), (1, vw a1)], [], 0⟩ [] [] (by kernel_rfl) (by kernel_rfl) ?_
    obtain ⟨x4, hx4, h⟩ := bsome h
    refine WD_loc rfl (by kernel_rfl) (by kernel_rfl) (by kernel_rfl) (ev_index s117 .opt a0.T .i64 a0.At hx4 (by decide) (by kernel_rfl) (by kernel_rfl)) (by kernel_rfl) ?_
    refine WD_seg 6 ⟨[(4, vb (bytesEq x4.Text a1)), (38, vb (bytesEq x4.Text a1)), (37, vb (bytesEq x4.Text a1)), (36, vw a1), (35, vw x4.Text), (34, .ref (eToken x4) 1), (33, .ref (eToken x4) 0), (32, vi a0.At), (31, .ref (eReader a0) 1), (30, .ref (eReader a0) 0), (29, .ref (eReader a0) 0), (28, .ps .opt (s117.F a0.T)), (27, .ref (eReader a0) 0), (26, .ref (eReader a0) 0), (25, .ref (eReader a0) 0), (24, vb true), (23, vb true), (22, vb true), (21, vi x3.Kind), (20, .ref (eToken x3) 0), (19, .ref (eToken x3) 0), (18, vi a0.At), (17, .ref (eReader a0) 1), (16, .ref (eReader a0) 0), (15, .ref (eReader a0) 0), (14, .ps .opt (s117.F a0.T)), (13, .ref (eReader a0) 0), (12, .ref (eReader a0) 0), (11, .ref (eReader a0) 0), (10, vb true), (9, vb true), (8, vb a0.Fail), (7, .ref (eReader a0) 2), (6, .ref (eReader a0) 0), (5, .ref (eReader a0) 0), (0, .ref (eReader a0) 0), (1, vw a1)], [], 0⟩ [] [] (by kernel_rfl) (by kernel_rfl) ?_
    refine WD_end (by kernel_rfl) (by kernel_rfl) (by kernel_rfl) ?_
    exact wK [4] [] ⟨bytesEq x4.Text a1, h, rfl⟩
  subst hJ2
  rintro s ⟨b1, h, rfl⟩
  obtain rfl := Option.some.inj h
  exact rK [4] [] ⟨[(4, vb b1)], [], 1⟩ ⟨by kernel_rfl, rfl⟩

theorem ref1_Reader_must_ok {n : Nat} {a0 : Reader} {a1 : ByteArray} {r : Reader} (h : ref1_Reader_must n a0 a1 = some r) : GO Try.prog 132 [(0, ⟨0, 122, 4, true, false, [eReader a0]⟩)] [.box 0 0 0 0, vw a1] (.tup []) [(0, ⟨0, 122, 4, true, false, [eReader r]⟩)] := by
  unfold ref1_Reader_must at h
  refine GO_bodyA hT Try.func132 rfl [] (by kernel_rfl) fun bad w m => ?_
  refine WA_seq ?_
  refine Qg hT 2 [0, 4, 5] ⟨[(0, .box 0 0 0 0), (4, .box 0 0 0 0), (5, vw a1)], [(0, ⟨0, 122, 4, true, false, [eReader a0]⟩)], 1⟩ ?_
  obtain ⟨r1, hr1, h⟩ := bsome h
  refine WO_ptb rfl (by kernel_rfl) [0] [.box 0 0 0 0, vw a1] [.ref (eReader a0) 0, vw a1] (vb r1) rfl (by kernel_rfl) en133 (by kernel_rfl) (by kernel_rfl) (by kernel_rfl) (ref1_Reader_sign_ok hr1) (by kernel_rfl) ?_
  refine Sz hT 1 [0, 7] ⟨[(0, .box 0 0 0 0), (7, vb (!r1))], [(0, ⟨0, 122, 4, true, false, [eReader a0]⟩)], 1⟩ ?_
  refine Cd (!r1) ?_ ?_
  · intro hb; replace h := ctrue hb h
    refine Qg hT 1 [8] ⟨[(8, .box 0 0 0 0)], [(0, ⟨0, 122, 4, true, false, [eReader a0]⟩)], 1⟩ ?_
    obtain ⟨r2, hr2, h⟩ := bsome h
    refine WO_go rfl (by kernel_rfl) [(0, ⟨0, 122, 4, true, false, [eReader a0]⟩)] [(0, ⟨0, 122, 4, true, false, [eReader r2]⟩)] [.box 0 0 0 0] [.box 0 0 0 0] [(0, 0, 0)] [(0, 0, 0)] [(0, ⟨0, 122, 4, true, false, [eReader r2]⟩)] (.tup []) (.tup []) 2 rfl (by kernel_rfl) en103 (by kernel_rfl) (by kernel_rfl) (by kernel_rfl) (ref1_Reader_fail_ok hr2) (by kernel_rfl) (by kernel_rfl) (by kernel_rfl) (by kernel_rfl) ?_
    refine Sz hT 0 [] ⟨[], [(0, ⟨0, 122, 4, true, false, [eReader r2]⟩)], 2⟩ ?_
    obtain rfl := Option.some.inj h
    exact rK [] [(0, 0, 0)] ⟨[], [(0, ⟨0, 122, 4, true, false, [eReader r2]⟩)], 2⟩ ⟨by kernel_rfl, by kernel_rfl, rfl⟩
  intro hb; replace h := cfalse hb h
  refine WA_skip ?_
  refine Rg hT 8 [] ⟨[], [(0, ⟨0, 122, 4, true, false, [.agg [.ps .opt (s117.F a0.T), vi (wr (a0.At + 1)), vb a0.Fail, vi a0.Bad]]⟩)], 1⟩ ?_
  refine oW [] ⟨[], [(0, ⟨0, 122, 4, true, false, [.agg [.ps .opt (s117.F a0.T), vi (wr (a0.At + 1)), vb a0.Fail, vi a0.Bad]]⟩)], 1⟩ ?_
  refine WO_weak (Weak_leH [] [(0, ⟨0, 122, 4, true, false, [eReader (Reader.mk a0.T (wr (a0.At + 1)) a0.Fail a0.Bad)]⟩)] (by kernel_rfl) trivial ⟨rfl, .inr (.inl ⟨rfl, rfl, CLe.agg ⟨VLf.refl _, VLf.refl _, VLf.refl _, VLf.refl _, trivial⟩, trivial⟩), trivial⟩) ?_
  obtain rfl := Option.some.inj h
  exact oR [(0, 0, 0)] (s' := ⟨[], [(0, ⟨0, 122, 4, true, false, [eReader (Reader.mk a0.T (wr (a0.At + 1)) a0.Fail a0.Bad)]⟩)], 2⟩) ⟨by kernel_rfl, by kernel_rfl, rfl⟩

theorem ref1_binary_ok {n : Nat} {a0 : Int} {a1 : Expr} {a2 : Expr} {r : Expr} (h : ref1_binary n a0 a1 a2 = some r) : PT Try.prog 160 [vi a0, eExpr a1, eExpr a2] (eExpr r) := by
  unfold ref1_binary at h
  refine PT_bodyA hT Try.func160 rfl (by kernel_rfl) fun bad w => ?_
  refine Qz hT 3 [0, 4, 5, 6] ⟨[(0, vi a0), (4, .box 4 0 0 0), (5, .box 5 1 0 0), (6, .box 6 2 0 0)], [(6, ⟨2, 35, 4, true, false, [.agg [vi 0, vi 0, vw b0, .ps .nil []]]⟩), (5, ⟨1, 35, 4, true, false, [eExpr a2]⟩), (4, ⟨0, 35, 4, true, false, [eExpr a1]⟩)], 3⟩ ?_
  refine Qg hT 3 [6, 7, 8, 9] ⟨[(6, .box 6 2 0 0), (7, vi a0), (8, eExpr a1), (9, eExpr a2)], [(6, ⟨2, 35, 4, true, false, [.agg [vi 0, vi 0, vw b0, .ps .nil []]]⟩), (5, ⟨1, 35, 4, true, false, [eExpr a2]⟩), (4, ⟨0, 35, 4, true, false, [eExpr a1]⟩)], 3⟩ ?_
  refine One hT rfl (ev_bslice s33 10 [a1, a2] (by kernel_rfl)) ?_
  refine Sg hT 0 [6, 7, 10] ⟨[(6, .box 6 2 0 0), (7, vi a0), (10, vo 10 3 (s33.F [a1, a2]))], [(10, ⟨3, 35, 4, false, false, s33.F [a1, a2]⟩), (6, ⟨2, 35, 4, true, false, [.agg [vi 0, vi 0, vw b0, .ps .nil []]]⟩), (5, ⟨1, 35, 4, true, false, [eExpr a2]⟩), (4, ⟨0, 35, 4, true, false, [eExpr a1]⟩)], 4⟩ ?_
  refine WO_weak (Weak_frz 10 3 ⟨3, 35, 4, false, false, s33.F [a1, a2]⟩ (by kernel_rfl) rfl rfl [(6, .box 6 2 0 0), (7, vi a0), (10, .ps .opt (s33.F [a1, a2]))] [(6, ⟨2, 35, 4, true, false, [.agg [vi 0, vi 0, vw b0, .ps .nil []]]⟩), (5, ⟨1, 35, 4, true, false, [eExpr a2]⟩), (4, ⟨0, 35, 4, true, false, [eExpr a1]⟩)] ⟨rfl, .keep _, rfl, .keep _, rfl, .hit true, trivial⟩ ⟨rfl, .inl rfl, rfl, .inl rfl, rfl, .inl rfl, trivial⟩) ?_
  refine Sz hT 2 [6] ⟨[(6, .box 6 2 0 0)], [(6, ⟨2, 35, 4, true, false, [.agg [vi a0, vi 0, vw b0, .ps .opt (s33.F [a1, a2])]]⟩), (5, ⟨1, 35, 4, true, false, [eExpr a2]⟩), (4, ⟨0, 35, 4, true, false, [eExpr a1]⟩)], 4⟩ ?_
  refine aW [6] ⟨[(6, .box 6 2 0 0)], [(6, ⟨2, 35, 4, true, false, [.agg [vi a0, vi 0, vw b0, .ps .opt (s33.F [a1, a2])]]⟩), (5, ⟨1, 35, 4, true, false, [eExpr a2]⟩), (4, ⟨0, 35, 4, true, false, [eExpr a1]⟩)], 4⟩ ?_
  refine WA_weak (Weak_leH [(6, .box 6 2 0 0)] [(6, ⟨2, 35, 4, true, false, [eExpr (Expr.mk a0 0 b0 [a1, a2])]⟩), (5, ⟨1, 35, 4, true, false, [eExpr a2]⟩), (4, ⟨0, 35, 4, true, false, [eExpr a1]⟩)] (by kernel_rfl) ⟨VLf.refl _, trivial⟩ ⟨rfl, .inr (.inl ⟨rfl, rfl, CLe.agg ⟨VLf.refl _, VLf.refl _, VLf.refl _, VLf.refl _, trivial⟩, trivial⟩), rfl, .inl rfl, rfl, .inl rfl, trivial⟩) ?_
  obtain rfl := Option.some.inj h
  exact rR [(6, 1000, 0)] ⟨[(6, .box 1000 0 0 0)], [(1000, ⟨0, 35, 4, true, false, [eExpr (Expr.mk a0 0 b0 [a1, a2])]⟩)], 1⟩ ⟨by kernel_rfl, rfl⟩

def ref1_Reader_factor_spec (n : Nat) : Prop := (∀ {a0 : Reader} {a1 : Int} {r : Expr × Reader}, ref1_Reader_factor n a0 a1 = some r → GO Try.prog 162 [(0, ⟨0, 122, 4, true, false, [eReader a0]⟩)] [.box 0 0 0 0, vi a1] (eExpr r.1) [(0, ⟨0, 122, 4, true, false, [eReader r.2]⟩)]) ∧ (∀ {a0 : Reader} {a1 : Int} {r : Expr × Reader}, ref1_Reader_term n a0 a1 = some r → GO Try.prog 161 [(0, ⟨0, 122, 4, true, false, [eReader a0]⟩)] [.box 0 0 0 0, vi a1] (eExpr r.1) [(0, ⟨0, 122, 4, true, false, [eReader r.2]⟩)]) ∧ (∀ {a0 : Reader} {a1 : Int} {r : Expr × Reader}, ref1_Reader_sum n a0 a1 = some r → GO Try.prog 159 [(0, ⟨0, 122, 4, true, false, [eReader a0]⟩)] [.box 0 0 0 0, vi a1] (eExpr r.1) [(0, ⟨0, 122, 4, true, false, [eReader r.2]⟩)]) ∧ (∀ {a0 : Reader} {a1 : Int} {r : Expr × Reader}, ref1_Reader_expr n a0 a1 = some r → GO Try.prog 158 [(0, ⟨0, 122, 4, true, false, [eReader a0]⟩)] [.box 0 0 0 0, vi a1] (eExpr r.1) [(0, ⟨0, 122, 4, true, false, [eReader r.2]⟩)])
theorem ref1_Reader_factor_step (n : Nat) (ih : ∀ m, m < n → ref1_Reader_factor_spec m) : ∀ {a0 : Reader} {a1 : Int} {r : Expr × Reader}, ref1_Reader_factor n a0 a1 = some r → GO Try.prog 162 [(0, ⟨0, 122, 4, true, false, [eReader a0]⟩)] [.box 0 0 0 0, vi a1] (eExpr r.1) [(0, ⟨0, 122, 4, true, false, [eReader r.2]⟩)] := by
  intro a0 a1 r h
  rcases n with _ | n
  · rw [ref1_Reader_factor] at h; cases h
  rw [ref1_Reader_factor] at h
  refine GO_bodyA hT Try.func162 rfl [1000] (by kernel_rfl) fun bad w m => ?_
  refine Qz hT 1 [0, 1, 4] ⟨[(0, .box 0 0 0 0), (1, vi a1), (4, .box 4 1 0 0)], [(4, ⟨1, 35, 4, true, false, [.agg [vi 0, vi 0, vw b0, .ps .nil []]]⟩), (0, ⟨0, 122, 4, true, false, [eReader a0]⟩)], 2⟩ ?_
  refine WA_seq ?_
  refine Qz hT 4 [0, 1, 4, 10] ⟨[(0, .box 0 0 0 0), (1, vi a1), (4, .box 4 1 0 0), (10, vb a0.Fail)], [(4, ⟨1, 35, 4, true, false, [.agg [vi 0, vi 0, vw b0, .ps .nil []]]⟩), (0, ⟨0, 122, 4, true, false, [eReader a0]⟩)], 2⟩ ?_
  refine Cd a0.Fail ?_ ?_
  · intro hb; replace h := ctrue hb h
    refine Qz hT 2 [4] ⟨[(4, .box 4 1 0 0)], [(4, ⟨1, 35, 4, true, false, [.agg [vi 0, vi 0, vw b0, .ps .nil []]]⟩), (0, ⟨0, 122, 4, true, false, [eReader a0]⟩)], 2⟩ ?_
    refine aW [4] ⟨[(4, .box 4 1 0 0)], [(4, ⟨1, 35, 4, true, false, [.agg [vi 0, vi 0, vw b0, .ps .nil []]]⟩), (0, ⟨0, 122, 4, true, false, [eReader a0]⟩)], 2⟩ ?_
    refine WA_weak (Weak_leH [(4, .box 4 1 0 0)] [(4, ⟨1, 35, 4, true, false, [eExpr (Expr.mk 0 0 b0 [])]⟩), (0, ⟨0, 122, 4, true, false, [eReader a0]⟩)] (by kernel_rfl) ⟨VLf.refl _, trivial⟩ ⟨rfl, .inr (.inl ⟨rfl, rfl, CLe.agg ⟨VLf.refl _, VLf.refl _, VLf.refl _, (VLe.f VLe.nil_opt rfl), trivial⟩, trivial⟩), rfl, .inl rfl, trivial⟩) ?_
    obtain rfl := Option.some.inj h
    exact rR [(0, 0, 0), (4, 1000, 1)] ⟨[(4, .box 1000 1 0 0)], [(0, ⟨0, 122, 4, true, false, [eReader a0]⟩), (1000, ⟨1, 35, 4, true, false, [eExpr (Expr.mk 0 0 b0 [])]⟩)], 2⟩ ⟨by kernel_rfl, by kernel_rfl, rfl⟩
  intro hb; replace h := cfalse hb h
  refine WA_skip ?_
  refine WA_seq ?_
  refine WA_drawW hT hM (by kernel_rfl) ?_
  refine WD_seg 8 ⟨[(19, vi a0.At), (18, .box 0 0 0 1), (17, .box 0 0 0 0), (16, .box 0 0 0 0), (15, .ps .opt (s117.F a0.T)), (14, .box 0 0 0 0), (13, .box 0 0 0 0), (12, .box 0 0 0 0), (0, .box 0 0 0 0), (1, vi a1), (4, .box 4 1 0 0), (10, vb a0.Fail)], [(4, ⟨1, 35, 4, true, false, [.agg [vi 0, vi 0, vw b0, .ps .nil []]]⟩), (0, ⟨0, 122, 4, true, false, [eReader a0]⟩)], 2⟩ [] [(1, [0]), (2, [0]), (3, [0]), (5, [0]), (6, [0]), (7, [0])] (by kernel_rfl) (by kernel_rfl) ?_
  obtain ⟨x1, hx1, h⟩ := bsome h
  refine WD_loc rfl (by kernel_rfl) (by kernel_rfl) (by kernel_rfl) (ev_index s117 .opt a0.T .i64 a0.At hx1 (by decide) (by kernel_rfl) (by kernel_rfl)) (by kernel_rfl) ?_
  refine WD_seg 3 ⟨[(5, .box 5 2 0 0), (21, eToken x1), (20, .ref (eToken x1) 0), (19, vi a0.At), (18, .box 0 0 0 1), (17, .box 0 0 0 0), (16, .box 0 0 0 0), (15, .ps .opt (s117.F a0.T)), (14, .box 0 0 0 0), (13, .box 0 0 0 0), (12, .box 0 0 0 0), (0, .box 0 0 0 0), (1, vi a1), (4, .box 4 1 0 0), (10, vb a0.Fail)], [(5, ⟨2, 124, 4, true, false, [eToken x1]⟩), (4, ⟨1, 35, 4, true, false, [.agg [vi 0, vi 0, vw b0, .ps .nil []]]⟩), (0, ⟨0, 122, 4, true, false, [eReader a0]⟩)], 3⟩ [(10, [5]), (11, [5])] [(1, [0]), (2, [0]), (3, [0]), (5, [0]), (6, [0]), (7, [0])] (by kernel_rfl) (by kernel_rfl) ?_
  refine WD_end (by kernel_rfl) (by kernel_rfl) (by kernel_rfl) ?_
  refine Wk_done ?_
  refine WA_seq ?_
  refine WA_block ?_
  refine Qz hT 4 [0, 1, 4, 5, 22] ⟨[(0, .box 0 0 0 0), (1, vi a1), (4, .box 4 1 0 0), (5, .box 5 2 0 0), (22, vb (x1.Kind == 2))], [(5, ⟨2, 124, 4, true, false, [eToken x1]⟩), (4, ⟨1, 35, 4, true, false, [.agg [vi 0, vi 0, vw b0, .ps .nil []]]⟩), (0, ⟨0, 122, 4, true, false, [eReader a0]⟩)], 3⟩ ?_
  refine Cd (x1.Kind == 2) ?_ ?_
  · intro hb; replace h := ctrue hb h
    refine Qz hT 8 [4, 5] ⟨[(4, .box 4 1 0 0), (5, .box 5 2 0 0)], [(0, ⟨0, 122, 4, true, false, [.agg [.ps .opt (s117.F a0.T), vi (wr (a0.At + 1)), vb a0.Fail, vi a0.Bad]]⟩), (5, ⟨2, 124, 4, true, false, [eToken x1]⟩), (4, ⟨1, 35, 4, true, false, [.agg [vi 0, vi 0, vw b0, .ps .nil []]]⟩)], 3⟩ ?_
    refine Qz hT 4 [4] ⟨[(4, .box 4 1 0 0)], [(4, ⟨1, 35, 4, true, false, [.agg [vi 1, vi x1.N, vw b0, .ps .nil []]]⟩), (0, ⟨0, 122, 4, true, false, [.agg [.ps .opt (s117.F a0.T), vi (wr (a0.At + 1)), vb a0.Fail, vi a0.Bad]]⟩), (5, ⟨2, 124, 4, true, false, [eToken x1]⟩)], 3⟩ ?_
    refine aW [4] ⟨[(4, .box 4 1 0 0)], [(4, ⟨1, 35, 4, true, false, [.agg [vi 1, vi x1.N, vw b0, .ps .nil []]]⟩), (0, ⟨0, 122, 4, true, false, [.agg [.ps .opt (s117.F a0.T), vi (wr (a0.At + 1)), vb a0.Fail, vi a0.Bad]]⟩), (5, ⟨2, 124, 4, true, false, [eToken x1]⟩)], 3⟩ ?_
    refine WA_weak (Weak_leH [(4, .box 4 1 0 0)] [(4, ⟨1, 35, 4, true, false, [eExpr (Expr.mk 1 x1.N b0 [])]⟩), (0, ⟨0, 122, 4, true, false, [eReader (Reader.mk a0.T (wr (a0.At + 1)) a0.Fail a0.Bad)]⟩), (5, ⟨2, 124, 4, true, false, [eToken x1]⟩)] (by kernel_rfl) ⟨VLf.refl _, trivial⟩ ⟨rfl, .inr (.inl ⟨rfl, rfl, CLe.agg ⟨VLf.refl _, VLf.refl _, VLf.refl _, (VLe.f VLe.nil_opt rfl), trivial⟩, trivial⟩), rfl, .inr (.inl ⟨rfl, rfl, CLe.agg ⟨VLf.refl _, VLf.refl _, VLf.refl _, VLf.refl _, trivial⟩, trivial⟩), rfl, .inl rfl, trivial⟩) ?_
    obtain rfl := Option.some.inj h
    exact rR [(0, 0, 0), (4, 1000, 1)] ⟨[(4, .box 1000 1 0 0)], [(0, ⟨0, 122, 4, true, false, [eReader (Reader.mk a0.T (wr (a0.At + 1)) a0.Fail a0.Bad)]⟩), (1000, ⟨1, 35, 4, true, false, [eExpr (Expr.mk 1 x1.N b0 [])]⟩)], 2⟩ ⟨by kernel_rfl, by kernel_rfl, rfl⟩
  intro hb; replace h := cfalse hb h
  refine WA_seq ?_
  obtain ⟨J4, hJ4, h⟩ := jsome h
  refine WA_join (fun s => ∃ (w2 : ByteArray), ∃ (b3 : Bool), J4 w2 b3 = some r ∧ s = ⟨[(0, .box 0 0 0 0), (1, vi a1), (4, .box 4 1 0 0), (5, .box 5 1 0 0), (36, vb b3)], [(0, ⟨0, 122, 4, true, false, [eReader a0]⟩), (4, ⟨1, 35, 4, true, false, [.agg [vi 0, vi 0, vw w2, .ps .nil []]]⟩), (5, ⟨1, 124, 4, true, false, [eToken x1]⟩)], 2⟩) ?_ ?_
  · refine Rg hT 4 [0, 1, 4, 5, 40] ⟨[(0, .box 0 0 0 0), (1, vi a1), (4, .box 4 1 0 0), (5, .box 5 2 0 0), (40, vb (x1.Kind == 1))], [(5, ⟨2, 124, 4, true, false, [eToken x1]⟩), (4, ⟨1, 35, 4, true, false, [.agg [vi 0, vi 0, vw b0, .ps .nil []]]⟩), (0, ⟨0, 122, 4, true, false, [eReader a0]⟩)], 3⟩ ?_
    cases hb : ((x1.Kind == 1) : Bool)
    · replace h := cfalse hb h
      refine Sg hT 6 [0, 1, 4, 5, 36] ⟨[(0, .box 0 0 0 0), (1, vi a1), (4, .box 4 1 0 0), (5, .box 5 2 0 0), (36, vb false)], [(5, ⟨2, 124, 4, true, false, [eToken x1]⟩), (4, ⟨1, 35, 4, true, false, [.agg [vi 0, vi 0, vw b0, .ps .nil []]]⟩), (0, ⟨0, 122, 4, true, false, [eReader a0]⟩)], 3⟩ ?_
      exact oK [0, 1, 4, 5, 36] [(0, 0, 0), (4, 4, 1), (5, 5, 1)] ⟨b0, false, h, rfl⟩
    replace h := ctrue hb h
    refine Sg hT 2 [0, 1, 4, 5, 40, 42] ⟨[(0, .box 0 0 0 0), (1, vi a1), (4, .box 4 1 0 0), (5, .box 5 2 0 0), (40, vb true), (42, vw x1.Text)], [(5, ⟨2, 124, 4, true, false, [eToken x1]⟩), (4, ⟨1, 35, 4, true, false, [.agg [vi 0, vi 0, vw b0, .ps .nil []]]⟩), (0, ⟨0, 122, 4, true, false, [eReader a0]⟩)], 3⟩ ?_
    obtain ⟨r5, hr5, h⟩ := bsome h
    refine Pt en131 (ref1_Keyword_ok hr5) ?_
    refine Sg hT 3 [0, 1, 4, 5, 36] ⟨[(0, .box 0 0 0 0), (1, vi a1), (4, .box 4 1 0 0), (5, .box 5 2 0 0), (36, vb (!r5))], [(5, ⟨2, 124, 4, true, false, [eToken x1]⟩), (4, ⟨1, 35, 4, true, false, [.agg [vi 0, vi 0, vw b0, .ps .nil []]]⟩), (0, ⟨0, 122, 4, true, false, [eReader a0]⟩)], 3⟩ ?_
    exact oK [0, 1, 4, 5, 36] [(0, 0, 0), (4, 4, 1), (5, 5, 1)] ⟨b0, !r5, h, rfl⟩
  subst hJ4
  rintro s ⟨w2, b3, h, rfl⟩
  refine Cd b3 ?_ ?_
  · intro hb; replace h := ctrue hb h
    refine Qz hT 8 [4, 5] ⟨[(4, .box 4 1 0 0), (5, .box 5 1 0 0)], [(0, ⟨0, 122, 4, true, false, [.agg [.ps .opt (s117.F a0.T), vi (wr (a0.At + 1)), vb a0.Fail, vi a0.Bad]]⟩), (4, ⟨1, 35, 4, true, false, [.agg [vi 0, vi 0, vw w2, .ps .nil []]]⟩), (5, ⟨1, 124, 4, true, false, [eToken x1]⟩)], 2⟩ ?_
    refine Qz hT 4 [4] ⟨[(4, .box 4 1 0 0)], [(4, ⟨1, 35, 4, true, false, [.agg [vi 2, vi 0, vw x1.Text, .ps .nil []]]⟩), (0, ⟨0, 122, 4, true, false, [.agg [.ps .opt (s117.F a0.T), vi (wr (a0.At + 1)), vb a0.Fail, vi a0.Bad]]⟩), (5, ⟨1, 124, 4, true, false, [eToken x1]⟩)], 2⟩ ?_
    refine aW [4] ⟨[(4, .box 4 1 0 0)], [(4, ⟨1, 35, 4, true, false, [.agg [vi 2, vi 0, vw x1.Text, .ps .nil []]]⟩), (0, ⟨0, 122, 4, true, false, [.agg [.ps .opt (s117.F a0.T), vi (wr (a0.At + 1)), vb a0.Fail, vi a0.Bad]]⟩), (5, ⟨1, 124, 4, true, false, [eToken x1]⟩)], 2⟩ ?_
    refine WA_weak (Weak_leH [(4, .box 4 1 0 0)] [(4, ⟨1, 35, 4, true, false, [eExpr (Expr.mk 2 0 x1.Text [])]⟩), (0, ⟨0, 122, 4, true, false, [eReader (Reader.mk a0.T (wr (a0.At + 1)) a0.Fail a0.Bad)]⟩), (5, ⟨1, 124, 4, true, false, [eToken x1]⟩)] (by kernel_rfl) ⟨VLf.refl _, trivial⟩ ⟨rfl, .inr (.inl ⟨rfl, rfl, CLe.agg ⟨VLf.refl _, VLf.refl _, VLf.refl _, (VLe.f VLe.nil_opt rfl), trivial⟩, trivial⟩), rfl, .inr (.inl ⟨rfl, rfl, CLe.agg ⟨VLf.refl _, VLf.refl _, VLf.refl _, VLf.refl _, trivial⟩, trivial⟩), rfl, .inl rfl, trivial⟩) ?_
    obtain rfl := Option.some.inj h
    exact rR [(0, 0, 0), (4, 1000, 1)] ⟨[(4, .box 1000 1 0 0)], [(0, ⟨0, 122, 4, true, false, [eReader (Reader.mk a0.T (wr (a0.At + 1)) a0.Fail a0.Bad)]⟩), (1000, ⟨1, 35, 4, true, false, [eExpr (Expr.mk 2 0 x1.Text [])]⟩)], 2⟩ ⟨by kernel_rfl, by kernel_rfl, rfl⟩
  intro hb; replace h := cfalse hb h
  refine WA_seq ?_
  obtain ⟨J7, hJ7, h⟩ := jsome h
  refine WA_join (fun s => ∃ (b6 : Bool), J7 b6 = some r ∧ s = ⟨[(0, .box 0 0 0 0), (1, vi a1), (4, .box 4 1 0 0), (56, vb b6)], [(0, ⟨0, 122, 4, true, false, [eReader a0]⟩), (4, ⟨1, 35, 4, true, false, [.agg [vi 0, vi 0, vw w2, .ps .nil []]]⟩)], 2⟩) ?_ ?_
  · refine Rg hT 1 [0, 1, 4, 57] ⟨[(0, .box 0 0 0 0), (1, vi a1), (4, .box 4 1 0 0), (57, .box 0 0 0 0)], [(0, ⟨0, 122, 4, true, false, [eReader a0]⟩), (4, ⟨1, 35, 4, true, false, [.agg [vi 0, vi 0, vw w2, .ps .nil []]]⟩), (5, ⟨1, 124, 4, true, false, [eToken x1]⟩)], 2⟩ ?_
    obtain ⟨r8, hr8, h⟩ := bsome h
    refine WO_ptb rfl (by kernel_rfl) [0] [.box 0 0 0 0, vw tx23] [.ref (eReader a0) 0, vw tx23] (vb r8) rfl (by kernel_rfl) en133 (by kernel_rfl) (by kernel_rfl) (by kernel_rfl) (ref1_Reader_sign_ok hr8) (by kernel_rfl) ?_
    refine Sg hT 1 [0, 1, 4, 59] ⟨[(0, .box 0 0 0 0), (1, vi a1), (4, .box 4 1 0 0), (59, vb r8)], [(0, ⟨0, 122, 4, true, false, [eReader a0]⟩), (4, ⟨1, 35, 4, true, false, [.agg [vi 0, vi 0, vw w2, .ps .nil []]]⟩), (5, ⟨1, 124, 4, true, false, [eToken x1]⟩)], 2⟩ ?_
    cases hb : (r8 : Bool)
    · replace h := cfalse hb h
      refine Sg hT 4 [0, 1, 4, 56] ⟨[(0, .box 0 0 0 0), (1, vi a1), (4, .box 4 1 0 0), (56, vb false)], [(0, ⟨0, 122, 4, true, false, [eReader a0]⟩), (4, ⟨1, 35, 4, true, false, [.agg [vi 0, vi 0, vw w2, .ps .nil []]]⟩), (5, ⟨1, 124, 4, true, false, [eToken x1]⟩)], 2⟩ ?_
      exact oK [0, 1, 4, 56] [(0, 0, 0), (4, 4, 1)] ⟨false, h, rfl⟩
    replace h := ctrue hb h
    refine Sg hT 4 [0, 1, 4, 56] ⟨[(0, .box 0 0 0 0), (1, vi a1), (4, .box 4 1 0 0), (56, vb (decide (a1 < 8)))], [(0, ⟨0, 122, 4, true, false, [eReader a0]⟩), (4, ⟨1, 35, 4, true, false, [.agg [vi 0, vi 0, vw w2, .ps .nil []]]⟩), (5, ⟨1, 124, 4, true, false, [eToken x1]⟩)], 2⟩ ?_
    exact oK [0, 1, 4, 56] [(0, 0, 0), (4, 4, 1)] ⟨decide (a1 < 8), h, rfl⟩
  subst hJ7
  rintro s ⟨b6, h, rfl⟩
  refine Cd b6 ?_ ?_
  · intro hb; replace h := ctrue hb h
    refine Qz hT 8 [0, 1, 4] ⟨[(0, .box 0 0 0 0), (1, vi a1), (4, .box 4 1 0 0)], [(0, ⟨0, 122, 4, true, false, [.agg [.ps .opt (s117.F a0.T), vi (wr (a0.At + 1)), vb a0.Fail, vi a0.Bad]]⟩), (4, ⟨1, 35, 4, true, false, [.agg [vi 0, vi 0, vw w2, .ps .nil []]]⟩)], 2⟩ ?_
    refine Qg hT 3 [4, 70, 72] ⟨[(4, .box 4 1 0 0), (70, .box 0 0 0 0), (72, vi (wr (a1 + 1)))], [(0, ⟨0, 122, 4, true, false, [.agg [.ps .opt (s117.F a0.T), vi (wr (a0.At + 1)), vb a0.Fail, vi a0.Bad]]⟩), (4, ⟨1, 35, 4, true, false, [.agg [vi 0, vi 0, vw w2, .ps .nil []]]⟩)], 2⟩ ?_
    obtain ⟨r9, hr9, h⟩ := bsome h
    refine WO_go rfl (by kernel_rfl) [(0, ⟨0, 122, 4, true, false, [eReader (Reader.mk a0.T (wr (a0.At + 1)) a0.Fail a0.Bad)]⟩)] [(0, ⟨0, 122, 4, true, false, [eReader r9.2]⟩)] [.box 0 0 0 0, vi (wr (a1 + 1))] [.box 0 0 0 0, vi (wr (a1 + 1))] [(0, 0, 0)] [(0, 0, 0)] [(0, ⟨0, 122, 4, true, false, [eReader r9.2]⟩)] (eExpr r9.1) (eExpr r9.1) 3 rfl (by kernel_rfl) en162 (by kernel_rfl) (by kernel_rfl) (by kernel_rfl) ((ih _ (by omega)).1 hr9) (by kernel_rfl) (by kernel_rfl) (by kernel_rfl) (by kernel_rfl) ?_
    refine Sg hT 0 [4, 73] ⟨[(4, .box 4 1 0 0), (73, eExpr r9.1)], [(0, ⟨0, 122, 4, true, false, [eReader r9.2]⟩), (4, ⟨1, 35, 4, true, false, [.agg [vi 0, vi 0, vw w2, .ps .nil []]]⟩)], 3⟩ ?_
    refine One hT rfl (ev_bslice s33 74 [r9.1] (by kernel_rfl)) ?_
    refine Sg hT 0 [4, 74] ⟨[(4, .box 4 1 0 0), (74, vo 74 3 (s33.F [r9.1]))], [(74, ⟨3, 35, 4, false, false, s33.F [r9.1]⟩), (0, ⟨0, 122, 4, true, false, [eReader r9.2]⟩), (4, ⟨1, 35, 4, true, false, [.agg [vi 0, vi 0, vw w2, .ps .nil []]]⟩)], 4⟩ ?_
    refine WO_weak (Weak_frz 74 3 ⟨3, 35, 4, false, false, s33.F [r9.1]⟩ (by kernel_rfl) rfl rfl [(4, .box 4 1 0 0), (74, .ps .opt (s33.F [r9.1]))] [(0, ⟨0, 122, 4, true, false, [eReader r9.2]⟩), (4, ⟨1, 35, 4, true, false, [.agg [vi 0, vi 0, vw w2, .ps .nil []]]⟩)] ⟨rfl, .keep _, rfl, .hit true, trivial⟩ ⟨rfl, .inl rfl, rfl, .inl rfl, trivial⟩) ?_
    refine Sz hT 2 [4] ⟨[(4, .box 4 1 0 0)], [(4, ⟨1, 35, 4, true, false, [.agg [vi 3, vi 0, vw b0, .ps .opt (s33.F [r9.1])]]⟩), (0, ⟨0, 122, 4, true, false, [eReader r9.2]⟩)], 4⟩ ?_
    refine aW [4] ⟨[(4, .box 4 1 0 0)], [(4, ⟨1, 35, 4, true, false, [.agg [vi 3, vi 0, vw b0, .ps .opt (s33.F [r9.1])]]⟩), (0, ⟨0, 122, 4, true, false, [eReader r9.2]⟩)], 4⟩ ?_
    refine WA_weak (Weak_leH [(4, .box 4 1 0 0)] [(4, ⟨1, 35, 4, true, false, [eExpr (Expr.mk 3 0 b0 [r9.1])]⟩), (0, ⟨0, 122, 4, true, false, [eReader r9.2]⟩)] (by kernel_rfl) ⟨VLf.refl _, trivial⟩ ⟨rfl, .inr (.inl ⟨rfl, rfl, CLe.agg ⟨VLf.refl _, VLf.refl _, VLf.refl _, VLf.refl _, trivial⟩, trivial⟩), rfl, .inl rfl, trivial⟩) ?_
    obtain rfl := Option.some.inj h
    exact rR [(0, 0, 0), (4, 1000, 1)] ⟨[(4, .box 1000 1 0 0)], [(0, ⟨0, 122, 4, true, false, [eReader r9.2]⟩), (1000, ⟨1, 35, 4, true, false, [eExpr (Expr.mk 3 0 b0 [r9.1])]⟩)], 2⟩ ⟨by kernel_rfl, by kernel_rfl, rfl⟩
  intro hb; replace h := cfalse hb h
  refine WA_seq ?_
  obtain ⟨J11, hJ11, h⟩ := jsome h
  refine WA_join (fun s => ∃ (b10 : Bool), J11 b10 = some r ∧ s = ⟨[(0, .box 0 0 0 0), (1, vi a1), (4, .box 4 1 0 0), (76, vb b10)], [(0, ⟨0, 122, 4, true, false, [eReader a0]⟩), (4, ⟨1, 35, 4, true, false, [.agg [vi 0, vi 0, vw w2, .ps .nil []]]⟩)], 2⟩) ?_ ?_
  · refine Rg hT 1 [0, 1, 4, 77] ⟨[(0, .box 0 0 0 0), (1, vi a1), (4, .box 4 1 0 0), (77, .box 0 0 0 0)], [(0, ⟨0, 122, 4, true, false, [eReader a0]⟩), (4, ⟨1, 35, 4, true, false, [.agg [vi 0, vi 0, vw w2, .ps .nil []]]⟩)], 2⟩ ?_
    obtain ⟨r12, hr12, h⟩ := bsome h
    refine WO_ptb rfl (by kernel_rfl) [0] [.box 0 0 0 0, vw tx24] [.ref (eReader a0) 0, vw tx24] (vb r12) rfl (by kernel_rfl) en133 (by kernel_rfl) (by kernel_rfl) (by kernel_rfl) (ref1_Reader_sign_ok hr12) (by kernel_rfl) ?_
    refine Sg hT 1 [0, 1, 4, 79] ⟨[(0, .box 0 0 0 0), (1, vi a1), (4, .box 4 1 0 0), (79, vb r12)], [(0, ⟨0, 122, 4, true, false, [eReader a0]⟩), (4, ⟨1, 35, 4, true, false, [.agg [vi 0, vi 0, vw w2, .ps .nil []]]⟩)], 2⟩ ?_
    cases hb : (r12 : Bool)
    · replace h := cfalse hb h
      refine Sg hT 4 [0, 1, 4, 76] ⟨[(0, .box 0 0 0 0), (1, vi a1), (4, .box 4 1 0 0), (76, vb false)], [(0, ⟨0, 122, 4, true, false, [eReader a0]⟩), (4, ⟨1, 35, 4, true, false, [.agg [vi 0, vi 0, vw w2, .ps .nil []]]⟩)], 2⟩ ?_
      exact oK [0, 1, 4, 76] [(0, 0, 0), (4, 4, 1)] ⟨false, h, rfl⟩
    replace h := ctrue hb h
    refine Sg hT 4 [0, 1, 4, 76] ⟨[(0, .box 0 0 0 0), (1, vi a1), (4, .box 4 1 0 0), (76, vb (decide (a1 < 8)))], [(0, ⟨0, 122, 4, true, false, [eReader a0]⟩), (4, ⟨1, 35, 4, true, false, [.agg [vi 0, vi 0, vw w2, .ps .nil []]]⟩)], 2⟩ ?_
    exact oK [0, 1, 4, 76] [(0, 0, 0), (4, 4, 1)] ⟨decide (a1 < 8), h, rfl⟩
  subst hJ11
  rintro s ⟨b10, h, rfl⟩
  refine Cd b10 ?_ ?_
  · intro hb; replace h := ctrue hb h
    refine Qz hT 8 [0, 1, 4] ⟨[(0, .box 0 0 0 0), (1, vi a1), (4, .box 4 1 0 0)], [(0, ⟨0, 122, 4, true, false, [.agg [.ps .opt (s117.F a0.T), vi (wr (a0.At + 1)), vb a0.Fail, vi a0.Bad]]⟩), (4, ⟨1, 35, 4, true, false, [.agg [vi 0, vi 0, vw w2, .ps .nil []]]⟩)], 2⟩ ?_
    refine Qg hT 3 [0, 4, 90, 92] ⟨[(0, .box 0 0 0 0), (4, .box 4 1 0 0), (90, .box 0 0 0 0), (92, vi (wr (a1 + 1)))], [(0, ⟨0, 122, 4, true, false, [.agg [.ps .opt (s117.F a0.T), vi (wr (a0.At + 1)), vb a0.Fail, vi a0.Bad]]⟩), (4, ⟨1, 35, 4, true, false, [.agg [vi 0, vi 0, vw w2, .ps .nil []]]⟩)], 2⟩ ?_
    obtain ⟨r13, hr13, h⟩ := bsome h
    refine WO_go rfl (by kernel_rfl) [(0, ⟨0, 122, 4, true, false, [eReader (Reader.mk a0.T (wr (a0.At + 1)) a0.Fail a0.Bad)]⟩)] [(0, ⟨0, 122, 4, true, false, [eReader r13.2]⟩)] [.box 0 0 0 0, vi (wr (a1 + 1))] [.box 0 0 0 0, vi (wr (a1 + 1))] [(0, 0, 0)] [(0, 0, 0)] [(0, ⟨0, 122, 4, true, false, [eReader r13.2]⟩)] (eExpr r13.1) (eExpr r13.1) 3 rfl (by kernel_rfl) en158 (by kernel_rfl) (by kernel_rfl) (by kernel_rfl) ((ih _ (by omega)).2.2.2 hr13) (by kernel_rfl) (by kernel_rfl) (by kernel_rfl) (by kernel_rfl) ?_
    refine Sz hT 2 [0, 4, 6] ⟨[(0, .box 0 0 0 0), (4, .box 4 1 0 0), (6, .box 6 3 0 0)], [(6, ⟨3, 35, 4, true, false, [eExpr r13.1]⟩), (0, ⟨0, 122, 4, true, false, [eReader r13.2]⟩), (4, ⟨1, 35, 4, true, false, [.agg [vi 0, vi 0, vw w2, .ps .nil []]]⟩)], 4⟩ ?_
    refine Qg hT 1 [4, 6, 94] ⟨[(4, .box 4 1 0 0), (6, .box 6 3 0 0), (94, .box 0 0 0 0)], [(6, ⟨3, 35, 4, true, false, [eExpr r13.1]⟩), (0, ⟨0, 122, 4, true, false, [eReader r13.2]⟩), (4, ⟨1, 35, 4, true, false, [.agg [vi 0, vi 0, vw w2, .ps .nil []]]⟩)], 4⟩ ?_
    obtain ⟨r14, hr14, h⟩ := bsome h
    refine WO_go rfl (by kernel_rfl) [(0, ⟨0, 122, 4, true, false, [eReader r13.2]⟩)] [(0, ⟨0, 122, 4, true, false, [eReader r14]⟩)] [.box 0 0 0 0, vw tx25] [.box 0 0 0 0, vw tx25] [(0, 0, 0)] [(0, 0, 0)] [(0, ⟨0, 122, 4, true, false, [eReader r14]⟩)] (.tup []) (.tup []) 5 rfl (by kernel_rfl) en132 (by kernel_rfl) (by kernel_rfl) (by kernel_rfl) (ref1_Reader_must_ok hr14) (by kernel_rfl) (by kernel_rfl) (by kernel_rfl) (by kernel_rfl) ?_
    refine Sz hT 0 [4, 6] ⟨[(4, .box 4 1 0 0), (6, .box 6 3 0 0)], [(0, ⟨0, 122, 4, true, false, [eReader r14]⟩), (6, ⟨3, 35, 4, true, false, [eExpr r13.1]⟩), (4, ⟨1, 35, 4, true, false, [.agg [vi 0, vi 0, vw w2, .ps .nil []]]⟩)], 5⟩ ?_
    refine Qz hT 2 [4] ⟨[(4, .box 4 1 0 0)], [(4, ⟨1, 35, 4, true, false, [eExpr r13.1]⟩), (0, ⟨0, 122, 4, true, false, [eReader r14]⟩), (6, ⟨3, 35, 4, true, false, [eExpr r13.1]⟩)], 5⟩ ?_
    obtain rfl := Option.some.inj h
    exact rK [4] [(0, 0, 0), (4, 1000, 1)] ⟨[(4, .box 1000 1 0 0)], [(0, ⟨0, 122, 4, true, false, [eReader r14]⟩), (1000, ⟨1, 35, 4, true, false, [eExpr r13.1]⟩)], 2⟩ ⟨by kernel_rfl, by kernel_rfl, rfl⟩
  intro hb; replace h := cfalse hb h
  refine WA_skip ?_
  refine Qg hT 1 [4, 97] ⟨[(4, .box 4 1 0 0), (97, .box 0 0 0 0)], [(0, ⟨0, 122, 4, true, false, [eReader a0]⟩), (4, ⟨1, 35, 4, true, false, [.agg [vi 0, vi 0, vw w2, .ps .nil []]]⟩)], 2⟩ ?_
  obtain ⟨r15, hr15, h⟩ := bsome h
  refine WO_go rfl (by kernel_rfl) [(0, ⟨0, 122, 4, true, false, [eReader a0]⟩)] [(0, ⟨0, 122, 4, true, false, [eReader r15]⟩)] [.box 0 0 0 0] [.box 0 0 0 0] [(0, 0, 0)] [(0, 0, 0)] [(0, ⟨0, 122, 4, true, false, [eReader r15]⟩)] (.tup []) (.tup []) 3 rfl (by kernel_rfl) en103 (by kernel_rfl) (by kernel_rfl) (by kernel_rfl) (ref1_Reader_fail_ok hr15) (by kernel_rfl) (by kernel_rfl) (by kernel_rfl) (by kernel_rfl) ?_
  refine Sz hT 0 [4] ⟨[(4, .box 4 1 0 0)], [(0, ⟨0, 122, 4, true, false, [eReader r15]⟩), (4, ⟨1, 35, 4, true, false, [.agg [vi 0, vi 0, vw w2, .ps .nil []]]⟩)], 3⟩ ?_
  refine Qz hT 2 [4] ⟨[(4, .box 4 1 0 0)], [(4, ⟨1, 35, 4, true, false, [.agg [vi 0, vi 0, vw b0, .ps .nil []]]⟩), (0, ⟨0, 122, 4, true, false, [eReader r15]⟩)], 3⟩ ?_
  refine aW [4] ⟨[(4, .box 4 1 0 0)], [(4, ⟨1, 35, 4, true, false, [.agg [vi 0, vi 0, vw b0, .ps .nil []]]⟩), (0, ⟨0, 122, 4, true, false, [eReader r15]⟩)], 3⟩ ?_
  refine WA_weak (Weak_leH [(4, .box 4 1 0 0)] [(4, ⟨1, 35, 4, true, false, [eExpr (Expr.mk 0 0 b0 [])]⟩), (0, ⟨0, 122, 4, true, false, [eReader r15]⟩)] (by kernel_rfl) ⟨VLf.refl _, trivial⟩ ⟨rfl, .inr (.inl ⟨rfl, rfl, CLe.agg ⟨VLf.refl _, VLf.refl _, VLf.refl _, (VLe.f VLe.nil_opt rfl), trivial⟩, trivial⟩), rfl, .inl rfl, trivial⟩) ?_
  obtain rfl := Option.some.inj h
  exact rR [(0, 0, 0), (4, 1000, 1)] ⟨[(4, .box 1000 1 0 0)], [(0, ⟨0, 122, 4, true, false, [eReader r15]⟩), (1000, ⟨1, 35, 4, true, false, [eExpr (Expr.mk 0 0 b0 [])]⟩)], 2⟩ ⟨by kernel_rfl, by kernel_rfl, rfl⟩
theorem ref1_Reader_term_step (n : Nat) (ih : ∀ m, m < n → ref1_Reader_factor_spec m) : ∀ {a0 : Reader} {a1 : Int} {r : Expr × Reader}, ref1_Reader_term n a0 a1 = some r → GO Try.prog 161 [(0, ⟨0, 122, 4, true, false, [eReader a0]⟩)] [.box 0 0 0 0, vi a1] (eExpr r.1) [(0, ⟨0, 122, 4, true, false, [eReader r.2]⟩)] := by
  intro a0 a1 r h
  rcases n with _ | n
  · rw [ref1_Reader_term] at h; cases h
  rw [ref1_Reader_term] at h
  refine GO_bodyA hT Try.func161 rfl [1000] (by kernel_rfl) fun bad w m => ?_
  refine Qz hT 1 [0, 1, 4] ⟨[(0, .box 0 0 0 0), (1, vi a1), (4, .box 4 1 0 0)], [(4, ⟨1, 35, 4, true, false, [.agg [vi 0, vi 0, vw b0, .ps .nil []]]⟩), (0, ⟨0, 122, 4, true, false, [eReader a0]⟩)], 2⟩ ?_
  refine Qg hT 2 [0, 1, 4, 7, 8] ⟨[(0, .box 0 0 0 0), (1, vi a1), (4, .box 4 1 0 0), (7, .box 0 0 0 0), (8, vi a1)], [(4, ⟨1, 35, 4, true, false, [.agg [vi 0, vi 0, vw b0, .ps .nil []]]⟩), (0, ⟨0, 122, 4, true, false, [eReader a0]⟩)], 2⟩ ?_
  obtain ⟨r1, hr1, h⟩ := bsome h
  refine WO_go rfl (by kernel_rfl) [(0, ⟨0, 122, 4, true, false, [eReader a0]⟩)] [(0, ⟨0, 122, 4, true, false, [eReader r1.2]⟩)] [.box 0 0 0 0, vi a1] [.box 0 0 0 0, vi a1] [(0, 0, 0)] [(0, 0, 0)] [(0, ⟨0, 122, 4, true, false, [eReader r1.2]⟩)] (eExpr r1.1) (eExpr r1.1) 3 rfl (by kernel_rfl) en162 (by kernel_rfl) (by kernel_rfl) (by kernel_rfl) ((ih _ (by omega)).1 hr1) (by kernel_rfl) (by kernel_rfl) (by kernel_rfl) (by kernel_rfl) ?_
  refine Sz hT 2 [0, 1, 4, 5] ⟨[(0, .box 0 0 0 0), (1, vi a1), (4, .box 4 1 0 0), (5, .box 5 3 0 0)], [(5, ⟨3, 35, 4, true, false, [eExpr r1.1]⟩), (0, ⟨0, 122, 4, true, false, [eReader r1.2]⟩), (4, ⟨1, 35, 4, true, false, [.agg [vi 0, vi 0, vw b0, .ps .nil []]]⟩)], 4⟩ ?_
  refine WA_seq ?_
  obtain ⟨J5, hJ5, h⟩ := jsome h
  refine WA_join (fun s => ∃ (w2 : ByteArray), ∃ (v3 : Expr), ∃ (v4 : Reader), J5 w2 v3 v4 = some r ∧ s = ⟨[(4, .box 4 1 0 0), (5, .box 5 1 0 0)], [(0, ⟨0, 122, 4, true, false, [eReader v4]⟩), (4, ⟨1, 35, 4, true, false, [.agg [vi 0, vi 0, vw w2, .ps .nil []]]⟩), (5, ⟨1, 35, 4, true, false, [eExpr v3]⟩)], 2⟩) ?_ ?_
  · refine WA_block ?_
    refine lK [0, 1, 4, 5] [(0, 0, 0), (4, 4, 1), (5, 5, 1)] (fun k s => ∃ q, q ≤ k ∧ q ≤ n ∧ ∃ (v7 : Reader), ∃ (w8 : ByteArray), ∃ (v9 : Expr), ref1_Reader_term_L0 q a0 a1 r1 J5 v7 w8 v9 = some r ∧ s = ⟨[(0, .box 0 0 0 0), (1, vi a1), (4, .box 4 1 0 0), (5, .box 5 1 0 0)], [(0, ⟨0, 122, 4, true, false, [eReader v7]⟩), (4, ⟨1, 35, 4, true, false, [.agg [vi 0, vi 0, vw w8, .ps .nil []]]⟩), (5, ⟨1, 35, 4, true, false, [eExpr v9]⟩)], 2⟩) n ⟨n, Nat.le_refl _, Nat.le_refl _, r1.2, b0, r1.1, h, rfl⟩ (by rintro s ⟨q, hq, _, v7, w8, v9, h, _⟩; obtain rfl := Nat.le_zero.1 hq; rw [ref1_Reader_term_L0] at h; cases h) ?_
    clear h
    rintro k1 s ⟨q1, hk1, hn1, v7, w8, v9, h, rfl⟩
    rcases q1 with _ | q1
    · rw [ref1_Reader_term_L0] at h; cases h
    rw [ref1_Reader_term_L0] at h
    refine WA_seq ?_
    refine Qz hT 5 [0, 1, 4, 5, 14] ⟨[(0, .box 0 0 0 0), (1, vi a1), (4, .box 4 1 0 0), (5, .box 5 1 0 0), (14, vb (!v7.Fail))], [(0, ⟨0, 122, 4, true, false, [eReader v7]⟩), (4, ⟨1, 35, 4, true, false, [.agg [vi 0, vi 0, vw w8, .ps .nil []]]⟩), (5, ⟨1, 35, 4, true, false, [eExpr v9]⟩)], 2⟩ ?_
    refine Cd (!v7.Fail) ?_ ?_
    · intro hb; replace h := ctrue hb h
      refine WA_skip ?_
      refine WA_block ?_
      refine Qz hT 1 [0, 1, 4, 5, 6] ⟨[(0, .box 0 0 0 0), (1, vi a1), (4, .box 4 1 0 0), (5, .box 5 1 0 0), (6, vi 0)], [(0, ⟨0, 122, 4, true, false, [eReader v7]⟩), (4, ⟨1, 35, 4, true, false, [.agg [vi 0, vi 0, vw w8, .ps .nil []]]⟩), (5, ⟨1, 35, 4, true, false, [eExpr v9]⟩)], 2⟩ ?_
      refine WA_seq ?_
      obtain ⟨J11, hJ11, h⟩ := jsome h
      refine WA_join (fun s => ∃ (i10 : Int), J11 i10 = some r ∧ s = ⟨[(0, .box 0 0 0 0), (1, vi a1), (4, .box 4 1 0 0), (5, .box 5 1 0 0), (6, vi i10)], [(0, ⟨0, 122, 4, true, false, [eReader v7]⟩), (4, ⟨1, 35, 4, true, false, [.agg [vi 0, vi 0, vw w8, .ps .nil []]]⟩), (5, ⟨1, 35, 4, true, false, [eExpr v9]⟩)], 2⟩) ?_ ?_
      · refine WA_block ?_
        refine Qg hT 1 [0, 1, 4, 5, 6, 16] ⟨[(0, .box 0 0 0 0), (1, vi a1), (4, .box 4 1 0 0), (5, .box 5 1 0 0), (6, vi 0), (16, .box 0 0 0 0)], [(0, ⟨0, 122, 4, true, false, [eReader v7]⟩), (4, ⟨1, 35, 4, true, false, [.agg [vi 0, vi 0, vw w8, .ps .nil []]]⟩), (5, ⟨1, 35, 4, true, false, [eExpr v9]⟩)], 2⟩ ?_
        obtain ⟨r12, hr12, h⟩ := bsome h
        refine WO_ptb rfl (by kernel_rfl) [0] [.box 0 0 0 0, vw tx26] [.ref (eReader v7) 0, vw tx26] (vb r12) rfl (by kernel_rfl) en133 (by kernel_rfl) (by kernel_rfl) (by kernel_rfl) (ref1_Reader_sign_ok hr12) (by kernel_rfl) ?_
        refine Sz hT 1 [0, 1, 4, 5, 6, 15] ⟨[(0, .box 0 0 0 0), (1, vi a1), (4, .box 4 1 0 0), (5, .box 5 1 0 0), (6, vi 0), (15, vb r12)], [(0, ⟨0, 122, 4, true, false, [eReader v7]⟩), (4, ⟨1, 35, 4, true, false, [.agg [vi 0, vi 0, vw w8, .ps .nil []]]⟩), (5, ⟨1, 35, 4, true, false, [eExpr v9]⟩)], 2⟩ ?_
        refine Cd r12 ?_ ?_
        · intro hb; replace h := ctrue hb h
          refine Rg hT 1 [0, 1, 4, 5, 6] ⟨[(0, .box 0 0 0 0), (1, vi a1), (4, .box 4 1 0 0), (5, .box 5 1 0 0), (6, vi 6)], [(0, ⟨0, 122, 4, true, false, [eReader v7]⟩), (4, ⟨1, 35, 4, true, false, [.agg [vi 0, vi 0, vw w8, .ps .nil []]]⟩), (5, ⟨1, 35, 4, true, false, [eExpr v9]⟩)], 2⟩ ?_
          exact oK [0, 1, 4, 5, 6] [(0, 0, 0), (4, 4, 1), (5, 5, 1)] ⟨6, h, rfl⟩
        intro hb; replace h := cfalse hb h
        refine Qg hT 1 [0, 1, 4, 5, 6, 19] ⟨[(0, .box 0 0 0 0), (1, vi a1), (4, .box 4 1 0 0), (5, .box 5 1 0 0), (6, vi 0), (19, .box 0 0 0 0)], [(0, ⟨0, 122, 4, true, false, [eReader v7]⟩), (4, ⟨1, 35, 4, true, false, [.agg [vi 0, vi 0, vw w8, .ps .nil []]]⟩), (5, ⟨1, 35, 4, true, false, [eExpr v9]⟩)], 2⟩ ?_
        obtain ⟨r13, hr13, h⟩ := bsome h
        refine WO_ptb rfl (by kernel_rfl) [0] [.box 0 0 0 0, vw tx27] [.ref (eReader v7) 0, vw tx27] (vb r13) rfl (by kernel_rfl) en133 (by kernel_rfl) (by kernel_rfl) (by kernel_rfl) (ref1_Reader_sign_ok hr13) (by kernel_rfl) ?_
        refine Sz hT 1 [0, 1, 4, 5, 6, 18] ⟨[(0, .box 0 0 0 0), (1, vi a1), (4, .box 4 1 0 0), (5, .box 5 1 0 0), (6, vi 0), (18, vb r13)], [(0, ⟨0, 122, 4, true, false, [eReader v7]⟩), (4, ⟨1, 35, 4, true, false, [.agg [vi 0, vi 0, vw w8, .ps .nil []]]⟩), (5, ⟨1, 35, 4, true, false, [eExpr v9]⟩)], 2⟩ ?_
        refine Cd r13 ?_ ?_
        · intro hb; replace h := ctrue hb h
          refine Rg hT 1 [0, 1, 4, 5, 6] ⟨[(0, .box 0 0 0 0), (1, vi a1), (4, .box 4 1 0 0), (5, .box 5 1 0 0), (6, vi 7)], [(0, ⟨0, 122, 4, true, false, [eReader v7]⟩), (4, ⟨1, 35, 4, true, false, [.agg [vi 0, vi 0, vw w8, .ps .nil []]]⟩), (5, ⟨1, 35, 4, true, false, [eExpr v9]⟩)], 2⟩ ?_
          exact oK [0, 1, 4, 5, 6] [(0, 0, 0), (4, 4, 1), (5, 5, 1)] ⟨7, h, rfl⟩
        intro hb; replace h := cfalse hb h
        refine Qg hT 1 [0, 1, 4, 5, 6, 22] ⟨[(0, .box 0 0 0 0), (1, vi a1), (4, .box 4 1 0 0), (5, .box 5 1 0 0), (6, vi 0), (22, .box 0 0 0 0)], [(0, ⟨0, 122, 4, true, false, [eReader v7]⟩), (4, ⟨1, 35, 4, true, false, [.agg [vi 0, vi 0, vw w8, .ps .nil []]]⟩), (5, ⟨1, 35, 4, true, false, [eExpr v9]⟩)], 2⟩ ?_
        obtain ⟨r14, hr14, h⟩ := bsome h
        refine WO_ptb rfl (by kernel_rfl) [0] [.box 0 0 0 0, vw tx28] [.ref (eReader v7) 0, vw tx28] (vb r14) rfl (by kernel_rfl) en133 (by kernel_rfl) (by kernel_rfl) (by kernel_rfl) (ref1_Reader_sign_ok hr14) (by kernel_rfl) ?_
        refine Sz hT 1 [0, 1, 4, 5, 6, 21] ⟨[(0, .box 0 0 0 0), (1, vi a1), (4, .box 4 1 0 0), (5, .box 5 1 0 0), (6, vi 0), (21, vb r14)], [(0, ⟨0, 122, 4, true, false, [eReader v7]⟩), (4, ⟨1, 35, 4, true, false, [.agg [vi 0, vi 0, vw w8, .ps .nil []]]⟩), (5, ⟨1, 35, 4, true, false, [eExpr v9]⟩)], 2⟩ ?_
        refine Cd r14 ?_ ?_
        · intro hb; replace h := ctrue hb h
          refine Rg hT 1 [0, 1, 4, 5, 6] ⟨[(0, .box 0 0 0 0), (1, vi a1), (4, .box 4 1 0 0), (5, .box 5 1 0 0), (6, vi 8)], [(0, ⟨0, 122, 4, true, false, [eReader v7]⟩), (4, ⟨1, 35, 4, true, false, [.agg [vi 0, vi 0, vw w8, .ps .nil []]]⟩), (5, ⟨1, 35, 4, true, false, [eExpr v9]⟩)], 2⟩ ?_
          exact oK [0, 1, 4, 5, 6] [(0, 0, 0), (4, 4, 1), (5, 5, 1)] ⟨8, h, rfl⟩
        intro hb; replace h := cfalse hb h
        exact sK [0, 1, 4, 5, 6] [(0, 0, 0), (4, 4, 1), (5, 5, 1)] ⟨0, h, rfl⟩
      subst hJ11
      rintro s ⟨i10, h, rfl⟩
      skip
      refine WA_seq ?_
      refine Qz hT 2 [0, 1, 4, 5, 6, 25] ⟨[(0, .box 0 0 0 0), (1, vi a1), (4, .box 4 1 0 0), (5, .box 5 1 0 0), (6, vi i10), (25, vb (i10 == 0))], [(0, ⟨0, 122, 4, true, false, [eReader v7]⟩), (4, ⟨1, 35, 4, true, false, [.agg [vi 0, vi 0, vw w8, .ps .nil []]]⟩), (5, ⟨1, 35, 4, true, false, [eExpr v9]⟩)], 2⟩ ?_
      refine Cd (i10 == 0) ?_ ?_
      · intro hb; replace h := ctrue hb h
        exact eK [4, 5] [(0, 0, 0), (4, 4, 1), (5, 5, 1)] ⟨w8, v9, v7, h, rfl⟩
      intro hb; replace h := cfalse hb h
      refine WA_skip ?_
      refine Qz hT 8 [0, 1, 4, 5, 6] ⟨[(0, .box 0 0 0 0), (1, vi a1), (4, .box 4 1 0 0), (5, .box 5 1 0 0), (6, vi i10)], [(0, ⟨0, 122, 4, true, false, [.agg [.ps .opt (s117.F v7.T), vi (wr (v7.At + 1)), vb v7.Fail, vi v7.Bad]]⟩), (4, ⟨1, 35, 4, true, false, [.agg [vi 0, vi 0, vw w8, .ps .nil []]]⟩), (5, ⟨1, 35, 4, true, false, [eExpr v9]⟩)], 2⟩ ?_
      refine WA_drawW hT hM (by kernel_rfl) ?_
      refine WD_seg 4 ⟨[(36, vi a1), (35, .box 0 0 0 0), (34, eExpr v9), (33, vi i10), (0, .box 0 0 0 0), (1, vi a1), (4, .box 4 1 0 0), (5, .box 5 1 0 0), (6, vi i10)], [(0, ⟨0, 122, 4, true, false, [.agg [.ps .opt (s117.F v7.T), vi (wr (v7.At + 1)), vb v7.Fail, vi v7.Bad]]⟩), (4, ⟨1, 35, 4, true, false, [.agg [vi 0, vi 0, vw w8, .ps .nil []]]⟩), (5, ⟨1, 35, 4, true, false, [eExpr v9]⟩)], 2⟩ [] [(1, [5])] (by kernel_rfl) (by kernel_rfl) ?_
      obtain ⟨r15, hr15, h⟩ := bsome h
      refine WD_go rfl (by kernel_rfl) (by kernel_rfl) [(0, ⟨0, 122, 4, true, false, [eReader (Reader.mk v7.T (wr (v7.At + 1)) v7.Fail v7.Bad)]⟩)] [(0, ⟨0, 122, 4, true, false, [eReader r15.2]⟩)] [.box 0 0 0 0, vi a1] [.box 0 0 0 0, vi a1] [(0, 0, 0)] [(0, 0, 0)] [(0, ⟨0, 122, 4, true, false, [eReader r15.2]⟩)] (eExpr r15.1) (eExpr r15.1) 3 rfl (by kernel_rfl) en162 (by kernel_rfl) (by kernel_rfl) (by kernel_rfl) ((ih _ (by omega)).1 hr15) (by kernel_rfl) (by kernel_rfl) (by kernel_rfl) (by kernel_rfl) ?_
      obtain ⟨r16, hr16, h⟩ := bsome h
      refine WD_pt rfl (by kernel_rfl) (by kernel_rfl) [vi i10, eExpr v9, eExpr r15.1] (eExpr r16) rfl (by kernel_rfl) en160 (by kernel_rfl) (ref1_binary_ok hr16) (by kernel_rfl) ?_
      refine WD_seg 1 ⟨[(38, eExpr r16), (37, eExpr r15.1), (36, vi a1), (35, .box 0 0 0 0), (34, eExpr v9), (33, vi i10), (0, .box 0 0 0 0), (1, vi a1), (4, .box 4 1 0 0), (5, .box 5 1 0 0), (6, vi i10)], [(5, ⟨1, 35, 4, true, false, [eExpr r16]⟩), (0, ⟨0, 122, 4, true, false, [eReader r15.2]⟩), (4, ⟨1, 35, 4, true, false, [.agg [vi 0, vi 0, vw w8, .ps .nil []]]⟩)], 3⟩ [(4, [0, 0]), (6, [5])] [(1, [5])] (by kernel_rfl) (by kernel_rfl) ?_
      refine WD_end (by kernel_rfl) (by kernel_rfl) (by kernel_rfl) ?_
      exact wK [0, 1, 4, 5] [(0, 0, 0), (4, 4, 1), (5, 5, 1)] ⟨_, by omega, by omega, r15.2, w8, r16, h, rfl⟩
    intro hb; replace h := cfalse hb h
    exact eK [4, 5] [(0, 0, 0), (4, 4, 1), (5, 5, 1)] ⟨w8, v9, v7, h, rfl⟩
  subst hJ5
  rintro s ⟨w2, v3, v4, h, rfl⟩
  refine Qz hT 2 [4] ⟨[(4, .box 4 1 0 0)], [(4, ⟨1, 35, 4, true, false, [eExpr v3]⟩), (0, ⟨0, 122, 4, true, false, [eReader v4]⟩), (5, ⟨1, 35, 4, true, false, [eExpr v3]⟩)], 2⟩ ?_
  obtain rfl := Option.some.inj h
  exact rK [4] [(0, 0, 0), (4, 1000, 1)] ⟨[(4, .box 1000 1 0 0)], [(0, ⟨0, 122, 4, true, false, [eReader v4]⟩), (1000, ⟨1, 35, 4, true, false, [eExpr v3]⟩)], 2⟩ ⟨by kernel_rfl, by kernel_rfl, rfl⟩
theorem ref1_Reader_sum_step (n : Nat) (ih : ∀ m, m < n → ref1_Reader_factor_spec m) : ∀ {a0 : Reader} {a1 : Int} {r : Expr × Reader}, ref1_Reader_sum n a0 a1 = some r → GO Try.prog 159 [(0, ⟨0, 122, 4, true, false, [eReader a0]⟩)] [.box 0 0 0 0, vi a1] (eExpr r.1) [(0, ⟨0, 122, 4, true, false, [eReader r.2]⟩)] := by
  intro a0 a1 r h
  rcases n with _ | n
  · rw [ref1_Reader_sum] at h; cases h
  rw [ref1_Reader_sum] at h
  refine GO_bodyA hT Try.func159 rfl [1000] (by kernel_rfl) fun bad w m => ?_
  refine Qz hT 1 [0, 1, 4] ⟨[(0, .box 0 0 0 0), (1, vi a1), (4, .box 4 1 0 0)], [(4, ⟨1, 35, 4, true, false, [.agg [vi 0, vi 0, vw b0, .ps .nil []]]⟩), (0, ⟨0, 122, 4, true, false, [eReader a0]⟩)], 2⟩ ?_
  refine Qg hT 2 [0, 1, 4, 7, 8] ⟨[(0, .box 0 0 0 0), (1, vi a1), (4, .box 4 1 0 0), (7, .box 0 0 0 0), (8, vi a1)], [(4, ⟨1, 35, 4, true, false, [.agg [vi 0, vi 0, vw b0, .ps .nil []]]⟩), (0, ⟨0, 122, 4, true, false, [eReader a0]⟩)], 2⟩ ?_
  obtain ⟨r1, hr1, h⟩ := bsome h
  refine WO_go rfl (by kernel_rfl) [(0, ⟨0, 122, 4, true, false, [eReader a0]⟩)] [(0, ⟨0, 122, 4, true, false, [eReader r1.2]⟩)] [.box 0 0 0 0, vi a1] [.box 0 0 0 0, vi a1] [(0, 0, 0)] [(0, 0, 0)] [(0, ⟨0, 122, 4, true, false, [eReader r1.2]⟩)] (eExpr r1.1) (eExpr r1.1) 3 rfl (by kernel_rfl) en161 (by kernel_rfl) (by kernel_rfl) (by kernel_rfl) ((ih _ (by omega)).2.1 hr1) (by kernel_rfl) (by kernel_rfl) (by kernel_rfl) (by kernel_rfl) ?_
  refine Sz hT 2 [0, 1, 4, 5] ⟨[(0, .box 0 0 0 0), (1, vi a1), (4, .box 4 1 0 0), (5, .box 5 3 0 0)], [(5, ⟨3, 35, 4, true, false, [eExpr r1.1]⟩), (0, ⟨0, 122, 4, true, false, [eReader r1.2]⟩), (4, ⟨1, 35, 4, true, false, [.agg [vi 0, vi 0, vw b0, .ps .nil []]]⟩)], 4⟩ ?_
  refine WA_seq ?_
  obtain ⟨J5, hJ5, h⟩ := jsome h
  refine WA_join (fun s => ∃ (w2 : ByteArray), ∃ (v3 : Expr), ∃ (v4 : Reader), J5 w2 v3 v4 = some r ∧ s = ⟨[(4, .box 4 1 0 0), (5, .box 5 1 0 0)], [(0, ⟨0, 122, 4, true, false, [eReader v4]⟩), (4, ⟨1, 35, 4, true, false, [.agg [vi 0, vi 0, vw w2, .ps .nil []]]⟩), (5, ⟨1, 35, 4, true, false, [eExpr v3]⟩)], 2⟩) ?_ ?_
  · refine WA_block ?_
    refine lK [0, 1, 4, 5] [(0, 0, 0), (4, 4, 1), (5, 5, 1)] (fun k s => ∃ q, q ≤ k ∧ q ≤ n ∧ ∃ (v7 : Reader), ∃ (w8 : ByteArray), ∃ (v9 : Expr), ref1_Reader_sum_L0 q a0 a1 r1 J5 v7 w8 v9 = some r ∧ s = ⟨[(0, .box 0 0 0 0), (1, vi a1), (4, .box 4 1 0 0), (5, .box 5 1 0 0)], [(0, ⟨0, 122, 4, true, false, [eReader v7]⟩), (4, ⟨1, 35, 4, true, false, [.agg [vi 0, vi 0, vw w8, .ps .nil []]]⟩), (5, ⟨1, 35, 4, true, false, [eExpr v9]⟩)], 2⟩) n ⟨n, Nat.le_refl _, Nat.le_refl _, r1.2, b0, r1.1, h, rfl⟩ (by rintro s ⟨q, hq, _, v7, w8, v9, h, _⟩; obtain rfl := Nat.le_zero.1 hq; rw [ref1_Reader_sum_L0] at h; cases h) ?_
    clear h
    rintro k1 s ⟨q1, hk1, hn1, v7, w8, v9, h, rfl⟩
    rcases q1 with _ | q1
    · rw [ref1_Reader_sum_L0] at h; cases h
    rw [ref1_Reader_sum_L0] at h
    refine WA_seq ?_
    refine Qz hT 5 [0, 1, 4, 5, 14] ⟨[(0, .box 0 0 0 0), (1, vi a1), (4, .box 4 1 0 0), (5, .box 5 1 0 0), (14, vb (!v7.Fail))], [(0, ⟨0, 122, 4, true, false, [eReader v7]⟩), (4, ⟨1, 35, 4, true, false, [.agg [vi 0, vi 0, vw w8, .ps .nil []]]⟩), (5, ⟨1, 35, 4, true, false, [eExpr v9]⟩)], 2⟩ ?_
    refine Cd (!v7.Fail) ?_ ?_
    · intro hb; replace h := ctrue hb h
      refine WA_skip ?_
      refine WA_block ?_
      refine Qz hT 1 [0, 1, 4, 5, 6] ⟨[(0, .box 0 0 0 0), (1, vi a1), (4, .box 4 1 0 0), (5, .box 5 1 0 0), (6, vi 0)], [(0, ⟨0, 122, 4, true, false, [eReader v7]⟩), (4, ⟨1, 35, 4, true, false, [.agg [vi 0, vi 0, vw w8, .ps .nil []]]⟩), (5, ⟨1, 35, 4, true, false, [eExpr v9]⟩)], 2⟩ ?_
      refine WA_seq ?_
      obtain ⟨J11, hJ11, h⟩ := jsome h
      refine WA_join (fun s => ∃ (i10 : Int), J11 i10 = some r ∧ s = ⟨[(0, .box 0 0 0 0), (1, vi a1), (4, .box 4 1 0 0), (5, .box 5 1 0 0), (6, vi i10)], [(0, ⟨0, 122, 4, true, false, [eReader v7]⟩), (4, ⟨1, 35, 4, true, false, [.agg [vi 0, vi 0, vw w8, .ps .nil []]]⟩), (5, ⟨1, 35, 4, true, false, [eExpr v9]⟩)], 2⟩) ?_ ?_
      · refine WA_block ?_
        refine Qg hT 1 [0, 1, 4, 5, 6, 16] ⟨[(0, .box 0 0 0 0), (1, vi a1), (4, .box 4 1 0 0), (5, .box 5 1 0 0), (6, vi 0), (16, .box 0 0 0 0)], [(0, ⟨0, 122, 4, true, false, [eReader v7]⟩), (4, ⟨1, 35, 4, true, false, [.agg [vi 0, vi 0, vw w8, .ps .nil []]]⟩), (5, ⟨1, 35, 4, true, false, [eExpr v9]⟩)], 2⟩ ?_
        obtain ⟨r12, hr12, h⟩ := bsome h
        refine WO_ptb rfl (by kernel_rfl) [0] [.box 0 0 0 0, vw tx29] [.ref (eReader v7) 0, vw tx29] (vb r12) rfl (by kernel_rfl) en133 (by kernel_rfl) (by kernel_rfl) (by kernel_rfl) (ref1_Reader_sign_ok hr12) (by kernel_rfl) ?_
        refine Sz hT 1 [0, 1, 4, 5, 6, 15] ⟨[(0, .box 0 0 0 0), (1, vi a1), (4, .box 4 1 0 0), (5, .box 5 1 0 0), (6, vi 0), (15, vb r12)], [(0, ⟨0, 122, 4, true, false, [eReader v7]⟩), (4, ⟨1, 35, 4, true, false, [.agg [vi 0, vi 0, vw w8, .ps .nil []]]⟩), (5, ⟨1, 35, 4, true, false, [eExpr v9]⟩)], 2⟩ ?_
        refine Cd r12 ?_ ?_
        · intro hb; replace h := ctrue hb h
          refine Rg hT 1 [0, 1, 4, 5, 6] ⟨[(0, .box 0 0 0 0), (1, vi a1), (4, .box 4 1 0 0), (5, .box 5 1 0 0), (6, vi 4)], [(0, ⟨0, 122, 4, true, false, [eReader v7]⟩), (4, ⟨1, 35, 4, true, false, [.agg [vi 0, vi 0, vw w8, .ps .nil []]]⟩), (5, ⟨1, 35, 4, true, false, [eExpr v9]⟩)], 2⟩ ?_
          exact oK [0, 1, 4, 5, 6] [(0, 0, 0), (4, 4, 1), (5, 5, 1)] ⟨4, h, rfl⟩
        intro hb; replace h := cfalse hb h
        refine Qg hT 1 [0, 1, 4, 5, 6, 19] ⟨[(0, .box 0 0 0 0), (1, vi a1), (4, .box 4 1 0 0), (5, .box 5 1 0 0), (6, vi 0), (19, .box 0 0 0 0)], [(0, ⟨0, 122, 4, true, false, [eReader v7]⟩), (4, ⟨1, 35, 4, true, false, [.agg [vi 0, vi 0, vw w8, .ps .nil []]]⟩), (5, ⟨1, 35, 4, true, false, [eExpr v9]⟩)], 2⟩ ?_
        obtain ⟨r13, hr13, h⟩ := bsome h
        refine WO_ptb rfl (by kernel_rfl) [0] [.box 0 0 0 0, vw tx23] [.ref (eReader v7) 0, vw tx23] (vb r13) rfl (by kernel_rfl) en133 (by kernel_rfl) (by kernel_rfl) (by kernel_rfl) (ref1_Reader_sign_ok hr13) (by kernel_rfl) ?_
        refine Sz hT 1 [0, 1, 4, 5, 6, 18] ⟨[(0, .box 0 0 0 0), (1, vi a1), (4, .box 4 1 0 0), (5, .box 5 1 0 0), (6, vi 0), (18, vb r13)], [(0, ⟨0, 122, 4, true, false, [eReader v7]⟩), (4, ⟨1, 35, 4, true, false, [.agg [vi 0, vi 0, vw w8, .ps .nil []]]⟩), (5, ⟨1, 35, 4, true, false, [eExpr v9]⟩)], 2⟩ ?_
        refine Cd r13 ?_ ?_
        · intro hb; replace h := ctrue hb h
          refine Rg hT 1 [0, 1, 4, 5, 6] ⟨[(0, .box 0 0 0 0), (1, vi a1), (4, .box 4 1 0 0), (5, .box 5 1 0 0), (6, vi 5)], [(0, ⟨0, 122, 4, true, false, [eReader v7]⟩), (4, ⟨1, 35, 4, true, false, [.agg [vi 0, vi 0, vw w8, .ps .nil []]]⟩), (5, ⟨1, 35, 4, true, false, [eExpr v9]⟩)], 2⟩ ?_
          exact oK [0, 1, 4, 5, 6] [(0, 0, 0), (4, 4, 1), (5, 5, 1)] ⟨5, h, rfl⟩
        intro hb; replace h := cfalse hb h
        exact sK [0, 1, 4, 5, 6] [(0, 0, 0), (4, 4, 1), (5, 5, 1)] ⟨0, h, rfl⟩
      subst hJ11
      rintro s ⟨i10, h, rfl⟩
      skip
      refine WA_seq ?_
      refine Qz hT 2 [0, 1, 4, 5, 6, 22] ⟨[(0, .box 0 0 0 0), (1, vi a1), (4, .box 4 1 0 0), (5, .box 5 1 0 0), (6, vi i10), (22, vb (i10 == 0))], [(0, ⟨0, 122, 4, true, false, [eReader v7]⟩), (4, ⟨1, 35, 4, true, false, [.agg [vi 0, vi 0, vw w8, .ps .nil []]]⟩), (5, ⟨1, 35, 4, true, false, [eExpr v9]⟩)], 2⟩ ?_
      refine Cd (i10 == 0) ?_ ?_
      · intro hb; replace h := ctrue hb h
        exact eK [4, 5] [(0, 0, 0), (4, 4, 1), (5, 5, 1)] ⟨w8, v9, v7, h, rfl⟩
      intro hb; replace h := cfalse hb h
      refine WA_skip ?_
      refine Qz hT 8 [0, 1, 4, 5, 6] ⟨[(0, .box 0 0 0 0), (1, vi a1), (4, .box 4 1 0 0), (5, .box 5 1 0 0), (6, vi i10)], [(0, ⟨0, 122, 4, true, false, [.agg [.ps .opt (s117.F v7.T), vi (wr (v7.At + 1)), vb v7.Fail, vi v7.Bad]]⟩), (4, ⟨1, 35, 4, true, false, [.agg [vi 0, vi 0, vw w8, .ps .nil []]]⟩), (5, ⟨1, 35, 4, true, false, [eExpr v9]⟩)], 2⟩ ?_
      refine WA_drawW hT hM (by kernel_rfl) ?_
      refine WD_seg 4 ⟨[(33, vi a1), (32, .box 0 0 0 0), (31, eExpr v9), (30, vi i10), (0, .box 0 0 0 0), (1, vi a1), (4, .box 4 1 0 0), (5, .box 5 1 0 0), (6, vi i10)], [(0, ⟨0, 122, 4, true, false, [.agg [.ps .opt (s117.F v7.T), vi (wr (v7.At + 1)), vb v7.Fail, vi v7.Bad]]⟩), (4, ⟨1, 35, 4, true, false, [.agg [vi 0, vi 0, vw w8, .ps .nil []]]⟩), (5, ⟨1, 35, 4, true, false, [eExpr v9]⟩)], 2⟩ [] [(1, [5])] (by kernel_rfl) (by kernel_rfl) ?_
      obtain ⟨r14, hr14, h⟩ := bsome h
      refine WD_go rfl (by kernel_rfl) (by kernel_rfl) [(0, ⟨0, 122, 4, true, false, [eReader (Reader.mk v7.T (wr (v7.At + 1)) v7.Fail v7.Bad)]⟩)] [(0, ⟨0, 122, 4, true, false, [eReader r14.2]⟩)] [.box 0 0 0 0, vi a1] [.box 0 0 0 0, vi a1] [(0, 0, 0)] [(0, 0, 0)] [(0, ⟨0, 122, 4, true, false, [eReader r14.2]⟩)] (eExpr r14.1) (eExpr r14.1) 3 rfl (by kernel_rfl) en161 (by kernel_rfl) (by kernel_rfl) (by kernel_rfl) ((ih _ (by omega)).2.1 hr14) (by kernel_rfl) (by kernel_rfl) (by kernel_rfl) (by kernel_rfl) ?_
      obtain ⟨r15, hr15, h⟩ := bsome h
      refine WD_pt rfl (by kernel_rfl) (by kernel_rfl) [vi i10, eExpr v9, eExpr r14.1] (eExpr r15) rfl (by kernel_rfl) en160 (by kernel_rfl) (ref1_binary_ok hr15) (by kernel_rfl) ?_
      refine WD_seg 1 ⟨[(35, eExpr r15), (34, eExpr r14.1), (33, vi a1), (32, .box 0 0 0 0), (31, eExpr v9), (30, vi i10), (0, .box 0 0 0 0), (1, vi a1), (4, .box 4 1 0 0), (5, .box 5 1 0 0), (6, vi i10)], [(5, ⟨1, 35, 4, true, false, [eExpr r15]⟩), (0, ⟨0, 122, 4, true, false, [eReader r14.2]⟩), (4, ⟨1, 35, 4, true, false, [.agg [vi 0, vi 0, vw w8, .ps .nil []]]⟩)], 3⟩ [(4, [0, 0]), (6, [5])] [(1, [5])] (by kernel_rfl) (by kernel_rfl) ?_
      refine WD_end (by kernel_rfl) (by kernel_rfl) (by kernel_rfl) ?_
      exact wK [0, 1, 4, 5] [(0, 0, 0), (4, 4, 1), (5, 5, 1)] ⟨_, by omega, by omega, r14.2, w8, r15, h, rfl⟩
    intro hb; replace h := cfalse hb h
    exact eK [4, 5] [(0, 0, 0), (4, 4, 1), (5, 5, 1)] ⟨w8, v9, v7, h, rfl⟩
  subst hJ5
  rintro s ⟨w2, v3, v4, h, rfl⟩
  refine Qz hT 2 [4] ⟨[(4, .box 4 1 0 0)], [(4, ⟨1, 35, 4, true, false, [eExpr v3]⟩), (0, ⟨0, 122, 4, true, false, [eReader v4]⟩), (5, ⟨1, 35, 4, true, false, [eExpr v3]⟩)], 2⟩ ?_
  obtain rfl := Option.some.inj h
  exact rK [4] [(0, 0, 0), (4, 1000, 1)] ⟨[(4, .box 1000 1 0 0)], [(0, ⟨0, 122, 4, true, false, [eReader v4]⟩), (1000, ⟨1, 35, 4, true, false, [eExpr v3]⟩)], 2⟩ ⟨by kernel_rfl, by kernel_rfl, rfl⟩
theorem ref1_Reader_expr_step (n : Nat) (ih : ∀ m, m < n → ref1_Reader_factor_spec m) : ∀ {a0 : Reader} {a1 : Int} {r : Expr × Reader}, ref1_Reader_expr n a0 a1 = some r → GO Try.prog 158 [(0, ⟨0, 122, 4, true, false, [eReader a0]⟩)] [.box 0 0 0 0, vi a1] (eExpr r.1) [(0, ⟨0, 122, 4, true, false, [eReader r.2]⟩)] := by
  intro a0 a1 r h
  rcases n with _ | n
  · rw [ref1_Reader_expr] at h; cases h
  rw [ref1_Reader_expr] at h
  refine GO_bodyA hT Try.func158 rfl [1000] (by kernel_rfl) fun bad w m => ?_
  refine Qz hT 1 [0, 1, 4] ⟨[(0, .box 0 0 0 0), (1, vi a1), (4, .box 4 1 0 0)], [(4, ⟨1, 35, 4, true, false, [.agg [vi 0, vi 0, vw b0, .ps .nil []]]⟩), (0, ⟨0, 122, 4, true, false, [eReader a0]⟩)], 2⟩ ?_
  refine Qg hT 2 [0, 1, 4, 7, 8] ⟨[(0, .box 0 0 0 0), (1, vi a1), (4, .box 4 1 0 0), (7, .box 0 0 0 0), (8, vi a1)], [(4, ⟨1, 35, 4, true, false, [.agg [vi 0, vi 0, vw b0, .ps .nil []]]⟩), (0, ⟨0, 122, 4, true, false, [eReader a0]⟩)], 2⟩ ?_
  obtain ⟨r1, hr1, h⟩ := bsome h
  refine WO_go rfl (by kernel_rfl) [(0, ⟨0, 122, 4, true, false, [eReader a0]⟩)] [(0, ⟨0, 122, 4, true, false, [eReader r1.2]⟩)] [.box 0 0 0 0, vi a1] [.box 0 0 0 0, vi a1] [(0, 0, 0)] [(0, 0, 0)] [(0, ⟨0, 122, 4, true, false, [eReader r1.2]⟩)] (eExpr r1.1) (eExpr r1.1) 3 rfl (by kernel_rfl) en159 (by kernel_rfl) (by kernel_rfl) (by kernel_rfl) ((ih _ (by omega)).2.2.1 hr1) (by kernel_rfl) (by kernel_rfl) (by kernel_rfl) (by kernel_rfl) ?_
  refine Sz hT 2 [0, 1, 4, 5] ⟨[(0, .box 0 0 0 0), (1, vi a1), (4, .box 4 1 0 0), (5, .box 5 3 0 0)], [(5, ⟨3, 35, 4, true, false, [eExpr r1.1]⟩), (0, ⟨0, 122, 4, true, false, [eReader r1.2]⟩), (4, ⟨1, 35, 4, true, false, [.agg [vi 0, vi 0, vw b0, .ps .nil []]]⟩)], 4⟩ ?_
  refine Qz hT 1 [0, 1, 4, 5, 6] ⟨[(0, .box 0 0 0 0), (1, vi a1), (4, .box 4 1 0 0), (5, .box 5 3 0 0), (6, vi 0)], [(5, ⟨3, 35, 4, true, false, [eExpr r1.1]⟩), (0, ⟨0, 122, 4, true, false, [eReader r1.2]⟩), (4, ⟨1, 35, 4, true, false, [.agg [vi 0, vi 0, vw b0, .ps .nil []]]⟩)], 4⟩ ?_
  refine WA_seq ?_
  obtain ⟨J4, hJ4, h⟩ := jsome h
  refine WA_join (fun s => ∃ (w2 : ByteArray), ∃ (i3 : Int), J4 w2 i3 = some r ∧ s = ⟨[(0, .box 0 0 0 0), (1, vi a1), (4, .box 4 1 0 0), (5, .box 5 1 0 0), (6, vi i3)], [(0, ⟨0, 122, 4, true, false, [eReader r1.2]⟩), (4, ⟨1, 35, 4, true, false, [.agg [vi 0, vi 0, vw w2, .ps .nil []]]⟩), (5, ⟨1, 35, 4, true, false, [eExpr r1.1]⟩)], 2⟩) ?_ ?_
  · refine WA_block ?_
    refine Qg hT 1 [0, 1, 4, 5, 6, 11] ⟨[(0, .box 0 0 0 0), (1, vi a1), (4, .box 4 1 0 0), (5, .box 5 3 0 0), (6, vi 0), (11, .box 0 0 0 0)], [(5, ⟨3, 35, 4, true, false, [eExpr r1.1]⟩), (0, ⟨0, 122, 4, true, false, [eReader r1.2]⟩), (4, ⟨1, 35, 4, true, false, [.agg [vi 0, vi 0, vw b0, .ps .nil []]]⟩)], 4⟩ ?_
    obtain ⟨r5, hr5, h⟩ := bsome h
    refine WO_ptb rfl (by kernel_rfl) [0] [.box 0 0 0 0, vw tx30] [.ref (eReader r1.2) 0, vw tx30] (vb r5) rfl (by kernel_rfl) en133 (by kernel_rfl) (by kernel_rfl) (by kernel_rfl) (ref1_Reader_sign_ok hr5) (by kernel_rfl) ?_
    refine Sz hT 1 [0, 1, 4, 5, 6, 10] ⟨[(0, .box 0 0 0 0), (1, vi a1), (4, .box 4 1 0 0), (5, .box 5 3 0 0), (6, vi 0), (10, vb r5)], [(5, ⟨3, 35, 4, true, false, [eExpr r1.1]⟩), (0, ⟨0, 122, 4, true, false, [eReader r1.2]⟩), (4, ⟨1, 35, 4, true, false, [.agg [vi 0, vi 0, vw b0, .ps .nil []]]⟩)], 4⟩ ?_
    refine Cd r5 ?_ ?_
    · intro hb; replace h := ctrue hb h
      refine Rg hT 1 [0, 1, 4, 5, 6] ⟨[(0, .box 0 0 0 0), (1, vi a1), (4, .box 4 1 0 0), (5, .box 5 3 0 0), (6, vi 9)], [(5, ⟨3, 35, 4, true, false, [eExpr r1.1]⟩), (0, ⟨0, 122, 4, true, false, [eReader r1.2]⟩), (4, ⟨1, 35, 4, true, false, [.agg [vi 0, vi 0, vw b0, .ps .nil []]]⟩)], 4⟩ ?_
      exact oK [0, 1, 4, 5, 6] [(0, 0, 0), (4, 4, 1), (5, 5, 1)] ⟨b0, 9, h, rfl⟩
    intro hb; replace h := cfalse hb h
    refine Qg hT 1 [0, 1, 4, 5, 6, 14] ⟨[(0, .box 0 0 0 0), (1, vi a1), (4, .box 4 1 0 0), (5, .box 5 3 0 0), (6, vi 0), (14, .box 0 0 0 0)], [(5, ⟨3, 35, 4, true, false, [eExpr r1.1]⟩), (0, ⟨0, 122, 4, true, false, [eReader r1.2]⟩), (4, ⟨1, 35, 4, true, false, [.agg [vi 0, vi 0, vw b0, .ps .nil []]]⟩)], 4⟩ ?_
    obtain ⟨r6, hr6, h⟩ := bsome h
    refine WO_ptb rfl (by kernel_rfl) [0] [.box 0 0 0 0, vw tx2] [.ref (eReader r1.2) 0, vw tx2] (vb r6) rfl (by kernel_rfl) en133 (by kernel_rfl) (by kernel_rfl) (by kernel_rfl) (ref1_Reader_sign_ok hr6) (by kernel_rfl) ?_
    refine Sz hT 1 [0, 1, 4, 5, 6, 13] ⟨[(0, .box 0 0 0 0), (1, vi a1), (4, .box 4 1 0 0), (5, .box 5 3 0 0), (6, vi 0), (13, vb r6)], [(5, ⟨3, 35, 4, true, false, [eExpr r1.1]⟩), (0, ⟨0, 122, 4, true, false, [eReader r1.2]⟩), (4, ⟨1, 35, 4, true, false, [.agg [vi 0, vi 0, vw b0, .ps .nil []]]⟩)], 4⟩ ?_
    refine Cd r6 ?_ ?_
    · intro hb; replace h := ctrue hb h
      refine Rg hT 1 [0, 1, 4, 5, 6] ⟨[(0, .box 0 0 0 0), (1, vi a1), (4, .box 4 1 0 0), (5, .box 5 3 0 0), (6, vi 10)], [(5, ⟨3, 35, 4, true, false, [eExpr r1.1]⟩), (0, ⟨0, 122, 4, true, false, [eReader r1.2]⟩), (4, ⟨1, 35, 4, true, false, [.agg [vi 0, vi 0, vw b0, .ps .nil []]]⟩)], 4⟩ ?_
      exact oK [0, 1, 4, 5, 6] [(0, 0, 0), (4, 4, 1), (5, 5, 1)] ⟨b0, 10, h, rfl⟩
    intro hb; replace h := cfalse hb h
    exact sK [0, 1, 4, 5, 6] [(0, 0, 0), (4, 4, 1), (5, 5, 1)] ⟨b0, 0, h, rfl⟩
  subst hJ4
  rintro s ⟨w2, i3, h, rfl⟩
  refine WA_seq ?_
  refine Qz hT 2 [0, 1, 4, 5, 6, 17] ⟨[(0, .box 0 0 0 0), (1, vi a1), (4, .box 4 1 0 0), (5, .box 5 1 0 0), (6, vi i3), (17, vb (i3 == 0))], [(0, ⟨0, 122, 4, true, false, [eReader r1.2]⟩), (4, ⟨1, 35, 4, true, false, [.agg [vi 0, vi 0, vw w2, .ps .nil []]]⟩), (5, ⟨1, 35, 4, true, false, [eExpr r1.1]⟩)], 2⟩ ?_
  refine Cd (i3 == 0) ?_ ?_
  · intro hb; replace h := ctrue hb h
    refine Qz hT 2 [4] ⟨[(4, .box 4 1 0 0)], [(4, ⟨1, 35, 4, true, false, [eExpr r1.1]⟩), (0, ⟨0, 122, 4, true, false, [eReader r1.2]⟩), (5, ⟨1, 35, 4, true, false, [eExpr r1.1]⟩)], 2⟩ ?_
    obtain rfl := Option.some.inj h
    exact rK [4] [(0, 0, 0), (4, 1000, 1)] ⟨[(4, .box 1000 1 0 0)], [(0, ⟨0, 122, 4, true, false, [eReader r1.2]⟩), (1000, ⟨1, 35, 4, true, false, [eExpr r1.1]⟩)], 2⟩ ⟨by kernel_rfl, by kernel_rfl, rfl⟩
  intro hb; replace h := cfalse hb h
  refine WA_skip ?_
  refine Qz hT 8 [0, 1, 4, 5, 6] ⟨[(0, .box 0 0 0 0), (1, vi a1), (4, .box 4 1 0 0), (5, .box 5 1 0 0), (6, vi i3)], [(0, ⟨0, 122, 4, true, false, [.agg [.ps .opt (s117.F r1.2.T), vi (wr (r1.2.At + 1)), vb r1.2.Fail, vi r1.2.Bad]]⟩), (4, ⟨1, 35, 4, true, false, [.agg [vi 0, vi 0, vw w2, .ps .nil []]]⟩), (5, ⟨1, 35, 4, true, false, [eExpr r1.1]⟩)], 2⟩ ?_
  refine WA_seq ?_
  refine WA_drawW hT hM (by kernel_rfl) ?_
  refine WD_seg 4 ⟨[(29, vi a1), (28, .box 0 0 0 0), (27, eExpr r1.1), (26, vi i3), (0, .box 0 0 0 0), (1, vi a1), (4, .box 4 1 0 0), (5, .box 5 1 0 0), (6, vi i3)], [(0, ⟨0, 122, 4, true, false, [.agg [.ps .opt (s117.F r1.2.T), vi (wr (r1.2.At + 1)), vb r1.2.Fail, vi r1.2.Bad]]⟩), (4, ⟨1, 35, 4, true, false, [.agg [vi 0, vi 0, vw w2, .ps .nil []]]⟩), (5, ⟨1, 35, 4, true, false, [eExpr r1.1]⟩)], 2⟩ [] [(1, [5])] (by kernel_rfl) (by kernel_rfl) ?_
  obtain ⟨r7, hr7, h⟩ := bsome h
  refine WD_go rfl (by kernel_rfl) (by kernel_rfl) [(0, ⟨0, 122, 4, true, false, [eReader (Reader.mk r1.2.T (wr (r1.2.At + 1)) r1.2.Fail r1.2.Bad)]⟩)] [(0, ⟨0, 122, 4, true, false, [eReader r7.2]⟩)] [.box 0 0 0 0, vi a1] [.box 0 0 0 0, vi a1] [(0, 0, 0)] [(0, 0, 0)] [(0, ⟨0, 122, 4, true, false, [eReader r7.2]⟩)] (eExpr r7.1) (eExpr r7.1) 3 rfl (by kernel_rfl) en159 (by kernel_rfl) (by kernel_rfl) (by kernel_rfl) ((ih _ (by omega)).2.2.1 hr7) (by kernel_rfl) (by kernel_rfl) (by kernel_rfl) (by kernel_rfl) ?_
  obtain ⟨r8, hr8, h⟩ := bsome h
  refine WD_pt rfl (by kernel_rfl) (by kernel_rfl) [vi i3, eExpr r1.1, eExpr r7.1] (eExpr r8) rfl (by kernel_rfl) en160 (by kernel_rfl) (ref1_binary_ok hr8) (by kernel_rfl) ?_
  refine WD_seg 1 ⟨[(31, eExpr r8), (30, eExpr r7.1), (29, vi a1), (28, .box 0 0 0 0), (27, eExpr r1.1), (26, vi i3), (0, .box 0 0 0 0), (1, vi a1), (4, .box 4 1 0 0), (5, .box 5 1 0 0), (6, vi i3)], [(4, ⟨1, 35, 4, true, false, [eExpr r8]⟩), (0, ⟨0, 122, 4, true, false, [eReader r7.2]⟩), (5, ⟨1, 35, 4, true, false, [eExpr r1.1]⟩)], 3⟩ [(4, [0, 0]), (6, [4])] [(1, [5])] (by kernel_rfl) (by kernel_rfl) ?_
  refine WD_end (by kernel_rfl) (by kernel_rfl) (by kernel_rfl) ?_
  refine Wk_done ?_
  obtain rfl := Option.some.inj h
  exact rK [4] [(0, 0, 0), (4, 1000, 1)] ⟨[(4, .box 1000 1 0 0)], [(0, ⟨0, 122, 4, true, false, [eReader r7.2]⟩), (1000, ⟨1, 35, 4, true, false, [eExpr r8]⟩)], 2⟩ ⟨by kernel_rfl, by kernel_rfl, rfl⟩
theorem ref1_Reader_factor_all (n : Nat) : ref1_Reader_factor_spec n := by
  induction n using Nat.strongRecOn with
  | _ n ih => exact ⟨ref1_Reader_factor_step n ih, ref1_Reader_term_step n ih, ref1_Reader_sum_step n ih, ref1_Reader_expr_step n ih⟩
theorem ref1_Reader_factor_ok {n : Nat} {a0 : Reader} {a1 : Int} {r : Expr × Reader} (h : ref1_Reader_factor n a0 a1 = some r) : GO Try.prog 162 [(0, ⟨0, 122, 4, true, false, [eReader a0]⟩)] [.box 0 0 0 0, vi a1] (eExpr r.1) [(0, ⟨0, 122, 4, true, false, [eReader r.2]⟩)] := (ref1_Reader_factor_all n).1 h
theorem ref1_Reader_term_ok {n : Nat} {a0 : Reader} {a1 : Int} {r : Expr × Reader} (h : ref1_Reader_term n a0 a1 = some r) : GO Try.prog 161 [(0, ⟨0, 122, 4, true, false, [eReader a0]⟩)] [.box 0 0 0 0, vi a1] (eExpr r.1) [(0, ⟨0, 122, 4, true, false, [eReader r.2]⟩)] := (ref1_Reader_factor_all n).2.1 h
theorem ref1_Reader_sum_ok {n : Nat} {a0 : Reader} {a1 : Int} {r : Expr × Reader} (h : ref1_Reader_sum n a0 a1 = some r) : GO Try.prog 159 [(0, ⟨0, 122, 4, true, false, [eReader a0]⟩)] [.box 0 0 0 0, vi a1] (eExpr r.1) [(0, ⟨0, 122, 4, true, false, [eReader r.2]⟩)] := (ref1_Reader_factor_all n).2.2.1 h
theorem ref1_Reader_expr_ok {n : Nat} {a0 : Reader} {a1 : Int} {r : Expr × Reader} (h : ref1_Reader_expr n a0 a1 = some r) : GO Try.prog 158 [(0, ⟨0, 122, 4, true, false, [eReader a0]⟩)] [.box 0 0 0 0, vi a1] (eExpr r.1) [(0, ⟨0, 122, 4, true, false, [eReader r.2]⟩)] := (ref1_Reader_factor_all n).2.2.2 h

theorem ref1_Reader_whole_ok {n : Nat} {a0 : Reader} {a1 : ByteArray} {r : Expr × Reader} (h : ref1_Reader_whole n a0 a1 = some r) : GO Try.prog 151 [(0, ⟨0, 122, 4, true, false, [eReader a0]⟩)] [.box 0 0 0 0, vw a1] (eExpr r.1) [(0, ⟨0, 122, 4, true, false, [eReader r.2]⟩)] := by
  unfold ref1_Reader_whole at h
  refine GO_bodyA hT Try.func151 rfl [1000] (by kernel_rfl) fun bad w m => ?_
  refine Qz hT 1 [0, 4] ⟨[(0, .box 0 0 0 0), (4, .box 4 1 0 0)], [(4, ⟨1, 35, 4, true, false, [.agg [vi 0, vi 0, vw b0, .ps .nil []]]⟩), (0, ⟨0, 122, 4, true, false, [eReader a0]⟩)], 2⟩ ?_
  refine WA_seq ?_
  refine Qz hT 5 [0, 4, 9] ⟨[(0, .box 0 0 0 0), (4, .box 4 1 0 0), (9, vb (!a0.Fail))], [(4, ⟨1, 35, 4, true, false, [.agg [vi 0, vi 0, vw b0, .ps .nil []]]⟩), (0, ⟨0, 122, 4, true, false, [eReader a0]⟩)], 2⟩ ?_
  obtain ⟨J6, hJ6, h⟩ := jsome h
  refine WA_join (fun s => ∃ (i1 : Int), ∃ (i2 : Int), ∃ (w3 : ByteArray), ∃ (l4 : List Expr), ∃ (v5 : Reader), J6 i1 i2 w3 l4 v5 = some r ∧ s = ⟨[(4, .box 4 1 0 0)], [(0, ⟨0, 122, 4, true, false, [eReader v5]⟩), (4, ⟨1, 35, 4, true, false, [.agg [vi i1, vi i2, vw w3, .ps .opt (s33.F l4)]]⟩)], 2⟩) ?_ ?_
  · refine Cd (!a0.Fail) ?_ ?_
    · intro hb; replace h := ctrue hb h
      refine Rg hT 1 [4, 10] ⟨[(4, .box 4 1 0 0), (10, .box 0 0 0 0)], [(4, ⟨1, 35, 4, true, false, [.agg [vi 0, vi 0, vw b0, .ps .nil []]]⟩), (0, ⟨0, 122, 4, true, false, [eReader a0]⟩)], 2⟩ ?_
      obtain ⟨r7, hr7, h⟩ := bsome h
      refine WO_go rfl (by kernel_rfl) [(0, ⟨0, 122, 4, true, false, [eReader a0]⟩)] [(0, ⟨0, 122, 4, true, false, [eReader r7.2]⟩)] [.box 0 0 0 0, vi 0] [.box 0 0 0 0, vi 0] [(0, 0, 0)] [(0, 0, 0)] [(0, ⟨0, 122, 4, true, false, [eReader r7.2]⟩)] (eExpr r7.1) (eExpr r7.1) 3 rfl (by kernel_rfl) en158 (by kernel_rfl) (by kernel_rfl) (by kernel_rfl) (ref1_Reader_expr_ok hr7) (by kernel_rfl) (by kernel_rfl) (by kernel_rfl) (by kernel_rfl) ?_
      refine Sg hT 1 [4] ⟨[(4, .box 4 1 0 0)], [(4, ⟨1, 35, 4, true, false, [eExpr r7.1]⟩), (0, ⟨0, 122, 4, true, false, [eReader r7.2]⟩)], 3⟩ ?_
      exact oK [4] [(0, 0, 0), (4, 4, 1)] ⟨r7.1.Kind, r7.1.N, r7.1.Name, r7.1.Of, r7.2, h, rfl⟩
    intro hb; replace h := cfalse hb h
    refine aW [4] ⟨[(4, .box 4 1 0 0)], [(4, ⟨1, 35, 4, true, false, [.agg [vi 0, vi 0, vw b0, .ps .nil []]]⟩), (0, ⟨0, 122, 4, true, false, [eReader a0]⟩)], 2⟩ ?_
    refine WA_weak (Weak_leH [(4, .box 4 1 0 0)] [(4, ⟨1, 35, 4, true, false, [.agg [vi 0, vi 0, vw b0, .ps .opt (s33.F [])]]⟩), (0, ⟨0, 122, 4, true, false, [eReader a0]⟩)] (by kernel_rfl) ⟨VLf.refl _, trivial⟩ ⟨rfl, .inr (.inl ⟨rfl, rfl, CLe.agg ⟨VLf.refl _, VLf.refl _, VLf.refl _, (VLe.f VLe.nil_opt rfl), trivial⟩, trivial⟩), rfl, .inl rfl, trivial⟩) ?_
    exact sR [(0, 0, 0), (4, 4, 1)] ⟨0, 0, b0, [], a0, h, rfl⟩
  subst hJ6
  rintro s ⟨i1, i2, w3, l4, v5, h, rfl⟩
  refine Qz hT 2 [4] ⟨[(4, .box 4 1 0 0)], [(4, ⟨1, 35, 4, true, false, [.agg [vi i1, vi i2, vw w3, .ps .opt (s33.F l4)]]⟩), (0, ⟨0, 122, 4, true, false, [eReader v5]⟩)], 2⟩ ?_
  refine aW [4] ⟨[(4, .box 4 1 0 0)], [(4, ⟨1, 35, 4, true, false, [.agg [vi i1, vi i2, vw w3, .ps .opt (s33.F l4)]]⟩), (0, ⟨0, 122, 4, true, false, [eReader v5]⟩)], 2⟩ ?_
  refine WA_weak (Weak_leH [(4, .box 4 1 0 0)] [(4, ⟨1, 35, 4, true, false, [eExpr (Expr.mk i1 i2 w3 l4)]⟩), (0, ⟨0, 122, 4, true, false, [eReader v5]⟩)] (by kernel_rfl) ⟨VLf.refl _, trivial⟩ ⟨rfl, .inr (.inl ⟨rfl, rfl, CLe.agg ⟨VLf.refl _, VLf.refl _, VLf.refl _, VLf.refl _, trivial⟩, trivial⟩), rfl, .inl rfl, trivial⟩) ?_
  obtain rfl := Option.some.inj h
  exact rR [(0, 0, 0), (4, 1000, 1)] ⟨[(4, .box 1000 1 0 0)], [(0, ⟨0, 122, 4, true, false, [eReader v5]⟩), (1000, ⟨1, 35, 4, true, false, [eExpr (Expr.mk i1 i2 w3 l4)]⟩)], 2⟩ ⟨by kernel_rfl, by kernel_rfl, rfl⟩

def ref1_Reader_stmt_spec (n : Nat) : Prop := (∀ {a0 : Reader} {a1 : ByteArray} {a2 : Int} {r : Stmt × Reader}, ref1_Reader_stmt n a0 a1 a2 = some r → GO Try.prog 134 [(0, ⟨0, 122, 4, true, false, [eReader a0]⟩)] [.box 0 0 0 0, vw a1, vi a2] (eStmt r.1) [(0, ⟨0, 122, 4, true, false, [eReader r.2]⟩)]) ∧ (∀ {a0 : Reader} {a1 : ByteArray} {a2 : Int} {r : (List Stmt) × Reader}, ref1_Reader_block n a0 a1 a2 = some r → GO Try.prog 107 [(0, ⟨0, 122, 4, true, false, [eReader a0]⟩)] [.box 0 0 0 0, vw a1, vi a2] (vo 100 1 (s32.F r.1)) [(0, ⟨0, 122, 4, true, false, [eReader r.2]⟩), (100, ⟨1, 38, 11, false, true, s32.F r.1⟩)])
theorem ref1_Reader_stmt_step (n : Nat) (ih : ∀ m, m < n → ref1_Reader_stmt_spec m) : ∀ {a0 : Reader} {a1 : ByteArray} {a2 : Int} {r : Stmt × Reader}, ref1_Reader_stmt n a0 a1 a2 = some r → GO Try.prog 134 [(0, ⟨0, 122, 4, true, false, [eReader a0]⟩)] [.box 0 0 0 0, vw a1, vi a2] (eStmt r.1) [(0, ⟨0, 122, 4, true, false, [eReader r.2]⟩)] := by
  intro a0 a1 a2 r h
  rcases n with _ | n
  · rw [ref1_Reader_stmt] at h; cases h
  rw [ref1_Reader_stmt] at h
  refine GO_bodyA hT Try.func134 rfl [1000] (by kernel_rfl) fun bad w m => ?_
  refine Qz hT 1 [0, 1, 2, 6] ⟨[(0, .box 0 0 0 0), (1, vw a1), (2, vi a2), (6, .box 6 1 0 0)], [(6, ⟨1, 38, 11, true, false, [.agg [vi 0, vw b0, vw b0, vi 0, vi 0, vi 0, vw b0, .ps .nil [], .ps .nil [], .ps .nil [], vz c0]]⟩), (0, ⟨0, 122, 4, true, false, [eReader a0]⟩)], 2⟩ ?_
  refine WA_seq ?_
  refine WA_drawW hT hM (by kernel_rfl) ?_
  refine WD_seg 8 ⟨[(16, vi a0.At), (15, .box 0 0 0 1), (14, .box 0 0 0 0), (13, .box 0 0 0 0), (12, .ps .opt (s117.F a0.T)), (11, .box 0 0 0 0), (10, .box 0 0 0 0), (9, .box 0 0 0 0), (0, .box 0 0 0 0), (1, vw a1), (2, vi a2), (6, .box 6 1 0 0)], [(6, ⟨1, 38, 11, true, false, [.agg [vi 0, vw b0, vw b0, vi 0, vi 0, vi 0, vw b0, .ps .nil [], .ps .nil [], .ps .nil [], vz c0]]⟩), (0, ⟨0, 122, 4, true, false, [eReader a0]⟩)], 2⟩ [] [(1, [0]), (2, [0]), (3, [0]), (5, [0]), (6, [0]), (7, [0])] (by kernel_rfl) (by kernel_rfl) ?_
  obtain ⟨x1, hx1, h⟩ := bsome h
  refine WD_loc rfl (by kernel_rfl) (by kernel_rfl) (by kernel_rfl) (ev_index s117 .opt a0.T .i64 a0.At hx1 (by decide) (by kernel_rfl) (by kernel_rfl)) (by kernel_rfl) ?_
  refine WD_seg 3 ⟨[(7, .box 7 2 0 0), (18, eToken x1), (17, .ref (eToken x1) 0), (16, vi a0.At), (15, .box 0 0 0 1), (14, .box 0 0 0 0), (13, .box 0 0 0 0), (12, .ps .opt (s117.F a0.T)), (11, .box 0 0 0 0), (10, .box 0 0 0 0), (9, .box 0 0 0 0), (0, .box 0 0 0 0), (1, vw a1), (2, vi a2), (6, .box 6 1 0 0)], [(7, ⟨2, 124, 4, true, false, [eToken x1]⟩), (6, ⟨1, 38, 11, true, false, [.agg [vi 0, vw b0, vw b0, vi 0, vi 0, vi 0, vw b0, .ps .nil [], .ps .nil [], .ps .nil [], vz c0]]⟩), (0, ⟨0, 122, 4, true, false, [eReader a0]⟩)], 3⟩ [(10, [7]), (11, [7])] [(1, [0]), (2, [0]), (3, [0]), (5, [0]), (6, [0]), (7, [0])] (by kernel_rfl) (by kernel_rfl) ?_
  refine WD_end (by kernel_rfl) (by kernel_rfl) (by kernel_rfl) ?_
  refine Wk_done ?_
  refine Qg hT 3 [0, 1, 2, 6, 7, 19, 21] ⟨[(0, .box 0 0 0 0), (1, vw a1), (2, vi a2), (6, .box 6 1 0 0), (7, .box 7 2 0 0), (19, vw a1), (21, vi x1.At)], [(7, ⟨2, 124, 4, true, false, [eToken x1]⟩), (6, ⟨1, 38, 11, true, false, [.agg [vi 0, vw b0, vw b0, vi 0, vi 0, vi 0, vw b0, .ps .nil [], .ps .nil [], .ps .nil [], vz c0]]⟩), (0, ⟨0, 122, 4, true, false, [eReader a0]⟩)], 3⟩ ?_
  obtain ⟨r2, hr2, h⟩ := bsome h
  refine Pt en28 (ref1_Place_ok hr2) ?_
  refine Sz hT 3 [0, 1, 2, 6, 7, 8] ⟨[(0, .box 0 0 0 0), (1, vw a1), (2, vi a2), (6, .box 6 1 0 0), (7, .box 7 2 0 0), (8, .box 8 3 0 0)], [(8, ⟨3, 38, 11, true, false, [.agg [vi 0, vw b0, vw b0, vi 0, vi 0, vi 0, vw b0, .ps .nil [], .ps .nil [], .ps .nil [], vz r2]]⟩), (7, ⟨2, 124, 4, true, false, [eToken x1]⟩), (6, ⟨1, 38, 11, true, false, [.agg [vi 0, vw b0, vw b0, vi 0, vi 0, vi 0, vw b0, .ps .nil [], .ps .nil [], .ps .nil [], vz c0]]⟩), (0, ⟨0, 122, 4, true, false, [eReader a0]⟩)], 4⟩ ?_
  refine WA_seq ?_
  refine Qz hT 3 [0, 1, 2, 6, 7, 8, 26] ⟨[(0, .box 0 0 0 0), (1, vw a1), (2, vi a2), (6, .box 6 1 0 0), (7, .box 7 2 0 0), (8, .box 8 3 0 0), (26, vb (x1.Kind != 1))], [(8, ⟨3, 38, 11, true, false, [.agg [vi 0, vw b0, vw b0, vi 0, vi 0, vi 0, vw b0, .ps .nil [], .ps .nil [], .ps .nil [], vz r2]]⟩), (7, ⟨2, 124, 4, true, false, [eToken x1]⟩), (6, ⟨1, 38, 11, true, false, [.agg [vi 0, vw b0, vw b0, vi 0, vi 0, vi 0, vw b0, .ps .nil [], .ps .nil [], .ps .nil [], vz c0]]⟩), (0, ⟨0, 122, 4, true, false, [eReader a0]⟩)], 4⟩ ?_
  refine Cd (x1.Kind != 1) ?_ ?_
  · intro hb; replace h := ctrue hb h
    refine Qg hT 1 [6, 8, 27] ⟨[(6, .box 6 1 0 0), (8, .box 8 3 0 0), (27, .box 0 0 0 0)], [(8, ⟨3, 38, 11, true, false, [.agg [vi 0, vw b0, vw b0, vi 0, vi 0, vi 0, vw b0, .ps .nil [], .ps .nil [], .ps .nil [], vz r2]]⟩), (7, ⟨2, 124, 4, true, false, [eToken x1]⟩), (6, ⟨1, 38, 11, true, false, [.agg [vi 0, vw b0, vw b0, vi 0, vi 0, vi 0, vw b0, .ps .nil [], .ps .nil [], .ps .nil [], vz c0]]⟩), (0, ⟨0, 122, 4, true, false, [eReader a0]⟩)], 4⟩ ?_
    obtain ⟨r3, hr3, h⟩ := bsome h
    refine WO_go rfl (by kernel_rfl) [(0, ⟨0, 122, 4, true, false, [eReader a0]⟩)] [(0, ⟨0, 122, 4, true, false, [eReader r3]⟩)] [.box 0 0 0 0] [.box 0 0 0 0] [(0, 0, 0)] [(0, 0, 0)] [(0, ⟨0, 122, 4, true, false, [eReader r3]⟩)] (.tup []) (.tup []) 5 rfl (by kernel_rfl) en103 (by kernel_rfl) (by kernel_rfl) (by kernel_rfl) (ref1_Reader_fail_ok hr3) (by kernel_rfl) (by kernel_rfl) (by kernel_rfl) (by kernel_rfl) ?_
    refine Sz hT 0 [6, 8] ⟨[(6, .box 6 1 0 0), (8, .box 8 3 0 0)], [(0, ⟨0, 122, 4, true, false, [eReader r3]⟩), (8, ⟨3, 38, 11, true, false, [.agg [vi 0, vw b0, vw b0, vi 0, vi 0, vi 0, vw b0, .ps .nil [], .ps .nil [], .ps .nil [], vz r2]]⟩), (7, ⟨2, 124, 4, true, false, [eToken x1]⟩), (6, ⟨1, 38, 11, true, false, [.agg [vi 0, vw b0, vw b0, vi 0, vi 0, vi 0, vw b0, .ps .nil [], .ps .nil [], .ps .nil [], vz c0]]⟩)], 5⟩ ?_
    refine Qz hT 2 [6] ⟨[(6, .box 6 1 0 0)], [(6, ⟨1, 38, 11, true, false, [.agg [vi 0, vw b0, vw b0, vi 0, vi 0, vi 0, vw b0, .ps .nil [], .ps .nil [], .ps .nil [], vz r2]]⟩), (0, ⟨0, 122, 4, true, false, [eReader r3]⟩), (8, ⟨3, 38, 11, true, false, [.agg [vi 0, vw b0, vw b0, vi 0, vi 0, vi 0, vw b0, .ps .nil [], .ps .nil [], .ps .nil [], vz r2]]⟩), (7, ⟨2, 124, 4, true, false, [eToken x1]⟩)], 5⟩ ?_
    refine aW [6] ⟨[(6, .box 6 1 0 0)], [(6, ⟨1, 38, 11, true, false, [.agg [vi 0, vw b0, vw b0, vi 0, vi 0, vi 0, vw b0, .ps .nil [], .ps .nil [], .ps .nil [], vz r2]]⟩), (0, ⟨0, 122, 4, true, false, [eReader r3]⟩), (8, ⟨3, 38, 11, true, false, [.agg [vi 0, vw b0, vw b0, vi 0, vi 0, vi 0, vw b0, .ps .nil [], .ps .nil [], .ps .nil [], vz r2]]⟩), (7, ⟨2, 124, 4, true, false, [eToken x1]⟩)], 5⟩ ?_
    refine WA_weak (Weak_leH [(6, .box 6 1 0 0)] [(6, ⟨1, 38, 11, true, false, [eStmt (Stmt.mk 0 b0 b0 0 (Expr.mk 0 0 b0 []) [] [] r2)]⟩), (0, ⟨0, 122, 4, true, false, [eReader r3]⟩), (8, ⟨3, 38, 11, true, false, [.agg [vi 0, vw b0, vw b0, vi 0, vi 0, vi 0, vw b0, .ps .nil [], .ps .nil [], .ps .nil [], vz r2]]⟩), (7, ⟨2, 124, 4, true, false, [eToken x1]⟩)] (by kernel_rfl) ⟨VLf.refl _, trivial⟩ ⟨rfl, .inr (.inl ⟨rfl, rfl, CLe.agg ⟨VLf.refl _, VLf.refl _, VLf.refl _, VLf.refl _, VLf.refl _, VLf.refl _, VLf.refl _, (VLe.f VLe.nil_opt rfl), (VLe.f VLe.nil_opt rfl), (VLe.f VLe.nil_opt rfl), VLf.refl _, trivial⟩, trivial⟩), rfl, .inl rfl, rfl, .inl rfl, rfl, .inl rfl, trivial⟩) ?_
    obtain rfl := Option.some.inj h
    exact rR [(0, 0, 0), (6, 1000, 1)] ⟨[(6, .box 1000 1 0 0)], [(0, ⟨0, 122, 4, true, false, [eReader r3]⟩), (1000, ⟨1, 38, 11, true, false, [eStmt (Stmt.mk 0 b0 b0 0 (Expr.mk 0 0 b0 []) [] [] r2)]⟩)], 2⟩ ⟨by kernel_rfl, by kernel_rfl, rfl⟩
  intro hb; replace h := cfalse hb h
  refine WA_skip ?_
  refine Qz hT 8 [0, 1, 2, 6, 7, 8] ⟨[(0, .box 0 0 0 0), (1, vw a1), (2, vi a2), (6, .box 6 1 0 0), (7, .box 7 2 0 0), (8, .box 8 3 0 0)], [(0, ⟨0, 122, 4, true, false, [.agg [.ps .opt (s117.F a0.T), vi (wr (a0.At + 1)), vb a0.Fail, vi a0.Bad]]⟩), (8, ⟨3, 38, 11, true, false, [.agg [vi 0, vw b0, vw b0, vi 0, vi 0, vi 0, vw b0, .ps .nil [], .ps .nil [], .ps .nil [], vz r2]]⟩), (7, ⟨2, 124, 4, true, false, [eToken x1]⟩), (6, ⟨1, 38, 11, true, false, [.agg [vi 0, vw b0, vw b0, vi 0, vi 0, vi 0, vw b0, .ps .nil [], .ps .nil [], .ps .nil [], vz c0]]⟩)], 4⟩ ?_
  refine WA_seq ?_
  refine Qz hT 2 [0, 1, 2, 6, 7, 8, 38] ⟨[(0, .box 0 0 0 0), (1, vw a1), (2, vi a2), (6, .box 6 1 0 0), (7, .box 7 2 0 0), (8, .box 8 3 0 0), (38, vw x1.Text)], [(0, ⟨0, 122, 4, true, false, [.agg [.ps .opt (s117.F a0.T), vi (wr (a0.At + 1)), vb a0.Fail, vi a0.Bad]]⟩), (8, ⟨3, 38, 11, true, false, [.agg [vi 0, vw b0, vw b0, vi 0, vi 0, vi 0, vw b0, .ps .nil [], .ps .nil [], .ps .nil [], vz r2]]⟩), (7, ⟨2, 124, 4, true, false, [eToken x1]⟩), (6, ⟨1, 38, 11, true, false, [.agg [vi 0, vw b0, vw b0, vi 0, vi 0, vi 0, vw b0, .ps .nil [], .ps .nil [], .ps .nil [], vz c0]]⟩)], 4⟩ ?_
  obtain ⟨J18, hJ18, h⟩ := jsome h
  refine WA_join (fun s => ∃ (w4 : ByteArray), ∃ (w5 : ByteArray), ∃ (w6 : ByteArray), ∃ (i7 : Int), ∃ (w8 : ByteArray), ∃ (w9 : ByteArray), ∃ (i10 : Int), ∃ (i11 : Int), ∃ (i12 : Int), ∃ (w13 : ByteArray), ∃ (l14 : List Expr), ∃ (l15 : List Stmt), ∃ (l16 : List Stmt), ∃ (v17 : Reader), J18 w4 w5 w6 i7 w8 w9 i10 i11 i12 w13 l14 l15 l16 v17 = some r ∧ s = ⟨[(6, .box 6 1 0 0), (8, .box 8 1 0 0)], [(0, ⟨0, 122, 4, true, false, [eReader v17]⟩), (6, ⟨1, 38, 11, true, false, [.agg [vi 0, vw w4, vw w5, vi 0, vi 0, vi 0, vw w6, .ps .nil [], .ps .nil [], .ps .nil [], vz c0]]⟩), (8, ⟨1, 38, 11, true, false, [.agg [vi i7, vw w8, vw w9, vi i10, vi i11, vi i12, vw w13, .ps .opt (s33.F l14), vo 19508 1 (s32.F l15), vo 20508 1 (s32.F l16), vz r2]]⟩), (19508, ⟨1, 38, 11, false, true, s32.F l15⟩), (20508, ⟨1, 38, 11, false, true, s32.F l16⟩)], 2⟩) ?_ ?_
  · refine WA_block ?_
    refine WA_seq ?_
    refine Qz hT 2 [0, 1, 2, 6, 7, 8, 38, 60] ⟨[(0, .box 0 0 0 0), (1, vw a1), (2, vi a2), (6, .box 6 1 0 0), (7, .box 7 2 0 0), (8, .box 8 3 0 0), (38, vw x1.Text), (60, vb (bytesEq x1.Text k_lock))], [(0, ⟨0, 122, 4, true, false, [.agg [.ps .opt (s117.F a0.T), vi (wr (a0.At + 1)), vb a0.Fail, vi a0.Bad]]⟩), (8, ⟨3, 38, 11, true, false, [.agg [vi 0, vw b0, vw b0, vi 0, vi 0, vi 0, vw b0, .ps .nil [], .ps .nil [], .ps .nil [], vz r2]]⟩), (7, ⟨2, 124, 4, true, false, [eToken x1]⟩), (6, ⟨1, 38, 11, true, false, [.agg [vi 0, vw b0, vw b0, vi 0, vi 0, vi 0, vw b0, .ps .nil [], .ps .nil [], .ps .nil [], vz c0]]⟩)], 4⟩ ?_
    obtain ⟨J26, hJ26, h⟩ := jsome h
    refine WA_join (fun s => ∃ (w19 : ByteArray), ∃ (w20 : ByteArray), ∃ (w21 : ByteArray), ∃ (w22 : ByteArray), ∃ (w23 : ByteArray), ∃ (w24 : ByteArray), ∃ (b25 : Bool), J26 w19 w20 w21 w22 w23 w24 b25 = some r ∧ s = ⟨[(0, .box 0 0 0 0), (1, vw a1), (2, vi a2), (6, .box 6 1 0 0), (7, .box 7 1 0 0), (8, .box 8 1 0 0), (38, vw x1.Text), (60, vb b25)], [(0, ⟨0, 122, 4, true, false, [.agg [.ps .opt (s117.F a0.T), vi (wr (a0.At + 1)), vb a0.Fail, vi a0.Bad]]⟩), (6, ⟨1, 38, 11, true, false, [.agg [vi 0, vw w19, vw w20, vi 0, vi 0, vi 0, vw w21, .ps .nil [], .ps .nil [], .ps .nil [], vz c0]]⟩), (7, ⟨1, 124, 4, true, false, [eToken x1]⟩), (8, ⟨1, 38, 11, true, false, [.agg [vi 0, vw w22, vw w23, vi 0, vi 0, vi 0, vw w24, .ps .nil [], .ps .nil [], .ps .nil [], vz r2]]⟩)], 2⟩) ?_ ?_
    · refine Cd (bytesEq x1.Text k_lock) ?_ ?_
      · intro hb; replace h := ctrue hb h
        exact sK [0, 1, 2, 6, 7, 8, 38, 60] [(0, 0, 0), (6, 6, 1), (7, 7, 1), (8, 8, 1)] ⟨b0, b0, b0, b0, b0, b0, bytesEq x1.Text k_lock, h, rfl⟩
      intro hb; replace h := cfalse hb h
      refine Qz hT 2 [0, 1, 2, 6, 7, 8, 38, 60] ⟨[(0, .box 0 0 0 0), (1, vw a1), (2, vi a2), (6, .box 6 1 0 0), (7, .box 7 2 0 0), (8, .box 8 3 0 0), (38, vw x1.Text), (60, vb (bytesEq x1.Text k_unlock))], [(0, ⟨0, 122, 4, true, false, [.agg [.ps .opt (s117.F a0.T), vi (wr (a0.At + 1)), vb a0.Fail, vi a0.Bad]]⟩), (8, ⟨3, 38, 11, true, false, [.agg [vi 0, vw b0, vw b0, vi 0, vi 0, vi 0, vw b0, .ps .nil [], .ps .nil [], .ps .nil [], vz r2]]⟩), (7, ⟨2, 124, 4, true, false, [eToken x1]⟩), (6, ⟨1, 38, 11, true, false, [.agg [vi 0, vw b0, vw b0, vi 0, vi 0, vi 0, vw b0, .ps .nil [], .ps .nil [], .ps .nil [], vz c0]]⟩)], 4⟩ ?_
      refine Cd (bytesEq x1.Text k_unlock) ?_ ?_
      · intro hb; replace h := ctrue hb h
        exact sK [0, 1, 2, 6, 7, 8, 38, 60] [(0, 0, 0), (6, 6, 1), (7, 7, 1), (8, 8, 1)] ⟨b0, b0, b0, b0, b0, b0, bytesEq x1.Text k_unlock, h, rfl⟩
      intro hb; replace h := cfalse hb h
      refine Qz hT 2 [0, 1, 2, 6, 7, 8, 38, 60] ⟨[(0, .box 0 0 0 0), (1, vw a1), (2, vi a2), (6, .box 6 1 0 0), (7, .box 7 2 0 0), (8, .box 8 3 0 0), (38, vw x1.Text), (60, vb (bytesEq x1.Text k_goto))], [(0, ⟨0, 122, 4, true, false, [.agg [.ps .opt (s117.F a0.T), vi (wr (a0.At + 1)), vb a0.Fail, vi a0.Bad]]⟩), (8, ⟨3, 38, 11, true, false, [.agg [vi 0, vw b0, vw b0, vi 0, vi 0, vi 0, vw b0, .ps .nil [], .ps .nil [], .ps .nil [], vz r2]]⟩), (7, ⟨2, 124, 4, true, false, [eToken x1]⟩), (6, ⟨1, 38, 11, true, false, [.agg [vi 0, vw b0, vw b0, vi 0, vi 0, vi 0, vw b0, .ps .nil [], .ps .nil [], .ps .nil [], vz c0]]⟩)], 4⟩ ?_
      refine Cd (bytesEq x1.Text k_goto) ?_ ?_
      · intro hb; replace h := ctrue hb h
        exact sK [0, 1, 2, 6, 7, 8, 38, 60] [(0, 0, 0), (6, 6, 1), (7, 7, 1), (8, 8, 1)] ⟨b0, b0, b0, b0, b0, b0, bytesEq x1.Text k_goto, h, rfl⟩
      intro hb; replace h := cfalse hb h
      refine Rg hT 2 [0, 1, 2, 6, 7, 8, 38, 60] ⟨[(0, .box 0 0 0 0), (1, vw a1), (2, vi a2), (6, .box 6 1 0 0), (7, .box 7 2 0 0), (8, .box 8 3 0 0), (38, vw x1.Text), (60, vb (bytesEq x1.Text k_label))], [(0, ⟨0, 122, 4, true, false, [.agg [.ps .opt (s117.F a0.T), vi (wr (a0.At + 1)), vb a0.Fail, vi a0.Bad]]⟩), (8, ⟨3, 38, 11, true, false, [.agg [vi 0, vw b0, vw b0, vi 0, vi 0, vi 0, vw b0, .ps .nil [], .ps .nil [], .ps .nil [], vz r2]]⟩), (7, ⟨2, 124, 4, true, false, [eToken x1]⟩), (6, ⟨1, 38, 11, true, false, [.agg [vi 0, vw b0, vw b0, vi 0, vi 0, vi 0, vw b0, .ps .nil [], .ps .nil [], .ps .nil [], vz c0]]⟩)], 4⟩ ?_
      exact oK [0, 1, 2, 6, 7, 8, 38, 60] [(0, 0, 0), (6, 6, 1), (7, 7, 1), (8, 8, 1)] ⟨b0, b0, b0, b0, b0, b0, bytesEq x1.Text k_label, h, rfl⟩
    subst hJ26
    rintro s ⟨w19, w20, w21, w22, w23, w24, b25, h, rfl⟩
    skip
    refine Cd b25 ?_ ?_
    · intro hb; replace h := ctrue hb h
      refine Qz hT 2 [0, 6, 7, 8] ⟨[(0, .box 0 0 0 0), (6, .box 6 1 0 0), (7, .box 7 1 0 0), (8, .box 8 1 0 0)], [(8, ⟨1, 38, 11, true, false, [.agg [vi 2, vw w22, vw w23, vi 0, vi 0, vi 0, vw w24, .ps .nil [], .ps .nil [], .ps .nil [], vz r2]]⟩), (0, ⟨0, 122, 4, true, false, [.agg [.ps .opt (s117.F a0.T), vi (wr (a0.At + 1)), vb a0.Fail, vi a0.Bad]]⟩), (6, ⟨1, 38, 11, true, false, [.agg [vi 0, vw w19, vw w20, vi 0, vi 0, vi 0, vw w21, .ps .nil [], .ps .nil [], .ps .nil [], vz c0]]⟩), (7, ⟨1, 124, 4, true, false, [eToken x1]⟩)], 2⟩ ?_
      refine WA_seq ?_
      refine Qz hT 2 [0, 6, 8, 67] ⟨[(0, .box 0 0 0 0), (6, .box 6 1 0 0), (8, .box 8 1 0 0), (67, vw x1.Text)], [(8, ⟨1, 38, 11, true, false, [.agg [vi 2, vw w22, vw w23, vi 0, vi 0, vi 0, vw w24, .ps .nil [], .ps .nil [], .ps .nil [], vz r2]]⟩), (0, ⟨0, 122, 4, true, false, [.agg [.ps .opt (s117.F a0.T), vi (wr (a0.At + 1)), vb a0.Fail, vi a0.Bad]]⟩), (6, ⟨1, 38, 11, true, false, [.agg [vi 0, vw w19, vw w20, vi 0, vi 0, vi 0, vw w21, .ps .nil [], .ps .nil [], .ps .nil [], vz c0]]⟩), (7, ⟨1, 124, 4, true, false, [eToken x1]⟩)], 2⟩ ?_
      obtain ⟨J28, hJ28, h⟩ := jsome h
      refine WA_join (fun s => ∃ (i27 : Int), J28 i27 = some r ∧ s = ⟨[(0, .box 0 0 0 0), (6, .box 6 1 0 0), (8, .box 8 1 0 0)], [(0, ⟨0, 122, 4, true, false, [.agg [.ps .opt (s117.F a0.T), vi (wr (a0.At + 1)), vb a0.Fail, vi a0.Bad]]⟩), (6, ⟨1, 38, 11, true, false, [.agg [vi 0, vw w19, vw w20, vi 0, vi 0, vi 0, vw w21, .ps .nil [], .ps .nil [], .ps .nil [], vz c0]]⟩), (8, ⟨1, 38, 11, true, false, [.agg [vi i27, vw w22, vw w23, vi 0, vi 0, vi 0, vw w24, .ps .nil [], .ps .nil [], .ps .nil [], vz r2]]⟩)], 2⟩) ?_ ?_
      · refine WA_block ?_
        refine Qz hT 2 [0, 6, 8, 67, 68] ⟨[(0, .box 0 0 0 0), (6, .box 6 1 0 0), (8, .box 8 1 0 0), (67, vw x1.Text), (68, vb (bytesEq x1.Text k_unlock))], [(8, ⟨1, 38, 11, true, false, [.agg [vi 2, vw w22, vw w23, vi 0, vi 0, vi 0, vw w24, .ps .nil [], .ps .nil [], .ps .nil [], vz r2]]⟩), (0, ⟨0, 122, 4, true, false, [.agg [.ps .opt (s117.F a0.T), vi (wr (a0.At + 1)), vb a0.Fail, vi a0.Bad]]⟩), (6, ⟨1, 38, 11, true, false, [.agg [vi 0, vw w19, vw w20, vi 0, vi 0, vi 0, vw w21, .ps .nil [], .ps .nil [], .ps .nil [], vz c0]]⟩), (7, ⟨1, 124, 4, true, false, [eToken x1]⟩)], 2⟩ ?_
        refine Cd (bytesEq x1.Text k_unlock) ?_ ?_
        · intro hb; replace h := ctrue hb h
          refine Rg hT 2 [0, 6, 8] ⟨[(0, .box 0 0 0 0), (6, .box 6 1 0 0), (8, .box 8 1 0 0)], [(8, ⟨1, 38, 11, true, false, [.agg [vi 3, vw w22, vw w23, vi 0, vi 0, vi 0, vw w24, .ps .nil [], .ps .nil [], .ps .nil [], vz r2]]⟩), (0, ⟨0, 122, 4, true, false, [.agg [.ps .opt (s117.F a0.T), vi (wr (a0.At + 1)), vb a0.Fail, vi a0.Bad]]⟩), (6, ⟨1, 38, 11, true, false, [.agg [vi 0, vw w19, vw w20, vi 0, vi 0, vi 0, vw w21, .ps .nil [], .ps .nil [], .ps .nil [], vz c0]]⟩), (7, ⟨1, 124, 4, true, false, [eToken x1]⟩)], 2⟩ ?_
          exact oK [0, 6, 8] [(0, 0, 0), (6, 6, 1), (8, 8, 1)] ⟨3, h, rfl⟩
        intro hb; replace h := cfalse hb h
        refine Qz hT 2 [0, 6, 8, 67, 71] ⟨[(0, .box 0 0 0 0), (6, .box 6 1 0 0), (8, .box 8 1 0 0), (67, vw x1.Text), (71, vb (bytesEq x1.Text k_goto))], [(8, ⟨1, 38, 11, true, false, [.agg [vi 2, vw w22, vw w23, vi 0, vi 0, vi 0, vw w24, .ps .nil [], .ps .nil [], .ps .nil [], vz r2]]⟩), (0, ⟨0, 122, 4, true, false, [.agg [.ps .opt (s117.F a0.T), vi (wr (a0.At + 1)), vb a0.Fail, vi a0.Bad]]⟩), (6, ⟨1, 38, 11, true, false, [.agg [vi 0, vw w19, vw w20, vi 0, vi 0, vi 0, vw w21, .ps .nil [], .ps .nil [], .ps .nil [], vz c0]]⟩), (7, ⟨1, 124, 4, true, false, [eToken x1]⟩)], 2⟩ ?_
        refine Cd (bytesEq x1.Text k_goto) ?_ ?_
        · intro hb; replace h := ctrue hb h
          refine Rg hT 2 [0, 6, 8] ⟨[(0, .box 0 0 0 0), (6, .box 6 1 0 0), (8, .box 8 1 0 0)], [(8, ⟨1, 38, 11, true, false, [.agg [vi 9, vw w22, vw w23, vi 0, vi 0, vi 0, vw w24, .ps .nil [], .ps .nil [], .ps .nil [], vz r2]]⟩), (0, ⟨0, 122, 4, true, false, [.agg [.ps .opt (s117.F a0.T), vi (wr (a0.At + 1)), vb a0.Fail, vi a0.Bad]]⟩), (6, ⟨1, 38, 11, true, false, [.agg [vi 0, vw w19, vw w20, vi 0, vi 0, vi 0, vw w21, .ps .nil [], .ps .nil [], .ps .nil [], vz c0]]⟩), (7, ⟨1, 124, 4, true, false, [eToken x1]⟩)], 2⟩ ?_
          exact oK [0, 6, 8] [(0, 0, 0), (6, 6, 1), (8, 8, 1)] ⟨9, h, rfl⟩
        intro hb; replace h := cfalse hb h
        refine Qz hT 2 [0, 6, 8, 74] ⟨[(0, .box 0 0 0 0), (6, .box 6 1 0 0), (8, .box 8 1 0 0), (74, vb (bytesEq x1.Text k_label))], [(8, ⟨1, 38, 11, true, false, [.agg [vi 2, vw w22, vw w23, vi 0, vi 0, vi 0, vw w24, .ps .nil [], .ps .nil [], .ps .nil [], vz r2]]⟩), (0, ⟨0, 122, 4, true, false, [.agg [.ps .opt (s117.F a0.T), vi (wr (a0.At + 1)), vb a0.Fail, vi a0.Bad]]⟩), (6, ⟨1, 38, 11, true, false, [.agg [vi 0, vw w19, vw w20, vi 0, vi 0, vi 0, vw w21, .ps .nil [], .ps .nil [], .ps .nil [], vz c0]]⟩), (7, ⟨1, 124, 4, true, false, [eToken x1]⟩)], 2⟩ ?_
        refine Cd (bytesEq x1.Text k_label) ?_ ?_
        · intro hb; replace h := ctrue hb h
          refine Rg hT 2 [0, 6, 8] ⟨[(0, .box 0 0 0 0), (6, .box 6 1 0 0), (8, .box 8 1 0 0)], [(8, ⟨1, 38, 11, true, false, [.agg [vi 10, vw w22, vw w23, vi 0, vi 0, vi 0, vw w24, .ps .nil [], .ps .nil [], .ps .nil [], vz r2]]⟩), (0, ⟨0, 122, 4, true, false, [.agg [.ps .opt (s117.F a0.T), vi (wr (a0.At + 1)), vb a0.Fail, vi a0.Bad]]⟩), (6, ⟨1, 38, 11, true, false, [.agg [vi 0, vw w19, vw w20, vi 0, vi 0, vi 0, vw w21, .ps .nil [], .ps .nil [], .ps .nil [], vz c0]]⟩), (7, ⟨1, 124, 4, true, false, [eToken x1]⟩)], 2⟩ ?_
          exact oK [0, 6, 8] [(0, 0, 0), (6, 6, 1), (8, 8, 1)] ⟨10, h, rfl⟩
        intro hb; replace h := cfalse hb h
        exact sK [0, 6, 8] [(0, 0, 0), (6, 6, 1), (8, 8, 1)] ⟨2, h, rfl⟩
      subst hJ28
      rintro s ⟨i27, h, rfl⟩
      skip
      refine Rg hT 1 [6, 8, 77] ⟨[(6, .box 6 1 0 0), (8, .box 8 1 0 0), (77, .box 0 0 0 0)], [(0, ⟨0, 122, 4, true, false, [.agg [.ps .opt (s117.F a0.T), vi (wr (a0.At + 1)), vb a0.Fail, vi a0.Bad]]⟩), (6, ⟨1, 38, 11, true, false, [.agg [vi 0, vw w19, vw w20, vi 0, vi 0, vi 0, vw w21, .ps .nil [], .ps .nil [], .ps .nil [], vz c0]]⟩), (8, ⟨1, 38, 11, true, false, [.agg [vi i27, vw w22, vw w23, vi 0, vi 0, vi 0, vw w24, .ps .nil [], .ps .nil [], .ps .nil [], vz r2]]⟩)], 2⟩ ?_
      obtain ⟨r29, hr29, h⟩ := bsome h
      refine WO_go rfl (by kernel_rfl) [(0, ⟨0, 122, 4, true, false, [eReader (Reader.mk a0.T (wr (a0.At + 1)) a0.Fail a0.Bad)]⟩)] [(0, ⟨0, 122, 4, true, false, [eReader r29.2]⟩)] [.box 0 0 0 0] [.box 0 0 0 0] [(0, 0, 0)] [(0, 0, 0)] [(0, ⟨0, 122, 4, true, false, [eReader r29.2]⟩)] (vw r29.1) (vw r29.1) 3 rfl (by kernel_rfl) en104 (by kernel_rfl) (by kernel_rfl) (by kernel_rfl) (ref1_Reader_name_ok hr29) (by kernel_rfl) (by kernel_rfl) (by kernel_rfl) (by kernel_rfl) ?_
      refine Sg hT 2 [6, 8] ⟨[(6, .box 6 1 0 0), (8, .box 8 1 0 0)], [(8, ⟨1, 38, 11, true, false, [.agg [vi i27, vw r29.1, vw w23, vi 0, vi 0, vi 0, vw w24, .ps .nil [], .ps .nil [], .ps .nil [], vz r2]]⟩), (0, ⟨0, 122, 4, true, false, [eReader r29.2]⟩), (6, ⟨1, 38, 11, true, false, [.agg [vi 0, vw w19, vw w20, vi 0, vi 0, vi 0, vw w21, .ps .nil [], .ps .nil [], .ps .nil [], vz c0]]⟩)], 3⟩ ?_
      refine oW [6, 8] ⟨[(6, .box 6 1 0 0), (8, .box 8 1 0 0)], [(8, ⟨1, 38, 11, true, false, [.agg [vi i27, vw r29.1, vw w23, vi 0, vi 0, vi 0, vw w24, .ps .nil [], .ps .nil [], .ps .nil [], vz r2]]⟩), (0, ⟨0, 122, 4, true, false, [eReader r29.2]⟩), (6, ⟨1, 38, 11, true, false, [.agg [vi 0, vw w19, vw w20, vi 0, vi 0, vi 0, vw w21, .ps .nil [], .ps .nil [], .ps .nil [], vz c0]]⟩)], 3⟩ ?_
      refine WO_weak (Weak_ownH 8 5000 8 ⟨1, 38, 11, true, false, [.agg [vi i27, vw r29.1, vw w23, vi 0, vi 0, vi 0, vw w24, .ps .nil [], .ps .nil [], .ps .nil [], vz r2]]⟩ (.agg [vi i27, vw r29.1, vw w23, vi 0, vi 0, vi 0, vw w24, .ps .nil [], .ps .nil [], .ps .nil [], vz r2]) (.agg [vi i27, vw r29.1, vw w23, vi 0, vi 0, vi 0, vw w24, .ps .nil [], vo 5000 3 (s32.F ([] : List Stmt)), .ps .nil [], vz r2]) 38 11 (by kernel_rfl) (by kernel_rfl) (by kernel_rfl) (by kernel_rfl) (by kernel_rfl) (by kernel_rfl) (by kernel_rfl)) ?_
      refine WO_weak (Weak_ownH 8 5001 9 ⟨1, 38, 11, true, false, [.agg [vi i27, vw r29.1, vw w23, vi 0, vi 0, vi 0, vw w24, .ps .nil [], vo 5000 3 (s32.F ([] : List Stmt)), .ps .nil [], vz r2]]⟩ (.agg [vi i27, vw r29.1, vw w23, vi 0, vi 0, vi 0, vw w24, .ps .nil [], vo 5000 3 (s32.F ([] : List Stmt)), .ps .nil [], vz r2]) (.agg [vi i27, vw r29.1, vw w23, vi 0, vi 0, vi 0, vw w24, .ps .nil [], vo 5000 3 (s32.F ([] : List Stmt)), vo 5001 4 (s32.F ([] : List Stmt)), vz r2]) 38 11 (by kernel_rfl) (by kernel_rfl) (by kernel_rfl) (by kernel_rfl) (by kernel_rfl) (by kernel_rfl) (by kernel_rfl)) ?_
      refine WO_weak (Weak_leH [(6, .box 6 1 0 0), (8, .box 8 1 0 0)] [(5001, ⟨4, 38, 11, false, true, s32.F ([] : List Stmt)⟩), (8, ⟨1, 38, 11, true, false, [.agg [vi i27, vw r29.1, vw w23, vi 0, vi 0, vi 0, vw w24, .ps .opt (s33.F []), vo 5000 3 (s32.F ([] : List Stmt)), vo 5001 4 (s32.F ([] : List Stmt)), vz r2]]⟩), (5000, ⟨3, 38, 11, false, true, s32.F ([] : List Stmt)⟩), (0, ⟨0, 122, 4, true, false, [eReader r29.2]⟩), (6, ⟨1, 38, 11, true, false, [.agg [vi 0, vw w19, vw w20, vi 0, vi 0, vi 0, vw w21, .ps .nil [], .ps .nil [], .ps .nil [], vz c0]]⟩)] (by kernel_rfl) ⟨VLf.refl _, VLf.refl _, trivial⟩ ⟨rfl, .inl rfl, rfl, .inr (.inl ⟨rfl, rfl, CLe.agg ⟨VLf.refl _, VLf.refl _, VLf.refl _, VLf.refl _, VLf.refl _, VLf.refl _, VLf.refl _, (VLe.f VLe.nil_opt rfl), VLf.refl _, VLf.refl _, VLf.refl _, trivial⟩, trivial⟩), rfl, .inl rfl, rfl, .inl rfl, rfl, .inl rfl, trivial⟩) ?_
      exact oR [(0, 0, 0), (6, 6, 1), (8, 8, 1), (5000, 19508, 1), (5001, 20508, 1)] ⟨w19, w20, w21, i27, r29.1, w23, 0, 0, 0, w24, [], ([] : List Stmt), ([] : List Stmt), r29.2, h, rfl⟩
    intro hb; replace h := cfalse hb h
    refine Qz hT 2 [0, 1, 2, 6, 7, 8, 38, 80] ⟨[(0, .box 0 0 0 0), (1, vw a1), (2, vi a2), (6, .box 6 1 0 0), (7, .box 7 1 0 0), (8, .box 8 1 0 0), (38, vw x1.Text), (80, vb (bytesEq x1.Text k_send))], [(0, ⟨0, 122, 4, true, false, [.agg [.ps .opt (s117.F a0.T), vi (wr (a0.At + 1)), vb a0.Fail, vi a0.Bad]]⟩), (6, ⟨1, 38, 11, true, false, [.agg [vi 0, vw w19, vw w20, vi 0, vi 0, vi 0, vw w21, .ps .nil [], .ps .nil [], .ps .nil [], vz c0]]⟩), (7, ⟨1, 124, 4, true, false, [eToken x1]⟩), (8, ⟨1, 38, 11, true, false, [.agg [vi 0, vw w22, vw w23, vi 0, vi 0, vi 0, vw w24, .ps .nil [], .ps .nil [], .ps .nil [], vz r2]]⟩)], 2⟩ ?_
    refine Cd (bytesEq x1.Text k_send) ?_ ?_
    · intro hb; replace h := ctrue hb h
      refine Qz hT 2 [0, 1, 6, 8] ⟨[(0, .box 0 0 0 0), (1, vw a1), (6, .box 6 1 0 0), (8, .box 8 1 0 0)], [(8, ⟨1, 38, 11, true, false, [.agg [vi 4, vw w22, vw w23, vi 0, vi 0, vi 0, vw w24, .ps .nil [], .ps .nil [], .ps .nil [], vz r2]]⟩), (0, ⟨0, 122, 4, true, false, [.agg [.ps .opt (s117.F a0.T), vi (wr (a0.At + 1)), vb a0.Fail, vi a0.Bad]]⟩), (6, ⟨1, 38, 11, true, false, [.agg [vi 0, vw w19, vw w20, vi 0, vi 0, vi 0, vw w21, .ps .nil [], .ps .nil [], .ps .nil [], vz c0]]⟩), (7, ⟨1, 124, 4, true, false, [eToken x1]⟩)], 2⟩ ?_
      refine Qg hT 1 [0, 1, 6, 8, 83] ⟨[(0, .box 0 0 0 0), (1, vw a1), (6, .box 6 1 0 0), (8, .box 8 1 0 0), (83, .box 0 0 0 0)], [(8, ⟨1, 38, 11, true, false, [.agg [vi 4, vw w22, vw w23, vi 0, vi 0, vi 0, vw w24, .ps .nil [], .ps .nil [], .ps .nil [], vz r2]]⟩), (0, ⟨0, 122, 4, true, false, [.agg [.ps .opt (s117.F a0.T), vi (wr (a0.At + 1)), vb a0.Fail, vi a0.Bad]]⟩), (6, ⟨1, 38, 11, true, false, [.agg [vi 0, vw w19, vw w20, vi 0, vi 0, vi 0, vw w21, .ps .nil [], .ps .nil [], .ps .nil [], vz c0]]⟩), (7, ⟨1, 124, 4, true, false, [eToken x1]⟩)], 2⟩ ?_
      obtain ⟨r30, hr30, h⟩ := bsome h
      refine WO_go rfl (by kernel_rfl) [(0, ⟨0, 122, 4, true, false, [eReader (Reader.mk a0.T (wr (a0.At + 1)) a0.Fail a0.Bad)]⟩)] [(0, ⟨0, 122, 4, true, false, [eReader r30.2]⟩)] [.box 0 0 0 0] [.box 0 0 0 0] [(0, 0, 0)] [(0, 0, 0)] [(0, ⟨0, 122, 4, true, false, [eReader r30.2]⟩)] (vw r30.1) (vw r30.1) 3 rfl (by kernel_rfl) en104 (by kernel_rfl) (by kernel_rfl) (by kernel_rfl) (ref1_Reader_name_ok hr30) (by kernel_rfl) (by kernel_rfl) (by kernel_rfl) (by kernel_rfl) ?_
      refine Sz hT 2 [0, 1, 6, 8] ⟨[(0, .box 0 0 0 0), (1, vw a1), (6, .box 6 1 0 0), (8, .box 8 1 0 0)], [(8, ⟨1, 38, 11, true, false, [.agg [vi 4, vw r30.1, vw w23, vi 0, vi 0, vi 0, vw w24, .ps .nil [], .ps .nil [], .ps .nil [], vz r2]]⟩), (0, ⟨0, 122, 4, true, false, [eReader r30.2]⟩), (6, ⟨1, 38, 11, true, false, [.agg [vi 0, vw w19, vw w20, vi 0, vi 0, vi 0, vw w21, .ps .nil [], .ps .nil [], .ps .nil [], vz c0]]⟩), (7, ⟨1, 124, 4, true, false, [eToken x1]⟩)], 3⟩ ?_
      refine Rg hT 2 [6, 8, 86, 87] ⟨[(6, .box 6 1 0 0), (8, .box 8 1 0 0), (86, .box 0 0 0 0), (87, vw a1)], [(8, ⟨1, 38, 11, true, false, [.agg [vi 4, vw r30.1, vw w23, vi 0, vi 0, vi 0, vw w24, .ps .nil [], .ps .nil [], .ps .nil [], vz r2]]⟩), (0, ⟨0, 122, 4, true, false, [eReader r30.2]⟩), (6, ⟨1, 38, 11, true, false, [.agg [vi 0, vw w19, vw w20, vi 0, vi 0, vi 0, vw w21, .ps .nil [], .ps .nil [], .ps .nil [], vz c0]]⟩), (7, ⟨1, 124, 4, true, false, [eToken x1]⟩)], 3⟩ ?_
      obtain ⟨r31, hr31, h⟩ := bsome h
      refine WO_go rfl (by kernel_rfl) [(0, ⟨0, 122, 4, true, false, [eReader r30.2]⟩)] [(0, ⟨0, 122, 4, true, false, [eReader r31.2]⟩)] [.box 0 0 0 0, vw a1] [.box 0 0 0 0, vw a1] [(0, 0, 0)] [(0, 0, 0)] [(0, ⟨0, 122, 4, true, false, [eReader r31.2]⟩)] (eExpr r31.1) (eExpr r31.1) 4 rfl (by kernel_rfl) en151 (by kernel_rfl) (by kernel_rfl) (by kernel_rfl) (ref1_Reader_whole_ok hr31) (by kernel_rfl) (by kernel_rfl) (by kernel_rfl) (by kernel_rfl) ?_
      refine Sg hT 2 [6, 8] ⟨[(6, .box 6 1 0 0), (8, .box 8 1 0 0)], [(8, ⟨1, 38, 11, true, false, [.agg [vi 4, vw r30.1, vw w23, vi 0, vi r31.1.Kind, vi r31.1.N, vw r31.1.Name, .ps .opt (s33.F r31.1.Of), .ps .nil [], .ps .nil [], vz r2]]⟩), (0, ⟨0, 122, 4, true, false, [eReader r31.2]⟩), (6, ⟨1, 38, 11, true, false, [.agg [vi 0, vw w19, vw w20, vi 0, vi 0, vi 0, vw w21, .ps .nil [], .ps .nil [], .ps .nil [], vz c0]]⟩), (7, ⟨1, 124, 4, true, false, [eToken x1]⟩)], 4⟩ ?_
      refine oW [6, 8] ⟨[(6, .box 6 1 0 0), (8, .box 8 1 0 0)], [(8, ⟨1, 38, 11, true, false, [.agg [vi 4, vw r30.1, vw w23, vi 0, vi r31.1.Kind, vi r31.1.N, vw r31.1.Name, .ps .opt (s33.F r31.1.Of), .ps .nil [], .ps .nil [], vz r2]]⟩), (0, ⟨0, 122, 4, true, false, [eReader r31.2]⟩), (6, ⟨1, 38, 11, true, false, [.agg [vi 0, vw w19, vw w20, vi 0, vi 0, vi 0, vw w21, .ps .nil [], .ps .nil [], .ps .nil [], vz c0]]⟩), (7, ⟨1, 124, 4, true, false, [eToken x1]⟩)], 4⟩ ?_
      refine WO_weak (Weak_ownH 8 5000 8 ⟨1, 38, 11, true, false, [.agg [vi 4, vw r30.1, vw w23, vi 0, vi r31.1.Kind, vi r31.1.N, vw r31.1.Name, .ps .opt (s33.F r31.1.Of), .ps .nil [], .ps .nil [], vz r2]]⟩ (.agg [vi 4, vw r30.1, vw w23, vi 0, vi r31.1.Kind, vi r31.1.N, vw r31.1.Name, .ps .opt (s33.F r31.1.Of), .ps .nil [], .ps .nil [], vz r2]) (.agg [vi 4, vw r30.1, vw w23, vi 0, vi r31.1.Kind, vi r31.1.N, vw r31.1.Name, .ps .opt (s33.F r31.1.Of), vo 5000 4 (s32.F ([] : List Stmt)), .ps .nil [], vz r2]) 38 11 (by kernel_rfl) (by kernel_rfl) (by kernel_rfl) (by kernel_rfl) (by kernel_rfl) (by kernel_rfl) (by kernel_rfl)) ?_
      refine WO_weak (Weak_ownH 8 5001 9 ⟨1, 38, 11, true, false, [.agg [vi 4, vw r30.1, vw w23, vi 0, vi r31.1.Kind, vi r31.1.N, vw r31.1.Name, .ps .opt (s33.F r31.1.Of), vo 5000 4 (s32.F ([] : List Stmt)), .ps .nil [], vz r2]]⟩ (.agg [vi 4, vw r30.1, vw w23, vi 0, vi r31.1.Kind, vi r31.1.N, vw r31.1.Name, .ps .opt (s33.F r31.1.Of), vo 5000 4 (s32.F ([] : List Stmt)), .ps .nil [], vz r2]) (.agg [vi 4, vw r30.1, vw w23, vi 0, vi r31.1.Kind, vi r31.1.N, vw r31.1.Name, .ps .opt (s33.F r31.1.Of), vo 5000 4 (s32.F ([] : List Stmt)), vo 5001 5 (s32.F ([] : List Stmt)), vz r2]) 38 11 (by kernel_rfl) (by kernel_rfl) (by kernel_rfl) (by kernel_rfl) (by kernel_rfl) (by kernel_rfl) (by kernel_rfl)) ?_
      exact oR [(0, 0, 0), (6, 6, 1), (8, 8, 1), (5000, 19508, 1), (5001, 20508, 1)] ⟨w19, w20, w21, 4, r30.1, w23, 0, r31.1.Kind, r31.1.N, r31.1.Name, r31.1.Of, ([] : List Stmt), ([] : List Stmt), r31.2, h, rfl⟩
    intro hb; replace h := cfalse hb h
    refine Qz hT 2 [0, 1, 2, 6, 7, 8, 38, 90] ⟨[(0, .box 0 0 0 0), (1, vw a1), (2, vi a2), (6, .box 6 1 0 0), (7, .box 7 1 0 0), (8, .box 8 1 0 0), (38, vw x1.Text), (90, vb (bytesEq x1.Text k_recv))], [(0, ⟨0, 122, 4, true, false, [.agg [.ps .opt (s117.F a0.T), vi (wr (a0.At + 1)), vb a0.Fail, vi a0.Bad]]⟩), (6, ⟨1, 38, 11, true, false, [.agg [vi 0, vw w19, vw w20, vi 0, vi 0, vi 0, vw w21, .ps .nil [], .ps .nil [], .ps .nil [], vz c0]]⟩), (7, ⟨1, 124, 4, true, false, [eToken x1]⟩), (8, ⟨1, 38, 11, true, false, [.agg [vi 0, vw w22, vw w23, vi 0, vi 0, vi 0, vw w24, .ps .nil [], .ps .nil [], .ps .nil [], vz r2]]⟩)], 2⟩ ?_
    refine Cd (bytesEq x1.Text k_recv) ?_ ?_
    · intro hb; replace h := ctrue hb h
      refine Qz hT 2 [0, 6, 8] ⟨[(0, .box 0 0 0 0), (6, .box 6 1 0 0), (8, .box 8 1 0 0)], [(8, ⟨1, 38, 11, true, false, [.agg [vi 5, vw w22, vw w23, vi 0, vi 0, vi 0, vw w24, .ps .nil [], .ps .nil [], .ps .nil [], vz r2]]⟩), (0, ⟨0, 122, 4, true, false, [.agg [.ps .opt (s117.F a0.T), vi (wr (a0.At + 1)), vb a0.Fail, vi a0.Bad]]⟩), (6, ⟨1, 38, 11, true, false, [.agg [vi 0, vw w19, vw w20, vi 0, vi 0, vi 0, vw w21, .ps .nil [], .ps .nil [], .ps .nil [], vz c0]]⟩), (7, ⟨1, 124, 4, true, false, [eToken x1]⟩)], 2⟩ ?_
      refine Qg hT 1 [0, 6, 8, 93] ⟨[(0, .box 0 0 0 0), (6, .box 6 1 0 0), (8, .box 8 1 0 0), (93, .box 0 0 0 0)], [(8, ⟨1, 38, 11, true, false, [.agg [vi 5, vw w22, vw w23, vi 0, vi 0, vi 0, vw w24, .ps .nil [], .ps .nil [], .ps .nil [], vz r2]]⟩), (0, ⟨0, 122, 4, true, false, [.agg [.ps .opt (s117.F a0.T), vi (wr (a0.At + 1)), vb a0.Fail, vi a0.Bad]]⟩), (6, ⟨1, 38, 11, true, false, [.agg [vi 0, vw w19, vw w20, vi 0, vi 0, vi 0, vw w21, .ps .nil [], .ps .nil [], .ps .nil [], vz c0]]⟩), (7, ⟨1, 124, 4, true, false, [eToken x1]⟩)], 2⟩ ?_
      obtain ⟨r32, hr32, h⟩ := bsome h
      refine WO_go rfl (by kernel_rfl) [(0, ⟨0, 122, 4, true, false, [eReader (Reader.mk a0.T (wr (a0.At + 1)) a0.Fail a0.Bad)]⟩)] [(0, ⟨0, 122, 4, true, false, [eReader r32.2]⟩)] [.box 0 0 0 0] [.box 0 0 0 0] [(0, 0, 0)] [(0, 0, 0)] [(0, ⟨0, 122, 4, true, false, [eReader r32.2]⟩)] (vw r32.1) (vw r32.1) 3 rfl (by kernel_rfl) en104 (by kernel_rfl) (by kernel_rfl) (by kernel_rfl) (ref1_Reader_name_ok hr32) (by kernel_rfl) (by kernel_rfl) (by kernel_rfl) (by kernel_rfl) ?_
      refine Sz hT 2 [0, 6, 8] ⟨[(0, .box 0 0 0 0), (6, .box 6 1 0 0), (8, .box 8 1 0 0)], [(8, ⟨1, 38, 11, true, false, [.agg [vi 5, vw r32.1, vw w23, vi 0, vi 0, vi 0, vw w24, .ps .nil [], .ps .nil [], .ps .nil [], vz r2]]⟩), (0, ⟨0, 122, 4, true, false, [eReader r32.2]⟩), (6, ⟨1, 38, 11, true, false, [.agg [vi 0, vw w19, vw w20, vi 0, vi 0, vi 0, vw w21, .ps .nil [], .ps .nil [], .ps .nil [], vz c0]]⟩), (7, ⟨1, 124, 4, true, false, [eToken x1]⟩)], 3⟩ ?_
      refine Rg hT 1 [6, 8, 96] ⟨[(6, .box 6 1 0 0), (8, .box 8 1 0 0), (96, .box 0 0 0 0)], [(8, ⟨1, 38, 11, true, false, [.agg [vi 5, vw r32.1, vw w23, vi 0, vi 0, vi 0, vw w24, .ps .nil [], .ps .nil [], .ps .nil [], vz r2]]⟩), (0, ⟨0, 122, 4, true, false, [eReader r32.2]⟩), (6, ⟨1, 38, 11, true, false, [.agg [vi 0, vw w19, vw w20, vi 0, vi 0, vi 0, vw w21, .ps .nil [], .ps .nil [], .ps .nil [], vz c0]]⟩), (7, ⟨1, 124, 4, true, false, [eToken x1]⟩)], 3⟩ ?_
      obtain ⟨r33, hr33, h⟩ := bsome h
      refine WO_go rfl (by kernel_rfl) [(0, ⟨0, 122, 4, true, false, [eReader r32.2]⟩)] [(0, ⟨0, 122, 4, true, false, [eReader r33.2]⟩)] [.box 0 0 0 0] [.box 0 0 0 0] [(0, 0, 0)] [(0, 0, 0)] [(0, ⟨0, 122, 4, true, false, [eReader r33.2]⟩)] (vw r33.1) (vw r33.1) 4 rfl (by kernel_rfl) en104 (by kernel_rfl) (by kernel_rfl) (by kernel_rfl) (ref1_Reader_name_ok hr33) (by kernel_rfl) (by kernel_rfl) (by kernel_rfl) (by kernel_rfl) ?_
      refine Sg hT 2 [6, 8] ⟨[(6, .box 6 1 0 0), (8, .box 8 1 0 0)], [(8, ⟨1, 38, 11, true, false, [.agg [vi 5, vw r32.1, vw r33.1, vi 0, vi 0, vi 0, vw w24, .ps .nil [], .ps .nil [], .ps .nil [], vz r2]]⟩), (0, ⟨0, 122, 4, true, false, [eReader r33.2]⟩), (6, ⟨1, 38, 11, true, false, [.agg [vi 0, vw w19, vw w20, vi 0, vi 0, vi 0, vw w21, .ps .nil [], .ps .nil [], .ps .nil [], vz c0]]⟩), (7, ⟨1, 124, 4, true, false, [eToken x1]⟩)], 4⟩ ?_
      refine oW [6, 8] ⟨[(6, .box 6 1 0 0), (8, .box 8 1 0 0)], [(8, ⟨1, 38, 11, true, false, [.agg [vi 5, vw r32.1, vw r33.1, vi 0, vi 0, vi 0, vw w24, .ps .nil [], .ps .nil [], .ps .nil [], vz r2]]⟩), (0, ⟨0, 122, 4, true, false, [eReader r33.2]⟩), (6, ⟨1, 38, 11, true, false, [.agg [vi 0, vw w19, vw w20, vi 0, vi 0, vi 0, vw w21, .ps .nil [], .ps .nil [], .ps .nil [], vz c0]]⟩), (7, ⟨1, 124, 4, true, false, [eToken x1]⟩)], 4⟩ ?_
      refine WO_weak (Weak_ownH 8 5000 8 ⟨1, 38, 11, true, false, [.agg [vi 5, vw r32.1, vw r33.1, vi 0, vi 0, vi 0, vw w24, .ps .nil [], .ps .nil [], .ps .nil [], vz r2]]⟩ (.agg [vi 5, vw r32.1, vw r33.1, vi 0, vi 0, vi 0, vw w24, .ps .nil [], .ps .nil [], .ps .nil [], vz r2]) (.agg [vi 5, vw r32.1, vw r33.1, vi 0, vi 0, vi 0, vw w24, .ps .nil [], vo 5000 4 (s32.F ([] : List Stmt)), .ps .nil [], vz r2]) 38 11 (by kernel_rfl) (by kernel_rfl) (by kernel_rfl) (by kernel_rfl) (by kernel_rfl) (by kernel_rfl) (by kernel_rfl)) ?_
      refine WO_weak (Weak_ownH 8 5001 9 ⟨1, 38, 11, true, false, [.agg [vi 5, vw r32.1, vw r33.1, vi 0, vi 0, vi 0, vw w24, .ps .nil [], vo 5000 4 (s32.F ([] : List Stmt)), .ps .nil [], vz r2]]⟩ (.agg [vi 5, vw r32.1, vw r33.1, vi 0, vi 0, vi 0, vw w24, .ps .nil [], vo 5000 4 (s32.F ([] : List Stmt)), .ps .nil [], vz r2]) (.agg [vi 5, vw r32.1, vw r33.1, vi 0, vi 0, vi 0, vw w24, .ps .nil [], vo 5000 4 (s32.F ([] : List Stmt)), vo 5001 5 (s32.F ([] : List Stmt)), vz r2]) 38 11 (by kernel_rfl) (by kernel_rfl) (by kernel_rfl) (by kernel_rfl) (by kernel_rfl) (by kernel_rfl) (by kernel_rfl)) ?_
      refine WO_weak (Weak_leH [(6, .box 6 1 0 0), (8, .box 8 1 0 0)] [(5001, ⟨5, 38, 11, false, true, s32.F ([] : List Stmt)⟩), (8, ⟨1, 38, 11, true, false, [.agg [vi 5, vw r32.1, vw r33.1, vi 0, vi 0, vi 0, vw w24, .ps .opt (s33.F []), vo 5000 4 (s32.F ([] : List Stmt)), vo 5001 5 (s32.F ([] : List Stmt)), vz r2]]⟩), (5000, ⟨4, 38, 11, false, true, s32.F ([] : List Stmt)⟩), (0, ⟨0, 122, 4, true, false, [eReader r33.2]⟩), (6, ⟨1, 38, 11, true, false, [.agg [vi 0, vw w19, vw w20, vi 0, vi 0, vi 0, vw w21, .ps .nil [], .ps .nil [], .ps .nil [], vz c0]]⟩), (7, ⟨1, 124, 4, true, false, [eToken x1]⟩)] (by kernel_rfl) ⟨VLf.refl _, VLf.refl _, trivial⟩ ⟨rfl, .inl rfl, rfl, .inr (.inl ⟨rfl, rfl, CLe.agg ⟨VLf.refl _, VLf.refl _, VLf.refl _, VLf.refl _, VLf.refl _, VLf.refl _, VLf.refl _, (VLe.f VLe.nil_opt rfl), VLf.refl _, VLf.refl _, VLf.refl _, trivial⟩, trivial⟩), rfl, .inl rfl, rfl, .inl rfl, rfl, .inl rfl, rfl, .inl rfl, trivial⟩) ?_
      exact oR [(0, 0, 0), (6, 6, 1), (8, 8, 1), (5000, 19508, 1), (5001, 20508, 1)] ⟨w19, w20, w21, 5, r32.1, r33.1, 0, 0, 0, w24, [], ([] : List Stmt), ([] : List Stmt), r33.2, h, rfl⟩
    intro hb; replace h := cfalse hb h
    refine Qz hT 2 [0, 1, 2, 6, 7, 8, 38, 99] ⟨[(0, .box 0 0 0 0), (1, vw a1), (2, vi a2), (6, .box 6 1 0 0), (7, .box 7 1 0 0), (8, .box 8 1 0 0), (38, vw x1.Text), (99, vb (bytesEq x1.Text k_print))], [(0, ⟨0, 122, 4, true, false, [.agg [.ps .opt (s117.F a0.T), vi (wr (a0.At + 1)), vb a0.Fail, vi a0.Bad]]⟩), (6, ⟨1, 38, 11, true, false, [.agg [vi 0, vw w19, vw w20, vi 0, vi 0, vi 0, vw w21, .ps .nil [], .ps .nil [], .ps .nil [], vz c0]]⟩), (7, ⟨1, 124, 4, true, false, [eToken x1]⟩), (8, ⟨1, 38, 11, true, false, [.agg [vi 0, vw w22, vw w23, vi 0, vi 0, vi 0, vw w24, .ps .nil [], .ps .nil [], .ps .nil [], vz r2]]⟩)], 2⟩ ?_
    refine Cd (bytesEq x1.Text k_print) ?_ ?_
    · intro hb; replace h := ctrue hb h
      refine Qz hT 2 [0, 1, 6, 8] ⟨[(0, .box 0 0 0 0), (1, vw a1), (6, .box 6 1 0 0), (8, .box 8 1 0 0)], [(8, ⟨1, 38, 11, true, false, [.agg [vi 6, vw w22, vw w23, vi 0, vi 0, vi 0, vw w24, .ps .nil [], .ps .nil [], .ps .nil [], vz r2]]⟩), (0, ⟨0, 122, 4, true, false, [.agg [.ps .opt (s117.F a0.T), vi (wr (a0.At + 1)), vb a0.Fail, vi a0.Bad]]⟩), (6, ⟨1, 38, 11, true, false, [.agg [vi 0, vw w19, vw w20, vi 0, vi 0, vi 0, vw w21, .ps .nil [], .ps .nil [], .ps .nil [], vz c0]]⟩), (7, ⟨1, 124, 4, true, false, [eToken x1]⟩)], 2⟩ ?_
      refine Rg hT 2 [6, 8, 102, 103] ⟨[(6, .box 6 1 0 0), (8, .box 8 1 0 0), (102, .box 0 0 0 0), (103, vw a1)], [(8, ⟨1, 38, 11, true, false, [.agg [vi 6, vw w22, vw w23, vi 0, vi 0, vi 0, vw w24, .ps .nil [], .ps .nil [], .ps .nil [], vz r2]]⟩), (0, ⟨0, 122, 4, true, false, [.agg [.ps .opt (s117.F a0.T), vi (wr (a0.At + 1)), vb a0.Fail, vi a0.Bad]]⟩), (6, ⟨1, 38, 11, true, false, [.agg [vi 0, vw w19, vw w20, vi 0, vi 0, vi 0, vw w21, .ps .nil [], .ps .nil [], .ps .nil [], vz c0]]⟩), (7, ⟨1, 124, 4, true, false, [eToken x1]⟩)], 2⟩ ?_
      obtain ⟨r34, hr34, h⟩ := bsome h
      refine WO_go rfl (by kernel_rfl) [(0, ⟨0, 122, 4, true, false, [eReader (Reader.mk a0.T (wr (a0.At + 1)) a0.Fail a0.Bad)]⟩)] [(0, ⟨0, 122, 4, true, false, [eReader r34.2]⟩)] [.box 0 0 0 0, vw a1] [.box 0 0 0 0, vw a1] [(0, 0, 0)] [(0, 0, 0)] [(0, ⟨0, 122, 4, true, false, [eReader r34.2]⟩)] (eExpr r34.1) (eExpr r34.1) 3 rfl (by kernel_rfl) en151 (by kernel_rfl) (by kernel_rfl) (by kernel_rfl) (ref1_Reader_whole_ok hr34) (by kernel_rfl) (by kernel_rfl) (by kernel_rfl) (by kernel_rfl) ?_
      refine Sg hT 2 [6, 8] ⟨[(6, .box 6 1 0 0), (8, .box 8 1 0 0)], [(8, ⟨1, 38, 11, true, false, [.agg [vi 6, vw w22, vw w23, vi 0, vi r34.1.Kind, vi r34.1.N, vw r34.1.Name, .ps .opt (s33.F r34.1.Of), .ps .nil [], .ps .nil [], vz r2]]⟩), (0, ⟨0, 122, 4, true, false, [eReader r34.2]⟩), (6, ⟨1, 38, 11, true, false, [.agg [vi 0, vw w19, vw w20, vi 0, vi 0, vi 0, vw w21, .ps .nil [], .ps .nil [], .ps .nil [], vz c0]]⟩), (7, ⟨1, 124, 4, true, false, [eToken x1]⟩)], 3⟩ ?_
      refine oW [6, 8] ⟨[(6, .box 6 1 0 0), (8, .box 8 1 0 0)], [(8, ⟨1, 38, 11, true, false, [.agg [vi 6, vw w22, vw w23, vi 0, vi r34.1.Kind, vi r34.1.N, vw r34.1.Name, .ps .opt (s33.F r34.1.Of), .ps .nil [], .ps .nil [], vz r2]]⟩), (0, ⟨0, 122, 4, true, false, [eReader r34.2]⟩), (6, ⟨1, 38, 11, true, false, [.agg [vi 0, vw w19, vw w20, vi 0, vi 0, vi 0, vw w21, .ps .nil [], .ps .nil [], .ps .nil [], vz c0]]⟩), (7, ⟨1, 124, 4, true, false, [eToken x1]⟩)], 3⟩ ?_
      refine WO_weak (Weak_ownH 8 5000 8 ⟨1, 38, 11, true, false, [.agg [vi 6, vw w22, vw w23, vi 0, vi r34.1.Kind, vi r34.1.N, vw r34.1.Name, .ps .opt (s33.F r34.1.Of), .ps .nil [], .ps .nil [], vz r2]]⟩ (.agg [vi 6, vw w22, vw w23, vi 0, vi r34.1.Kind, vi r34.1.N, vw r34.1.Name, .ps .opt (s33.F r34.1.Of), .ps .nil [], .ps .nil [], vz r2]) (.agg [vi 6, vw w22, vw w23, vi 0, vi r34.1.Kind, vi r34.1.N, vw r34.1.Name, .ps .opt (s33.F r34.1.Of), vo 5000 3 (s32.F ([] : List Stmt)), .ps .nil [], vz r2]) 38 11 (by kernel_rfl) (by kernel_rfl) (by kernel_rfl) (by kernel_rfl) (by kernel_rfl) (by kernel_rfl) (by kernel_rfl)) ?_
      refine WO_weak (Weak_ownH 8 5001 9 ⟨1, 38, 11, true, false, [.agg [vi 6, vw w22, vw w23, vi 0, vi r34.1.Kind, vi r34.1.N, vw r34.1.Name, .ps .opt (s33.F r34.1.Of), vo 5000 3 (s32.F ([] : List Stmt)), .ps .nil [], vz r2]]⟩ (.agg [vi 6, vw w22, vw w23, vi 0, vi r34.1.Kind, vi r34.1.N, vw r34.1.Name, .ps .opt (s33.F r34.1.Of), vo 5000 3 (s32.F ([] : List Stmt)), .ps .nil [], vz r2]) (.agg [vi 6, vw w22, vw w23, vi 0, vi r34.1.Kind, vi r34.1.N, vw r34.1.Name, .ps .opt (s33.F r34.1.Of), vo 5000 3 (s32.F ([] : List Stmt)), vo 5001 4 (s32.F ([] : List Stmt)), vz r2]) 38 11 (by kernel_rfl) (by kernel_rfl) (by kernel_rfl) (by kernel_rfl) (by kernel_rfl) (by kernel_rfl) (by kernel_rfl)) ?_
      exact oR [(0, 0, 0), (6, 6, 1), (8, 8, 1), (5000, 19508, 1), (5001, 20508, 1)] ⟨w19, w20, w21, 6, w22, w23, 0, r34.1.Kind, r34.1.N, r34.1.Name, r34.1.Of, ([] : List Stmt), ([] : List Stmt), r34.2, h, rfl⟩
    intro hb; replace h := cfalse hb h
    refine Qz hT 2 [0, 1, 2, 6, 7, 8, 38, 106] ⟨[(0, .box 0 0 0 0), (1, vw a1), (2, vi a2), (6, .box 6 1 0 0), (7, .box 7 1 0 0), (8, .box 8 1 0 0), (38, vw x1.Text), (106, vb (bytesEq x1.Text k_if))], [(0, ⟨0, 122, 4, true, false, [.agg [.ps .opt (s117.F a0.T), vi (wr (a0.At + 1)), vb a0.Fail, vi a0.Bad]]⟩), (6, ⟨1, 38, 11, true, false, [.agg [vi 0, vw w19, vw w20, vi 0, vi 0, vi 0, vw w21, .ps .nil [], .ps .nil [], .ps .nil [], vz c0]]⟩), (7, ⟨1, 124, 4, true, false, [eToken x1]⟩), (8, ⟨1, 38, 11, true, false, [.agg [vi 0, vw w22, vw w23, vi 0, vi 0, vi 0, vw w24, .ps .nil [], .ps .nil [], .ps .nil [], vz r2]]⟩)], 2⟩ ?_
    refine Cd (bytesEq x1.Text k_if) ?_ ?_
    · intro hb; replace h := ctrue hb h
      refine Qz hT 2 [0, 1, 2, 6, 8] ⟨[(0, .box 0 0 0 0), (1, vw a1), (2, vi a2), (6, .box 6 1 0 0), (8, .box 8 1 0 0)], [(8, ⟨1, 38, 11, true, false, [.agg [vi 7, vw w22, vw w23, vi 0, vi 0, vi 0, vw w24, .ps .nil [], .ps .nil [], .ps .nil [], vz r2]]⟩), (0, ⟨0, 122, 4, true, false, [.agg [.ps .opt (s117.F a0.T), vi (wr (a0.At + 1)), vb a0.Fail, vi a0.Bad]]⟩), (6, ⟨1, 38, 11, true, false, [.agg [vi 0, vw w19, vw w20, vi 0, vi 0, vi 0, vw w21, .ps .nil [], .ps .nil [], .ps .nil [], vz c0]]⟩), (7, ⟨1, 124, 4, true, false, [eToken x1]⟩)], 2⟩ ?_
      refine Qg hT 2 [0, 1, 2, 6, 8, 109, 110] ⟨[(0, .box 0 0 0 0), (1, vw a1), (2, vi a2), (6, .box 6 1 0 0), (8, .box 8 1 0 0), (109, .box 0 0 0 0), (110, vw a1)], [(8, ⟨1, 38, 11, true, false, [.agg [vi 7, vw w22, vw w23, vi 0, vi 0, vi 0, vw w24, .ps .nil [], .ps .nil [], .ps .nil [], vz r2]]⟩), (0, ⟨0, 122, 4, true, false, [.agg [.ps .opt (s117.F a0.T), vi (wr (a0.At + 1)), vb a0.Fail, vi a0.Bad]]⟩), (6, ⟨1, 38, 11, true, false, [.agg [vi 0, vw w19, vw w20, vi 0, vi 0, vi 0, vw w21, .ps .nil [], .ps .nil [], .ps .nil [], vz c0]]⟩), (7, ⟨1, 124, 4, true, false, [eToken x1]⟩)], 2⟩ ?_
      obtain ⟨r35, hr35, h⟩ := bsome h
      refine WO_go rfl (by kernel_rfl) [(0, ⟨0, 122, 4, true, false, [eReader (Reader.mk a0.T (wr (a0.At + 1)) a0.Fail a0.Bad)]⟩)] [(0, ⟨0, 122, 4, true, false, [eReader r35.2]⟩)] [.box 0 0 0 0, vw a1] [.box 0 0 0 0, vw a1] [(0, 0, 0)] [(0, 0, 0)] [(0, ⟨0, 122, 4, true, false, [eReader r35.2]⟩)] (eExpr r35.1) (eExpr r35.1) 3 rfl (by kernel_rfl) en151 (by kernel_rfl) (by kernel_rfl) (by kernel_rfl) (ref1_Reader_whole_ok hr35) (by kernel_rfl) (by kernel_rfl) (by kernel_rfl) (by kernel_rfl) ?_
      refine Sz hT 2 [0, 1, 2, 6, 8] ⟨[(0, .box 0 0 0 0), (1, vw a1), (2, vi a2), (6, .box 6 1 0 0), (8, .box 8 1 0 0)], [(8, ⟨1, 38, 11, true, false, [.agg [vi 7, vw w22, vw w23, vi 0, vi r35.1.Kind, vi r35.1.N, vw r35.1.Name, .ps .opt (s33.F r35.1.Of), .ps .nil [], .ps .nil [], vz r2]]⟩), (0, ⟨0, 122, 4, true, false, [eReader r35.2]⟩), (6, ⟨1, 38, 11, true, false, [.agg [vi 0, vw w19, vw w20, vi 0, vi 0, vi 0, vw w21, .ps .nil [], .ps .nil [], .ps .nil [], vz c0]]⟩), (7, ⟨1, 124, 4, true, false, [eToken x1]⟩)], 3⟩ ?_
      refine Qg hT 4 [0, 1, 2, 6, 8, 113, 114, 116] ⟨[(0, .box 0 0 0 0), (1, vw a1), (2, vi a2), (6, .box 6 1 0 0), (8, .box 8 1 0 0), (113, .box 0 0 0 0), (114, vw a1), (116, vi (wr (a2 + 1)))], [(8, ⟨1, 38, 11, true, false, [.agg [vi 7, vw w22, vw w23, vi 0, vi r35.1.Kind, vi r35.1.N, vw r35.1.Name, .ps .opt (s33.F r35.1.Of), .ps .nil [], .ps .nil [], vz r2]]⟩), (0, ⟨0, 122, 4, true, false, [eReader r35.2]⟩), (6, ⟨1, 38, 11, true, false, [.agg [vi 0, vw w19, vw w20, vi 0, vi 0, vi 0, vw w21, .ps .nil [], .ps .nil [], .ps .nil [], vz c0]]⟩), (7, ⟨1, 124, 4, true, false, [eToken x1]⟩)], 3⟩ ?_
      obtain ⟨r36, hr36, h⟩ := bsome h
      refine WO_go rfl (by kernel_rfl) [(0, ⟨0, 122, 4, true, false, [eReader r35.2]⟩)] [(0, ⟨0, 122, 4, true, false, [eReader r36.2]⟩), (100, ⟨1, 38, 11, false, true, s32.F r36.1⟩)] [.box 0 0 0 0, vw a1, vi (wr (a2 + 1))] [.box 0 0 0 0, vw a1, vi (wr (a2 + 1))] [(0, 0, 0)] [(100, 117, 3), (0, 0, 0)] [(117, ⟨3, 38, 11, false, true, s32.F r36.1⟩), (0, ⟨0, 122, 4, true, false, [eReader r36.2]⟩)] (vo 100 1 (s32.F r36.1)) (vo 117 3 (s32.F r36.1)) 4 rfl (by kernel_rfl) en107 (by kernel_rfl) (by kernel_rfl) (by kernel_rfl) ((ih _ (by omega)).2 hr36) (by kernel_rfl) (by kernel_rfl) (by kernel_rfl) (by kernel_rfl) ?_
      refine Sz hT 2 [0, 1, 2, 6, 8] ⟨[(0, .box 0 0 0 0), (1, vw a1), (2, vi a2), (6, .box 6 1 0 0), (8, .box 8 1 0 0)], [(8, ⟨1, 38, 11, true, false, [.agg [vi 7, vw w22, vw w23, vi 0, vi r35.1.Kind, vi r35.1.N, vw r35.1.Name, .ps .opt (s33.F r35.1.Of), vo 117 3 (s32.F r36.1), .ps .nil [], vz r2]]⟩), (117, ⟨3, 38, 11, false, true, s32.F r36.1⟩), (0, ⟨0, 122, 4, true, false, [eReader r36.2]⟩), (6, ⟨1, 38, 11, true, false, [.agg [vi 0, vw w19, vw w20, vi 0, vi 0, vi 0, vw w21, .ps .nil [], .ps .nil [], .ps .nil [], vz c0]]⟩), (7, ⟨1, 124, 4, true, false, [eToken x1]⟩)], 4⟩ ?_
      refine Qg hT 1 [0, 1, 2, 6, 8, 119] ⟨[(0, .box 0 0 0 0), (1, vw a1), (2, vi a2), (6, .box 6 1 0 0), (8, .box 8 1 0 0), (119, .box 0 0 0 0)], [(8, ⟨1, 38, 11, true, false, [.agg [vi 7, vw w22, vw w23, vi 0, vi r35.1.Kind, vi r35.1.N, vw r35.1.Name, .ps .opt (s33.F r35.1.Of), vo 117 3 (s32.F r36.1), .ps .nil [], vz r2]]⟩), (117, ⟨3, 38, 11, false, true, s32.F r36.1⟩), (0, ⟨0, 122, 4, true, false, [eReader r36.2]⟩), (6, ⟨1, 38, 11, true, false, [.agg [vi 0, vw w19, vw w20, vi 0, vi 0, vi 0, vw w21, .ps .nil [], .ps .nil [], .ps .nil [], vz c0]]⟩), (7, ⟨1, 124, 4, true, false, [eToken x1]⟩)], 4⟩ ?_
      obtain ⟨r37, hr37, h⟩ := bsome h
      refine WO_ptb rfl (by kernel_rfl) [0] [.box 0 0 0 0, vw k_else] [.ref (eReader r36.2) 0, vw k_else] (vb r37) rfl (by kernel_rfl) en106 (by kernel_rfl) (by kernel_rfl) (by kernel_rfl) (ref1_Reader_word_ok hr37) (by kernel_rfl) ?_
      refine Sz hT 0 [0, 1, 2, 6, 8, 120] ⟨[(0, .box 0 0 0 0), (1, vw a1), (2, vi a2), (6, .box 6 1 0 0), (8, .box 8 1 0 0), (120, vb r37)], [(8, ⟨1, 38, 11, true, false, [.agg [vi 7, vw w22, vw w23, vi 0, vi r35.1.Kind, vi r35.1.N, vw r35.1.Name, .ps .opt (s33.F r35.1.Of), vo 117 3 (s32.F r36.1), .ps .nil [], vz r2]]⟩), (117, ⟨3, 38, 11, false, true, s32.F r36.1⟩), (0, ⟨0, 122, 4, true, false, [eReader r36.2]⟩), (6, ⟨1, 38, 11, true, false, [.agg [vi 0, vw w19, vw w20, vi 0, vi 0, vi 0, vw w21, .ps .nil [], .ps .nil [], .ps .nil [], vz c0]]⟩), (7, ⟨1, 124, 4, true, false, [eToken x1]⟩)], 4⟩ ?_
      refine Cd r37 ?_ ?_
      · intro hb; replace h := ctrue hb h
        refine Qz hT 8 [0, 1, 2, 6, 8] ⟨[(0, .box 0 0 0 0), (1, vw a1), (2, vi a2), (6, .box 6 1 0 0), (8, .box 8 1 0 0)], [(0, ⟨0, 122, 4, true, false, [.agg [.ps .opt (s117.F r36.2.T), vi (wr (r36.2.At + 1)), vb r36.2.Fail, vi r36.2.Bad]]⟩), (8, ⟨1, 38, 11, true, false, [.agg [vi 7, vw w22, vw w23, vi 0, vi r35.1.Kind, vi r35.1.N, vw r35.1.Name, .ps .opt (s33.F r35.1.Of), vo 117 3 (s32.F r36.1), .ps .nil [], vz r2]]⟩), (117, ⟨3, 38, 11, false, true, s32.F r36.1⟩), (6, ⟨1, 38, 11, true, false, [.agg [vi 0, vw w19, vw w20, vi 0, vi 0, vi 0, vw w21, .ps .nil [], .ps .nil [], .ps .nil [], vz c0]]⟩), (7, ⟨1, 124, 4, true, false, [eToken x1]⟩)], 4⟩ ?_
        refine Rg hT 4 [6, 8, 128, 129, 131] ⟨[(6, .box 6 1 0 0), (8, .box 8 1 0 0), (128, .box 0 0 0 0), (129, vw a1), (131, vi (wr (a2 + 1)))], [(0, ⟨0, 122, 4, true, false, [.agg [.ps .opt (s117.F r36.2.T), vi (wr (r36.2.At + 1)), vb r36.2.Fail, vi r36.2.Bad]]⟩), (8, ⟨1, 38, 11, true, false, [.agg [vi 7, vw w22, vw w23, vi 0, vi r35.1.Kind, vi r35.1.N, vw r35.1.Name, .ps .opt (s33.F r35.1.Of), vo 117 3 (s32.F r36.1), .ps .nil [], vz r2]]⟩), (117, ⟨3, 38, 11, false, true, s32.F r36.1⟩), (6, ⟨1, 38, 11, true, false, [.agg [vi 0, vw w19, vw w20, vi 0, vi 0, vi 0, vw w21, .ps .nil [], .ps .nil [], .ps .nil [], vz c0]]⟩), (7, ⟨1, 124, 4, true, false, [eToken x1]⟩)], 4⟩ ?_
        obtain ⟨r38, hr38, h⟩ := bsome h
        refine WO_go rfl (by kernel_rfl) [(0, ⟨0, 122, 4, true, false, [eReader (Reader.mk r36.2.T (wr (r36.2.At + 1)) r36.2.Fail r36.2.Bad)]⟩)] [(0, ⟨0, 122, 4, true, false, [eReader r38.2]⟩), (100, ⟨1, 38, 11, false, true, s32.F r38.1⟩)] [.box 0 0 0 0, vw a1, vi (wr (a2 + 1))] [.box 0 0 0 0, vw a1, vi (wr (a2 + 1))] [(0, 0, 0)] [(100, 132, 4), (0, 0, 0)] [(132, ⟨4, 38, 11, false, true, s32.F r38.1⟩), (0, ⟨0, 122, 4, true, false, [eReader r38.2]⟩)] (vo 100 1 (s32.F r38.1)) (vo 132 4 (s32.F r38.1)) 5 rfl (by kernel_rfl) en107 (by kernel_rfl) (by kernel_rfl) (by kernel_rfl) ((ih _ (by omega)).2 hr38) (by kernel_rfl) (by kernel_rfl) (by kernel_rfl) (by kernel_rfl) ?_
        refine Sg hT 2 [6, 8] ⟨[(6, .box 6 1 0 0), (8, .box 8 1 0 0)], [(8, ⟨1, 38, 11, true, false, [.agg [vi 7, vw w22, vw w23, vi 0, vi r35.1.Kind, vi r35.1.N, vw r35.1.Name, .ps .opt (s33.F r35.1.Of), vo 117 3 (s32.F r36.1), vo 132 4 (s32.F r38.1), vz r2]]⟩), (132, ⟨4, 38, 11, false, true, s32.F r38.1⟩), (0, ⟨0, 122, 4, true, false, [eReader r38.2]⟩), (117, ⟨3, 38, 11, false, true, s32.F r36.1⟩), (6, ⟨1, 38, 11, true, false, [.agg [vi 0, vw w19, vw w20, vi 0, vi 0, vi 0, vw w21, .ps .nil [], .ps .nil [], .ps .nil [], vz c0]]⟩), (7, ⟨1, 124, 4, true, false, [eToken x1]⟩)], 5⟩ ?_
        exact oK [6, 8] [(0, 0, 0), (6, 6, 1), (8, 8, 1), (117, 19508, 1), (132, 20508, 1)] ⟨w19, w20, w21, 7, w22, w23, 0, r35.1.Kind, r35.1.N, r35.1.Name, r35.1.Of, r36.1, r38.1, r38.2, h, rfl⟩
      intro hb; replace h := cfalse hb h
      refine aW [6, 8] ⟨[(6, .box 6 1 0 0), (8, .box 8 1 0 0)], [(8, ⟨1, 38, 11, true, false, [.agg [vi 7, vw w22, vw w23, vi 0, vi r35.1.Kind, vi r35.1.N, vw r35.1.Name, .ps .opt (s33.F r35.1.Of), vo 117 3 (s32.F r36.1), .ps .nil [], vz r2]]⟩), (117, ⟨3, 38, 11, false, true, s32.F r36.1⟩), (0, ⟨0, 122, 4, true, false, [eReader r36.2]⟩), (6, ⟨1, 38, 11, true, false, [.agg [vi 0, vw w19, vw w20, vi 0, vi 0, vi 0, vw w21, .ps .nil [], .ps .nil [], .ps .nil [], vz c0]]⟩), (7, ⟨1, 124, 4, true, false, [eToken x1]⟩)], 4⟩ ?_
      refine WA_weak (Weak_ownH 8 5000 9 ⟨1, 38, 11, true, false, [.agg [vi 7, vw w22, vw w23, vi 0, vi r35.1.Kind, vi r35.1.N, vw r35.1.Name, .ps .opt (s33.F r35.1.Of), vo 117 3 (s32.F r36.1), .ps .nil [], vz r2]]⟩ (.agg [vi 7, vw w22, vw w23, vi 0, vi r35.1.Kind, vi r35.1.N, vw r35.1.Name, .ps .opt (s33.F r35.1.Of), vo 117 3 (s32.F r36.1), .ps .nil [], vz r2]) (.agg [vi 7, vw w22, vw w23, vi 0, vi r35.1.Kind, vi r35.1.N, vw r35.1.Name, .ps .opt (s33.F r35.1.Of), vo 117 3 (s32.F r36.1), vo 5000 4 (s32.F ([] : List Stmt)), vz r2]) 38 11 (by kernel_rfl) (by kernel_rfl) (by kernel_rfl) (by kernel_rfl) (by kernel_rfl) (by kernel_rfl) (by kernel_rfl)) ?_
      exact sR [(0, 0, 0), (6, 6, 1), (8, 8, 1), (117, 19508, 1), (5000, 20508, 1)] ⟨w19, w20, w21, 7, w22, w23, 0, r35.1.Kind, r35.1.N, r35.1.Name, r35.1.Of, r36.1, ([] : List Stmt), r36.2, h, rfl⟩
    intro hb; replace h := cfalse hb h
    refine Qz hT 2 [0, 1, 2, 6, 7, 8, 134] ⟨[(0, .box 0 0 0 0), (1, vw a1), (2, vi a2), (6, .box 6 1 0 0), (7, .box 7 1 0 0), (8, .box 8 1 0 0), (134, vb (bytesEq x1.Text k_repeat))], [(0, ⟨0, 122, 4, true, false, [.agg [.ps .opt (s117.F a0.T), vi (wr (a0.At + 1)), vb a0.Fail, vi a0.Bad]]⟩), (6, ⟨1, 38, 11, true, false, [.agg [vi 0, vw w19, vw w20, vi 0, vi 0, vi 0, vw w21, .ps .nil [], .ps .nil [], .ps .nil [], vz c0]]⟩), (7, ⟨1, 124, 4, true, false, [eToken x1]⟩), (8, ⟨1, 38, 11, true, false, [.agg [vi 0, vw w22, vw w23, vi 0, vi 0, vi 0, vw w24, .ps .nil [], .ps .nil [], .ps .nil [], vz r2]]⟩)], 2⟩ ?_
    refine Cd (bytesEq x1.Text k_repeat) ?_ ?_
    · intro hb; replace h := ctrue hb h
      refine Qz hT 2 [0, 1, 2, 6, 8] ⟨[(0, .box 0 0 0 0), (1, vw a1), (2, vi a2), (6, .box 6 1 0 0), (8, .box 8 1 0 0)], [(8, ⟨1, 38, 11, true, false, [.agg [vi 8, vw w22, vw w23, vi 0, vi 0, vi 0, vw w24, .ps .nil [], .ps .nil [], .ps .nil [], vz r2]]⟩), (0, ⟨0, 122, 4, true, false, [.agg [.ps .opt (s117.F a0.T), vi (wr (a0.At + 1)), vb a0.Fail, vi a0.Bad]]⟩), (6, ⟨1, 38, 11, true, false, [.agg [vi 0, vw w19, vw w20, vi 0, vi 0, vi 0, vw w21, .ps .nil [], .ps .nil [], .ps .nil [], vz c0]]⟩), (7, ⟨1, 124, 4, true, false, [eToken x1]⟩)], 2⟩ ?_
      refine Qg hT 1 [0, 1, 2, 6, 8, 137] ⟨[(0, .box 0 0 0 0), (1, vw a1), (2, vi a2), (6, .box 6 1 0 0), (8, .box 8 1 0 0), (137, .box 0 0 0 0)], [(8, ⟨1, 38, 11, true, false, [.agg [vi 8, vw w22, vw w23, vi 0, vi 0, vi 0, vw w24, .ps .nil [], .ps .nil [], .ps .nil [], vz r2]]⟩), (0, ⟨0, 122, 4, true, false, [.agg [.ps .opt (s117.F a0.T), vi (wr (a0.At + 1)), vb a0.Fail, vi a0.Bad]]⟩), (6, ⟨1, 38, 11, true, false, [.agg [vi 0, vw w19, vw w20, vi 0, vi 0, vi 0, vw w21, .ps .nil [], .ps .nil [], .ps .nil [], vz c0]]⟩), (7, ⟨1, 124, 4, true, false, [eToken x1]⟩)], 2⟩ ?_
      obtain ⟨r39, hr39, h⟩ := bsome h
      refine WO_go rfl (by kernel_rfl) [(0, ⟨0, 122, 4, true, false, [eReader (Reader.mk a0.T (wr (a0.At + 1)) a0.Fail a0.Bad)]⟩)] [(0, ⟨0, 122, 4, true, false, [eReader r39.2]⟩)] [.box 0 0 0 0, vi 9] [.box 0 0 0 0, vi 9] [(0, 0, 0)] [(0, 0, 0)] [(0, ⟨0, 122, 4, true, false, [eReader r39.2]⟩)] (vi r39.1) (vi r39.1) 3 rfl (by kernel_rfl) en105 (by kernel_rfl) (by kernel_rfl) (by kernel_rfl) (ref1_Reader_number_ok hr39) (by kernel_rfl) (by kernel_rfl) (by kernel_rfl) (by kernel_rfl) ?_
      refine Sz hT 2 [0, 1, 2, 6, 8] ⟨[(0, .box 0 0 0 0), (1, vw a1), (2, vi a2), (6, .box 6 1 0 0), (8, .box 8 1 0 0)], [(8, ⟨1, 38, 11, true, false, [.agg [vi 8, vw w22, vw w23, vi r39.1, vi 0, vi 0, vw w24, .ps .nil [], .ps .nil [], .ps .nil [], vz r2]]⟩), (0, ⟨0, 122, 4, true, false, [eReader r39.2]⟩), (6, ⟨1, 38, 11, true, false, [.agg [vi 0, vw w19, vw w20, vi 0, vi 0, vi 0, vw w21, .ps .nil [], .ps .nil [], .ps .nil [], vz c0]]⟩), (7, ⟨1, 124, 4, true, false, [eToken x1]⟩)], 3⟩ ?_
      refine Rg hT 4 [6, 8, 140, 141, 143] ⟨[(6, .box 6 1 0 0), (8, .box 8 1 0 0), (140, .box 0 0 0 0), (141, vw a1), (143, vi (wr (a2 + 1)))], [(8, ⟨1, 38, 11, true, false, [.agg [vi 8, vw w22, vw w23, vi r39.1, vi 0, vi 0, vw w24, .ps .nil [], .ps .nil [], .ps .nil [], vz r2]]⟩), (0, ⟨0, 122, 4, true, false, [eReader r39.2]⟩), (6, ⟨1, 38, 11, true, false, [.agg [vi 0, vw w19, vw w20, vi 0, vi 0, vi 0, vw w21, .ps .nil [], .ps .nil [], .ps .nil [], vz c0]]⟩), (7, ⟨1, 124, 4, true, false, [eToken x1]⟩)], 3⟩ ?_
      obtain ⟨r40, hr40, h⟩ := bsome h
      refine WO_go rfl (by kernel_rfl) [(0, ⟨0, 122, 4, true, false, [eReader r39.2]⟩)] [(0, ⟨0, 122, 4, true, false, [eReader r40.2]⟩), (100, ⟨1, 38, 11, false, true, s32.F r40.1⟩)] [.box 0 0 0 0, vw a1, vi (wr (a2 + 1))] [.box 0 0 0 0, vw a1, vi (wr (a2 + 1))] [(0, 0, 0)] [(100, 144, 3), (0, 0, 0)] [(144, ⟨3, 38, 11, false, true, s32.F r40.1⟩), (0, ⟨0, 122, 4, true, false, [eReader r40.2]⟩)] (vo 100 1 (s32.F r40.1)) (vo 144 3 (s32.F r40.1)) 4 rfl (by kernel_rfl) en107 (by kernel_rfl) (by kernel_rfl) (by kernel_rfl) ((ih _ (by omega)).2 hr40) (by kernel_rfl) (by kernel_rfl) (by kernel_rfl) (by kernel_rfl) ?_
      refine Sg hT 2 [6, 8] ⟨[(6, .box 6 1 0 0), (8, .box 8 1 0 0)], [(8, ⟨1, 38, 11, true, false, [.agg [vi 8, vw w22, vw w23, vi r39.1, vi 0, vi 0, vw w24, .ps .nil [], vo 144 3 (s32.F r40.1), .ps .nil [], vz r2]]⟩), (144, ⟨3, 38, 11, false, true, s32.F r40.1⟩), (0, ⟨0, 122, 4, true, false, [eReader r40.2]⟩), (6, ⟨1, 38, 11, true, false, [.agg [vi 0, vw w19, vw w20, vi 0, vi 0, vi 0, vw w21, .ps .nil [], .ps .nil [], .ps .nil [], vz c0]]⟩), (7, ⟨1, 124, 4, true, false, [eToken x1]⟩)], 4⟩ ?_
      refine oW [6, 8] ⟨[(6, .box 6 1 0 0), (8, .box 8 1 0 0)], [(8, ⟨1, 38, 11, true, false, [.agg [vi 8, vw w22, vw w23, vi r39.1, vi 0, vi 0, vw w24, .ps .nil [], vo 144 3 (s32.F r40.1), .ps .nil [], vz r2]]⟩), (144, ⟨3, 38, 11, false, true, s32.F r40.1⟩), (0, ⟨0, 122, 4, true, false, [eReader r40.2]⟩), (6, ⟨1, 38, 11, true, false, [.agg [vi 0, vw w19, vw w20, vi 0, vi 0, vi 0, vw w21, .ps .nil [], .ps .nil [], .ps .nil [], vz c0]]⟩), (7, ⟨1, 124, 4, true, false, [eToken x1]⟩)], 4⟩ ?_
      refine WO_weak (Weak_ownH 8 5000 9 ⟨1, 38, 11, true, false, [.agg [vi 8, vw w22, vw w23, vi r39.1, vi 0, vi 0, vw w24, .ps .nil [], vo 144 3 (s32.F r40.1), .ps .nil [], vz r2]]⟩ (.agg [vi 8, vw w22, vw w23, vi r39.1, vi 0, vi 0, vw w24, .ps .nil [], vo 144 3 (s32.F r40.1), .ps .nil [], vz r2]) (.agg [vi 8, vw w22, vw w23, vi r39.1, vi 0, vi 0, vw w24, .ps .nil [], vo 144 3 (s32.F r40.1), vo 5000 4 (s32.F ([] : List Stmt)), vz r2]) 38 11 (by kernel_rfl) (by kernel_rfl) (by kernel_rfl) (by kernel_rfl) (by kernel_rfl) (by kernel_rfl) (by kernel_rfl)) ?_
      refine WO_weak (Weak_leH [(6, .box 6 1 0 0), (8, .box 8 1 0 0)] [(5000, ⟨4, 38, 11, false, true, s32.F ([] : List Stmt)⟩), (8, ⟨1, 38, 11, true, false, [.agg [vi 8, vw w22, vw w23, vi r39.1, vi 0, vi 0, vw w24, .ps .opt (s33.F []), vo 144 3 (s32.F r40.1), vo 5000 4 (s32.F ([] : List Stmt)), vz r2]]⟩), (144, ⟨3, 38, 11, false, true, s32.F r40.1⟩), (0, ⟨0, 122, 4, true, false, [eReader r40.2]⟩), (6, ⟨1, 38, 11, true, false, [.agg [vi 0, vw w19, vw w20, vi 0, vi 0, vi 0, vw w21, .ps .nil [], .ps .nil [], .ps .nil [], vz c0]]⟩), (7, ⟨1, 124, 4, true, false, [eToken x1]⟩)] (by kernel_rfl) ⟨VLf.refl _, VLf.refl _, trivial⟩ ⟨rfl, .inl rfl, rfl, .inr (.inl ⟨rfl, rfl, CLe.agg ⟨VLf.refl _, VLf.refl _, VLf.refl _, VLf.refl _, VLf.refl _, VLf.refl _, VLf.refl _, (VLe.f VLe.nil_opt rfl), VLf.refl _, VLf.refl _, VLf.refl _, trivial⟩, trivial⟩), rfl, .inl rfl, rfl, .inl rfl, rfl, .inl rfl, rfl, .inl rfl, trivial⟩) ?_
      exact oR [(0, 0, 0), (6, 6, 1), (8, 8, 1), (144, 19508, 1), (5000, 20508, 1)] ⟨w19, w20, w21, 8, w22, w23, r39.1, 0, 0, w24, [], r40.1, ([] : List Stmt), r40.2, h, rfl⟩
    intro hb; replace h := cfalse hb h
    refine WA_seq ?_
    refine Qg hT 2 [0, 1, 6, 7, 8, 40] ⟨[(0, .box 0 0 0 0), (1, vw a1), (6, .box 6 1 0 0), (7, .box 7 1 0 0), (8, .box 8 1 0 0), (40, vw x1.Text)], [(0, ⟨0, 122, 4, true, false, [.agg [.ps .opt (s117.F a0.T), vi (wr (a0.At + 1)), vb a0.Fail, vi a0.Bad]]⟩), (6, ⟨1, 38, 11, true, false, [.agg [vi 0, vw w19, vw w20, vi 0, vi 0, vi 0, vw w21, .ps .nil [], .ps .nil [], .ps .nil [], vz c0]]⟩), (7, ⟨1, 124, 4, true, false, [eToken x1]⟩), (8, ⟨1, 38, 11, true, false, [.agg [vi 0, vw w22, vw w23, vi 0, vi 0, vi 0, vw w24, .ps .nil [], .ps .nil [], .ps .nil [], vz r2]]⟩)], 2⟩ ?_
    obtain ⟨r41, hr41, h⟩ := bsome h
    refine Pt en131 (ref1_Keyword_ok hr41) ?_
    refine Sz hT 0 [0, 1, 6, 7, 8, 41] ⟨[(0, .box 0 0 0 0), (1, vw a1), (6, .box 6 1 0 0), (7, .box 7 1 0 0), (8, .box 8 1 0 0), (41, vb r41)], [(0, ⟨0, 122, 4, true, false, [.agg [.ps .opt (s117.F a0.T), vi (wr (a0.At + 1)), vb a0.Fail, vi a0.Bad]]⟩), (6, ⟨1, 38, 11, true, false, [.agg [vi 0, vw w19, vw w20, vi 0, vi 0, vi 0, vw w21, .ps .nil [], .ps .nil [], .ps .nil [], vz c0]]⟩), (7, ⟨1, 124, 4, true, false, [eToken x1]⟩), (8, ⟨1, 38, 11, true, false, [.agg [vi 0, vw w22, vw w23, vi 0, vi 0, vi 0, vw w24, .ps .nil [], .ps .nil [], .ps .nil [], vz r2]]⟩)], 2⟩ ?_
    refine Cd r41 ?_ ?_
    · intro hb; replace h := ctrue hb h
      refine Qg hT 6 [6, 8, 42, 47] ⟨[(6, .box 6 1 0 0), (8, .box 8 1 0 0), (42, .box 0 0 0 0), (47, vi (wr ((wr (a0.At + 1)) - 1)))], [(0, ⟨0, 122, 4, true, false, [.agg [.ps .opt (s117.F a0.T), vi (wr (a0.At + 1)), vb a0.Fail, vi a0.Bad]]⟩), (6, ⟨1, 38, 11, true, false, [.agg [vi 0, vw w19, vw w20, vi 0, vi 0, vi 0, vw w21, .ps .nil [], .ps .nil [], .ps .nil [], vz c0]]⟩), (7, ⟨1, 124, 4, true, false, [eToken x1]⟩), (8, ⟨1, 38, 11, true, false, [.agg [vi 0, vw w22, vw w23, vi 0, vi 0, vi 0, vw w24, .ps .nil [], .ps .nil [], .ps .nil [], vz r2]]⟩)], 2⟩ ?_
      obtain ⟨r42, hr42, h⟩ := bsome h
      refine WO_go rfl (by kernel_rfl) [(0, ⟨0, 122, 4, true, false, [eReader (Reader.mk a0.T (wr (a0.At + 1)) a0.Fail a0.Bad)]⟩)] [(0, ⟨0, 122, 4, true, false, [eReader r42]⟩)] [.box 0 0 0 0, vi (wr ((wr (a0.At + 1)) - 1))] [.box 0 0 0 0, vi (wr ((wr (a0.At + 1)) - 1))] [(0, 0, 0)] [(0, 0, 0)] [(0, ⟨0, 122, 4, true, false, [eReader r42]⟩)] (.tup []) (.tup []) 3 rfl (by kernel_rfl) en130 (by kernel_rfl) (by kernel_rfl) (by kernel_rfl) (ref1_Reader_failAt_ok hr42) (by kernel_rfl) (by kernel_rfl) (by kernel_rfl) (by kernel_rfl) ?_
      refine Sz hT 0 [6, 8] ⟨[(6, .box 6 1 0 0), (8, .box 8 1 0 0)], [(0, ⟨0, 122, 4, true, false, [eReader r42]⟩), (6, ⟨1, 38, 11, true, false, [.agg [vi 0, vw w19, vw w20, vi 0, vi 0, vi 0, vw w21, .ps .nil [], .ps .nil [], .ps .nil [], vz c0]]⟩), (7, ⟨1, 124, 4, true, false, [eToken x1]⟩), (8, ⟨1, 38, 11, true, false, [.agg [vi 0, vw w22, vw w23, vi 0, vi 0, vi 0, vw w24, .ps .nil [], .ps .nil [], .ps .nil [], vz r2]]⟩)], 3⟩ ?_
      refine Qz hT 2 [6] ⟨[(6, .box 6 1 0 0)], [(6, ⟨1, 38, 11, true, false, [.agg [vi 0, vw w22, vw w23, vi 0, vi 0, vi 0, vw w24, .ps .nil [], .ps .nil [], .ps .nil [], vz r2]]⟩), (0, ⟨0, 122, 4, true, false, [eReader r42]⟩), (7, ⟨1, 124, 4, true, false, [eToken x1]⟩), (8, ⟨1, 38, 11, true, false, [.agg [vi 0, vw w22, vw w23, vi 0, vi 0, vi 0, vw w24, .ps .nil [], .ps .nil [], .ps .nil [], vz r2]]⟩)], 3⟩ ?_
      refine aW [6] ⟨[(6, .box 6 1 0 0)], [(6, ⟨1, 38, 11, true, false, [.agg [vi 0, vw w22, vw w23, vi 0, vi 0, vi 0, vw w24, .ps .nil [], .ps .nil [], .ps .nil [], vz r2]]⟩), (0, ⟨0, 122, 4, true, false, [eReader r42]⟩), (7, ⟨1, 124, 4, true, false, [eToken x1]⟩), (8, ⟨1, 38, 11, true, false, [.agg [vi 0, vw w22, vw w23, vi 0, vi 0, vi 0, vw w24, .ps .nil [], .ps .nil [], .ps .nil [], vz r2]]⟩)], 3⟩ ?_
      refine WA_weak (Weak_leH [(6, .box 6 1 0 0)] [(6, ⟨1, 38, 11, true, false, [eStmt (Stmt.mk 0 w22 w23 0 (Expr.mk 0 0 w24 []) [] [] r2)]⟩), (0, ⟨0, 122, 4, true, false, [eReader r42]⟩), (7, ⟨1, 124, 4, true, false, [eToken x1]⟩), (8, ⟨1, 38, 11, true, false, [.agg [vi 0, vw w22, vw w23, vi 0, vi 0, vi 0, vw w24, .ps .nil [], .ps .nil [], .ps .nil [], vz r2]]⟩)] (by kernel_rfl) ⟨VLf.refl _, trivial⟩ ⟨rfl, .inr (.inl ⟨rfl, rfl, CLe.agg ⟨VLf.refl _, VLf.refl _, VLf.refl _, VLf.refl _, VLf.refl _, VLf.refl _, VLf.refl _, (VLe.f VLe.nil_opt rfl), (VLe.f VLe.nil_opt rfl), (VLe.f VLe.nil_opt rfl), VLf.refl _, trivial⟩, trivial⟩), rfl, .inl rfl, rfl, .inl rfl, rfl, .inl rfl, trivial⟩) ?_
      obtain rfl := Option.some.inj h
      exact rR [(0, 0, 0), (6, 1000, 1)] ⟨[(6, .box 1000 1 0 0)], [(0, ⟨0, 122, 4, true, false, [eReader r42]⟩), (1000, ⟨1, 38, 11, true, false, [eStmt (Stmt.mk 0 w22 w23 0 (Expr.mk 0 0 w24 []) [] [] r2)]⟩)], 2⟩ ⟨by kernel_rfl, by kernel_rfl, rfl⟩
    intro hb; replace h := cfalse hb h
    refine WA_skip ?_
    refine Qz hT 2 [0, 1, 6, 7, 8] ⟨[(0, .box 0 0 0 0), (1, vw a1), (6, .box 6 1 0 0), (7, .box 7 1 0 0), (8, .box 8 1 0 0)], [(8, ⟨1, 38, 11, true, false, [.agg [vi 1, vw w22, vw w23, vi 0, vi 0, vi 0, vw w24, .ps .nil [], .ps .nil [], .ps .nil [], vz r2]]⟩), (0, ⟨0, 122, 4, true, false, [.agg [.ps .opt (s117.F a0.T), vi (wr (a0.At + 1)), vb a0.Fail, vi a0.Bad]]⟩), (6, ⟨1, 38, 11, true, false, [.agg [vi 0, vw w19, vw w20, vi 0, vi 0, vi 0, vw w21, .ps .nil [], .ps .nil [], .ps .nil [], vz c0]]⟩), (7, ⟨1, 124, 4, true, false, [eToken x1]⟩)], 2⟩ ?_
    refine Qz hT 4 [0, 1, 6, 8] ⟨[(0, .box 0 0 0 0), (1, vw a1), (6, .box 6 1 0 0), (8, .box 8 1 0 0)], [(8, ⟨1, 38, 11, true, false, [.agg [vi 1, vw x1.Text, vw w23, vi 0, vi 0, vi 0, vw w24, .ps .nil [], .ps .nil [], .ps .nil [], vz r2]]⟩), (0, ⟨0, 122, 4, true, false, [.agg [.ps .opt (s117.F a0.T), vi (wr (a0.At + 1)), vb a0.Fail, vi a0.Bad]]⟩), (6, ⟨1, 38, 11, true, false, [.agg [vi 0, vw w19, vw w20, vi 0, vi 0, vi 0, vw w21, .ps .nil [], .ps .nil [], .ps .nil [], vz c0]]⟩), (7, ⟨1, 124, 4, true, false, [eToken x1]⟩)], 2⟩ ?_
    refine Qg hT 1 [0, 1, 6, 8, 54] ⟨[(0, .box 0 0 0 0), (1, vw a1), (6, .box 6 1 0 0), (8, .box 8 1 0 0), (54, .box 0 0 0 0)], [(8, ⟨1, 38, 11, true, false, [.agg [vi 1, vw x1.Text, vw w23, vi 0, vi 0, vi 0, vw w24, .ps .nil [], .ps .nil [], .ps .nil [], vz r2]]⟩), (0, ⟨0, 122, 4, true, false, [.agg [.ps .opt (s117.F a0.T), vi (wr (a0.At + 1)), vb a0.Fail, vi a0.Bad]]⟩), (6, ⟨1, 38, 11, true, false, [.agg [vi 0, vw w19, vw w20, vi 0, vi 0, vi 0, vw w21, .ps .nil [], .ps .nil [], .ps .nil [], vz c0]]⟩), (7, ⟨1, 124, 4, true, false, [eToken x1]⟩)], 2⟩ ?_
    obtain ⟨r43, hr43, h⟩ := bsome h
    refine WO_go rfl (by kernel_rfl) [(0, ⟨0, 122, 4, true, false, [eReader (Reader.mk a0.T (wr (a0.At + 1)) a0.Fail a0.Bad)]⟩)] [(0, ⟨0, 122, 4, true, false, [eReader r43]⟩)] [.box 0 0 0 0, vw tx31] [.box 0 0 0 0, vw tx31] [(0, 0, 0)] [(0, 0, 0)] [(0, ⟨0, 122, 4, true, false, [eReader r43]⟩)] (.tup []) (.tup []) 3 rfl (by kernel_rfl) en132 (by kernel_rfl) (by kernel_rfl) (by kernel_rfl) (ref1_Reader_must_ok hr43) (by kernel_rfl) (by kernel_rfl) (by kernel_rfl) (by kernel_rfl) ?_
    refine Sz hT 0 [0, 1, 6, 8] ⟨[(0, .box 0 0 0 0), (1, vw a1), (6, .box 6 1 0 0), (8, .box 8 1 0 0)], [(0, ⟨0, 122, 4, true, false, [eReader r43]⟩), (8, ⟨1, 38, 11, true, false, [.agg [vi 1, vw x1.Text, vw w23, vi 0, vi 0, vi 0, vw w24, .ps .nil [], .ps .nil [], .ps .nil [], vz r2]]⟩), (6, ⟨1, 38, 11, true, false, [.agg [vi 0, vw w19, vw w20, vi 0, vi 0, vi 0, vw w21, .ps .nil [], .ps .nil [], .ps .nil [], vz c0]]⟩), (7, ⟨1, 124, 4, true, false, [eToken x1]⟩)], 3⟩ ?_
    refine Rg hT 2 [6, 8, 56, 57] ⟨[(6, .box 6 1 0 0), (8, .box 8 1 0 0), (56, .box 0 0 0 0), (57, vw a1)], [(0, ⟨0, 122, 4, true, false, [eReader r43]⟩), (8, ⟨1, 38, 11, true, false, [.agg [vi 1, vw x1.Text, vw w23, vi 0, vi 0, vi 0, vw w24, .ps .nil [], .ps .nil [], .ps .nil [], vz r2]]⟩), (6, ⟨1, 38, 11, true, false, [.agg [vi 0, vw w19, vw w20, vi 0, vi 0, vi 0, vw w21, .ps .nil [], .ps .nil [], .ps .nil [], vz c0]]⟩), (7, ⟨1, 124, 4, true, false, [eToken x1]⟩)], 3⟩ ?_
    obtain ⟨r44, hr44, h⟩ := bsome h
    refine WO_go rfl (by kernel_rfl) [(0, ⟨0, 122, 4, true, false, [eReader r43]⟩)] [(0, ⟨0, 122, 4, true, false, [eReader r44.2]⟩)] [.box 0 0 0 0, vw a1] [.box 0 0 0 0, vw a1] [(0, 0, 0)] [(0, 0, 0)] [(0, ⟨0, 122, 4, true, false, [eReader r44.2]⟩)] (eExpr r44.1) (eExpr r44.1) 4 rfl (by kernel_rfl) en151 (by kernel_rfl) (by kernel_rfl) (by kernel_rfl) (ref1_Reader_whole_ok hr44) (by kernel_rfl) (by kernel_rfl) (by kernel_rfl) (by kernel_rfl) ?_
    refine Sg hT 2 [6, 8] ⟨[(6, .box 6 1 0 0), (8, .box 8 1 0 0)], [(8, ⟨1, 38, 11, true, false, [.agg [vi 1, vw x1.Text, vw w23, vi 0, vi r44.1.Kind, vi r44.1.N, vw r44.1.Name, .ps .opt (s33.F r44.1.Of), .ps .nil [], .ps .nil [], vz r2]]⟩), (0, ⟨0, 122, 4, true, false, [eReader r44.2]⟩), (6, ⟨1, 38, 11, true, false, [.agg [vi 0, vw w19, vw w20, vi 0, vi 0, vi 0, vw w21, .ps .nil [], .ps .nil [], .ps .nil [], vz c0]]⟩), (7, ⟨1, 124, 4, true, false, [eToken x1]⟩)], 4⟩ ?_
    refine oW [6, 8] ⟨[(6, .box 6 1 0 0), (8, .box 8 1 0 0)], [(8, ⟨1, 38, 11, true, false, [.agg [vi 1, vw x1.Text, vw w23, vi 0, vi r44.1.Kind, vi r44.1.N, vw r44.1.Name, .ps .opt (s33.F r44.1.Of), .ps .nil [], .ps .nil [], vz r2]]⟩), (0, ⟨0, 122, 4, true, false, [eReader r44.2]⟩), (6, ⟨1, 38, 11, true, false, [.agg [vi 0, vw w19, vw w20, vi 0, vi 0, vi 0, vw w21, .ps .nil [], .ps .nil [], .ps .nil [], vz c0]]⟩), (7, ⟨1, 124, 4, true, false, [eToken x1]⟩)], 4⟩ ?_
    refine WO_weak (Weak_ownH 8 5000 8 ⟨1, 38, 11, true, false, [.agg [vi 1, vw x1.Text, vw w23, vi 0, vi r44.1.Kind, vi r44.1.N, vw r44.1.Name, .ps .opt (s33.F r44.1.Of), .ps .nil [], .ps .nil [], vz r2]]⟩ (.agg [vi 1, vw x1.Text, vw w23, vi 0, vi r44.1.Kind, vi r44.1.N, vw r44.1.Name, .ps .opt (s33.F r44.1.Of), .ps .nil [], .ps .nil [], vz r2]) (.agg [vi 1, vw x1.Text, vw w23, vi 0, vi r44.1.Kind, vi r44.1.N, vw r44.1.Name, .ps .opt (s33.F r44.1.Of), vo 5000 4 (s32.F ([] : List Stmt)), .ps .nil [], vz r2]) 38 11 (by kernel_rfl) (by kernel_rfl) (by kernel_rfl) (by kernel_rfl) (by kernel_rfl) (by kernel_rfl) (by kernel_rfl)) ?_
    refine WO_weak (Weak_ownH 8 5001 9 ⟨1, 38, 11, true, false, [.agg [vi 1, vw x1.Text, vw w23, vi 0, vi r44.1.Kind, vi r44.1.N, vw r44.1.Name, .ps .opt (s33.F r44.1.Of), vo 5000 4 (s32.F ([] : List Stmt)), .ps .nil [], vz r2]]⟩ (.agg [vi 1, vw x1.Text, vw w23, vi 0, vi r44.1.Kind, vi r44.1.N, vw r44.1.Name, .ps .opt (s33.F r44.1.Of), vo 5000 4 (s32.F ([] : List Stmt)), .ps .nil [], vz r2]) (.agg [vi 1, vw x1.Text, vw w23, vi 0, vi r44.1.Kind, vi r44.1.N, vw r44.1.Name, .ps .opt (s33.F r44.1.Of), vo 5000 4 (s32.F ([] : List Stmt)), vo 5001 5 (s32.F ([] : List Stmt)), vz r2]) 38 11 (by kernel_rfl) (by kernel_rfl) (by kernel_rfl) (by kernel_rfl) (by kernel_rfl) (by kernel_rfl) (by kernel_rfl)) ?_
    exact oR [(0, 0, 0), (6, 6, 1), (8, 8, 1), (5000, 19508, 1), (5001, 20508, 1)] ⟨w19, w20, w21, 1, x1.Text, w23, 0, r44.1.Kind, r44.1.N, r44.1.Name, r44.1.Of, ([] : List Stmt), ([] : List Stmt), r44.2, h, rfl⟩
  subst hJ18
  rintro s ⟨w4, w5, w6, i7, w8, w9, i10, i11, i12, w13, l14, l15, l16, v17, h, rfl⟩
  refine Qz hT 2 [6] ⟨[(6, .box 6 1 0 0)], [(6, ⟨1, 38, 11, true, false, [.agg [vi i7, vw w8, vw w9, vi i10, vi i11, vi i12, vw w13, .ps .opt (s33.F l14), vo 19508 1 (s32.F l15), vo 20508 1 (s32.F l16), vz r2]]⟩), (0, ⟨0, 122, 4, true, false, [eReader v17]⟩), (8, ⟨1, 38, 11, true, false, [.agg [vi i7, vw w8, vw w9, vi i10, vi i11, vi i12, vw w13, .ps .opt (s33.F l14), vo 19508 1 (s32.F l15), vo 20508 1 (s32.F l16), vz r2]]⟩), (19508, ⟨1, 38, 11, false, true, s32.F l15⟩), (20508, ⟨1, 38, 11, false, true, s32.F l16⟩)], 2⟩ ?_
  refine aW [6] ⟨[(6, .box 6 1 0 0)], [(6, ⟨1, 38, 11, true, false, [.agg [vi i7, vw w8, vw w9, vi i10, vi i11, vi i12, vw w13, .ps .opt (s33.F l14), vo 19508 1 (s32.F l15), vo 20508 1 (s32.F l16), vz r2]]⟩), (0, ⟨0, 122, 4, true, false, [eReader v17]⟩), (8, ⟨1, 38, 11, true, false, [.agg [vi i7, vw w8, vw w9, vi i10, vi i11, vi i12, vw w13, .ps .opt (s33.F l14), vo 19508 1 (s32.F l15), vo 20508 1 (s32.F l16), vz r2]]⟩), (19508, ⟨1, 38, 11, false, true, s32.F l15⟩), (20508, ⟨1, 38, 11, false, true, s32.F l16⟩)], 2⟩ ?_
  refine WA_weak (Weak_frz 19508 1 ⟨1, 38, 11, false, true, s32.F l15⟩ (by kernel_rfl) rfl rfl [(6, .box 6 1 0 0)] [(6, ⟨1, 38, 11, true, false, [.agg [vi i7, vw w8, vw w9, vi i10, vi i11, vi i12, vw w13, .ps .opt (s33.F l14), .ps .opt (s32.F l15), vo 20508 1 (s32.F l16), vz r2]]⟩), (0, ⟨0, 122, 4, true, false, [eReader v17]⟩), (8, ⟨1, 38, 11, true, false, [.agg [vi i7, vw w8, vw w9, vi i10, vi i11, vi i12, vw w13, .ps .opt (s33.F l14), .ps .opt (s32.F l15), vo 20508 1 (s32.F l16), vz r2]]⟩), (20508, ⟨1, 38, 11, false, true, s32.F l16⟩)] ⟨rfl, .keep _, trivial⟩ ⟨rfl, .inr ⟨rfl, rfl, .aggs ⟨.keep _, .keep _, .keep _, .keep _, .keep _, .keep _, .keep _, .keep _, .hit true, .keep _, .keep _, trivial⟩, trivial⟩, rfl, .inl rfl, rfl, .inr ⟨rfl, rfl, .aggs ⟨.keep _, .keep _, .keep _, .keep _, .keep _, .keep _, .keep _, .keep _, .hit true, .keep _, .keep _, trivial⟩, trivial⟩, rfl, .inl rfl, trivial⟩) ?_
  refine WA_weak (Weak_frz 20508 1 ⟨1, 38, 11, false, true, s32.F l16⟩ (by kernel_rfl) rfl rfl [(6, .box 6 1 0 0)] [(6, ⟨1, 38, 11, true, false, [.agg [vi i7, vw w8, vw w9, vi i10, vi i11, vi i12, vw w13, .ps .opt (s33.F l14), .ps .opt (s32.F l15), .ps .opt (s32.F l16), vz r2]]⟩), (0, ⟨0, 122, 4, true, false, [eReader v17]⟩), (8, ⟨1, 38, 11, true, false, [.agg [vi i7, vw w8, vw w9, vi i10, vi i11, vi i12, vw w13, .ps .opt (s33.F l14), .ps .opt (s32.F l15), .ps .opt (s32.F l16), vz r2]]⟩)] ⟨rfl, .keep _, trivial⟩ ⟨rfl, .inr ⟨rfl, rfl, .aggs ⟨.keep _, .keep _, .keep _, .keep _, .keep _, .keep _, .keep _, .keep _, .keep _, .hit true, .keep _, trivial⟩, trivial⟩, rfl, .inl rfl, rfl, .inr ⟨rfl, rfl, .aggs ⟨.keep _, .keep _, .keep _, .keep _, .keep _, .keep _, .keep _, .keep _, .keep _, .hit true, .keep _, trivial⟩, trivial⟩, trivial⟩) ?_
  refine WA_weak (Weak_leH [(6, .box 6 1 0 0)] [(6, ⟨1, 38, 11, true, false, [eStmt (Stmt.mk i7 w8 w9 i10 (Expr.mk i11 i12 w13 l14) l15 l16 r2)]⟩), (0, ⟨0, 122, 4, true, false, [eReader v17]⟩), (8, ⟨1, 38, 11, true, false, [.agg [vi i7, vw w8, vw w9, vi i10, vi i11, vi i12, vw w13, .ps .opt (s33.F l14), .ps .opt (s32.F l15), .ps .opt (s32.F l16), vz r2]]⟩)] (by kernel_rfl) ⟨VLf.refl _, trivial⟩ ⟨rfl, .inr (.inl ⟨rfl, rfl, CLe.agg ⟨VLf.refl _, VLf.refl _, VLf.refl _, VLf.refl _, VLf.refl _, VLf.refl _, VLf.refl _, VLf.refl _, VLf.refl _, VLf.refl _, VLf.refl _, trivial⟩, trivial⟩), rfl, .inl rfl, rfl, .inl rfl, trivial⟩) ?_
  obtain rfl := Option.some.inj h
  exact rR [(0, 0, 0), (6, 1000, 1)] ⟨[(6, .box 1000 1 0 0)], [(0, ⟨0, 122, 4, true, false, [eReader v17]⟩), (1000, ⟨1, 38, 11, true, false, [eStmt (Stmt.mk i7 w8 w9 i10 (Expr.mk i11 i12 w13 l14) l15 l16 r2)]⟩)], 2⟩ ⟨by kernel_rfl, by kernel_rfl, rfl⟩
theorem ref1_Reader_block_step (n : Nat) (ih : ∀ m, m < n → ref1_Reader_stmt_spec m) : ∀ {a0 : Reader} {a1 : ByteArray} {a2 : Int} {r : (List Stmt) × Reader}, ref1_Reader_block n a0 a1 a2 = some r → GO Try.prog 107 [(0, ⟨0, 122, 4, true, false, [eReader a0]⟩)] [.box 0 0 0 0, vw a1, vi a2] (vo 100 1 (s32.F r.1)) [(0, ⟨0, 122, 4, true, false, [eReader r.2]⟩), (100, ⟨1, 38, 11, false, true, s32.F r.1⟩)] := by
  intro a0 a1 a2 r h
  rcases n with _ | n
  · rw [ref1_Reader_block] at h; cases h
  rw [ref1_Reader_block] at h
  refine GO_bodyA hT Try.func107 rfl [] (by kernel_rfl) fun bad w m => ?_
  refine Qz hT 1 [0, 1, 2] ⟨[(0, .box 0 0 0 0), (1, vw a1), (2, vi a2)], [(0, ⟨0, 122, 4, true, false, [eReader a0]⟩)], 1⟩ ?_
  refine WA_seq ?_
  refine Qz hT 2 [0, 1, 2, 10] ⟨[(0, .box 0 0 0 0), (1, vw a1), (2, vi a2), (10, vb (decide (a2 > 8)))], [(0, ⟨0, 122, 4, true, false, [eReader a0]⟩)], 1⟩ ?_
  obtain ⟨J2, hJ2, h⟩ := jsome h
  refine WA_join (fun s => ∃ (v1 : Reader), J2 v1 = some r ∧ s = ⟨[(0, .box 0 0 0 0), (1, vw a1), (2, vi a2)], [(0, ⟨0, 122, 4, true, false, [eReader v1]⟩)], 2⟩) ?_ ?_
  · refine Cd (decide (a2 > 8)) ?_ ?_
    · intro hb; replace h := ctrue hb h
      refine Rg hT 1 [0, 1, 2, 11] ⟨[(0, .box 0 0 0 0), (1, vw a1), (2, vi a2), (11, .box 0 0 0 0)], [(0, ⟨0, 122, 4, true, false, [eReader a0]⟩)], 1⟩ ?_
      obtain ⟨r3, hr3, h⟩ := bsome h
      refine WO_go rfl (by kernel_rfl) [(0, ⟨0, 122, 4, true, false, [eReader a0]⟩)] [(0, ⟨0, 122, 4, true, false, [eReader r3]⟩)] [.box 0 0 0 0] [.box 0 0 0 0] [(0, 0, 0)] [(0, 0, 0)] [(0, ⟨0, 122, 4, true, false, [eReader r3]⟩)] (.tup []) (.tup []) 2 rfl (by kernel_rfl) en103 (by kernel_rfl) (by kernel_rfl) (by kernel_rfl) (ref1_Reader_fail_ok hr3) (by kernel_rfl) (by kernel_rfl) (by kernel_rfl) (by kernel_rfl) ?_
      refine Sg hT 0 [0, 1, 2] ⟨[(0, .box 0 0 0 0), (1, vw a1), (2, vi a2)], [(0, ⟨0, 122, 4, true, false, [eReader r3]⟩)], 2⟩ ?_
      exact oK [0, 1, 2] [(0, 0, 0)] ⟨r3, h, rfl⟩
    intro hb; replace h := cfalse hb h
    exact sK [0, 1, 2] [(0, 0, 0)] ⟨a0, h, rfl⟩
  subst hJ2
  rintro s ⟨v1, h, rfl⟩
  refine Qg hT 1 [0, 1, 2, 13] ⟨[(0, .box 0 0 0 0), (1, vw a1), (2, vi a2), (13, .box 0 0 0 0)], [(0, ⟨0, 122, 4, true, false, [eReader v1]⟩)], 2⟩ ?_
  obtain ⟨r4, hr4, h⟩ := bsome h
  refine WO_go rfl (by kernel_rfl) [(0, ⟨0, 122, 4, true, false, [eReader v1]⟩)] [(0, ⟨0, 122, 4, true, false, [eReader r4]⟩)] [.box 0 0 0 0, vw tx21] [.box 0 0 0 0, vw tx21] [(0, 0, 0)] [(0, 0, 0)] [(0, ⟨0, 122, 4, true, false, [eReader r4]⟩)] (.tup []) (.tup []) 3 rfl (by kernel_rfl) en132 (by kernel_rfl) (by kernel_rfl) (by kernel_rfl) (ref1_Reader_must_ok hr4) (by kernel_rfl) (by kernel_rfl) (by kernel_rfl) (by kernel_rfl) ?_
  refine Sz hT 0 [0, 1, 2] ⟨[(0, .box 0 0 0 0), (1, vw a1), (2, vi a2)], [(0, ⟨0, 122, 4, true, false, [eReader r4]⟩)], 3⟩ ?_
  refine Qz hT 1 [0, 1, 2, 7] ⟨[(0, .box 0 0 0 0), (1, vw a1), (2, vi a2), (7, .ps .nil [])], [(0, ⟨0, 122, 4, true, false, [eReader r4]⟩)], 3⟩ ?_
  refine WA_seq ?_
  refine WA_block ?_
  refine aW [0, 1, 2, 7] ⟨[(0, .box 0 0 0 0), (1, vw a1), (2, vi a2), (7, .ps .nil [])], [(0, ⟨0, 122, 4, true, false, [eReader r4]⟩)], 3⟩ ?_
  refine WA_weak (Weak_own 7 5000 38 11 (by kernel_rfl) (by kernel_rfl) (by kernel_rfl) (by kernel_rfl)) ?_
  refine lK [0, 1, 2, 7] [(0, 0, 0), (5000, 10007, 1)] (fun k s => ∃ q, q ≤ k ∧ q ≤ n ∧ ∃ (v5 : Reader), ∃ (l6 : List Stmt), ref1_Reader_block_L0 q a0 a1 a2 v1 r4 v5 l6 = some r ∧ s = ⟨[(0, .box 0 0 0 0), (1, vw a1), (2, vi a2), (7, vo 10007 1 (s32.F l6))], [(0, ⟨0, 122, 4, true, false, [eReader v5]⟩), (10007, ⟨1, 38, 11, false, true, s32.F l6⟩)], 2⟩) n ⟨n, Nat.le_refl _, Nat.le_refl _, r4, ([] : List Stmt), h, rfl⟩ (by rintro s ⟨q, hq, _, v5, l6, h, _⟩; obtain rfl := Nat.le_zero.1 hq; rw [ref1_Reader_block_L0] at h; cases h) ?_
  clear h
  rintro k1 s ⟨q1, hk1, hn1, v5, l6, h, rfl⟩
  rcases q1 with _ | q1
  · rw [ref1_Reader_block_L0] at h; cases h
  rw [ref1_Reader_block_L0] at h
  refine WA_seq ?_
  refine WA_seq ?_
  obtain ⟨J8, hJ8, h⟩ := jsome h
  refine WA_join (fun s => ∃ (b7 : Bool), J8 b7 = some r ∧ s = ⟨[(0, .box 0 0 0 0), (1, vw a1), (2, vi a2), (7, vo 10007 1 (s32.F l6)), (24, vb b7)], [(0, ⟨0, 122, 4, true, false, [eReader v5]⟩), (10007, ⟨1, 38, 11, false, true, s32.F l6⟩)], 2⟩) ?_ ?_
  · refine Rg hT 6 [0, 1, 2, 7, 20] ⟨[(0, .box 0 0 0 0), (1, vw a1), (2, vi a2), (7, vo 10007 1 (s32.F l6)), (20, vb (!v5.Fail))], [(0, ⟨0, 122, 4, true, false, [eReader v5]⟩), (10007, ⟨1, 38, 11, false, true, s32.F l6⟩)], 2⟩ ?_
    cases hb : (!v5.Fail : Bool)
    · replace h := cfalse hb h
      refine Sg hT 4 [0, 1, 2, 7, 24] ⟨[(0, .box 0 0 0 0), (1, vw a1), (2, vi a2), (7, vo 10007 1 (s32.F l6)), (24, vb false)], [(0, ⟨0, 122, 4, true, false, [eReader v5]⟩), (10007, ⟨1, 38, 11, false, true, s32.F l6⟩)], 2⟩ ?_
      exact oK [0, 1, 2, 7, 24] [(0, 0, 0), (10007, 10007, 1)] ⟨false, h, rfl⟩
    replace h := ctrue hb h
    refine Sg hT 1 [0, 1, 2, 7, 20, 21] ⟨[(0, .box 0 0 0 0), (1, vw a1), (2, vi a2), (7, vo 10007 1 (s32.F l6)), (20, vb true), (21, .box 0 0 0 0)], [(0, ⟨0, 122, 4, true, false, [eReader v5]⟩), (10007, ⟨1, 38, 11, false, true, s32.F l6⟩)], 2⟩ ?_
    obtain ⟨r9, hr9, h⟩ := bsome h
    refine WO_ptb rfl (by kernel_rfl) [0] [.box 0 0 0 0, vw tx22] [.ref (eReader v5) 0, vw tx22] (vb r9) rfl (by kernel_rfl) en133 (by kernel_rfl) (by kernel_rfl) (by kernel_rfl) (ref1_Reader_sign_ok hr9) (by kernel_rfl) ?_
    refine Sg hT 2 [0, 1, 2, 7, 24] ⟨[(0, .box 0 0 0 0), (1, vw a1), (2, vi a2), (7, vo 10007 1 (s32.F l6)), (24, vb (!r9))], [(0, ⟨0, 122, 4, true, false, [eReader v5]⟩), (10007, ⟨1, 38, 11, false, true, s32.F l6⟩)], 2⟩ ?_
    exact oK [0, 1, 2, 7, 24] [(0, 0, 0), (10007, 10007, 1)] ⟨!r9, h, rfl⟩
  subst hJ8
  rintro s ⟨b7, h, rfl⟩
  refine Cd b7 ?_ ?_
  · intro hb; replace h := ctrue hb h
    refine WA_skip ?_
    refine WA_block ?_
    refine Qg hT 3 [0, 1, 2, 7, 25, 26, 27] ⟨[(0, .box 0 0 0 0), (1, vw a1), (2, vi a2), (7, vo 10007 1 (s32.F l6)), (25, .box 0 0 0 0), (26, vw a1), (27, vi a2)], [(0, ⟨0, 122, 4, true, false, [eReader v5]⟩), (10007, ⟨1, 38, 11, false, true, s32.F l6⟩)], 2⟩ ?_
    obtain ⟨r10, hr10, h⟩ := bsome h
    refine WO_go rfl (by kernel_rfl) [(0, ⟨0, 122, 4, true, false, [eReader v5]⟩)] [(0, ⟨0, 122, 4, true, false, [eReader r10.2]⟩)] [.box 0 0 0 0, vw a1, vi a2] [.box 0 0 0 0, vw a1, vi a2] [(0, 0, 0)] [(0, 0, 0)] [(0, ⟨0, 122, 4, true, false, [eReader r10.2]⟩)] (eStmt r10.1) (eStmt r10.1) 3 rfl (by kernel_rfl) en134 (by kernel_rfl) (by kernel_rfl) (by kernel_rfl) ((ih _ (by omega)).1 hr10) (by kernel_rfl) (by kernel_rfl) (by kernel_rfl) (by kernel_rfl) ?_
    refine Sz hT 2 [0, 1, 2, 7, 8] ⟨[(0, .box 0 0 0 0), (1, vw a1), (2, vi a2), (7, vo 10007 1 (s32.F l6)), (8, .box 8 3 0 0)], [(8, ⟨3, 38, 11, true, false, [eStmt r10.1]⟩), (0, ⟨0, 122, 4, true, false, [eReader r10.2]⟩), (10007, ⟨1, 38, 11, false, true, s32.F l6⟩)], 4⟩ ?_
    refine Qz hT 5 [0, 1, 2, 7, 8, 33] ⟨[(0, .box 0 0 0 0), (1, vw a1), (2, vi a2), (7, vo 10007 1 (s32.F l6)), (8, .box 8 3 0 0), (33, vb (!r10.2.Fail))], [(8, ⟨3, 38, 11, true, false, [eStmt r10.1]⟩), (0, ⟨0, 122, 4, true, false, [eReader r10.2]⟩), (10007, ⟨1, 38, 11, false, true, s32.F l6⟩)], 4⟩ ?_
    refine Cd (!r10.2.Fail) ?_ ?_
    · intro hb; replace h := ctrue hb h
      refine Rg hT 2 [0, 1, 2, 34, 35] ⟨[(0, .box 0 0 0 0), (1, vw a1), (2, vi a2), (34, vo 10007 1 (s32.F l6)), (35, eStmt r10.1)], [(8, ⟨3, 38, 11, true, false, [eStmt r10.1]⟩), (0, ⟨0, 122, 4, true, false, [eReader r10.2]⟩), (10007, ⟨1, 38, 11, false, true, s32.F l6⟩)], 4⟩ ?_
      refine One hT rfl (ev_bslice s32 36 [r10.1] (by kernel_rfl)) ?_
      refine Sg hT 0 [0, 1, 2, 34, 36] ⟨[(0, .box 0 0 0 0), (1, vw a1), (2, vi a2), (34, vo 10007 1 (s32.F l6)), (36, vo 36 4 (s32.F [r10.1]))], [(36, ⟨4, 38, 11, false, false, s32.F [r10.1]⟩), (8, ⟨3, 38, 11, true, false, [eStmt r10.1]⟩), (0, ⟨0, 122, 4, true, false, [eReader r10.2]⟩), (10007, ⟨1, 38, 11, false, true, s32.F l6⟩)], 5⟩ ?_
      obtain ⟨g11, h⟩ := gsome h
      refine WO_append hT s32 rfl (by kernel_rfl) 10007 1 true l6 [r10.1] rfl (by kernel_rfl) (by kernel_rfl) (elems_own s32 36 4 true ⟨4, 38, 11, false, false, s32.F [r10.1]⟩ [r10.1] (by kernel_rfl) (by kernel_rfl) rfl rfl rfl) g11 (by kernel_rfl) ?_
      refine Sg hT 1 [0, 1, 2, 7] ⟨[(0, .box 0 0 0 0), (1, vw a1), (2, vi a2), (7, vo 37 5 (s32.F (l6 ++ [r10.1])))], [(37, ⟨5, 38, 11, false, true, s32.F (l6 ++ [r10.1])⟩), (36, ⟨4, 38, 11, false, false, s32.F [r10.1]⟩), (8, ⟨3, 38, 11, true, false, [eStmt r10.1]⟩), (0, ⟨0, 122, 4, true, false, [eReader r10.2]⟩)], 6⟩ ?_
      exact oK [0, 1, 2, 7] [(0, 0, 0), (37, 10007, 1)] ⟨_, by omega, by omega, r10.2, l6 ++ [r10.1], h, rfl⟩
    intro hb; replace h := cfalse hb h
    exact sK [0, 1, 2, 7] [(0, 0, 0), (10007, 10007, 1)] ⟨_, by omega, by omega, r10.2, l6, h, rfl⟩
  intro hb; replace h := cfalse hb h
  refine WA_exit ?_
  refine Qg hT 1 [7, 38] ⟨[(7, vo 10007 1 (s32.F l6)), (38, .box 0 0 0 0)], [(0, ⟨0, 122, 4, true, false, [eReader v5]⟩), (10007, ⟨1, 38, 11, false, true, s32.F l6⟩)], 2⟩ ?_
  obtain ⟨r12, hr12, h⟩ := bsome h
  refine WO_go rfl (by kernel_rfl) [(0, ⟨0, 122, 4, true, false, [eReader v5]⟩)] [(0, ⟨0, 122, 4, true, false, [eReader r12]⟩)] [.box 0 0 0 0, vw tx22] [.box 0 0 0 0, vw tx22] [(0, 0, 0)] [(0, 0, 0)] [(0, ⟨0, 122, 4, true, false, [eReader r12]⟩)] (.tup []) (.tup []) 3 rfl (by kernel_rfl) en132 (by kernel_rfl) (by kernel_rfl) (by kernel_rfl) (ref1_Reader_must_ok hr12) (by kernel_rfl) (by kernel_rfl) (by kernel_rfl) (by kernel_rfl) ?_
  refine Sz hT 0 [7] ⟨[(7, vo 10007 1 (s32.F l6))], [(0, ⟨0, 122, 4, true, false, [eReader r12]⟩), (10007, ⟨1, 38, 11, false, true, s32.F l6⟩)], 3⟩ ?_
  refine Qz hT 2 [6] ⟨[(6, vo 10007 1 (s32.F l6))], [(0, ⟨0, 122, 4, true, false, [eReader r12]⟩), (10007, ⟨1, 38, 11, false, true, s32.F l6⟩)], 3⟩ ?_
  obtain rfl := Option.some.inj h
  exact rK [6] [(0, 0, 0), (10007, 100, 1)] ⟨[(6, vo 100 1 (s32.F l6))], [(0, ⟨0, 122, 4, true, false, [eReader r12]⟩), (100, ⟨1, 38, 11, false, true, s32.F l6⟩)], 2⟩ ⟨by kernel_rfl, by kernel_rfl, rfl⟩
theorem ref1_Reader_stmt_all (n : Nat) : ref1_Reader_stmt_spec n := by
  induction n using Nat.strongRecOn with
  | _ n ih => exact ⟨ref1_Reader_stmt_step n ih, ref1_Reader_block_step n ih⟩
theorem ref1_Reader_stmt_ok {n : Nat} {a0 : Reader} {a1 : ByteArray} {a2 : Int} {r : Stmt × Reader} (h : ref1_Reader_stmt n a0 a1 a2 = some r) : GO Try.prog 134 [(0, ⟨0, 122, 4, true, false, [eReader a0]⟩)] [.box 0 0 0 0, vw a1, vi a2] (eStmt r.1) [(0, ⟨0, 122, 4, true, false, [eReader r.2]⟩)] := (ref1_Reader_stmt_all n).1 h
theorem ref1_Reader_block_ok {n : Nat} {a0 : Reader} {a1 : ByteArray} {a2 : Int} {r : (List Stmt) × Reader} (h : ref1_Reader_block n a0 a1 a2 = some r) : GO Try.prog 107 [(0, ⟨0, 122, 4, true, false, [eReader a0]⟩)] [.box 0 0 0 0, vw a1, vi a2] (vo 100 1 (s32.F r.1)) [(0, ⟨0, 122, 4, true, false, [eReader r.2]⟩), (100, ⟨1, 38, 11, false, true, s32.F r.1⟩)] := (ref1_Reader_stmt_all n).2 h

end Go.Su.Ytlfpfdkjfibdhaa
