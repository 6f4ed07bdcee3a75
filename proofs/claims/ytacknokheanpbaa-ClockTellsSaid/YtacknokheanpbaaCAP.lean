/-
  The functions of the program compute that.
-/
import Derived.Test.YtacknokheanpbaaCAF
namespace Go.Su.Ytacknokheanpbaa
open Go.Mx Go.Proofs
set_option maxRecDepth 100000
set_option maxHeartbeats 4000000
set_option linter.unusedVariables false
set_option linter.unusedSimpArgs false

theorem hand_Pick_ok {n : Nat} {a0 : Int} {a1 : Int} {r : Int} (h : hand_Pick n a0 a1 = some r) : PT Try.prog 12 [vi a0, vi a1] (vi r) := by
  unfold hand_Pick at h
  refine PT_bodyA hT Try.func12 rfl (by kernel_rfl) fun bad w => ?_
  refine Qz hT 1 [0, 1] ⟨[(0, vi a0), (1, vi a1)], [], 0⟩ ?_
  refine Qg hT 2 [1, 5, 6] ⟨[(1, vi a1), (5, vi a0), (6, vi a1)], [], 0⟩ ?_
  obtain ⟨g1, h⟩ := g0some h
  refine One hT rfl (ev_rem .i64 a0 a1 g1 (by kernel_rfl) (by kernel_rfl)) ?_
  refine Sz hT 1 [0, 1] ⟨[(0, vi (a0.tmod a1)), (1, vi a1)], [], 0⟩ ?_
  refine WA_seq ?_
  refine Qz hT 2 [0, 1, 9] ⟨[(0, vi (a0.tmod a1)), (1, vi a1), (9, vb (decide ((a0.tmod a1) < 0)))], [], 0⟩ ?_
  obtain ⟨J3, hJ3, h⟩ := jsome h
  refine WA_join (fun s => ∃ (i2 : Int), J3 i2 = some r ∧ s = ⟨[(0, vi i2)], [], 1⟩) ?_ ?_
  · refine Cd (decide ((a0.tmod a1) < 0)) ?_ ?_
    · intro hb; replace h := ctrue hb h
      refine Rg hT 4 [0] ⟨[(0, vi (wr ((a0.tmod a1) + a1)))], [], 0⟩ ?_
      exact oK [0] [] ⟨wr ((a0.tmod a1) + a1), h, rfl⟩
    intro hb; replace h := cfalse hb h
    exact sK [0] [] ⟨a0.tmod a1, h, rfl⟩
  subst hJ3
  rintro s ⟨i2, h, rfl⟩
  refine Qz hT 2 [4] ⟨[(4, vi i2)], [], 1⟩ ?_
  obtain rfl := Option.some.inj h
  exact rK [4] [] ⟨[(4, vi i2)], [], 1⟩ ⟨by kernel_rfl, rfl⟩

theorem law18_of_ok {n : Nat} {a0 : Arr4_i64} {r : Arr4_i64} (h : law18_of n a0 = some r) : PT Try.prog 11 [eArr4_i64 a0] (eArr4_i64 r) := by
  unfold law18_of at h
  refine PT_bodyA hT Try.func11 rfl (by kernel_rfl) fun bad w => ?_
  refine Qz hT 2 [1, 2] ⟨[(1, .box 1 0 0 0), (2, .box 2 1 0 0)], [(2, ⟨1, 23, 4, true, false, [.agg [vi 0, vi 0, vi 0, vi 0]]⟩), (1, ⟨0, 22, 4, true, false, [eArr4_i64 a0]⟩)], 2⟩ ?_
  refine Qz hT 1 [1, 2, 3] ⟨[(1, .box 1 0 0 0), (2, .box 2 1 0 0), (3, .box 3 2 0 0)], [(3, ⟨2, 23, 4, true, false, [.agg [vi 0, vi 0, vi 0, vi 0]]⟩), (2, ⟨1, 23, 4, true, false, [.agg [vi 0, vi 0, vi 0, vi 0]]⟩), (1, ⟨0, 22, 4, true, false, [eArr4_i64 a0]⟩)], 3⟩ ?_
  refine WA_seq ?_
  refine Qz hT 1 [1, 2, 3, 5] ⟨[(1, .box 1 0 0 0), (2, .box 2 1 0 0), (3, .box 3 2 0 0), (5, vi 0)], [(3, ⟨2, 23, 4, true, false, [.agg [vi 0, vi 0, vi 0, vi 0]]⟩), (2, ⟨1, 23, 4, true, false, [.agg [vi 0, vi 0, vi 0, vi 0]]⟩), (1, ⟨0, 22, 4, true, false, [eArr4_i64 a0]⟩)], 3⟩ ?_
  refine WA_block ?_
  refine lK [1, 2, 3, 5] [(1, 1, 0), (2, 2, 0), (3, 3, 0)] (fun k s => ∃ q, q ≤ k ∧ q ≤ n ∧ ∃ (i3 : Int), ∃ (i4 : Int), ∃ (i5 : Int), ∃ (i6 : Int), ∃ (i7 : Int), law18_of_L0 q a0 i3 i4 i5 i6 i7 = some r ∧ s = ⟨[(1, .box 1 0 0 0), (2, .box 2 0 0 0), (3, .box 3 0 0 0), (5, vi i7)], [(1, ⟨0, 22, 4, true, false, [eArr4_i64 a0]⟩), (2, ⟨0, 23, 4, true, false, [.agg [vi 0, vi 0, vi 0, vi 0]]⟩), (3, ⟨0, 23, 4, true, false, [.agg [vi i3, vi i4, vi i5, vi i6]]⟩)], 1⟩) n ⟨n, Nat.le_refl _, Nat.le_refl _, 0, 0, 0, 0, 0, h, rfl⟩ (by rintro s ⟨q, hq, _, i3, i4, i5, i6, i7, h, _⟩; obtain rfl := Nat.le_zero.1 hq; rw [law18_of_L0] at h; cases h) ?_
  clear h
  rintro k1 s ⟨q1, hk1, hn1, i3, i4, i5, i6, i7, h, rfl⟩
  rcases q1 with _ | q1
  · rw [law18_of_L0] at h; cases h
  rw [law18_of_L0] at h
  refine Qz hT 1 [1, 2, 3, 5, 6] ⟨[(1, .box 1 0 0 0), (2, .box 2 0 0 0), (3, .box 3 0 0 0), (5, vi i7), (6, vb (decide (i7 < 4)))], [(1, ⟨0, 22, 4, true, false, [eArr4_i64 a0]⟩), (2, ⟨0, 23, 4, true, false, [.agg [vi 0, vi 0, vi 0, vi 0]]⟩), (3, ⟨0, 23, 4, true, false, [.agg [vi i3, vi i4, vi i5, vi i6]]⟩)], 1⟩ ?_
  refine WA_seq ?_
  refine Cd (decide (i7 < 4)) ?_ ?_
  · intro hb; replace h := ctrue hb h
    refine WA_skip ?_
    refine WA_seq ?_
    refine WA_block ?_
    refine Qz hT 2 [1, 2, 3, 4, 5] ⟨[(1, .box 1 0 0 0), (2, .box 2 0 0 0), (3, .box 3 0 0 0), (4, vi i7), (5, vi i7)], [(1, ⟨0, 22, 4, true, false, [eArr4_i64 a0]⟩), (2, ⟨0, 23, 4, true, false, [.agg [vi 0, vi 0, vi 0, vi 0]]⟩), (3, ⟨0, 23, 4, true, false, [.agg [vi i3, vi i4, vi i5, vi i6]]⟩)], 1⟩ ?_
    refine Rg hT 2 [1, 2, 3, 5, 8, 9] ⟨[(1, .box 1 0 0 0), (2, .box 2 0 0 0), (3, .box 3 0 0 0), (5, vi i7), (8, vi i7), (9, vi i7)], [(1, ⟨0, 22, 4, true, false, [eArr4_i64 a0]⟩), (2, ⟨0, 23, 4, true, false, [.agg [vi 0, vi 0, vi 0, vi 0]]⟩), (3, ⟨0, 23, 4, true, false, [.agg [vi i3, vi i4, vi i5, vi i6]]⟩)], 1⟩ ?_
    obtain ⟨x8, hx8, h⟩ := bsome h
    refine One hT rfl (ev_indexAddrA [a0.e0, a0.e1, a0.e2, a0.e3] 1 0 .i64 i7 _ _ 3 hx8 (by kernel_rfl) (by kernel_rfl) rfl rfl rfl rfl (by kernel_rfl)) ?_
    refine Sg hT 0 [1, 2, 3, 5, 8, 10] ⟨[(1, .box 1 0 0 0), (2, .box 2 0 0 0), (3, .box 3 0 0 0), (5, vi i7), (8, vi i7), (10, .box 1 0 0 i7.toNat)], [(1, ⟨0, 22, 4, true, false, [eArr4_i64 a0]⟩), (2, ⟨0, 23, 4, true, false, [.agg [vi 0, vi 0, vi 0, vi 0]]⟩), (3, ⟨0, 23, 4, true, false, [.agg [vi i3, vi i4, vi i5, vi i6]]⟩)], 1⟩ ?_
    refine One hT rfl (ev_loadA e_i64 [a0.e0, a0.e1, a0.e2, a0.e3] 1 0 ⟨0, 22, 4, true, false, [eArr4_i64 a0]⟩ i7 _ hx8 (by kernel_rfl) (by kernel_rfl) rfl rfl rfl rfl rfl) ?_
    refine Sg hT 0 [1, 2, 3, 5, 8, 11] ⟨[(1, .box 1 0 0 0), (2, .box 2 0 0 0), (3, .box 3 0 0 0), (5, vi i7), (8, vi i7), (11, vi x8)], [(1, ⟨0, 22, 4, true, false, [eArr4_i64 a0]⟩), (2, ⟨0, 23, 4, true, false, [.agg [vi 0, vi 0, vi 0, vi 0]]⟩), (3, ⟨0, 23, 4, true, false, [.agg [vi i3, vi i4, vi i5, vi i6]]⟩)], 1⟩ ?_
    obtain ⟨r9, hr9, h⟩ := bsome h
    refine Pt en12 (hand_Pick_ok hr9) ?_
    refine Sg hT 0 [1, 2, 3, 5, 8, 12] ⟨[(1, .box 1 0 0 0), (2, .box 2 0 0 0), (3, .box 3 0 0 0), (5, vi i7), (8, vi i7), (12, vi r9)], [(1, ⟨0, 22, 4, true, false, [eArr4_i64 a0]⟩), (2, ⟨0, 23, 4, true, false, [.agg [vi 0, vi 0, vi 0, vi 0]]⟩), (3, ⟨0, 23, 4, true, false, [.agg [vi i3, vi i4, vi i5, vi i6]]⟩)], 1⟩ ?_
    obtain ⟨x10, hx10, h⟩ := bsome h
    refine One hT rfl (ev_indexAddrA [i3, i4, i5, i6] 3 0 .i64 i7 _ _ 3 hx10 (by kernel_rfl) (by kernel_rfl) rfl rfl rfl rfl (by kernel_rfl)) ?_
    refine Sg hT 0 [1, 2, 3, 5, 12, 13] ⟨[(1, .box 1 0 0 0), (2, .box 2 0 0 0), (3, .box 3 0 0 0), (5, vi i7), (12, vi r9), (13, .box 3 0 0 i7.toNat)], [(1, ⟨0, 22, 4, true, false, [eArr4_i64 a0]⟩), (2, ⟨0, 23, 4, true, false, [.agg [vi 0, vi 0, vi 0, vi 0]]⟩), (3, ⟨0, 23, 4, true, false, [.agg [vi i3, vi i4, vi i5, vi i6]]⟩)], 1⟩ ?_
    refine One hT rfl (ev_storeA e_i64 [i3, i4, i5, i6] 3 0 ⟨0, 23, 4, true, false, [.agg [vi i3, vi i4, vi i5, vi i6]]⟩ i7 r9 _ hx10 (by kernel_rfl) (by kernel_rfl) rfl rfl rfl rfl (fun _ => rfl) (fun _ => rfl) (fun _ => rfl) rfl rfl) ?_
    refine Sz hT 0 [1, 2, 3, 5] ⟨[(1, .box 1 0 0 0), (2, .box 2 0 0 0), (3, .box 3 0 0 0), (5, vi i7)], [(3, ⟨0, 23, 4, true, false, [.agg [vi (selA i7 0 r9 i3), vi (selA i7 1 r9 i4), vi (selA i7 2 r9 i5), vi (selA i7 3 r9 i6)]]⟩), (1, ⟨0, 22, 4, true, false, [eArr4_i64 a0]⟩), (2, ⟨0, 23, 4, true, false, [.agg [vi 0, vi 0, vi 0, vi 0]]⟩)], 1⟩ ?_
    refine Rg hT 2 [1, 2, 3, 5] ⟨[(1, .box 1 0 0 0), (2, .box 2 0 0 0), (3, .box 3 0 0 0), (5, vi (wr (i7 + 1)))], [(3, ⟨0, 23, 4, true, false, [.agg [vi (selA i7 0 r9 i3), vi (selA i7 1 r9 i4), vi (selA i7 2 r9 i5), vi (selA i7 3 r9 i6)]]⟩), (1, ⟨0, 22, 4, true, false, [eArr4_i64 a0]⟩), (2, ⟨0, 23, 4, true, false, [.agg [vi 0, vi 0, vi 0, vi 0]]⟩)], 1⟩ ?_
    exact oK [1, 2, 3, 5] [(1, 1, 0), (2, 2, 0), (3, 3, 0)] ⟨_, by omega, by omega, selA i7 0 r9 i3, selA i7 1 r9 i4, selA i7 2 r9 i5, selA i7 3 r9 i6, wr (i7 + 1), h, rfl⟩
  intro hb; replace h := cfalse hb h
  refine WA_exit ?_
  refine Qz hT 2 [2] ⟨[(2, .box 2 0 0 0)], [(2, ⟨0, 23, 4, true, false, [.agg [vi i3, vi i4, vi i5, vi i6]]⟩), (1, ⟨0, 22, 4, true, false, [eArr4_i64 a0]⟩), (3, ⟨0, 23, 4, true, false, [.agg [vi i3, vi i4, vi i5, vi i6]]⟩)], 1⟩ ?_
  refine aW [2] ⟨[(2, .box 2 0 0 0)], [(2, ⟨0, 23, 4, true, false, [.agg [vi i3, vi i4, vi i5, vi i6]]⟩), (1, ⟨0, 22, 4, true, false, [eArr4_i64 a0]⟩), (3, ⟨0, 23, 4, true, false, [.agg [vi i3, vi i4, vi i5, vi i6]]⟩)], 1⟩ ?_
  refine WA_weak (Weak_leH [(2, .box 2 0 0 0)] [(2, ⟨0, 23, 4, true, false, [eArr4_i64 (Arr4_i64.mk i3 i4 i5 i6)]⟩), (1, ⟨0, 22, 4, true, false, [eArr4_i64 a0]⟩), (3, ⟨0, 23, 4, true, false, [.agg [vi i3, vi i4, vi i5, vi i6]]⟩)] (by kernel_rfl) ⟨VLf.refl _, trivial⟩ ⟨rfl, .inr (.inl ⟨rfl, rfl, CLe.agg ⟨VLf.refl _, VLf.refl _, VLf.refl _, VLf.refl _, trivial⟩, trivial⟩), rfl, .inl rfl, rfl, .inl rfl, trivial⟩) ?_
  obtain rfl := Option.some.inj h
  exact rR [(2, 1000, 0)] ⟨[(2, .box 1000 0 0 0)], [(1000, ⟨0, 23, 4, true, false, [eArr4_i64 (Arr4_i64.mk i3 i4 i5 i6)]⟩)], 1⟩ ⟨by kernel_rfl, rfl⟩

theorem clock_Join_ok {n : Nat} {a0 : Arr4_i64} {a1 : Arr4_i64} {r : Arr4_i64} (h : clock_Join n a0 a1 = some r) : PT Try.prog 13 [eArr4_i64 a0, eArr4_i64 a1] (eArr4_i64 r) := by
  unfold clock_Join at h
  refine PT_bodyA hT Try.func13 rfl (by kernel_rfl) fun bad w => ?_
  refine Qz hT 3 [2, 3, 4] ⟨[(2, .box 2 0 0 0), (3, .box 3 1 0 0), (4, .box 4 2 0 0)], [(4, ⟨2, 23, 4, true, false, [.agg [vi 0, vi 0, vi 0, vi 0]]⟩), (3, ⟨1, 23, 4, true, false, [eArr4_i64 a1]⟩), (2, ⟨0, 23, 4, true, false, [eArr4_i64 a0]⟩)], 3⟩ ?_
  refine WA_seq ?_
  refine Qz hT 1 [2, 3, 4, 6] ⟨[(2, .box 2 0 0 0), (3, .box 3 1 0 0), (4, .box 4 2 0 0), (6, vi 0)], [(4, ⟨2, 23, 4, true, false, [.agg [vi 0, vi 0, vi 0, vi 0]]⟩), (3, ⟨1, 23, 4, true, false, [eArr4_i64 a1]⟩), (2, ⟨0, 23, 4, true, false, [eArr4_i64 a0]⟩)], 3⟩ ?_
  refine WA_block ?_
  refine lK [2, 3, 4, 6] [(2, 2, 0), (3, 3, 0), (4, 4, 0)] (fun k s => ∃ q, q ≤ k ∧ q ≤ n ∧ ∃ (i3 : Int), ∃ (i4 : Int), ∃ (i5 : Int), ∃ (i6 : Int), ∃ (i7 : Int), clock_Join_L0 q a0 a1 i3 i4 i5 i6 i7 = some r ∧ s = ⟨[(2, .box 2 0 0 0), (3, .box 3 0 0 0), (4, .box 4 0 0 0), (6, vi i7)], [(2, ⟨0, 23, 4, true, false, [.agg [vi i3, vi i4, vi i5, vi i6]]⟩), (3, ⟨0, 23, 4, true, false, [eArr4_i64 a1]⟩), (4, ⟨0, 23, 4, true, false, [.agg [vi 0, vi 0, vi 0, vi 0]]⟩)], 1⟩) n ⟨n, Nat.le_refl _, Nat.le_refl _, a0.e0, a0.e1, a0.e2, a0.e3, 0, h, rfl⟩ (by rintro s ⟨q, hq, _, i3, i4, i5, i6, i7, h, _⟩; obtain rfl := Nat.le_zero.1 hq; rw [clock_Join_L0] at h; cases h) ?_
  clear h
  rintro k1 s ⟨q1, hk1, hn1, i3, i4, i5, i6, i7, h, rfl⟩
  rcases q1 with _ | q1
  · rw [clock_Join_L0] at h; cases h
  rw [clock_Join_L0] at h
  refine Qz hT 1 [2, 3, 4, 6, 7] ⟨[(2, .box 2 0 0 0), (3, .box 3 0 0 0), (4, .box 4 0 0 0), (6, vi i7), (7, vb (decide (i7 < 4)))], [(2, ⟨0, 23, 4, true, false, [.agg [vi i3, vi i4, vi i5, vi i6]]⟩), (3, ⟨0, 23, 4, true, false, [eArr4_i64 a1]⟩), (4, ⟨0, 23, 4, true, false, [.agg [vi 0, vi 0, vi 0, vi 0]]⟩)], 1⟩ ?_
  refine WA_seq ?_
  refine Cd (decide (i7 < 4)) ?_ ?_
  · intro hb; replace h := ctrue hb h
    refine WA_skip ?_
    refine WA_seq ?_
    refine WA_block ?_
    refine Qz hT 2 [2, 3, 4, 5, 6] ⟨[(2, .box 2 0 0 0), (3, .box 3 0 0 0), (4, .box 4 0 0 0), (5, vi i7), (6, vi i7)], [(2, ⟨0, 23, 4, true, false, [.agg [vi i3, vi i4, vi i5, vi i6]]⟩), (3, ⟨0, 23, 4, true, false, [eArr4_i64 a1]⟩), (4, ⟨0, 23, 4, true, false, [.agg [vi 0, vi 0, vi 0, vi 0]]⟩)], 1⟩ ?_
    refine WA_drawW hT hM (by kernel_rfl) ?_
    refine WD_seg 2 ⟨[(10, vi i7), (9, vi i7), (2, .box 2 0 0 0), (3, .box 3 0 0 0), (4, .box 4 0 0 0), (5, vi i7), (6, vi i7)], [(2, ⟨0, 23, 4, true, false, [.agg [vi i3, vi i4, vi i5, vi i6]]⟩), (3, ⟨0, 23, 4, true, false, [eArr4_i64 a1]⟩), (4, ⟨0, 23, 4, true, false, [.agg [vi 0, vi 0, vi 0, vi 0]]⟩)], 1⟩ [] [] (by kernel_rfl) (by kernel_rfl) ?_
    obtain ⟨x8, hx8, h⟩ := bsome h
    refine WD_loc rfl (by kernel_rfl) (by kernel_rfl) (by kernel_rfl) (ev_indexAddrA [i3, i4, i5, i6] 2 0 .i64 i7 _ _ 3 hx8 (by kernel_rfl) (by kernel_rfl) rfl rfl rfl rfl (by kernel_rfl)) (by kernel_rfl) ?_
    refine WD_loc rfl (by kernel_rfl) (by kernel_rfl) (by kernel_rfl) (ev_loadA e_i64 [i3, i4, i5, i6] 2 0 ⟨0, 23, 4, true, false, [.agg [vi i3, vi i4, vi i5, vi i6]]⟩ i7 _ hx8 (by kernel_rfl) (by kernel_rfl) rfl rfl rfl rfl rfl) (by kernel_rfl) ?_
    refine WD_seg 1 ⟨[(13, vi i7), (12, vi x8), (11, .box 2 0 0 i7.toNat), (10, vi i7), (9, vi i7), (2, .box 2 0 0 0), (3, .box 3 0 0 0), (4, .box 4 0 0 0), (5, vi i7), (6, vi i7)], [(2, ⟨0, 23, 4, true, false, [.agg [vi i3, vi i4, vi i5, vi i6]]⟩), (3, ⟨0, 23, 4, true, false, [eArr4_i64 a1]⟩), (4, ⟨0, 23, 4, true, false, [.agg [vi 0, vi 0, vi 0, vi 0]]⟩)], 1⟩ [] [(2, [2]), (3, [2])] (by kernel_rfl) (by kernel_rfl) ?_
    obtain ⟨x9, hx9, h⟩ := bsome h
    refine WD_loc rfl (by kernel_rfl) (by kernel_rfl) (by kernel_rfl) (ev_indexAddrA [a1.e0, a1.e1, a1.e2, a1.e3] 3 0 .i64 i7 _ _ 3 hx9 (by kernel_rfl) (by kernel_rfl) rfl rfl rfl rfl (by kernel_rfl)) (by kernel_rfl) ?_
    refine WD_loc rfl (by kernel_rfl) (by kernel_rfl) (by kernel_rfl) (ev_loadA e_i64 [a1.e0, a1.e1, a1.e2, a1.e3] 3 0 ⟨0, 23, 4, true, false, [eArr4_i64 a1]⟩ i7 _ hx9 (by kernel_rfl) (by kernel_rfl) rfl rfl rfl rfl rfl) (by kernel_rfl) ?_
    refine WD_seg 1 ⟨[(16, vi (gomax x8 x9)), (15, vi x9), (14, .box 3 0 0 i7.toNat), (13, vi i7), (12, vi x8), (11, .box 2 0 0 i7.toNat), (10, vi i7), (9, vi i7), (2, .box 2 0 0 0), (3, .box 3 0 0 0), (4, .box 4 0 0 0), (5, vi i7), (6, vi i7)], [(2, ⟨0, 23, 4, true, false, [.agg [vi i3, vi i4, vi i5, vi i6]]⟩), (3, ⟨0, 23, 4, true, false, [eArr4_i64 a1]⟩), (4, ⟨0, 23, 4, true, false, [.agg [vi 0, vi 0, vi 0, vi 0]]⟩)], 1⟩ [] [(2, [2]), (3, [2]), (5, [3]), (6, [3])] (by kernel_rfl) (by kernel_rfl) ?_
    obtain ⟨x10, hx10, h⟩ := bsome h
    refine WD_loc rfl (by kernel_rfl) (by kernel_rfl) (by kernel_rfl) (ev_indexAddrA [i3, i4, i5, i6] 2 0 .i64 i7 _ _ 3 hx10 (by kernel_rfl) (by kernel_rfl) rfl rfl rfl rfl (by kernel_rfl)) (by kernel_rfl) ?_
    refine WD_wr rfl (by kernel_rfl) (by kernel_rfl) (by kernel_rfl) (ev_storeA e_i64 [i3, i4, i5, i6] 2 0 ⟨0, 23, 4, true, false, [.agg [vi i3, vi i4, vi i5, vi i6]]⟩ i7 (gomax x8 x9) _ hx10 (by kernel_rfl) (by kernel_rfl) rfl rfl rfl rfl (fun _ => rfl) (fun _ => rfl) (fun _ => rfl) rfl rfl) (by kernel_rfl) ?_
    refine WD_end (by kernel_rfl) (by kernel_rfl) (by kernel_rfl) ?_
    refine Wk_done ?_
    refine Rg hT 2 [2, 3, 4, 6] ⟨[(2, .box 2 0 0 0), (3, .box 3 0 0 0), (4, .box 4 0 0 0), (6, vi (wr (i7 + 1)))], [(2, ⟨0, 23, 4, true, false, [.agg [vi (selA i7 0 (gomax x8 x9) i3), vi (selA i7 1 (gomax x8 x9) i4), vi (selA i7 2 (gomax x8 x9) i5), vi (selA i7 3 (gomax x8 x9) i6)]]⟩), (3, ⟨0, 23, 4, true, false, [eArr4_i64 a1]⟩), (4, ⟨0, 23, 4, true, false, [.agg [vi 0, vi 0, vi 0, vi 0]]⟩)], 1⟩ ?_
    exact oK [2, 3, 4, 6] [(2, 2, 0), (3, 3, 0), (4, 4, 0)] ⟨_, by omega, by omega, selA i7 0 (gomax x8 x9) i3, selA i7 1 (gomax x8 x9) i4, selA i7 2 (gomax x8 x9) i5, selA i7 3 (gomax x8 x9) i6, wr (i7 + 1), h, rfl⟩
  intro hb; replace h := cfalse hb h
  refine WA_exit ?_
  refine Qz hT 2 [4] ⟨[(4, .box 4 0 0 0)], [(4, ⟨0, 23, 4, true, false, [.agg [vi i3, vi i4, vi i5, vi i6]]⟩), (2, ⟨0, 23, 4, true, false, [.agg [vi i3, vi i4, vi i5, vi i6]]⟩), (3, ⟨0, 23, 4, true, false, [eArr4_i64 a1]⟩)], 1⟩ ?_
  refine aW [4] ⟨[(4, .box 4 0 0 0)], [(4, ⟨0, 23, 4, true, false, [.agg [vi i3, vi i4, vi i5, vi i6]]⟩), (2, ⟨0, 23, 4, true, false, [.agg [vi i3, vi i4, vi i5, vi i6]]⟩), (3, ⟨0, 23, 4, true, false, [eArr4_i64 a1]⟩)], 1⟩ ?_
  refine WA_weak (Weak_leH [(4, .box 4 0 0 0)] [(4, ⟨0, 23, 4, true, false, [eArr4_i64 (Arr4_i64.mk i3 i4 i5 i6)]⟩), (2, ⟨0, 23, 4, true, false, [.agg [vi i3, vi i4, vi i5, vi i6]]⟩), (3, ⟨0, 23, 4, true, false, [eArr4_i64 a1]⟩)] (by kernel_rfl) ⟨VLf.refl _, trivial⟩ ⟨rfl, .inr (.inl ⟨rfl, rfl, CLe.agg ⟨VLf.refl _, VLf.refl _, VLf.refl _, VLf.refl _, trivial⟩, trivial⟩), rfl, .inl rfl, rfl, .inl rfl, trivial⟩) ?_
  obtain rfl := Option.some.inj h
  exact rR [(4, 1000, 0)] ⟨[(4, .box 1000 0 0 0)], [(1000, ⟨0, 23, 4, true, false, [eArr4_i64 (Arr4_i64.mk i3 i4 i5 i6)]⟩)], 1⟩ ⟨by kernel_rfl, rfl⟩

theorem clock_Below_ok {n : Nat} {a0 : Arr4_i64} {a1 : Arr4_i64} {r : Bool} (h : clock_Below n a0 a1 = some r) : PT Try.prog 9 [eArr4_i64 a0, eArr4_i64 a1] (vb r) := by
  unfold clock_Below at h
  refine PT_bodyA hT Try.func9 rfl (by kernel_rfl) fun bad w => ?_
  refine Qz hT 3 [2, 3] ⟨[(2, .box 2 0 0 0), (3, .box 3 1 0 0)], [(3, ⟨1, 23, 4, true, false, [eArr4_i64 a1]⟩), (2, ⟨0, 23, 4, true, false, [eArr4_i64 a0]⟩)], 2⟩ ?_
  refine WA_seq ?_
  refine WA_drawW hT hM (by kernel_rfl) ?_
  refine WD_seg 2 ⟨[(6, eArr4_i64 a1), (5, eArr4_i64 a0), (2, .box 2 0 0 0), (3, .box 3 1 0 0)], [(3, ⟨1, 23, 4, true, false, [eArr4_i64 a1]⟩), (2, ⟨0, 23, 4, true, false, [eArr4_i64 a0]⟩)], 2⟩ [] [(0, [2]), (1, [3])] (by kernel_rfl) (by kernel_rfl) ?_
  obtain ⟨r1, hr1, h⟩ := bsome h
  refine WD_pt rfl (by kernel_rfl) (by kernel_rfl) [eArr4_i64 a0, eArr4_i64 a1] (eArr4_i64 r1) rfl (by kernel_rfl) en13 (by kernel_rfl) (clock_Join_ok hr1) (by kernel_rfl) ?_
  refine WD_seg 1 ⟨[(8, eArr4_i64 a1), (7, eArr4_i64 r1), (6, eArr4_i64 a1), (5, eArr4_i64 a0), (2, .box 2 0 0 0), (3, .box 3 1 0 0)], [(3, ⟨1, 23, 4, true, false, [eArr4_i64 a1]⟩), (2, ⟨0, 23, 4, true, false, [eArr4_i64 a0]⟩)], 2⟩ [] [(0, [2]), (1, [3]), (3, [3])] (by kernel_rfl) (by kernel_rfl) ?_
  refine WD_loc rfl (by kernel_rfl) (by kernel_rfl) (by kernel_rfl) (ev_eqlA [.int .i64 r1.e0 a1.e0, .int .i64 r1.e1 a1.e1, .int .i64 r1.e2 a1.e2, .int .i64 r1.e3 a1.e3] (by kernel_rfl) (by kernel_rfl) (eqlArr [.int .i64 r1.e0 a1.e0, .int .i64 r1.e1 a1.e1, .int .i64 r1.e2 a1.e2, .int .i64 r1.e3 a1.e3] 3 (.int .i64) _ (by kernel_rfl) (by kernel_rfl) (by kernel_rfl) (by kernel_rfl) (by kernel_rfl)) (by kernel_rfl)) (by kernel_rfl) ?_
  refine WD_seg 1 ⟨[(4, vb (andL [r1.e0 == a1.e0, r1.e1 == a1.e1, r1.e2 == a1.e2, r1.e3 == a1.e3])), (9, vb (andL [r1.e0 == a1.e0, r1.e1 == a1.e1, r1.e2 == a1.e2, r1.e3 == a1.e3])), (8, eArr4_i64 a1), (7, eArr4_i64 r1), (6, eArr4_i64 a1), (5, eArr4_i64 a0), (2, .box 2 0 0 0), (3, .box 3 1 0 0)], [(3, ⟨1, 23, 4, true, false, [eArr4_i64 a1]⟩), (2, ⟨0, 23, 4, true, false, [eArr4_i64 a0]⟩)], 2⟩ [] [(0, [2]), (1, [3]), (3, [3])] (by kernel_rfl) (by kernel_rfl) ?_
  refine WD_end (by kernel_rfl) (by kernel_rfl) (by kernel_rfl) ?_
  refine Wk_done ?_
  obtain rfl := Option.some.inj h
  exact rK [4] [] ⟨[(4, vb (andL [r1.e0 == a1.e0, r1.e1 == a1.e1, r1.e2 == a1.e2, r1.e3 == a1.e3]))], [], 1⟩ ⟨by kernel_rfl, rfl⟩

theorem clock_Apart_ok {n : Nat} {a0 : Arr4_i64} {a1 : Arr4_i64} {r : Bool} (h : clock_Apart n a0 a1 = some r) : PT Try.prog 10 [eArr4_i64 a0, eArr4_i64 a1] (vb r) := by
  unfold clock_Apart at h
  refine PT_bodyA hT Try.func10 rfl (by kernel_rfl) fun bad w => ?_
  refine Qz hT 3 [2, 3] ⟨[(2, .box 2 0 0 0), (3, .box 3 1 0 0)], [(3, ⟨1, 23, 4, true, false, [eArr4_i64 a1]⟩), (2, ⟨0, 23, 4, true, false, [eArr4_i64 a0]⟩)], 2⟩ ?_
  refine WA_seq ?_
  obtain ⟨J2, hJ2, h⟩ := jsome h
  refine WA_join (fun s => ∃ (b1 : Bool), J2 b1 = some r ∧ s = ⟨[(4, vb b1)], [], 1⟩) ?_ ?_
  · refine Rg hT 2 [2, 3, 5, 6] ⟨[(2, .box 2 0 0 0), (3, .box 3 1 0 0), (5, eArr4_i64 a0), (6, eArr4_i64 a1)], [(3, ⟨1, 23, 4, true, false, [eArr4_i64 a1]⟩), (2, ⟨0, 23, 4, true, false, [eArr4_i64 a0]⟩)], 2⟩ ?_
    obtain ⟨r3, hr3, h⟩ := bsome h
    refine Pt en9 (clock_Below_ok hr3) ?_
    refine Sg hT 2 [2, 3, 9] ⟨[(2, .box 2 0 0 0), (3, .box 3 1 0 0), (9, vb (!r3))], [(3, ⟨1, 23, 4, true, false, [eArr4_i64 a1]⟩), (2, ⟨0, 23, 4, true, false, [eArr4_i64 a0]⟩)], 2⟩ ?_
    cases hb : (!r3 : Bool)
    · replace h := cfalse hb h
      refine Sg hT 6 [4] ⟨[(4, vb false)], [(3, ⟨1, 23, 4, true, false, [eArr4_i64 a1]⟩), (2, ⟨0, 23, 4, true, false, [eArr4_i64 a0]⟩)], 2⟩ ?_
      exact oK [4] [] ⟨false, h, rfl⟩
    replace h := ctrue hb h
    refine Sg hT 2 [9, 10, 11] ⟨[(9, vb true), (10, eArr4_i64 a1), (11, eArr4_i64 a0)], [(3, ⟨1, 23, 4, true, false, [eArr4_i64 a1]⟩), (2, ⟨0, 23, 4, true, false, [eArr4_i64 a0]⟩)], 2⟩ ?_
    obtain ⟨r4, hr4, h⟩ := bsome h
    refine Pt en9 (clock_Below_ok hr4) ?_
    refine Sg hT 3 [4] ⟨[(4, vb (!r4))], [(3, ⟨1, 23, 4, true, false, [eArr4_i64 a1]⟩), (2, ⟨0, 23, 4, true, false, [eArr4_i64 a0]⟩)], 2⟩ ?_
    exact oK [4] [] ⟨!r4, h, rfl⟩
  subst hJ2
  rintro s ⟨b1, h, rfl⟩
  obtain rfl := Option.some.inj h
  exact rK [4] [] ⟨[(4, vb b1)], [], 1⟩ ⟨by kernel_rfl, rfl⟩

theorem clock_Tick_ok {n : Nat} {a0 : Arr4_i64} {a1 : Int} {r : Arr4_i64} (h : clock_Tick n a0 a1 = some r) : PT Try.prog 8 [eArr4_i64 a0, vi a1] (eArr4_i64 r) := by
  unfold clock_Tick at h
  refine PT_bodyA hT Try.func8 rfl (by kernel_rfl) fun bad w => ?_
  refine Qz hT 2 [1, 2, 4] ⟨[(1, vi a1), (2, .box 2 0 0 0), (4, .box 4 1 0 0)], [(4, ⟨1, 23, 4, true, false, [.agg [vi 0, vi 0, vi 0, vi 0]]⟩), (2, ⟨0, 23, 4, true, false, [eArr4_i64 a0]⟩)], 2⟩ ?_
  refine WA_seq ?_
  refine WA_seq ?_
  obtain ⟨J2, hJ2, h⟩ := jsome h
  refine WA_join (fun s => ∃ (b1 : Bool), J2 b1 = some r ∧ s = ⟨[(1, vi a1), (2, .box 2 0 0 0), (4, .box 4 0 0 0), (10, vb b1)], [(2, ⟨0, 23, 4, true, false, [eArr4_i64 a0]⟩), (4, ⟨0, 23, 4, true, false, [.agg [vi 0, vi 0, vi 0, vi 0]]⟩)], 1⟩) ?_ ?_
  · refine Rg hT 3 [1, 2, 4, 7] ⟨[(1, vi a1), (2, .box 2 0 0 0), (4, .box 4 1 0 0), (7, vb (decide (a1 ≥ 0)))], [(4, ⟨1, 23, 4, true, false, [.agg [vi 0, vi 0, vi 0, vi 0]]⟩), (2, ⟨0, 23, 4, true, false, [eArr4_i64 a0]⟩)], 2⟩ ?_
    cases hb : (decide (a1 ≥ 0) : Bool)
    · replace h := cfalse hb h
      refine Sg hT 3 [1, 2, 4, 10] ⟨[(1, vi a1), (2, .box 2 0 0 0), (4, .box 4 1 0 0), (10, vb false)], [(4, ⟨1, 23, 4, true, false, [.agg [vi 0, vi 0, vi 0, vi 0]]⟩), (2, ⟨0, 23, 4, true, false, [eArr4_i64 a0]⟩)], 2⟩ ?_
      exact oK [1, 2, 4, 10] [(2, 2, 0), (4, 4, 0)] ⟨false, h, rfl⟩
    replace h := ctrue hb h
    refine Sg hT 3 [1, 2, 4, 10] ⟨[(1, vi a1), (2, .box 2 0 0 0), (4, .box 4 1 0 0), (10, vb (decide (a1 < 4)))], [(4, ⟨1, 23, 4, true, false, [.agg [vi 0, vi 0, vi 0, vi 0]]⟩), (2, ⟨0, 23, 4, true, false, [eArr4_i64 a0]⟩)], 2⟩ ?_
    exact oK [1, 2, 4, 10] [(2, 2, 0), (4, 4, 0)] ⟨decide (a1 < 4), h, rfl⟩
  subst hJ2
  rintro s ⟨b1, h, rfl⟩
  obtain ⟨J7, hJ7, h⟩ := jsome h
  refine WA_join (fun s => ∃ (i3 : Int), ∃ (i4 : Int), ∃ (i5 : Int), ∃ (i6 : Int), J7 i3 i4 i5 i6 = some r ∧ s = ⟨[(2, .box 2 0 0 0), (4, .box 4 0 0 0)], [(2, ⟨0, 23, 4, true, false, [.agg [vi i3, vi i4, vi i5, vi i6]]⟩), (4, ⟨0, 23, 4, true, false, [.agg [vi 0, vi 0, vi 0, vi 0]]⟩)], 1⟩) ?_ ?_
  · refine Cd b1 ?_ ?_
    · intro hb; replace h := ctrue hb h
      refine Rg hT 1 [2, 4, 11] ⟨[(2, .box 2 0 0 0), (4, .box 4 0 0 0), (11, vi a1)], [(2, ⟨0, 23, 4, true, false, [eArr4_i64 a0]⟩), (4, ⟨0, 23, 4, true, false, [.agg [vi 0, vi 0, vi 0, vi 0]]⟩)], 1⟩ ?_
      obtain ⟨x8, hx8, h⟩ := bsome h
      refine One hT rfl (ev_indexAddrA [a0.e0, a0.e1, a0.e2, a0.e3] 2 0 .i64 a1 _ _ 3 hx8 (by kernel_rfl) (by kernel_rfl) rfl rfl rfl rfl (by kernel_rfl)) ?_
      refine Sg hT 0 [2, 4, 11, 12] ⟨[(2, .box 2 0 0 0), (4, .box 4 0 0 0), (11, vi a1), (12, .box 2 0 0 a1.toNat)], [(2, ⟨0, 23, 4, true, false, [eArr4_i64 a0]⟩), (4, ⟨0, 23, 4, true, false, [.agg [vi 0, vi 0, vi 0, vi 0]]⟩)], 1⟩ ?_
      refine One hT rfl (ev_loadA e_i64 [a0.e0, a0.e1, a0.e2, a0.e3] 2 0 ⟨0, 23, 4, true, false, [eArr4_i64 a0]⟩ a1 _ hx8 (by kernel_rfl) (by kernel_rfl) rfl rfl rfl rfl rfl) ?_
      refine Sg hT 1 [2, 4, 11, 14] ⟨[(2, .box 2 0 0 0), (4, .box 4 0 0 0), (11, vi a1), (14, vi (wr (x8 + 1)))], [(2, ⟨0, 23, 4, true, false, [eArr4_i64 a0]⟩), (4, ⟨0, 23, 4, true, false, [.agg [vi 0, vi 0, vi 0, vi 0]]⟩)], 1⟩ ?_
      obtain ⟨x9, hx9, h⟩ := bsome h
      refine One hT rfl (ev_indexAddrA [a0.e0, a0.e1, a0.e2, a0.e3] 2 0 .i64 a1 _ _ 3 hx9 (by kernel_rfl) (by kernel_rfl) rfl rfl rfl rfl (by kernel_rfl)) ?_
      refine Sg hT 0 [2, 4, 14, 15] ⟨[(2, .box 2 0 0 0), (4, .box 4 0 0 0), (14, vi (wr (x8 + 1))), (15, .box 2 0 0 a1.toNat)], [(2, ⟨0, 23, 4, true, false, [eArr4_i64 a0]⟩), (4, ⟨0, 23, 4, true, false, [.agg [vi 0, vi 0, vi 0, vi 0]]⟩)], 1⟩ ?_
      refine One hT rfl (ev_storeA e_i64 [a0.e0, a0.e1, a0.e2, a0.e3] 2 0 ⟨0, 23, 4, true, false, [eArr4_i64 a0]⟩ a1 (wr (x8 + 1)) _ hx9 (by kernel_rfl) (by kernel_rfl) rfl rfl rfl rfl (fun _ => rfl) (fun _ => rfl) (fun _ => rfl) rfl rfl) ?_
      refine Sg hT 0 [2, 4] ⟨[(2, .box 2 0 0 0), (4, .box 4 0 0 0)], [(2, ⟨0, 23, 4, true, false, [.agg [vi (selA a1 0 (wr (x8 + 1)) a0.e0), vi (selA a1 1 (wr (x8 + 1)) a0.e1), vi (selA a1 2 (wr (x8 + 1)) a0.e2), vi (selA a1 3 (wr (x8 + 1)) a0.e3)]]⟩), (4, ⟨0, 23, 4, true, false, [.agg [vi 0, vi 0, vi 0, vi 0]]⟩)], 1⟩ ?_
      exact oK [2, 4] [(2, 2, 0), (4, 4, 0)] ⟨selA a1 0 (wr (x8 + 1)) a0.e0, selA a1 1 (wr (x8 + 1)) a0.e1, selA a1 2 (wr (x8 + 1)) a0.e2, selA a1 3 (wr (x8 + 1)) a0.e3, h, rfl⟩
    intro hb; replace h := cfalse hb h
    exact sK [2, 4] [(2, 2, 0), (4, 4, 0)] ⟨a0.e0, a0.e1, a0.e2, a0.e3, h, rfl⟩
  subst hJ7
  rintro s ⟨i3, i4, i5, i6, h, rfl⟩
  refine Qz hT 2 [4] ⟨[(4, .box 4 0 0 0)], [(4, ⟨0, 23, 4, true, false, [.agg [vi i3, vi i4, vi i5, vi i6]]⟩), (2, ⟨0, 23, 4, true, false, [.agg [vi i3, vi i4, vi i5, vi i6]]⟩)], 1⟩ ?_
  refine aW [4] ⟨[(4, .box 4 0 0 0)], [(4, ⟨0, 23, 4, true, false, [.agg [vi i3, vi i4, vi i5, vi i6]]⟩), (2, ⟨0, 23, 4, true, false, [.agg [vi i3, vi i4, vi i5, vi i6]]⟩)], 1⟩ ?_
  refine WA_weak (Weak_leH [(4, .box 4 0 0 0)] [(4, ⟨0, 23, 4, true, false, [eArr4_i64 (Arr4_i64.mk i3 i4 i5 i6)]⟩), (2, ⟨0, 23, 4, true, false, [.agg [vi i3, vi i4, vi i5, vi i6]]⟩)] (by kernel_rfl) ⟨VLf.refl _, trivial⟩ ⟨rfl, .inr (.inl ⟨rfl, rfl, CLe.agg ⟨VLf.refl _, VLf.refl _, VLf.refl _, VLf.refl _, trivial⟩, trivial⟩), rfl, .inl rfl, trivial⟩) ?_
  obtain rfl := Option.some.inj h
  exact rR [(4, 1000, 0)] ⟨[(4, .box 1000 0 0 0)], [(1000, ⟨0, 23, 4, true, false, [eArr4_i64 (Arr4_i64.mk i3 i4 i5 i6)]⟩)], 1⟩ ⟨by kernel_rfl, rfl⟩

theorem law18_known_ok {n : Nat} {r : Bool} (h : law18_known n = some r) : PT Try.prog 7 [] (vb r) := by
  unfold law18_known at h
  refine PT_bodyA hT Try.func7 rfl (by kernel_rfl) fun bad w => ?_
  refine Qz hT 1 [] ⟨[], [], 0⟩ ?_
  refine WA_seq ?_
  obtain ⟨J2, hJ2, h⟩ := jsome h
  refine WA_join (fun s => ∃ (b1 : Bool), J2 b1 = some r ∧ s = ⟨[(0, vb b1)], [], 1⟩) ?_ ?_
  · refine Rg hT 2 [1, 2] ⟨[(1, .agg [vi 1, vi 0, vi 0, vi 0]), (2, .agg [vi 0, vi 1, vi 0, vi 0])], [], 0⟩ ?_
    obtain ⟨r3, hr3, h⟩ := bsome h
    refine Pt (vs := [.agg [vi 1, vi 0, vi 0, vi 0], .agg [vi 0, vi 1, vi 0, vi 0]]) en10 (PT_args ((clock_Apart_ok hr3)) ⟨VLe.agg ⟨VLe.refl _, VLe.refl _, VLe.refl _, VLe.refl _, trivial⟩, VLe.agg ⟨VLe.refl _, VLe.refl _, VLe.refl _, VLe.refl _, trivial⟩, trivial⟩) ?_
    refine Sg hT 1 [4] ⟨[(4, vb r3)], [], 0⟩ ?_
    cases hb : (r3 : Bool)
    · replace h := cfalse hb h
      refine Sg hT 13 [0] ⟨[(0, vb false)], [], 0⟩ ?_
      exact oK [0] [] ⟨false, h, rfl⟩
    replace h := ctrue hb h
    refine Sg hT 1 [4, 5] ⟨[(4, vb true), (5, .agg [vi 0, vi 0, vi 0, vi 0])], [], 0⟩ ?_
    obtain ⟨r4, hr4, h⟩ := bsome h
    refine Pt (vs := [.agg [vi 0, vi 0, vi 0, vi 0], vi 1]) en8 (PT_args ((clock_Tick_ok hr4)) ⟨VLe.agg ⟨VLe.refl _, VLe.refl _, VLe.refl _, VLe.refl _, trivial⟩, VLe.refl _, trivial⟩) ?_
    refine Sg hT 1 [4, 6, 7] ⟨[(4, vb true), (6, eArr4_i64 r4), (7, .agg [vi 0, vi 1, vi 0, vi 0])], [], 0⟩ ?_
    refine One hT rfl (ev_eqlA [.int .i64 r4.e0 0, .int .i64 r4.e1 1, .int .i64 r4.e2 0, .int .i64 r4.e3 0] (by kernel_rfl) (by kernel_rfl) (eqlArr [.int .i64 r4.e0 0, .int .i64 r4.e1 1, .int .i64 r4.e2 0, .int .i64 r4.e3 0] 3 (.int .i64) _ (by kernel_rfl) (by kernel_rfl) (by kernel_rfl) (by kernel_rfl) (by kernel_rfl)) (by kernel_rfl)) ?_
    refine Sg hT 2 [10] ⟨[(10, vb (andL [r4.e0 == 0, r4.e1 == 1, r4.e2 == 0, r4.e3 == 0]))], [], 0⟩ ?_
    cases hb : (andL [r4.e0 == 0, r4.e1 == 1, r4.e2 == 0, r4.e3 == 0] : Bool)
    · replace h := cfalse hb h
      refine Sg hT 7 [0] ⟨[(0, vb false)], [], 0⟩ ?_
      exact oK [0] [] ⟨false, h, rfl⟩
    replace h := ctrue hb h
    refine Sg hT 2 [10, 11, 12] ⟨[(10, vb true), (11, .agg [vi 1, vi 0, vi 0, vi 0]), (12, .agg [vi 0, vi 2, vi 0, vi 0])], [], 0⟩ ?_
    obtain ⟨r5, hr5, h⟩ := bsome h
    refine Pt (vs := [.agg [vi 1, vi 0, vi 0, vi 0], .agg [vi 0, vi 2, vi 0, vi 0]]) en13 (PT_args ((clock_Join_ok hr5)) ⟨VLe.agg ⟨VLe.refl _, VLe.refl _, VLe.refl _, VLe.refl _, trivial⟩, VLe.agg ⟨VLe.refl _, VLe.refl _, VLe.refl _, VLe.refl _, trivial⟩, trivial⟩) ?_
    refine Sg hT 1 [10, 13, 14] ⟨[(10, vb true), (13, eArr4_i64 r5), (14, .agg [vi 1, vi 2, vi 0, vi 0])], [], 0⟩ ?_
    refine One hT rfl (ev_eqlA [.int .i64 r5.e0 1, .int .i64 r5.e1 2, .int .i64 r5.e2 0, .int .i64 r5.e3 0] (by kernel_rfl) (by kernel_rfl) (eqlArr [.int .i64 r5.e0 1, .int .i64 r5.e1 2, .int .i64 r5.e2 0, .int .i64 r5.e3 0] 3 (.int .i64) _ (by kernel_rfl) (by kernel_rfl) (by kernel_rfl) (by kernel_rfl) (by kernel_rfl)) (by kernel_rfl)) ?_
    refine Sg hT 2 [0] ⟨[(0, vb (andL [r5.e0 == 1, r5.e1 == 2, r5.e2 == 0, r5.e3 == 0]))], [], 0⟩ ?_
    exact oK [0] [] ⟨andL [r5.e0 == 1, r5.e1 == 2, r5.e2 == 0, r5.e3 == 0], h, rfl⟩
  subst hJ2
  rintro s ⟨b1, h, rfl⟩
  obtain rfl := Option.some.inj h
  exact rK [0] [] ⟨[(0, vb b1)], [], 1⟩ ⟨by kernel_rfl, rfl⟩

theorem ref13_Join_ok {n : Nat} {a0 : Arr4_i64} {a1 : Arr4_i64} {r : Arr4_i64} (h : ref13_Join n a0 a1 = some r) : PT Try.prog 14 [eArr4_i64 a0, eArr4_i64 a1] (eArr4_i64 r) := by
  unfold ref13_Join at h
  refine PT_bodyA hT Try.func14 rfl (by kernel_rfl) fun bad w => ?_
  refine Qz hT 3 [2, 3, 4] ⟨[(2, .box 2 0 0 0), (3, .box 3 1 0 0), (4, .box 4 2 0 0)], [(4, ⟨2, 29, 4, true, false, [.agg [vi 0, vi 0, vi 0, vi 0]]⟩), (3, ⟨1, 29, 4, true, false, [eArr4_i64 a1]⟩), (2, ⟨0, 29, 4, true, false, [eArr4_i64 a0]⟩)], 3⟩ ?_
  refine WA_seq ?_
  refine Qz hT 1 [2, 3, 4, 5] ⟨[(2, .box 2 0 0 0), (3, .box 3 1 0 0), (4, .box 4 2 0 0), (5, vi 0)], [(4, ⟨2, 29, 4, true, false, [.agg [vi 0, vi 0, vi 0, vi 0]]⟩), (3, ⟨1, 29, 4, true, false, [eArr4_i64 a1]⟩), (2, ⟨0, 29, 4, true, false, [eArr4_i64 a0]⟩)], 3⟩ ?_
  refine WA_block ?_
  refine lK [2, 3, 4, 5] [(2, 2, 0), (3, 3, 0), (4, 4, 0)] (fun k s => ∃ q, q ≤ k ∧ q ≤ n ∧ ∃ (i3 : Int), ∃ (i4 : Int), ∃ (i5 : Int), ∃ (i6 : Int), ∃ (i7 : Int), ref13_Join_L0 q a0 a1 i3 i4 i5 i6 i7 = some r ∧ s = ⟨[(2, .box 2 0 0 0), (3, .box 3 0 0 0), (4, .box 4 0 0 0), (5, vi i7)], [(2, ⟨0, 29, 4, true, false, [.agg [vi i3, vi i4, vi i5, vi i6]]⟩), (3, ⟨0, 29, 4, true, false, [eArr4_i64 a1]⟩), (4, ⟨0, 29, 4, true, false, [.agg [vi 0, vi 0, vi 0, vi 0]]⟩)], 1⟩) n ⟨n, Nat.le_refl _, Nat.le_refl _, a0.e0, a0.e1, a0.e2, a0.e3, 0, h, rfl⟩ (by rintro s ⟨q, hq, _, i3, i4, i5, i6, i7, h, _⟩; obtain rfl := Nat.le_zero.1 hq; rw [ref13_Join_L0] at h; cases h) ?_
  clear h
  rintro k1 s ⟨q1, hk1, hn1, i3, i4, i5, i6, i7, h, rfl⟩
  rcases q1 with _ | q1
  · rw [ref13_Join_L0] at h; cases h
  rw [ref13_Join_L0] at h
  refine WA_seq ?_
  refine Qz hT 2 [2, 3, 4, 5, 7] ⟨[(2, .box 2 0 0 0), (3, .box 3 0 0 0), (4, .box 4 0 0 0), (5, vi i7), (7, vb (decide (i7 < 4)))], [(2, ⟨0, 29, 4, true, false, [.agg [vi i3, vi i4, vi i5, vi i6]]⟩), (3, ⟨0, 29, 4, true, false, [eArr4_i64 a1]⟩), (4, ⟨0, 29, 4, true, false, [.agg [vi 0, vi 0, vi 0, vi 0]]⟩)], 1⟩ ?_
  refine Cd (decide (i7 < 4)) ?_ ?_
  · intro hb; replace h := ctrue hb h
    refine WA_skip ?_
    refine WA_seq ?_
    refine WA_block ?_
    refine WA_drawW hT hM (by kernel_rfl) ?_
    refine WD_seg 2 ⟨[(11, vi i7), (10, vi i7), (2, .box 2 0 0 0), (3, .box 3 0 0 0), (4, .box 4 0 0 0), (5, vi i7), (7, vb (decide (i7 < 4)))], [(2, ⟨0, 29, 4, true, false, [.agg [vi i3, vi i4, vi i5, vi i6]]⟩), (3, ⟨0, 29, 4, true, false, [eArr4_i64 a1]⟩), (4, ⟨0, 29, 4, true, false, [.agg [vi 0, vi 0, vi 0, vi 0]]⟩)], 1⟩ [] [] (by kernel_rfl) (by kernel_rfl) ?_
    obtain ⟨x8, hx8, h⟩ := bsome h
    refine WD_loc rfl (by kernel_rfl) (by kernel_rfl) (by kernel_rfl) (ev_indexAddrA [i3, i4, i5, i6] 2 0 .i64 i7 _ _ 3 hx8 (by kernel_rfl) (by kernel_rfl) rfl rfl rfl rfl (by kernel_rfl)) (by kernel_rfl) ?_
    refine WD_loc rfl (by kernel_rfl) (by kernel_rfl) (by kernel_rfl) (ev_loadA e_i64 [i3, i4, i5, i6] 2 0 ⟨0, 29, 4, true, false, [.agg [vi i3, vi i4, vi i5, vi i6]]⟩ i7 _ hx8 (by kernel_rfl) (by kernel_rfl) rfl rfl rfl rfl rfl) (by kernel_rfl) ?_
    refine WD_seg 1 ⟨[(14, vi i7), (13, vi x8), (12, .box 2 0 0 i7.toNat), (11, vi i7), (10, vi i7), (2, .box 2 0 0 0), (3, .box 3 0 0 0), (4, .box 4 0 0 0), (5, vi i7), (7, vb (decide (i7 < 4)))], [(2, ⟨0, 29, 4, true, false, [.agg [vi i3, vi i4, vi i5, vi i6]]⟩), (3, ⟨0, 29, 4, true, false, [eArr4_i64 a1]⟩), (4, ⟨0, 29, 4, true, false, [.agg [vi 0, vi 0, vi 0, vi 0]]⟩)], 1⟩ [] [(2, [2]), (3, [2])] (by kernel_rfl) (by kernel_rfl) ?_
    obtain ⟨x9, hx9, h⟩ := bsome h
    refine WD_loc rfl (by kernel_rfl) (by kernel_rfl) (by kernel_rfl) (ev_indexAddrA [a1.e0, a1.e1, a1.e2, a1.e3] 3 0 .i64 i7 _ _ 3 hx9 (by kernel_rfl) (by kernel_rfl) rfl rfl rfl rfl (by kernel_rfl)) (by kernel_rfl) ?_
    refine WD_loc rfl (by kernel_rfl) (by kernel_rfl) (by kernel_rfl) (ev_loadA e_i64 [a1.e0, a1.e1, a1.e2, a1.e3] 3 0 ⟨0, 29, 4, true, false, [eArr4_i64 a1]⟩ i7 _ hx9 (by kernel_rfl) (by kernel_rfl) rfl rfl rfl rfl rfl) (by kernel_rfl) ?_
    refine WD_seg 1 ⟨[(17, vi (gomax x8 x9)), (16, vi x9), (15, .box 3 0 0 i7.toNat), (14, vi i7), (13, vi x8), (12, .box 2 0 0 i7.toNat), (11, vi i7), (10, vi i7), (2, .box 2 0 0 0), (3, .box 3 0 0 0), (4, .box 4 0 0 0), (5, vi i7), (7, vb (decide (i7 < 4)))], [(2, ⟨0, 29, 4, true, false, [.agg [vi i3, vi i4, vi i5, vi i6]]⟩), (3, ⟨0, 29, 4, true, false, [eArr4_i64 a1]⟩), (4, ⟨0, 29, 4, true, false, [.agg [vi 0, vi 0, vi 0, vi 0]]⟩)], 1⟩ [] [(2, [2]), (3, [2]), (5, [3]), (6, [3])] (by kernel_rfl) (by kernel_rfl) ?_
    obtain ⟨x10, hx10, h⟩ := bsome h
    refine WD_loc rfl (by kernel_rfl) (by kernel_rfl) (by kernel_rfl) (ev_indexAddrA [i3, i4, i5, i6] 2 0 .i64 i7 _ _ 3 hx10 (by kernel_rfl) (by kernel_rfl) rfl rfl rfl rfl (by kernel_rfl)) (by kernel_rfl) ?_
    refine WD_wr rfl (by kernel_rfl) (by kernel_rfl) (by kernel_rfl) (ev_storeA e_i64 [i3, i4, i5, i6] 2 0 ⟨0, 29, 4, true, false, [.agg [vi i3, vi i4, vi i5, vi i6]]⟩ i7 (gomax x8 x9) _ hx10 (by kernel_rfl) (by kernel_rfl) rfl rfl rfl rfl (fun _ => rfl) (fun _ => rfl) (fun _ => rfl) rfl rfl) (by kernel_rfl) ?_
    refine WD_end (by kernel_rfl) (by kernel_rfl) (by kernel_rfl) ?_
    refine Wk_done ?_
    refine Rg hT 3 [2, 3, 4, 5] ⟨[(2, .box 2 0 0 0), (3, .box 3 0 0 0), (4, .box 4 0 0 0), (5, vi (wr (i7 + 1)))], [(2, ⟨0, 29, 4, true, false, [.agg [vi (selA i7 0 (gomax x8 x9) i3), vi (selA i7 1 (gomax x8 x9) i4), vi (selA i7 2 (gomax x8 x9) i5), vi (selA i7 3 (gomax x8 x9) i6)]]⟩), (3, ⟨0, 29, 4, true, false, [eArr4_i64 a1]⟩), (4, ⟨0, 29, 4, true, false, [.agg [vi 0, vi 0, vi 0, vi 0]]⟩)], 1⟩ ?_
    exact oK [2, 3, 4, 5] [(2, 2, 0), (3, 3, 0), (4, 4, 0)] ⟨_, by omega, by omega, selA i7 0 (gomax x8 x9) i3, selA i7 1 (gomax x8 x9) i4, selA i7 2 (gomax x8 x9) i5, selA i7 3 (gomax x8 x9) i6, wr (i7 + 1), h, rfl⟩
  intro hb; replace h := cfalse hb h
  refine WA_exit ?_
  refine Qz hT 2 [4] ⟨[(4, .box 4 0 0 0)], [(4, ⟨0, 29, 4, true, false, [.agg [vi i3, vi i4, vi i5, vi i6]]⟩), (2, ⟨0, 29, 4, true, false, [.agg [vi i3, vi i4, vi i5, vi i6]]⟩), (3, ⟨0, 29, 4, true, false, [eArr4_i64 a1]⟩)], 1⟩ ?_
  refine aW [4] ⟨[(4, .box 4 0 0 0)], [(4, ⟨0, 29, 4, true, false, [.agg [vi i3, vi i4, vi i5, vi i6]]⟩), (2, ⟨0, 29, 4, true, false, [.agg [vi i3, vi i4, vi i5, vi i6]]⟩), (3, ⟨0, 29, 4, true, false, [eArr4_i64 a1]⟩)], 1⟩ ?_
  refine WA_weak (Weak_leH [(4, .box 4 0 0 0)] [(4, ⟨0, 29, 4, true, false, [eArr4_i64 (Arr4_i64.mk i3 i4 i5 i6)]⟩), (2, ⟨0, 29, 4, true, false, [.agg [vi i3, vi i4, vi i5, vi i6]]⟩), (3, ⟨0, 29, 4, true, false, [eArr4_i64 a1]⟩)] (by kernel_rfl) ⟨VLf.refl _, trivial⟩ ⟨rfl, .inr (.inl ⟨rfl, rfl, CLe.agg ⟨VLf.refl _, VLf.refl _, VLf.refl _, VLf.refl _, trivial⟩, trivial⟩), rfl, .inl rfl, rfl, .inl rfl, trivial⟩) ?_
  obtain rfl := Option.some.inj h
  exact rR [(4, 1000, 0)] ⟨[(4, .box 1000 0 0 0)], [(1000, ⟨0, 29, 4, true, false, [eArr4_i64 (Arr4_i64.mk i3 i4 i5 i6)]⟩)], 1⟩ ⟨by kernel_rfl, rfl⟩

theorem ref13_Below_ok {n : Nat} {a0 : Arr4_i64} {a1 : Arr4_i64} {r : Bool} (h : ref13_Below n a0 a1 = some r) : PT Try.prog 15 [eArr4_i64 a0, eArr4_i64 a1] (vb r) := by
  unfold ref13_Below at h
  refine PT_bodyA hT Try.func15 rfl (by kernel_rfl) fun bad w => ?_
  refine Qz hT 3 [2, 3] ⟨[(2, .box 2 0 0 0), (3, .box 3 1 0 0)], [(3, ⟨1, 29, 4, true, false, [eArr4_i64 a1]⟩), (2, ⟨0, 29, 4, true, false, [eArr4_i64 a0]⟩)], 2⟩ ?_
  refine WA_seq ?_
  refine WA_drawW hT hM (by kernel_rfl) ?_
  refine WD_seg 2 ⟨[(6, eArr4_i64 a1), (5, eArr4_i64 a0), (2, .box 2 0 0 0), (3, .box 3 1 0 0)], [(3, ⟨1, 29, 4, true, false, [eArr4_i64 a1]⟩), (2, ⟨0, 29, 4, true, false, [eArr4_i64 a0]⟩)], 2⟩ [] [(0, [2]), (1, [3])] (by kernel_rfl) (by kernel_rfl) ?_
  obtain ⟨r1, hr1, h⟩ := bsome h
  refine WD_pt rfl (by kernel_rfl) (by kernel_rfl) [eArr4_i64 a0, eArr4_i64 a1] (eArr4_i64 r1) rfl (by kernel_rfl) en14 (by kernel_rfl) (ref13_Join_ok hr1) (by kernel_rfl) ?_
  refine WD_seg 1 ⟨[(8, eArr4_i64 a1), (7, eArr4_i64 r1), (6, eArr4_i64 a1), (5, eArr4_i64 a0), (2, .box 2 0 0 0), (3, .box 3 1 0 0)], [(3, ⟨1, 29, 4, true, false, [eArr4_i64 a1]⟩), (2, ⟨0, 29, 4, true, false, [eArr4_i64 a0]⟩)], 2⟩ [] [(0, [2]), (1, [3]), (3, [3])] (by kernel_rfl) (by kernel_rfl) ?_
  refine WD_loc rfl (by kernel_rfl) (by kernel_rfl) (by kernel_rfl) (ev_eqlA [.int .i64 r1.e0 a1.e0, .int .i64 r1.e1 a1.e1, .int .i64 r1.e2 a1.e2, .int .i64 r1.e3 a1.e3] (by kernel_rfl) (by kernel_rfl) (eqlArr [.int .i64 r1.e0 a1.e0, .int .i64 r1.e1 a1.e1, .int .i64 r1.e2 a1.e2, .int .i64 r1.e3 a1.e3] 3 (.int .i64) _ (by kernel_rfl) (by kernel_rfl) (by kernel_rfl) (by kernel_rfl) (by kernel_rfl)) (by kernel_rfl)) (by kernel_rfl) ?_
  refine WD_seg 1 ⟨[(4, vb (andL [r1.e0 == a1.e0, r1.e1 == a1.e1, r1.e2 == a1.e2, r1.e3 == a1.e3])), (9, vb (andL [r1.e0 == a1.e0, r1.e1 == a1.e1, r1.e2 == a1.e2, r1.e3 == a1.e3])), (8, eArr4_i64 a1), (7, eArr4_i64 r1), (6, eArr4_i64 a1), (5, eArr4_i64 a0), (2, .box 2 0 0 0), (3, .box 3 1 0 0)], [(3, ⟨1, 29, 4, true, false, [eArr4_i64 a1]⟩), (2, ⟨0, 29, 4, true, false, [eArr4_i64 a0]⟩)], 2⟩ [] [(0, [2]), (1, [3]), (3, [3])] (by kernel_rfl) (by kernel_rfl) ?_
  refine WD_end (by kernel_rfl) (by kernel_rfl) (by kernel_rfl) ?_
  refine Wk_done ?_
  obtain rfl := Option.some.inj h
  exact rK [4] [] ⟨[(4, vb (andL [r1.e0 == a1.e0, r1.e1 == a1.e1, r1.e2 == a1.e2, r1.e3 == a1.e3]))], [], 1⟩ ⟨by kernel_rfl, rfl⟩

theorem ref13_Tick_ok {n : Nat} {a0 : Arr4_i64} {a1 : Int} {r : Arr4_i64} (h : ref13_Tick n a0 a1 = some r) : PT Try.prog 16 [eArr4_i64 a0, vi a1] (eArr4_i64 r) := by
  unfold ref13_Tick at h
  refine PT_bodyA hT Try.func16 rfl (by kernel_rfl) fun bad w => ?_
  refine Qz hT 2 [1, 2, 4] ⟨[(1, vi a1), (2, .box 2 0 0 0), (4, .box 4 1 0 0)], [(4, ⟨1, 29, 4, true, false, [.agg [vi 0, vi 0, vi 0, vi 0]]⟩), (2, ⟨0, 29, 4, true, false, [eArr4_i64 a0]⟩)], 2⟩ ?_
  refine WA_seq ?_
  refine WA_seq ?_
  obtain ⟨J2, hJ2, h⟩ := jsome h
  refine WA_join (fun s => ∃ (b1 : Bool), J2 b1 = some r ∧ s = ⟨[(1, vi a1), (2, .box 2 0 0 0), (4, .box 4 0 0 0), (10, vb b1)], [(2, ⟨0, 29, 4, true, false, [eArr4_i64 a0]⟩), (4, ⟨0, 29, 4, true, false, [.agg [vi 0, vi 0, vi 0, vi 0]]⟩)], 1⟩) ?_ ?_
  · refine Rg hT 3 [1, 2, 4, 7] ⟨[(1, vi a1), (2, .box 2 0 0 0), (4, .box 4 1 0 0), (7, vb (decide (a1 ≥ 0)))], [(4, ⟨1, 29, 4, true, false, [.agg [vi 0, vi 0, vi 0, vi 0]]⟩), (2, ⟨0, 29, 4, true, false, [eArr4_i64 a0]⟩)], 2⟩ ?_
    cases hb : (decide (a1 ≥ 0) : Bool)
    · replace h := cfalse hb h
      refine Sg hT 3 [1, 2, 4, 10] ⟨[(1, vi a1), (2, .box 2 0 0 0), (4, .box 4 1 0 0), (10, vb false)], [(4, ⟨1, 29, 4, true, false, [.agg [vi 0, vi 0, vi 0, vi 0]]⟩), (2, ⟨0, 29, 4, true, false, [eArr4_i64 a0]⟩)], 2⟩ ?_
      exact oK [1, 2, 4, 10] [(2, 2, 0), (4, 4, 0)] ⟨false, h, rfl⟩
    replace h := ctrue hb h
    refine Sg hT 3 [1, 2, 4, 10] ⟨[(1, vi a1), (2, .box 2 0 0 0), (4, .box 4 1 0 0), (10, vb (decide (a1 < 4)))], [(4, ⟨1, 29, 4, true, false, [.agg [vi 0, vi 0, vi 0, vi 0]]⟩), (2, ⟨0, 29, 4, true, false, [eArr4_i64 a0]⟩)], 2⟩ ?_
    exact oK [1, 2, 4, 10] [(2, 2, 0), (4, 4, 0)] ⟨decide (a1 < 4), h, rfl⟩
  subst hJ2
  rintro s ⟨b1, h, rfl⟩
  obtain ⟨J7, hJ7, h⟩ := jsome h
  refine WA_join (fun s => ∃ (i3 : Int), ∃ (i4 : Int), ∃ (i5 : Int), ∃ (i6 : Int), J7 i3 i4 i5 i6 = some r ∧ s = ⟨[(2, .box 2 0 0 0), (4, .box 4 0 0 0)], [(2, ⟨0, 29, 4, true, false, [.agg [vi i3, vi i4, vi i5, vi i6]]⟩), (4, ⟨0, 29, 4, true, false, [.agg [vi 0, vi 0, vi 0, vi 0]]⟩)], 1⟩) ?_ ?_
  · refine Cd b1 ?_ ?_
    · intro hb; replace h := ctrue hb h
      refine Rg hT 1 [2, 4, 11] ⟨[(2, .box 2 0 0 0), (4, .box 4 0 0 0), (11, vi a1)], [(2, ⟨0, 29, 4, true, false, [eArr4_i64 a0]⟩), (4, ⟨0, 29, 4, true, false, [.agg [vi 0, vi 0, vi 0, vi 0]]⟩)], 1⟩ ?_
      obtain ⟨x8, hx8, h⟩ := bsome h
      refine One hT rfl (ev_indexAddrA [a0.e0, a0.e1, a0.e2, a0.e3] 2 0 .i64 a1 _ _ 3 hx8 (by kernel_rfl) (by kernel_rfl) rfl rfl rfl rfl (by kernel_rfl)) ?_
      refine Sg hT 0 [2, 4, 11, 12] ⟨[(2, .box 2 0 0 0), (4, .box 4 0 0 0), (11, vi a1), (12, .box 2 0 0 a1.toNat)], [(2, ⟨0, 29, 4, true, false, [eArr4_i64 a0]⟩), (4, ⟨0, 29, 4, true, false, [.agg [vi 0, vi 0, vi 0, vi 0]]⟩)], 1⟩ ?_
      refine One hT rfl (ev_loadA e_i64 [a0.e0, a0.e1, a0.e2, a0.e3] 2 0 ⟨0, 29, 4, true, false, [eArr4_i64 a0]⟩ a1 _ hx8 (by kernel_rfl) (by kernel_rfl) rfl rfl rfl rfl rfl) ?_
      refine Sg hT 1 [2, 4, 11, 14] ⟨[(2, .box 2 0 0 0), (4, .box 4 0 0 0), (11, vi a1), (14, vi (wr (x8 + 1)))], [(2, ⟨0, 29, 4, true, false, [eArr4_i64 a0]⟩), (4, ⟨0, 29, 4, true, false, [.agg [vi 0, vi 0, vi 0, vi 0]]⟩)], 1⟩ ?_
      obtain ⟨x9, hx9, h⟩ := bsome h
      refine One hT rfl (ev_indexAddrA [a0.e0, a0.e1, a0.e2, a0.e3] 2 0 .i64 a1 _ _ 3 hx9 (by kernel_rfl) (by kernel_rfl) rfl rfl rfl rfl (by kernel_rfl)) ?_
      refine Sg hT 0 [2, 4, 14, 15] ⟨[(2, .box 2 0 0 0), (4, .box 4 0 0 0), (14, vi (wr (x8 + 1))), (15, .box 2 0 0 a1.toNat)], [(2, ⟨0, 29, 4, true, false, [eArr4_i64 a0]⟩), (4, ⟨0, 29, 4, true, false, [.agg [vi 0, vi 0, vi 0, vi 0]]⟩)], 1⟩ ?_
      refine One hT rfl (ev_storeA e_i64 [a0.e0, a0.e1, a0.e2, a0.e3] 2 0 ⟨0, 29, 4, true, false, [eArr4_i64 a0]⟩ a1 (wr (x8 + 1)) _ hx9 (by kernel_rfl) (by kernel_rfl) rfl rfl rfl rfl (fun _ => rfl) (fun _ => rfl) (fun _ => rfl) rfl rfl) ?_
      refine Sg hT 0 [2, 4] ⟨[(2, .box 2 0 0 0), (4, .box 4 0 0 0)], [(2, ⟨0, 29, 4, true, false, [.agg [vi (selA a1 0 (wr (x8 + 1)) a0.e0), vi (selA a1 1 (wr (x8 + 1)) a0.e1), vi (selA a1 2 (wr (x8 + 1)) a0.e2), vi (selA a1 3 (wr (x8 + 1)) a0.e3)]]⟩), (4, ⟨0, 29, 4, true, false, [.agg [vi 0, vi 0, vi 0, vi 0]]⟩)], 1⟩ ?_
      exact oK [2, 4] [(2, 2, 0), (4, 4, 0)] ⟨selA a1 0 (wr (x8 + 1)) a0.e0, selA a1 1 (wr (x8 + 1)) a0.e1, selA a1 2 (wr (x8 + 1)) a0.e2, selA a1 3 (wr (x8 + 1)) a0.e3, h, rfl⟩
    intro hb; replace h := cfalse hb h
    exact sK [2, 4] [(2, 2, 0), (4, 4, 0)] ⟨a0.e0, a0.e1, a0.e2, a0.e3, h, rfl⟩
  subst hJ7
  rintro s ⟨i3, i4, i5, i6, h, rfl⟩
  refine Qz hT 2 [4] ⟨[(4, .box 4 0 0 0)], [(4, ⟨0, 29, 4, true, false, [.agg [vi i3, vi i4, vi i5, vi i6]]⟩), (2, ⟨0, 29, 4, true, false, [.agg [vi i3, vi i4, vi i5, vi i6]]⟩)], 1⟩ ?_
  refine aW [4] ⟨[(4, .box 4 0 0 0)], [(4, ⟨0, 29, 4, true, false, [.agg [vi i3, vi i4, vi i5, vi i6]]⟩), (2, ⟨0, 29, 4, true, false, [.agg [vi i3, vi i4, vi i5, vi i6]]⟩)], 1⟩ ?_
  refine WA_weak (Weak_leH [(4, .box 4 0 0 0)] [(4, ⟨0, 29, 4, true, false, [eArr4_i64 (Arr4_i64.mk i3 i4 i5 i6)]⟩), (2, ⟨0, 29, 4, true, false, [.agg [vi i3, vi i4, vi i5, vi i6]]⟩)] (by kernel_rfl) ⟨VLf.refl _, trivial⟩ ⟨rfl, .inr (.inl ⟨rfl, rfl, CLe.agg ⟨VLf.refl _, VLf.refl _, VLf.refl _, VLf.refl _, trivial⟩, trivial⟩), rfl, .inl rfl, trivial⟩) ?_
  obtain rfl := Option.some.inj h
  exact rR [(4, 1000, 0)] ⟨[(4, .box 1000 0 0 0)], [(1000, ⟨0, 29, 4, true, false, [eArr4_i64 (Arr4_i64.mk i3 i4 i5 i6)]⟩)], 1⟩ ⟨by kernel_rfl, rfl⟩

theorem law18_ClockTells_ok {n : Nat} {a0 : Arr4_i64} {a1 : Arr4_i64} {a2 : Int} {a3 : Bool} {r : Bool} (h : law18_ClockTells n a0 a1 a2 a3 = some r) : PT Try.prog 4 [eArr4_i64 a0, eArr4_i64 a1, vi a2, vb a3] (vb r) := by
  unfold law18_ClockTells at h
  refine PT_bodyA hT Try.func4 rfl (by kernel_rfl) fun bad w => ?_
  refine Qz hT 3 [2, 3, 4, 5] ⟨[(2, vi a2), (3, vb a3), (4, .box 4 0 0 0), (5, .box 5 1 0 0)], [(5, ⟨1, 22, 4, true, false, [eArr4_i64 a1]⟩), (4, ⟨0, 22, 4, true, false, [eArr4_i64 a0]⟩)], 2⟩ ?_
  refine Qg hT 1 [2, 3, 4, 5, 13] ⟨[(2, vi a2), (3, vb a3), (4, .box 4 0 0 0), (5, .box 5 1 0 0), (13, eArr4_i64 a0)], [(5, ⟨1, 22, 4, true, false, [eArr4_i64 a1]⟩), (4, ⟨0, 22, 4, true, false, [eArr4_i64 a0]⟩)], 2⟩ ?_
  obtain ⟨r1, hr1, h⟩ := bsome h
  refine Pt en11 (law18_of_ok hr1) ?_
  refine Sz hT 2 [2, 3, 4, 5, 9] ⟨[(2, vi a2), (3, vb a3), (4, .box 4 0 0 0), (5, .box 5 1 0 0), (9, .box 9 2 0 0)], [(9, ⟨2, 23, 4, true, false, [eArr4_i64 r1]⟩), (5, ⟨1, 22, 4, true, false, [eArr4_i64 a1]⟩), (4, ⟨0, 22, 4, true, false, [eArr4_i64 a0]⟩)], 3⟩ ?_
  refine Qg hT 1 [2, 3, 4, 9, 15] ⟨[(2, vi a2), (3, vb a3), (4, .box 4 0 0 0), (9, .box 9 2 0 0), (15, eArr4_i64 a1)], [(9, ⟨2, 23, 4, true, false, [eArr4_i64 r1]⟩), (5, ⟨1, 22, 4, true, false, [eArr4_i64 a1]⟩), (4, ⟨0, 22, 4, true, false, [eArr4_i64 a0]⟩)], 3⟩ ?_
  obtain ⟨r2, hr2, h⟩ := bsome h
  refine Pt en11 (law18_of_ok hr2) ?_
  refine Sz hT 2 [2, 3, 4, 9, 10] ⟨[(2, vi a2), (3, vb a3), (4, .box 4 0 0 0), (9, .box 9 2 0 0), (10, .box 10 3 0 0)], [(10, ⟨3, 23, 4, true, false, [eArr4_i64 r2]⟩), (9, ⟨2, 23, 4, true, false, [eArr4_i64 r1]⟩), (5, ⟨1, 22, 4, true, false, [eArr4_i64 a1]⟩), (4, ⟨0, 22, 4, true, false, [eArr4_i64 a0]⟩)], 4⟩ ?_
  refine WA_seq ?_
  refine Qz hT 1 [2, 3, 4, 9, 10, 17] ⟨[(2, vi a2), (3, vb a3), (4, .box 4 0 0 0), (9, .box 9 2 0 0), (10, .box 10 3 0 0), (17, vb a3)], [(10, ⟨3, 23, 4, true, false, [eArr4_i64 r2]⟩), (9, ⟨2, 23, 4, true, false, [eArr4_i64 r1]⟩), (5, ⟨1, 22, 4, true, false, [eArr4_i64 a1]⟩), (4, ⟨0, 22, 4, true, false, [eArr4_i64 a0]⟩)], 4⟩ ?_
  obtain ⟨J4, hJ4, h⟩ := jsome h
  refine WA_join (fun s => ∃ (v3 : Arr4_i64), J4 v3 = some r ∧ s = ⟨[(2, vi a2), (3, vb a3), (9, .box 9 0 0 0), (10, .box 10 0 0 0)], [(9, ⟨0, 23, 4, true, false, [eArr4_i64 v3]⟩), (10, ⟨0, 23, 4, true, false, [eArr4_i64 r2]⟩)], 1⟩) ?_ ?_
  · refine Cd a3 ?_ ?_
    · intro hb; replace h := ctrue hb h
      refine Rg hT 2 [2, 3, 9, 10] ⟨[(2, vi a2), (3, vb a3), (9, .box 9 2 0 0), (10, .box 10 3 0 0)], [(9, ⟨2, 23, 4, true, false, [eArr4_i64 a0]⟩), (10, ⟨3, 23, 4, true, false, [eArr4_i64 r2]⟩), (5, ⟨1, 22, 4, true, false, [eArr4_i64 a1]⟩), (4, ⟨0, 22, 4, true, false, [eArr4_i64 a0]⟩)], 4⟩ ?_
      exact oK [2, 3, 9, 10] [(9, 9, 0), (10, 10, 0)] ⟨a0, h, rfl⟩
    intro hb; replace h := cfalse hb h
    exact sK [2, 3, 9, 10] [(9, 9, 0), (10, 10, 0)] ⟨r1, h, rfl⟩
  subst hJ4
  rintro s ⟨v3, h, rfl⟩
  refine Qg hT 1 [3, 9, 10, 19] ⟨[(3, vb a3), (9, .box 9 0 0 0), (10, .box 10 0 0 0), (19, vi a2)], [(9, ⟨0, 23, 4, true, false, [eArr4_i64 v3]⟩), (10, ⟨0, 23, 4, true, false, [eArr4_i64 r2]⟩)], 1⟩ ?_
  obtain ⟨r5, hr5, h⟩ := bsome h
  refine Pt en12 (hand_Pick_ok hr5) ?_
  refine Sz hT 2 [2, 3, 9, 10] ⟨[(2, vi (wr (r5 - 2))), (3, vb a3), (9, .box 9 0 0 0), (10, .box 10 0 0 0)], [(9, ⟨0, 23, 4, true, false, [eArr4_i64 v3]⟩), (10, ⟨0, 23, 4, true, false, [eArr4_i64 r2]⟩)], 1⟩ ?_
  refine Qz hT 3 [2, 3, 9, 10, 11] ⟨[(2, vi (wr (r5 - 2))), (3, vb a3), (9, .box 9 0 0 0), (10, .box 10 0 0 0), (11, .box 11 1 0 0)], [(11, ⟨1, 29, 4, true, false, [eArr4_i64 v3]⟩), (9, ⟨0, 23, 4, true, false, [eArr4_i64 v3]⟩), (10, ⟨0, 23, 4, true, false, [eArr4_i64 r2]⟩)], 2⟩ ?_
  refine Qz hT 3 [2, 3, 9, 10, 11, 12] ⟨[(2, vi (wr (r5 - 2))), (3, vb a3), (9, .box 9 0 0 0), (10, .box 10 0 0 0), (11, .box 11 1 0 0), (12, .box 12 2 0 0)], [(12, ⟨2, 29, 4, true, false, [eArr4_i64 r2]⟩), (11, ⟨1, 29, 4, true, false, [eArr4_i64 v3]⟩), (9, ⟨0, 23, 4, true, false, [eArr4_i64 v3]⟩), (10, ⟨0, 23, 4, true, false, [eArr4_i64 r2]⟩)], 3⟩ ?_
  refine WA_seq ?_
  obtain ⟨J7, hJ7, h⟩ := jsome h
  refine WA_join (fun s => ∃ (b6 : Bool), J7 b6 = some r ∧ s = ⟨[(8, vb b6)], [], 1⟩) ?_ ?_
  · refine WA_drawW hT hM (by kernel_rfl) ?_
    obtain ⟨r8, hr8, h⟩ := bsome h
    refine WD_pt rfl (by kernel_rfl) (by kernel_rfl) [] (vb r8) rfl (by kernel_rfl) en7 (by kernel_rfl) (law18_known_ok hr8) (by kernel_rfl) ?_
    refine WD_seg 1 ⟨[(25, vb r8), (24, vb r8), (2, vi (wr (r5 - 2))), (3, vb a3), (9, .box 9 0 0 0), (10, .box 10 0 0 0), (11, .box 11 1 0 0), (12, .box 12 2 0 0)], [(12, ⟨2, 29, 4, true, false, [eArr4_i64 r2]⟩), (11, ⟨1, 29, 4, true, false, [eArr4_i64 v3]⟩), (9, ⟨0, 23, 4, true, false, [eArr4_i64 v3]⟩), (10, ⟨0, 23, 4, true, false, [eArr4_i64 r2]⟩)], 3⟩ [] [] (by kernel_rfl) (by kernel_rfl) ?_
    cases hb : (r8 : Bool)
    · replace h := cfalse hb h
      refine WD_seg 46 ⟨[(8, vb false), (70, vb false), (69, .p Go.undef), (68, .p Go.undef), (67, .p Go.undef), (66, .p Go.undef), (65, .p Go.undef), (64, .p Go.undef), (63, .p Go.undef), (62, .p Go.undef), (61, .p Go.undef), (60, .p Go.undef), (59, vb false), (58, vb false), (57, .p Go.undef), (56, .p Go.undef), (55, .p Go.undef), (54, .p Go.undef), (53, .p Go.undef), (52, .p Go.undef), (51, .p Go.undef), (50, .p Go.undef), (49, .p Go.undef), (48, .p Go.undef), (47, .p Go.undef), (46, .p Go.undef), (45, .p Go.undef), (44, .p Go.undef), (43, vb false), (42, vb false), (41, .p Go.undef), (40, .p Go.undef), (39, .p Go.undef), (38, .p Go.undef), (37, .p Go.undef), (36, .p Go.undef), (35, .p Go.undef), (34, vb false), (33, vb false), (32, .p Go.undef), (31, .p Go.undef), (30, .p Go.undef), (29, .p Go.undef), (28, .p Go.undef), (27, .p Go.undef), (26, .p Go.undef), (25, vb false), (24, vb false), (2, vi (wr (r5 - 2))), (3, vb a3), (9, .box 9 0 0 0), (10, .box 10 0 0 0), (11, .box 11 1 0 0), (12, .box 12 2 0 0)], [(12, ⟨2, 29, 4, true, false, [eArr4_i64 r2]⟩), (11, ⟨1, 29, 4, true, false, [eArr4_i64 v3]⟩), (9, ⟨0, 23, 4, true, false, [eArr4_i64 v3]⟩), (10, ⟨0, 23, 4, true, false, [eArr4_i64 r2]⟩)], 3⟩ [] [] (by kernel_rfl) (by kernel_rfl) ?_
      refine WD_end (by kernel_rfl) (by kernel_rfl) (by kernel_rfl) ?_
      exact wK [8] [] ⟨false, h, rfl⟩
    replace h := ctrue hb h
    refine WD_seg 2 ⟨[(27, eArr4_i64 r2), (26, eArr4_i64 v3), (25, vb true), (24, vb true), (2, vi (wr (r5 - 2))), (3, vb a3), (9, .box 9 0 0 0), (10, .box 10 0 0 0), (11, .box 11 1 0 0), (12, .box 12 2 0 0)], [(12, ⟨2, 29, 4, true, false, [eArr4_i64 r2]⟩), (11, ⟨1, 29, 4, true, false, [eArr4_i64 v3]⟩), (9, ⟨0, 23, 4, true, false, [eArr4_i64 v3]⟩), (10, ⟨0, 23, 4, true, false, [eArr4_i64 r2]⟩)], 3⟩ [] [(2, [9]), (3, [10])] (by kernel_rfl) (by kernel_rfl) ?_
    obtain ⟨r9, hr9, h⟩ := bsome h
    refine WD_pt rfl (by kernel_rfl) (by kernel_rfl) [eArr4_i64 v3, eArr4_i64 r2] (eArr4_i64 r9) rfl (by kernel_rfl) en13 (by kernel_rfl) (clock_Join_ok hr9) (by kernel_rfl) ?_
    refine WD_seg 2 ⟨[(30, eArr4_i64 r2), (29, eArr4_i64 v3), (28, eArr4_i64 r9), (27, eArr4_i64 r2), (26, eArr4_i64 v3), (25, vb true), (24, vb true), (2, vi (wr (r5 - 2))), (3, vb a3), (9, .box 9 0 0 0), (10, .box 10 0 0 0), (11, .box 11 1 0 0), (12, .box 12 2 0 0)], [(12, ⟨2, 29, 4, true, false, [eArr4_i64 r2]⟩), (11, ⟨1, 29, 4, true, false, [eArr4_i64 v3]⟩), (9, ⟨0, 23, 4, true, false, [eArr4_i64 v3]⟩), (10, ⟨0, 23, 4, true, false, [eArr4_i64 r2]⟩)], 3⟩ [] [(2, [9]), (3, [10]), (5, [11]), (6, [12])] (by kernel_rfl) (by kernel_rfl) ?_
    obtain ⟨r10, hr10, h⟩ := bsome h
    refine WD_pt rfl (by kernel_rfl) (by kernel_rfl) [eArr4_i64 v3, eArr4_i64 r2] (eArr4_i64 r10) rfl (by kernel_rfl) en14 (by kernel_rfl) (ref13_Join_ok hr10) (by kernel_rfl) ?_
    refine WD_loc rfl (by kernel_rfl) (by kernel_rfl) (by kernel_rfl) (ev_eqlA [.int .i64 r9.e0 r10.e0, .int .i64 r9.e1 r10.e1, .int .i64 r9.e2 r10.e2, .int .i64 r9.e3 r10.e3] (by kernel_rfl) (by kernel_rfl) (eqlArr [.int .i64 r9.e0 r10.e0, .int .i64 r9.e1 r10.e1, .int .i64 r9.e2 r10.e2, .int .i64 r9.e3 r10.e3] 3 (.int .i64) _ (by kernel_rfl) (by kernel_rfl) (by kernel_rfl) (by kernel_rfl) (by kernel_rfl)) (by kernel_rfl)) (by kernel_rfl) ?_
    refine WD_seg 2 ⟨[(34, vb (andL [r9.e0 == r10.e0, r9.e1 == r10.e1, r9.e2 == r10.e2, r9.e3 == r10.e3])), (33, vb (andL [r9.e0 == r10.e0, r9.e1 == r10.e1, r9.e2 == r10.e2, r9.e3 == r10.e3])), (32, vb (andL [r9.e0 == r10.e0, r9.e1 == r10.e1, r9.e2 == r10.e2, r9.e3 == r10.e3])), (31, eArr4_i64 r10), (30, eArr4_i64 r2), (29, eArr4_i64 v3), (28, eArr4_i64 r9), (27, eArr4_i64 r2), (26, eArr4_i64 v3), (25, vb true), (24, vb true), (2, vi (wr (r5 - 2))), (3, vb a3), (9, .box 9 0 0 0), (10, .box 10 0 0 0), (11, .box 11 1 0 0), (12, .box 12 2 0 0)], [(12, ⟨2, 29, 4, true, false, [eArr4_i64 r2]⟩), (11, ⟨1, 29, 4, true, false, [eArr4_i64 v3]⟩), (9, ⟨0, 23, 4, true, false, [eArr4_i64 v3]⟩), (10, ⟨0, 23, 4, true, false, [eArr4_i64 r2]⟩)], 3⟩ [] [(2, [9]), (3, [10]), (5, [11]), (6, [12])] (by kernel_rfl) (by kernel_rfl) ?_
    cases hb : (andL [r9.e0 == r10.e0, r9.e1 == r10.e1, r9.e2 == r10.e2, r9.e3 == r10.e3] : Bool)
    · replace h := cfalse hb h
      refine WD_seg 37 ⟨[(8, vb false), (70, vb false), (69, .p Go.undef), (68, .p Go.undef), (67, .p Go.undef), (66, .p Go.undef), (65, .p Go.undef), (64, .p Go.undef), (63, .p Go.undef), (62, .p Go.undef), (61, .p Go.undef), (60, .p Go.undef), (59, vb false), (58, vb false), (57, .p Go.undef), (56, .p Go.undef), (55, .p Go.undef), (54, .p Go.undef), (53, .p Go.undef), (52, .p Go.undef), (51, .p Go.undef), (50, .p Go.undef), (49, .p Go.undef), (48, .p Go.undef), (47, .p Go.undef), (46, .p Go.undef), (45, .p Go.undef), (44, .p Go.undef), (43, vb false), (42, vb false), (41, .p Go.undef), (40, .p Go.undef), (39, .p Go.undef), (38, .p Go.undef), (37, .p Go.undef), (36, .p Go.undef), (35, .p Go.undef), (34, vb false), (33, vb false), (32, vb false), (31, eArr4_i64 r10), (30, eArr4_i64 r2), (29, eArr4_i64 v3), (28, eArr4_i64 r9), (27, eArr4_i64 r2), (26, eArr4_i64 v3), (25, vb true), (24, vb true), (2, vi (wr (r5 - 2))), (3, vb a3), (9, .box 9 0 0 0), (10, .box 10 0 0 0), (11, .box 11 1 0 0), (12, .box 12 2 0 0)], [(12, ⟨2, 29, 4, true, false, [eArr4_i64 r2]⟩), (11, ⟨1, 29, 4, true, false, [eArr4_i64 v3]⟩), (9, ⟨0, 23, 4, true, false, [eArr4_i64 v3]⟩), (10, ⟨0, 23, 4, true, false, [eArr4_i64 r2]⟩)], 3⟩ [] [(2, [9]), (3, [10]), (5, [11]), (6, [12])] (by kernel_rfl) (by kernel_rfl) ?_
      refine WD_end (by kernel_rfl) (by kernel_rfl) (by kernel_rfl) ?_
      exact wK [8] [] ⟨false, h, rfl⟩
    replace h := ctrue hb h
    refine WD_seg 2 ⟨[(36, eArr4_i64 r2), (35, eArr4_i64 v3), (34, vb true), (33, vb true), (32, vb true), (31, eArr4_i64 r10), (30, eArr4_i64 r2), (29, eArr4_i64 v3), (28, eArr4_i64 r9), (27, eArr4_i64 r2), (26, eArr4_i64 v3), (25, vb true), (24, vb true), (2, vi (wr (r5 - 2))), (3, vb a3), (9, .box 9 0 0 0), (10, .box 10 0 0 0), (11, .box 11 1 0 0), (12, .box 12 2 0 0)], [(12, ⟨2, 29, 4, true, false, [eArr4_i64 r2]⟩), (11, ⟨1, 29, 4, true, false, [eArr4_i64 v3]⟩), (9, ⟨0, 23, 4, true, false, [eArr4_i64 v3]⟩), (10, ⟨0, 23, 4, true, false, [eArr4_i64 r2]⟩)], 3⟩ [] [(2, [9]), (3, [10]), (5, [11]), (6, [12]), (11, [9]), (12, [10])] (by kernel_rfl) (by kernel_rfl) ?_
    obtain ⟨r11, hr11, h⟩ := bsome h
    refine WD_pt rfl (by kernel_rfl) (by kernel_rfl) [eArr4_i64 v3, eArr4_i64 r2] (vb r11) rfl (by kernel_rfl) en9 (by kernel_rfl) (clock_Below_ok hr11) (by kernel_rfl) ?_
    refine WD_seg 2 ⟨[(39, eArr4_i64 r2), (38, eArr4_i64 v3), (37, vb r11), (36, eArr4_i64 r2), (35, eArr4_i64 v3), (34, vb true), (33, vb true), (32, vb true), (31, eArr4_i64 r10), (30, eArr4_i64 r2), (29, eArr4_i64 v3), (28, eArr4_i64 r9), (27, eArr4_i64 r2), (26, eArr4_i64 v3), (25, vb true), (24, vb true), (2, vi (wr (r5 - 2))), (3, vb a3), (9, .box 9 0 0 0), (10, .box 10 0 0 0), (11, .box 11 1 0 0), (12, .box 12 2 0 0)], [(12, ⟨2, 29, 4, true, false, [eArr4_i64 r2]⟩), (11, ⟨1, 29, 4, true, false, [eArr4_i64 v3]⟩), (9, ⟨0, 23, 4, true, false, [eArr4_i64 v3]⟩), (10, ⟨0, 23, 4, true, false, [eArr4_i64 r2]⟩)], 3⟩ [] [(2, [9]), (3, [10]), (5, [11]), (6, [12]), (11, [9]), (12, [10]), (14, [11]), (15, [12])] (by kernel_rfl) (by kernel_rfl) ?_
    obtain ⟨r12, hr12, h⟩ := bsome h
    refine WD_pt rfl (by kernel_rfl) (by kernel_rfl) [eArr4_i64 v3, eArr4_i64 r2] (vb r12) rfl (by kernel_rfl) en15 (by kernel_rfl) (ref13_Below_ok hr12) (by kernel_rfl) ?_
    refine WD_seg 3 ⟨[(43, vb (r11 == r12)), (42, vb (r11 == r12)), (41, vb (r11 == r12)), (40, vb r12), (39, eArr4_i64 r2), (38, eArr4_i64 v3), (37, vb r11), (36, eArr4_i64 r2), (35, eArr4_i64 v3), (34, vb true), (33, vb true), (32, vb true), (31, eArr4_i64 r10), (30, eArr4_i64 r2), (29, eArr4_i64 v3), (28, eArr4_i64 r9), (27, eArr4_i64 r2), (26, eArr4_i64 v3), (25, vb true), (24, vb true), (2, vi (wr (r5 - 2))), (3, vb a3), (9, .box 9 0 0 0), (10, .box 10 0 0 0), (11, .box 11 1 0 0), (12, .box 12 2 0 0)], [(12, ⟨2, 29, 4, true, false, [eArr4_i64 r2]⟩), (11, ⟨1, 29, 4, true, false, [eArr4_i64 v3]⟩), (9, ⟨0, 23, 4, true, false, [eArr4_i64 v3]⟩), (10, ⟨0, 23, 4, true, false, [eArr4_i64 r2]⟩)], 3⟩ [] [(2, [9]), (3, [10]), (5, [11]), (6, [12]), (11, [9]), (12, [10]), (14, [11]), (15, [12])] (by kernel_rfl) (by kernel_rfl) ?_
    cases hb : ((r11 == r12) : Bool)
    · replace h := cfalse hb h
      refine WD_seg 28 ⟨[(8, vb false), (70, vb false), (69, .p Go.undef), (68, .p Go.undef), (67, .p Go.undef), (66, .p Go.undef), (65, .p Go.undef), (64, .p Go.undef), (63, .p Go.undef), (62, .p Go.undef), (61, .p Go.undef), (60, .p Go.undef), (59, vb false), (58, vb false), (57, .p Go.undef), (56, .p Go.undef), (55, .p Go.undef), (54, .p Go.undef), (53, .p Go.undef), (52, .p Go.undef), (51, .p Go.undef), (50, .p Go.undef), (49, .p Go.undef), (48, .p Go.undef), (47, .p Go.undef), (46, .p Go.undef), (45, .p Go.undef), (44, .p Go.undef), (43, vb false), (42, vb false), (41, vb false), (40, vb r12), (39, eArr4_i64 r2), (38, eArr4_i64 v3), (37, vb r11), (36, eArr4_i64 r2), (35, eArr4_i64 v3), (34, vb true), (33, vb true), (32, vb true), (31, eArr4_i64 r10), (30, eArr4_i64 r2), (29, eArr4_i64 v3), (28, eArr4_i64 r9), (27, eArr4_i64 r2), (26, eArr4_i64 v3), (25, vb true), (24, vb true), (2, vi (wr (r5 - 2))), (3, vb a3), (9, .box 9 0 0 0), (10, .box 10 0 0 0), (11, .box 11 1 0 0), (12, .box 12 2 0 0)], [(12, ⟨2, 29, 4, true, false, [eArr4_i64 r2]⟩), (11, ⟨1, 29, 4, true, false, [eArr4_i64 v3]⟩), (9, ⟨0, 23, 4, true, false, [eArr4_i64 v3]⟩), (10, ⟨0, 23, 4, true, false, [eArr4_i64 r2]⟩)], 3⟩ [] [(2, [9]), (3, [10]), (5, [11]), (6, [12]), (11, [9]), (12, [10]), (14, [11]), (15, [12])] (by kernel_rfl) (by kernel_rfl) ?_
      refine WD_end (by kernel_rfl) (by kernel_rfl) (by kernel_rfl) ?_
      exact wK [8] [] ⟨false, h, rfl⟩
    replace h := ctrue hb h
    refine WD_seg 2 ⟨[(45, eArr4_i64 r2), (44, eArr4_i64 v3), (43, vb true), (42, vb true), (41, vb true), (40, vb r12), (39, eArr4_i64 r2), (38, eArr4_i64 v3), (37, vb r11), (36, eArr4_i64 r2), (35, eArr4_i64 v3), (34, vb true), (33, vb true), (32, vb true), (31, eArr4_i64 r10), (30, eArr4_i64 r2), (29, eArr4_i64 v3), (28, eArr4_i64 r9), (27, eArr4_i64 r2), (26, eArr4_i64 v3), (25, vb true), (24, vb true), (2, vi (wr (r5 - 2))), (3, vb a3), (9, .box 9 0 0 0), (10, .box 10 0 0 0), (11, .box 11 1 0 0), (12, .box 12 2 0 0)], [(12, ⟨2, 29, 4, true, false, [eArr4_i64 r2]⟩), (11, ⟨1, 29, 4, true, false, [eArr4_i64 v3]⟩), (9, ⟨0, 23, 4, true, false, [eArr4_i64 v3]⟩), (10, ⟨0, 23, 4, true, false, [eArr4_i64 r2]⟩)], 3⟩ [] [(2, [9]), (3, [10]), (5, [11]), (6, [12]), (11, [9]), (12, [10]), (14, [11]), (15, [12]), (20, [9]), (21, [10])] (by kernel_rfl) (by kernel_rfl) ?_
    obtain ⟨r13, hr13, h⟩ := bsome h
    refine WD_pt rfl (by kernel_rfl) (by kernel_rfl) [eArr4_i64 v3, eArr4_i64 r2] (vb r13) rfl (by kernel_rfl) en10 (by kernel_rfl) (clock_Apart_ok hr13) (by kernel_rfl) ?_
    refine WD_seg 2 ⟨[(48, eArr4_i64 r2), (47, eArr4_i64 v3), (46, vb r13), (45, eArr4_i64 r2), (44, eArr4_i64 v3), (43, vb true), (42, vb true), (41, vb true), (40, vb r12), (39, eArr4_i64 r2), (38, eArr4_i64 v3), (37, vb r11), (36, eArr4_i64 r2), (35, eArr4_i64 v3), (34, vb true), (33, vb true), (32, vb true), (31, eArr4_i64 r10), (30, eArr4_i64 r2), (29, eArr4_i64 v3), (28, eArr4_i64 r9), (27, eArr4_i64 r2), (26, eArr4_i64 v3), (25, vb true), (24, vb true), (2, vi (wr (r5 - 2))), (3, vb a3), (9, .box 9 0 0 0), (10, .box 10 0 0 0), (11, .box 11 1 0 0), (12, .box 12 2 0 0)], [(12, ⟨2, 29, 4, true, false, [eArr4_i64 r2]⟩), (11, ⟨1, 29, 4, true, false, [eArr4_i64 v3]⟩), (9, ⟨0, 23, 4, true, false, [eArr4_i64 v3]⟩), (10, ⟨0, 23, 4, true, false, [eArr4_i64 r2]⟩)], 3⟩ [] [(2, [9]), (3, [10]), (5, [11]), (6, [12]), (11, [9]), (12, [10]), (14, [11]), (15, [12]), (20, [9]), (21, [10]), (23, [11]), (24, [12])] (by kernel_rfl) (by kernel_rfl) ?_
    obtain ⟨r14, hr14, h⟩ := bsome h
    refine WD_pt rfl (by kernel_rfl) (by kernel_rfl) [eArr4_i64 v3, eArr4_i64 r2] (vb r14) rfl (by kernel_rfl) en15 (by kernel_rfl) (ref13_Below_ok hr14) (by kernel_rfl) ?_
    refine WD_seg 2 ⟨[(51, vb (!r14)), (50, vb (!r14)), (49, vb r14), (48, eArr4_i64 r2), (47, eArr4_i64 v3), (46, vb r13), (45, eArr4_i64 r2), (44, eArr4_i64 v3), (43, vb true), (42, vb true), (41, vb true), (40, vb r12), (39, eArr4_i64 r2), (38, eArr4_i64 v3), (37, vb r11), (36, eArr4_i64 r2), (35, eArr4_i64 v3), (34, vb true), (33, vb true), (32, vb true), (31, eArr4_i64 r10), (30, eArr4_i64 r2), (29, eArr4_i64 v3), (28, eArr4_i64 r9), (27, eArr4_i64 r2), (26, eArr4_i64 v3), (25, vb true), (24, vb true), (2, vi (wr (r5 - 2))), (3, vb a3), (9, .box 9 0 0 0), (10, .box 10 0 0 0), (11, .box 11 1 0 0), (12, .box 12 2 0 0)], [(12, ⟨2, 29, 4, true, false, [eArr4_i64 r2]⟩), (11, ⟨1, 29, 4, true, false, [eArr4_i64 v3]⟩), (9, ⟨0, 23, 4, true, false, [eArr4_i64 v3]⟩), (10, ⟨0, 23, 4, true, false, [eArr4_i64 r2]⟩)], 3⟩ [] [(2, [9]), (3, [10]), (5, [11]), (6, [12]), (11, [9]), (12, [10]), (14, [11]), (15, [12]), (20, [9]), (21, [10]), (23, [11]), (24, [12])] (by kernel_rfl) (by kernel_rfl) ?_
    cases hb : (!r14 : Bool)
    · replace h := cfalse hb h
      refine WD_seg 8 ⟨[(59, vb (r13 == false)), (58, vb (r13 == false)), (57, vb (r13 == false)), (56, vb false), (55, .p Go.undef), (54, .p Go.undef), (53, .p Go.undef), (52, .p Go.undef), (51, vb false), (50, vb false), (49, vb r14), (48, eArr4_i64 r2), (47, eArr4_i64 v3), (46, vb r13), (45, eArr4_i64 r2), (44, eArr4_i64 v3), (43, vb true), (42, vb true), (41, vb true), (40, vb r12), (39, eArr4_i64 r2), (38, eArr4_i64 v3), (37, vb r11), (36, eArr4_i64 r2), (35, eArr4_i64 v3), (34, vb true), (33, vb true), (32, vb true), (31, eArr4_i64 r10), (30, eArr4_i64 r2), (29, eArr4_i64 v3), (28, eArr4_i64 r9), (27, eArr4_i64 r2), (26, eArr4_i64 v3), (25, vb true), (24, vb true), (2, vi (wr (r5 - 2))), (3, vb a3), (9, .box 9 0 0 0), (10, .box 10 0 0 0), (11, .box 11 1 0 0), (12, .box 12 2 0 0)], [(12, ⟨2, 29, 4, true, false, [eArr4_i64 r2]⟩), (11, ⟨1, 29, 4, true, false, [eArr4_i64 v3]⟩), (9, ⟨0, 23, 4, true, false, [eArr4_i64 v3]⟩), (10, ⟨0, 23, 4, true, false, [eArr4_i64 r2]⟩)], 3⟩ [] [(2, [9]), (3, [10]), (5, [11]), (6, [12]), (11, [9]), (12, [10]), (14, [11]), (15, [12]), (20, [9]), (21, [10]), (23, [11]), (24, [12])] (by kernel_rfl) (by kernel_rfl) ?_
      cases hb : ((r13 == false) : Bool)
      · replace h := cfalse hb h
        refine WD_seg 12 ⟨[(8, vb false), (70, vb false), (69, .p Go.undef), (68, .p Go.undef), (67, .p Go.undef), (66, .p Go.undef), (65, .p Go.undef), (64, .p Go.undef), (63, .p Go.undef), (62, .p Go.undef), (61, .p Go.undef), (60, .p Go.undef), (59, vb false), (58, vb false), (57, vb false), (56, vb false), (55, .p Go.undef), (54, .p Go.undef), (53, .p Go.undef), (52, .p Go.undef), (51, vb false), (50, vb false), (49, vb r14), (48, eArr4_i64 r2), (47, eArr4_i64 v3), (46, vb r13), (45, eArr4_i64 r2), (44, eArr4_i64 v3), (43, vb true), (42, vb true), (41, vb true), (40, vb r12), (39, eArr4_i64 r2), (38, eArr4_i64 v3), (37, vb r11), (36, eArr4_i64 r2), (35, eArr4_i64 v3), (34, vb true), (33, vb true), (32, vb true), (31, eArr4_i64 r10), (30, eArr4_i64 r2), (29, eArr4_i64 v3), (28, eArr4_i64 r9), (27, eArr4_i64 r2), (26, eArr4_i64 v3), (25, vb true), (24, vb true), (2, vi (wr (r5 - 2))), (3, vb a3), (9, .box 9 0 0 0), (10, .box 10 0 0 0), (11, .box 11 1 0 0), (12, .box 12 2 0 0)], [(12, ⟨2, 29, 4, true, false, [eArr4_i64 r2]⟩), (11, ⟨1, 29, 4, true, false, [eArr4_i64 v3]⟩), (9, ⟨0, 23, 4, true, false, [eArr4_i64 v3]⟩), (10, ⟨0, 23, 4, true, false, [eArr4_i64 r2]⟩)], 3⟩ [] [(2, [9]), (3, [10]), (5, [11]), (6, [12]), (11, [9]), (12, [10]), (14, [11]), (15, [12]), (20, [9]), (21, [10]), (23, [11]), (24, [12])] (by kernel_rfl) (by kernel_rfl) ?_
        refine WD_end (by kernel_rfl) (by kernel_rfl) (by kernel_rfl) ?_
        exact wK [8] [] ⟨false, h, rfl⟩
      replace h := ctrue hb h
      refine WD_seg 2 ⟨[(61, vb a3), (60, vb a3), (59, vb true), (58, vb true), (57, vb true), (56, vb false), (55, .p Go.undef), (54, .p Go.undef), (53, .p Go.undef), (52, .p Go.undef), (51, vb false), (50, vb false), (49, vb r14), (48, eArr4_i64 r2), (47, eArr4_i64 v3), (46, vb r13), (45, eArr4_i64 r2), (44, eArr4_i64 v3), (43, vb true), (42, vb true), (41, vb true), (40, vb r12), (39, eArr4_i64 r2), (38, eArr4_i64 v3), (37, vb r11), (36, eArr4_i64 r2), (35, eArr4_i64 v3), (34, vb true), (33, vb true), (32, vb true), (31, eArr4_i64 r10), (30, eArr4_i64 r2), (29, eArr4_i64 v3), (28, eArr4_i64 r9), (27, eArr4_i64 r2), (26, eArr4_i64 v3), (25, vb true), (24, vb true), (2, vi (wr (r5 - 2))), (3, vb a3), (9, .box 9 0 0 0), (10, .box 10 0 0 0), (11, .box 11 1 0 0), (12, .box 12 2 0 0)], [(12, ⟨2, 29, 4, true, false, [eArr4_i64 r2]⟩), (11, ⟨1, 29, 4, true, false, [eArr4_i64 v3]⟩), (9, ⟨0, 23, 4, true, false, [eArr4_i64 v3]⟩), (10, ⟨0, 23, 4, true, false, [eArr4_i64 r2]⟩)], 3⟩ [] [(2, [9]), (3, [10]), (5, [11]), (6, [12]), (11, [9]), (12, [10]), (14, [11]), (15, [12]), (20, [9]), (21, [10]), (23, [11]), (24, [12])] (by kernel_rfl) (by kernel_rfl) ?_
      cases hb : (a3 : Bool)
      · replace h := cfalse hb h
        refine WD_seg 2 ⟨[(63, vi (wr (r5 - 2))), (62, eArr4_i64 v3), (61, vb false), (60, vb false), (59, vb true), (58, vb true), (57, vb true), (56, vb false), (55, .p Go.undef), (54, .p Go.undef), (53, .p Go.undef), (52, .p Go.undef), (51, vb false), (50, vb false), (49, vb r14), (48, eArr4_i64 r2), (47, eArr4_i64 v3), (46, vb r13), (45, eArr4_i64 r2), (44, eArr4_i64 v3), (43, vb true), (42, vb true), (41, vb true), (40, vb r12), (39, eArr4_i64 r2), (38, eArr4_i64 v3), (37, vb r11), (36, eArr4_i64 r2), (35, eArr4_i64 v3), (34, vb true), (33, vb true), (32, vb true), (31, eArr4_i64 r10), (30, eArr4_i64 r2), (29, eArr4_i64 v3), (28, eArr4_i64 r9), (27, eArr4_i64 r2), (26, eArr4_i64 v3), (25, vb true), (24, vb true), (2, vi (wr (r5 - 2))), (3, vb false), (9, .box 9 0 0 0), (10, .box 10 0 0 0), (11, .box 11 1 0 0), (12, .box 12 2 0 0)], [(12, ⟨2, 29, 4, true, false, [eArr4_i64 r2]⟩), (11, ⟨1, 29, 4, true, false, [eArr4_i64 v3]⟩), (9, ⟨0, 23, 4, true, false, [eArr4_i64 v3]⟩), (10, ⟨0, 23, 4, true, false, [eArr4_i64 r2]⟩)], 3⟩ [] [(2, [9]), (3, [10]), (5, [11]), (6, [12]), (11, [9]), (12, [10]), (14, [11]), (15, [12]), (20, [9]), (21, [10]), (23, [11]), (24, [12]), (38, [9])] (by kernel_rfl) (by kernel_rfl) ?_
        obtain ⟨r15, hr15, h⟩ := bsome h
        refine WD_pt rfl (by kernel_rfl) (by kernel_rfl) [eArr4_i64 v3, vi (wr (r5 - 2))] (eArr4_i64 r15) rfl (by kernel_rfl) en8 (by kernel_rfl) (clock_Tick_ok hr15) (by kernel_rfl) ?_
        refine WD_seg 2 ⟨[(66, vi (wr (r5 - 2))), (65, eArr4_i64 v3), (64, eArr4_i64 r15), (63, vi (wr (r5 - 2))), (62, eArr4_i64 v3), (61, vb false), (60, vb false), (59, vb true), (58, vb true), (57, vb true), (56, vb false), (55, .p Go.undef), (54, .p Go.undef), (53, .p Go.undef), (52, .p Go.undef), (51, vb false), (50, vb false), (49, vb r14), (48, eArr4_i64 r2), (47, eArr4_i64 v3), (46, vb r13), (45, eArr4_i64 r2), (44, eArr4_i64 v3), (43, vb true), (42, vb true), (41, vb true), (40, vb r12), (39, eArr4_i64 r2), (38, eArr4_i64 v3), (37, vb r11), (36, eArr4_i64 r2), (35, eArr4_i64 v3), (34, vb true), (33, vb true), (32, vb true), (31, eArr4_i64 r10), (30, eArr4_i64 r2), (29, eArr4_i64 v3), (28, eArr4_i64 r9), (27, eArr4_i64 r2), (26, eArr4_i64 v3), (25, vb true), (24, vb true), (2, vi (wr (r5 - 2))), (3, vb false), (9, .box 9 0 0 0), (10, .box 10 0 0 0), (11, .box 11 1 0 0), (12, .box 12 2 0 0)], [(12, ⟨2, 29, 4, true, false, [eArr4_i64 r2]⟩), (11, ⟨1, 29, 4, true, false, [eArr4_i64 v3]⟩), (9, ⟨0, 23, 4, true, false, [eArr4_i64 v3]⟩), (10, ⟨0, 23, 4, true, false, [eArr4_i64 r2]⟩)], 3⟩ [] [(2, [9]), (3, [10]), (5, [11]), (6, [12]), (11, [9]), (12, [10]), (14, [11]), (15, [12]), (20, [9]), (21, [10]), (23, [11]), (24, [12]), (38, [9]), (41, [11])] (by kernel_rfl) (by kernel_rfl) ?_
        obtain ⟨r16, hr16, h⟩ := bsome h
        refine WD_pt rfl (by kernel_rfl) (by kernel_rfl) [eArr4_i64 v3, vi (wr (r5 - 2))] (eArr4_i64 r16) rfl (by kernel_rfl) en16 (by kernel_rfl) (ref13_Tick_ok hr16) (by kernel_rfl) ?_
        refine WD_loc rfl (by kernel_rfl) (by kernel_rfl) (by kernel_rfl) (ev_eqlA [.int .i64 r15.e0 r16.e0, .int .i64 r15.e1 r16.e1, .int .i64 r15.e2 r16.e2, .int .i64 r15.e3 r16.e3] (by kernel_rfl) (by kernel_rfl) (eqlArr [.int .i64 r15.e0 r16.e0, .int .i64 r15.e1 r16.e1, .int .i64 r15.e2 r16.e2, .int .i64 r15.e3 r16.e3] 3 (.int .i64) _ (by kernel_rfl) (by kernel_rfl) (by kernel_rfl) (by kernel_rfl) (by kernel_rfl)) (by kernel_rfl)) (by kernel_rfl) ?_
        refine WD_seg 3 ⟨[(8, vb (andL [r15.e0 == r16.e0, r15.e1 == r16.e1, r15.e2 == r16.e2, r15.e3 == r16.e3])), (70, vb (andL [r15.e0 == r16.e0, r15.e1 == r16.e1, r15.e2 == r16.e2, r15.e3 == r16.e3])), (69, vb (andL [r15.e0 == r16.e0, r15.e1 == r16.e1, r15.e2 == r16.e2, r15.e3 == r16.e3])), (68, vb (andL [r15.e0 == r16.e0, r15.e1 == r16.e1, r15.e2 == r16.e2, r15.e3 == r16.e3])), (67, eArr4_i64 r16), (66, vi (wr (r5 - 2))), (65, eArr4_i64 v3), (64, eArr4_i64 r15), (63, vi (wr (r5 - 2))), (62, eArr4_i64 v3), (61, vb false), (60, vb false), (59, vb true), (58, vb true), (57, vb true), (56, vb false), (55, .p Go.undef), (54, .p Go.undef), (53, .p Go.undef), (52, .p Go.undef), (51, vb false), (50, vb false), (49, vb r14), (48, eArr4_i64 r2), (47, eArr4_i64 v3), (46, vb r13), (45, eArr4_i64 r2), (44, eArr4_i64 v3), (43, vb true), (42, vb true), (41, vb true), (40, vb r12), (39, eArr4_i64 r2), (38, eArr4_i64 v3), (37, vb r11), (36, eArr4_i64 r2), (35, eArr4_i64 v3), (34, vb true), (33, vb true), (32, vb true), (31, eArr4_i64 r10), (30, eArr4_i64 r2), (29, eArr4_i64 v3), (28, eArr4_i64 r9), (27, eArr4_i64 r2), (26, eArr4_i64 v3), (25, vb true), (24, vb true), (2, vi (wr (r5 - 2))), (3, vb false), (9, .box 9 0 0 0), (10, .box 10 0 0 0), (11, .box 11 1 0 0), (12, .box 12 2 0 0)], [(12, ⟨2, 29, 4, true, false, [eArr4_i64 r2]⟩), (11, ⟨1, 29, 4, true, false, [eArr4_i64 v3]⟩), (9, ⟨0, 23, 4, true, false, [eArr4_i64 v3]⟩), (10, ⟨0, 23, 4, true, false, [eArr4_i64 r2]⟩)], 3⟩ [] [(2, [9]), (3, [10]), (5, [11]), (6, [12]), (11, [9]), (12, [10]), (14, [11]), (15, [12]), (20, [9]), (21, [10]), (23, [11]), (24, [12]), (38, [9]), (41, [11])] (by kernel_rfl) (by kernel_rfl) ?_
        refine WD_end (by kernel_rfl) (by kernel_rfl) (by kernel_rfl) ?_
        exact wK [8] [] ⟨andL [r15.e0 == r16.e0, r15.e1 == r16.e1, r15.e2 == r16.e2, r15.e3 == r16.e3], h, rfl⟩
      replace h := ctrue hb h
      refine WD_seg 10 ⟨[(8, vb true), (70, vb true), (69, vb true), (68, .p Go.undef), (67, .p Go.undef), (66, .p Go.undef), (65, .p Go.undef), (64, .p Go.undef), (63, .p Go.undef), (62, .p Go.undef), (61, vb true), (60, vb true), (59, vb true), (58, vb true), (57, vb true), (56, vb false), (55, .p Go.undef), (54, .p Go.undef), (53, .p Go.undef), (52, .p Go.undef), (51, vb false), (50, vb false), (49, vb r14), (48, eArr4_i64 r2), (47, eArr4_i64 v3), (46, vb r13), (45, eArr4_i64 r2), (44, eArr4_i64 v3), (43, vb true), (42, vb true), (41, vb true), (40, vb r12), (39, eArr4_i64 r2), (38, eArr4_i64 v3), (37, vb r11), (36, eArr4_i64 r2), (35, eArr4_i64 v3), (34, vb true), (33, vb true), (32, vb true), (31, eArr4_i64 r10), (30, eArr4_i64 r2), (29, eArr4_i64 v3), (28, eArr4_i64 r9), (27, eArr4_i64 r2), (26, eArr4_i64 v3), (25, vb true), (24, vb true), (2, vi (wr (r5 - 2))), (3, vb true), (9, .box 9 0 0 0), (10, .box 10 0 0 0), (11, .box 11 1 0 0), (12, .box 12 2 0 0)], [(12, ⟨2, 29, 4, true, false, [eArr4_i64 r2]⟩), (11, ⟨1, 29, 4, true, false, [eArr4_i64 v3]⟩), (9, ⟨0, 23, 4, true, false, [eArr4_i64 v3]⟩), (10, ⟨0, 23, 4, true, false, [eArr4_i64 r2]⟩)], 3⟩ [] [(2, [9]), (3, [10]), (5, [11]), (6, [12]), (11, [9]), (12, [10]), (14, [11]), (15, [12]), (20, [9]), (21, [10]), (23, [11]), (24, [12])] (by kernel_rfl) (by kernel_rfl) ?_
      refine WD_end (by kernel_rfl) (by kernel_rfl) (by kernel_rfl) ?_
      exact wK [8] [] ⟨true, h, rfl⟩
    replace h := ctrue hb h
    refine WD_seg 2 ⟨[(53, eArr4_i64 v3), (52, eArr4_i64 r2), (51, vb true), (50, vb true), (49, vb r14), (48, eArr4_i64 r2), (47, eArr4_i64 v3), (46, vb r13), (45, eArr4_i64 r2), (44, eArr4_i64 v3), (43, vb true), (42, vb true), (41, vb true), (40, vb r12), (39, eArr4_i64 r2), (38, eArr4_i64 v3), (37, vb r11), (36, eArr4_i64 r2), (35, eArr4_i64 v3), (34, vb true), (33, vb true), (32, vb true), (31, eArr4_i64 r10), (30, eArr4_i64 r2), (29, eArr4_i64 v3), (28, eArr4_i64 r9), (27, eArr4_i64 r2), (26, eArr4_i64 v3), (25, vb true), (24, vb true), (2, vi (wr (r5 - 2))), (3, vb a3), (9, .box 9 0 0 0), (10, .box 10 0 0 0), (11, .box 11 1 0 0), (12, .box 12 2 0 0)], [(12, ⟨2, 29, 4, true, false, [eArr4_i64 r2]⟩), (11, ⟨1, 29, 4, true, false, [eArr4_i64 v3]⟩), (9, ⟨0, 23, 4, true, false, [eArr4_i64 v3]⟩), (10, ⟨0, 23, 4, true, false, [eArr4_i64 r2]⟩)], 3⟩ [] [(2, [9]), (3, [10]), (5, [11]), (6, [12]), (11, [9]), (12, [10]), (14, [11]), (15, [12]), (20, [9]), (21, [10]), (23, [11]), (24, [12]), (28, [12]), (29, [11])] (by kernel_rfl) (by kernel_rfl) ?_
    obtain ⟨r17, hr17, h⟩ := bsome h
    refine WD_pt rfl (by kernel_rfl) (by kernel_rfl) [eArr4_i64 r2, eArr4_i64 v3] (vb r17) rfl (by kernel_rfl) en15 (by kernel_rfl) (ref13_Below_ok hr17) (by kernel_rfl) ?_
    refine WD_seg 5 ⟨[(59, vb (r13 == (!r17))), (58, vb (r13 == (!r17))), (57, vb (r13 == (!r17))), (56, vb (!r17)), (55, vb (!r17)), (54, vb r17), (53, eArr4_i64 v3), (52, eArr4_i64 r2), (51, vb true), (50, vb true), (49, vb r14), (48, eArr4_i64 r2), (47, eArr4_i64 v3), (46, vb r13), (45, eArr4_i64 r2), (44, eArr4_i64 v3), (43, vb true), (42, vb true), (41, vb true), (40, vb r12), (39, eArr4_i64 r2), (38, eArr4_i64 v3), (37, vb r11), (36, eArr4_i64 r2), (35, eArr4_i64 v3), (34, vb true), (33, vb true), (32, vb true), (31, eArr4_i64 r10), (30, eArr4_i64 r2), (29, eArr4_i64 v3), (28, eArr4_i64 r9), (27, eArr4_i64 r2), (26, eArr4_i64 v3), (25, vb true), (24, vb true), (2, vi (wr (r5 - 2))), (3, vb a3), (9, .box 9 0 0 0), (10, .box 10 0 0 0), (11, .box 11 1 0 0), (12, .box 12 2 0 0)], [(12, ⟨2, 29, 4, true, false, [eArr4_i64 r2]⟩), (11, ⟨1, 29, 4, true, false, [eArr4_i64 v3]⟩), (9, ⟨0, 23, 4, true, false, [eArr4_i64 v3]⟩), (10, ⟨0, 23, 4, true, false, [eArr4_i64 r2]⟩)], 3⟩ [] [(2, [9]), (3, [10]), (5, [11]), (6, [12]), (11, [9]), (12, [10]), (14, [11]), (15, [12]), (20, [9]), (21, [10]), (23, [11]), (24, [12]), (28, [12]), (29, [11])] (by kernel_rfl) (by kernel_rfl) ?_
    cases hb : ((r13 == (!r17)) : Bool)
    · replace h := cfalse hb h
      refine WD_seg 12 ⟨[(8, vb false), (70, vb false), (69, .p Go.undef), (68, .p Go.undef), (67, .p Go.undef), (66, .p Go.undef), (65, .p Go.undef), (64, .p Go.undef), (63, .p Go.undef), (62, .p Go.undef), (61, .p Go.undef), (60, .p Go.undef), (59, vb false), (58, vb false), (57, vb false), (56, vb (!r17)), (55, vb (!r17)), (54, vb r17), (53, eArr4_i64 v3), (52, eArr4_i64 r2), (51, vb true), (50, vb true), (49, vb r14), (48, eArr4_i64 r2), (47, eArr4_i64 v3), (46, vb r13), (45, eArr4_i64 r2), (44, eArr4_i64 v3), (43, vb true), (42, vb true), (41, vb true), (40, vb r12), (39, eArr4_i64 r2), (38, eArr4_i64 v3), (37, vb r11), (36, eArr4_i64 r2), (35, eArr4_i64 v3), (34, vb true), (33, vb true), (32, vb true), (31, eArr4_i64 r10), (30, eArr4_i64 r2), (29, eArr4_i64 v3), (28, eArr4_i64 r9), (27, eArr4_i64 r2), (26, eArr4_i64 v3), (25, vb true), (24, vb true), (2, vi (wr (r5 - 2))), (3, vb a3), (9, .box 9 0 0 0), (10, .box 10 0 0 0), (11, .box 11 1 0 0), (12, .box 12 2 0 0)], [(12, ⟨2, 29, 4, true, false, [eArr4_i64 r2]⟩), (11, ⟨1, 29, 4, true, false, [eArr4_i64 v3]⟩), (9, ⟨0, 23, 4, true, false, [eArr4_i64 v3]⟩), (10, ⟨0, 23, 4, true, false, [eArr4_i64 r2]⟩)], 3⟩ [] [(2, [9]), (3, [10]), (5, [11]), (6, [12]), (11, [9]), (12, [10]), (14, [11]), (15, [12]), (20, [9]), (21, [10]), (23, [11]), (24, [12]), (28, [12]), (29, [11])] (by kernel_rfl) (by kernel_rfl) ?_
      refine WD_end (by kernel_rfl) (by kernel_rfl) (by kernel_rfl) ?_
      exact wK [8] [] ⟨false, h, rfl⟩
    replace h := ctrue hb h
    refine WD_seg 2 ⟨[(61, vb a3), (60, vb a3), (59, vb true), (58, vb true), (57, vb true), (56, vb (!r17)), (55, vb (!r17)), (54, vb r17), (53, eArr4_i64 v3), (52, eArr4_i64 r2), (51, vb true), (50, vb true), (49, vb r14), (48, eArr4_i64 r2), (47, eArr4_i64 v3), (46, vb r13), (45, eArr4_i64 r2), (44, eArr4_i64 v3), (43, vb true), (42, vb true), (41, vb true), (40, vb r12), (39, eArr4_i64 r2), (38, eArr4_i64 v3), (37, vb r11), (36, eArr4_i64 r2), (35, eArr4_i64 v3), (34, vb true), (33, vb true), (32, vb true), (31, eArr4_i64 r10), (30, eArr4_i64 r2), (29, eArr4_i64 v3), (28, eArr4_i64 r9), (27, eArr4_i64 r2), (26, eArr4_i64 v3), (25, vb true), (24, vb true), (2, vi (wr (r5 - 2))), (3, vb a3), (9, .box 9 0 0 0), (10, .box 10 0 0 0), (11, .box 11 1 0 0), (12, .box 12 2 0 0)], [(12, ⟨2, 29, 4, true, false, [eArr4_i64 r2]⟩), (11, ⟨1, 29, 4, true, false, [eArr4_i64 v3]⟩), (9, ⟨0, 23, 4, true, false, [eArr4_i64 v3]⟩), (10, ⟨0, 23, 4, true, false, [eArr4_i64 r2]⟩)], 3⟩ [] [(2, [9]), (3, [10]), (5, [11]), (6, [12]), (11, [9]), (12, [10]), (14, [11]), (15, [12]), (20, [9]), (21, [10]), (23, [11]), (24, [12]), (28, [12]), (29, [11])] (by kernel_rfl) (by kernel_rfl) ?_
    cases hb : (a3 : Bool)
    · replace h := cfalse hb h
      refine WD_seg 2 ⟨[(63, vi (wr (r5 - 2))), (62, eArr4_i64 v3), (61, vb false), (60, vb false), (59, vb true), (58, vb true), (57, vb true), (56, vb (!r17)), (55, vb (!r17)), (54, vb r17), (53, eArr4_i64 v3), (52, eArr4_i64 r2), (51, vb true), (50, vb true), (49, vb r14), (48, eArr4_i64 r2), (47, eArr4_i64 v3), (46, vb r13), (45, eArr4_i64 r2), (44, eArr4_i64 v3), (43, vb true), (42, vb true), (41, vb true), (40, vb r12), (39, eArr4_i64 r2), (38, eArr4_i64 v3), (37, vb r11), (36, eArr4_i64 r2), (35, eArr4_i64 v3), (34, vb true), (33, vb true), (32, vb true), (31, eArr4_i64 r10), (30, eArr4_i64 r2), (29, eArr4_i64 v3), (28, eArr4_i64 r9), (27, eArr4_i64 r2), (26, eArr4_i64 v3), (25, vb true), (24, vb true), (2, vi (wr (r5 - 2))), (3, vb false), (9, .box 9 0 0 0), (10, .box 10 0 0 0), (11, .box 11 1 0 0), (12, .box 12 2 0 0)], [(12, ⟨2, 29, 4, true, false, [eArr4_i64 r2]⟩), (11, ⟨1, 29, 4, true, false, [eArr4_i64 v3]⟩), (9, ⟨0, 23, 4, true, false, [eArr4_i64 v3]⟩), (10, ⟨0, 23, 4, true, false, [eArr4_i64 r2]⟩)], 3⟩ [] [(2, [9]), (3, [10]), (5, [11]), (6, [12]), (11, [9]), (12, [10]), (14, [11]), (15, [12]), (20, [9]), (21, [10]), (23, [11]), (24, [12]), (28, [12]), (29, [11]), (38, [9])] (by kernel_rfl) (by kernel_rfl) ?_
      obtain ⟨r18, hr18, h⟩ := bsome h
      refine WD_pt rfl (by kernel_rfl) (by kernel_rfl) [eArr4_i64 v3, vi (wr (r5 - 2))] (eArr4_i64 r18) rfl (by kernel_rfl) en8 (by kernel_rfl) (clock_Tick_ok hr18) (by kernel_rfl) ?_
      refine WD_seg 2 ⟨[(66, vi (wr (r5 - 2))), (65, eArr4_i64 v3), (64, eArr4_i64 r18), (63, vi (wr (r5 - 2))), (62, eArr4_i64 v3), (61, vb false), (60, vb false), (59, vb true), (58, vb true), (57, vb true), (56, vb (!r17)), (55, vb (!r17)), (54, vb r17), (53, eArr4_i64 v3), (52, eArr4_i64 r2), (51, vb true), (50, vb true), (49, vb r14), (48, eArr4_i64 r2), (47, eArr4_i64 v3), (46, vb r13), (45, eArr4_i64 r2), (44, eArr4_i64 v3), (43, vb true), (42, vb true), (41, vb true), (40, vb r12), (39, eArr4_i64 r2), (38, eArr4_i64 v3), (37, vb r11), (36, eArr4_i64 r2), (35, eArr4_i64 v3), (34, vb true), (33, vb true), (32, vb true), (31, eArr4_i64 r10), (30, eArr4_i64 r2), (29, eArr4_i64 v3), (28, eArr4_i64 r9), (27, eArr4_i64 r2), (26, eArr4_i64 v3), (25, vb true), (24, vb true), (2, vi (wr (r5 - 2))), (3, vb false), (9, .box 9 0 0 0), (10, .box 10 0 0 0), (11, .box 11 1 0 0), (12, .box 12 2 0 0)], [(12, ⟨2, 29, 4, true, false, [eArr4_i64 r2]⟩), (11, ⟨1, 29, 4, true, false, [eArr4_i64 v3]⟩), (9, ⟨0, 23, 4, true, false, [eArr4_i64 v3]⟩), (10, ⟨0, 23, 4, true, false, [eArr4_i64 r2]⟩)], 3⟩ [] [(2, [9]), (3, [10]), (5, [11]), (6, [12]), (11, [9]), (12, [10]), (14, [11]), (15, [12]), (20, [9]), (21, [10]), (23, [11]), (24, [12]), (28, [12]), (29, [11]), (38, [9]), (41, [11])] (by kernel_rfl) (by kernel_rfl) ?_
      obtain ⟨r19, hr19, h⟩ := bsome h
      refine WD_pt rfl (by kernel_rfl) (by kernel_rfl) [eArr4_i64 v3, vi (wr (r5 - 2))] (eArr4_i64 r19) rfl (by kernel_rfl) en16 (by kernel_rfl) (ref13_Tick_ok hr19) (by kernel_rfl) ?_
      refine WD_loc rfl (by kernel_rfl) (by kernel_rfl) (by kernel_rfl) (ev_eqlA [.int .i64 r18.e0 r19.e0, .int .i64 r18.e1 r19.e1, .int .i64 r18.e2 r19.e2, .int .i64 r18.e3 r19.e3] (by kernel_rfl) (by kernel_rfl) (eqlArr [.int .i64 r18.e0 r19.e0, .int .i64 r18.e1 r19.e1, .int .i64 r18.e2 r19.e2, .int .i64 r18.e3 r19.e3] 3 (.int .i64) _ (by kernel_rfl) (by kernel_rfl) (by kernel_rfl) (by kernel_rfl) (by kernel_rfl)) (by kernel_rfl)) (by kernel_rfl) ?_
      refine WD_seg 3 ⟨[(8, vb (andL [r18.e0 == r19.e0, r18.e1 == r19.e1, r18.e2 == r19.e2, r18.e3 == r19.e3])), (70, vb (andL [r18.e0 == r19.e0, r18.e1 == r19.e1, r18.e2 == r19.e2, r18.e3 == r19.e3])), (69, vb (andL [r18.e0 == r19.e0, r18.e1 == r19.e1, r18.e2 == r19.e2, r18.e3 == r19.e3])), (68, vb (andL [r18.e0 == r19.e0, r18.e1 == r19.e1, r18.e2 == r19.e2, r18.e3 == r19.e3])), (67, eArr4_i64 r19), (66, vi (wr (r5 - 2))), (65, eArr4_i64 v3), (64, eArr4_i64 r18), (63, vi (wr (r5 - 2))), (62, eArr4_i64 v3), (61, vb false), (60, vb false), (59, vb true), (58, vb true), (57, vb true), (56, vb (!r17)), (55, vb (!r17)), (54, vb r17), (53, eArr4_i64 v3), (52, eArr4_i64 r2), (51, vb true), (50, vb true), (49, vb r14), (48, eArr4_i64 r2), (47, eArr4_i64 v3), (46, vb r13), (45, eArr4_i64 r2), (44, eArr4_i64 v3), (43, vb true), (42, vb true), (41, vb true), (40, vb r12), (39, eArr4_i64 r2), (38, eArr4_i64 v3), (37, vb r11), (36, eArr4_i64 r2), (35, eArr4_i64 v3), (34, vb true), (33, vb true), (32, vb true), (31, eArr4_i64 r10), (30, eArr4_i64 r2), (29, eArr4_i64 v3), (28, eArr4_i64 r9), (27, eArr4_i64 r2), (26, eArr4_i64 v3), (25, vb true), (24, vb true), (2, vi (wr (r5 - 2))), (3, vb false), (9, .box 9 0 0 0), (10, .box 10 0 0 0), (11, .box 11 1 0 0), (12, .box 12 2 0 0)], [(12, ⟨2, 29, 4, true, false, [eArr4_i64 r2]⟩), (11, ⟨1, 29, 4, true, false, [eArr4_i64 v3]⟩), (9, ⟨0, 23, 4, true, false, [eArr4_i64 v3]⟩), (10, ⟨0, 23, 4, true, false, [eArr4_i64 r2]⟩)], 3⟩ [] [(2, [9]), (3, [10]), (5, [11]), (6, [12]), (11, [9]), (12, [10]), (14, [11]), (15, [12]), (20, [9]), (21, [10]), (23, [11]), (24, [12]), (28, [12]), (29, [11]), (38, [9]), (41, [11])] (by kernel_rfl) (by kernel_rfl) ?_
      refine WD_end (by kernel_rfl) (by kernel_rfl) (by kernel_rfl) ?_
      exact wK [8] [] ⟨andL [r18.e0 == r19.e0, r18.e1 == r19.e1, r18.e2 == r19.e2, r18.e3 == r19.e3], h, rfl⟩
    replace h := ctrue hb h
    refine WD_seg 10 ⟨[(8, vb true), (70, vb true), (69, vb true), (68, .p Go.undef), (67, .p Go.undef), (66, .p Go.undef), (65, .p Go.undef), (64, .p Go.undef), (63, .p Go.undef), (62, .p Go.undef), (61, vb true), (60, vb true), (59, vb true), (58, vb true), (57, vb true), (56, vb (!r17)), (55, vb (!r17)), (54, vb r17), (53, eArr4_i64 v3), (52, eArr4_i64 r2), (51, vb true), (50, vb true), (49, vb r14), (48, eArr4_i64 r2), (47, eArr4_i64 v3), (46, vb r13), (45, eArr4_i64 r2), (44, eArr4_i64 v3), (43, vb true), (42, vb true), (41, vb true), (40, vb r12), (39, eArr4_i64 r2), (38, eArr4_i64 v3), (37, vb r11), (36, eArr4_i64 r2), (35, eArr4_i64 v3), (34, vb true), (33, vb true), (32, vb true), (31, eArr4_i64 r10), (30, eArr4_i64 r2), (29, eArr4_i64 v3), (28, eArr4_i64 r9), (27, eArr4_i64 r2), (26, eArr4_i64 v3), (25, vb true), (24, vb true), (2, vi (wr (r5 - 2))), (3, vb true), (9, .box 9 0 0 0), (10, .box 10 0 0 0), (11, .box 11 1 0 0), (12, .box 12 2 0 0)], [(12, ⟨2, 29, 4, true, false, [eArr4_i64 r2]⟩), (11, ⟨1, 29, 4, true, false, [eArr4_i64 v3]⟩), (9, ⟨0, 23, 4, true, false, [eArr4_i64 v3]⟩), (10, ⟨0, 23, 4, true, false, [eArr4_i64 r2]⟩)], 3⟩ [] [(2, [9]), (3, [10]), (5, [11]), (6, [12]), (11, [9]), (12, [10]), (14, [11]), (15, [12]), (20, [9]), (21, [10]), (23, [11]), (24, [12]), (28, [12]), (29, [11])] (by kernel_rfl) (by kernel_rfl) ?_
    refine WD_end (by kernel_rfl) (by kernel_rfl) (by kernel_rfl) ?_
    exact wK [8] [] ⟨true, h, rfl⟩
  subst hJ7
  rintro s ⟨b6, h, rfl⟩
  obtain rfl := Option.some.inj h
  exact rK [8] [] ⟨[(8, vb b6)], [], 1⟩ ⟨by kernel_rfl, rfl⟩

end Go.Su.Ytacknokheanpbaa
