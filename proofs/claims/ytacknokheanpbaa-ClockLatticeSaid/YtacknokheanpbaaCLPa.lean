/-
  The functions of the program compute that.
-/
import Derived.Test.YtacknokheanpbaaCLF
namespace Go.Su.Ytacknokheanpbaa
open Go.Mx Go.Proofs
set_option maxRecDepth 100000
set_option maxHeartbeats 20000000
set_option linter.unusedVariables false
set_option linter.unusedSimpArgs false

theorem hand_Pick_ok {n : Nat} {a0 : Int} {a1 : Int} {r : Int} (h : hand_Pick n a0 a1 = some r) : PT Try.prog 12 [vi a0, vi a1] (vi r) := by
  unfold hand_Pick at h
  refine PT_bodyA hT Try.func12 rfl (by kernel_rfl) fun bad w => ?_
  refine Qzd hT 1 [0, 1] [] ?_
  refine Qg hT 2 [1, 5, 6] ⟨[(1, vi a1), (5, vi a0), (6, vi a1)], [], 0⟩ ?_
  obtain ⟨g1, h⟩ := g0some h
  refine One' hT rfl (ev_rem .i64 a0 a1 g1 (by kernel_rfl) (by kernel_rfl)) ?_
  refine Sz hT 1 [0, 1] ⟨[(0, vi (a0.tmod a1)), (1, vi a1)], [], 0⟩ ?_
  refine WA_seq ?_
  refine Qzd hT 2 [0, 1, 9] [(9, vb (decide ((a0.tmod a1) < 0)))] ?_
  obtain ⟨J3, hJ3, h⟩ := jsome h
  refine WA_join (fun s => ∃ (i2 : Int), J3 i2 = some r ∧ s = ⟨[(0, vi i2)], [], 1⟩) ?_ ?_
  · refine Cd (decide ((a0.tmod a1) < 0)) ?_ ?_
    · intro hb; replace h := ctrue hb h
      refine Rg hT 4 [0] ⟨[(0, vi (wr ((a0.tmod a1) + a1)))], [], 0⟩ ?_
      exact oK [0] [] ⟨wr ((a0.tmod a1) + a1), h, rfl⟩
    intro hb; replace h := cfalse hb h
    exact sK [0] [] ⟨a0.tmod a1, h, rfl⟩
  subst hJ3
  rintro s ⟨i2, h, rfl⟩
  refine Qz hT 2 [4] ⟨[(4, vi i2)], [], 1⟩ ?_
  obtain rfl := Option.some.inj h
  exact rK [4] [] ⟨[(4, vi i2)], [], 1⟩ ⟨by kernel_rfl, rfl⟩

theorem law18_of_ok {n : Nat} {a0 : Arr4_i64} {r : Arr4_i64} (h : law18_of n a0 = some r) : PT Try.prog 11 [eArr4_i64 a0] (eArr4_i64 r) := by
  unfold law18_of at h
  refine PT_bodyA hT Try.func11 rfl (by kernel_rfl) fun bad w => ?_
  refine Qz hT 2 [1, 2] ⟨[(1, .box 1 0 0 0), (2, .box 2 1 0 0)], [(2, ⟨1, 23, 4, true, false, [.agg [vi 0, vi 0, vi 0, vi 0]]⟩), (1, ⟨0, 22, 4, true, false, [eArr4_i64 a0]⟩)], 2⟩ ?_
  refine Qzh hT 1 [1, 2, 3] [(3, .box 3 2 0 0)] [(3, ⟨2, 23, 4, true, false, [.agg [vi 0, vi 0, vi 0, vi 0]]⟩), (2, ⟨1, 23, 4, true, false, [.agg [vi 0, vi 0, vi 0, vi 0]]⟩), (1, ⟨0, 22, 4, true, false, [eArr4_i64 a0]⟩)] 3 ?_
  refine WA_seq ?_
  refine Qzd hT 1 [1, 2, 3, 5] [(5, vi 0)] ?_
  refine WA_block ?_
  refine lK [1, 2, 3, 5] [(1, 1, 0), (2, 2, 0), (3, 3, 0)] (fun k s => ∃ q, q ≤ k ∧ q ≤ n ∧ ∃ (i3 : Int), ∃ (i4 : Int), ∃ (i5 : Int), ∃ (i6 : Int), ∃ (i7 : Int), law18_of_L0 q a0 i3 i4 i5 i6 i7 = some r ∧ s = ⟨[(1, .box 1 0 0 0), (2, .box 2 0 0 0), (3, .box 3 0 0 0), (5, vi i7)], [(1, ⟨0, 22, 4, true, false, [eArr4_i64 a0]⟩), (2, ⟨0, 23, 4, true, false, [.agg [vi 0, vi 0, vi 0, vi 0]]⟩), (3, ⟨0, 23, 4, true, false, [.agg [vi i3, vi i4, vi i5, vi i6]]⟩)], 1⟩) n ⟨n, Nat.le_refl _, Nat.le_refl _, 0, 0, 0, 0, 0, h, rfl⟩ (by rintro s ⟨q, hq, _, i3, i4, i5, i6, i7, h, _⟩; obtain rfl := Nat.le_zero.1 hq; rw [law18_of_L0] at h; cases h) ?_
  clear h
  rintro k1 s ⟨q1, hk1, hn1, i3, i4, i5, i6, i7, h, rfl⟩
  rcases q1 with _ | q1
  · rw [law18_of_L0] at h; cases h
  rw [law18_of_L0] at h
  refine Qzd hT 1 [1, 2, 3, 5, 6] [(6, vb (decide (i7 < 4)))] ?_
  refine WA_seq ?_
  refine Cd (decide (i7 < 4)) ?_ ?_
  · intro hb; replace h := ctrue hb h
    refine WA_skip ?_
    refine WA_seq ?_
    refine WA_block ?_
    refine Qz hT 2 [1, 2, 3, 4, 5] ⟨[(1, .box 1 0 0 0), (2, .box 2 0 0 0), (3, .box 3 0 0 0), (4, vi i7), (5, vi i7)], [(1, ⟨0, 22, 4, true, false, [eArr4_i64 a0]⟩), (2, ⟨0, 23, 4, true, false, [.agg [vi 0, vi 0, vi 0, vi 0]]⟩), (3, ⟨0, 23, 4, true, false, [.agg [vi i3, vi i4, vi i5, vi i6]]⟩)], 1⟩ ?_
    refine Rgd hT 2 [1, 2, 3, 5, 8, 9] [(8, vi i7), (9, vi i7)] ?_
    obtain ⟨x8, hx8, h⟩ := bsome h
    refine One' hT rfl (ev_indexAddrA [a0.e0, a0.e1, a0.e2, a0.e3] 1 0 .i64 i7 _ _ 3 hx8 (by kernel_rfl) (by kernel_rfl) rfl rfl rfl rfl (by kernel_rfl)) ?_
    refine Sgd hT 0 [1, 2, 3, 5, 8, 10] [(10, .box 1 0 0 i7.toNat)] ?_
    refine One' hT rfl (ev_loadA e_i64 [a0.e0, a0.e1, a0.e2, a0.e3] 1 0 ⟨0, 22, 4, true, false, [eArr4_i64 a0]⟩ i7 _ hx8 (by kernel_rfl) (by kernel_rfl) rfl rfl rfl rfl rfl) ?_
    refine Sgd hT 0 [1, 2, 3, 5, 8, 11] [(11, vi x8)] ?_
    obtain ⟨r9, hr9, h⟩ := bsome h
    refine Pt' en12 (hand_Pick_ok hr9) ?_
    refine Sgd hT 0 [1, 2, 3, 5, 8, 12] [(12, vi r9)] ?_
    obtain ⟨x10, hx10, h⟩ := bsome h
    refine One' hT rfl (ev_indexAddrA [i3, i4, i5, i6] 3 0 .i64 i7 _ _ 3 hx10 (by kernel_rfl) (by kernel_rfl) rfl rfl rfl rfl (by kernel_rfl)) ?_
    refine Sgd hT 0 [1, 2, 3, 5, 12, 13] [(13, .box 3 0 0 i7.toNat)] ?_
    refine One' hT rfl (ev_storeA e_i64 [i3, i4, i5, i6] 3 0 ⟨0, 23, 4, true, false, [.agg [vi i3, vi i4, vi i5, vi i6]]⟩ i7 r9 _ hx10 (by kernel_rfl) (by kernel_rfl) rfl rfl rfl rfl (fun _ => rfl) (fun _ => rfl) (fun _ => rfl) rfl rfl) ?_
    refine Szh hT 0 [1, 2, 3, 5] [] [(3, ⟨0, 23, 4, true, false, [.agg [vi (selA i7 0 r9 i3), vi (selA i7 1 r9 i4), vi (selA i7 2 r9 i5), vi (selA i7 3 r9 i6)]]⟩), (1, ⟨0, 22, 4, true, false, [eArr4_i64 a0]⟩), (2, ⟨0, 23, 4, true, false, [.agg [vi 0, vi 0, vi 0, vi 0]]⟩)] 1 ?_
    refine Rgd hT 2 [1, 2, 3, 5] [(5, vi (wr (i7 + 1)))] ?_
    exact oK [1, 2, 3, 5] [(1, 1, 0), (2, 2, 0), (3, 3, 0)] ⟨_, by omega, by omega, selA i7 0 r9 i3, selA i7 1 r9 i4, selA i7 2 r9 i5, selA i7 3 r9 i6, wr (i7 + 1), h, rfl⟩
  intro hb; replace h := cfalse hb h
  refine WA_exit ?_
  refine Qz hT 2 [2] ⟨[(2, .box 2 0 0 0)], [(2, ⟨0, 23, 4, true, false, [.agg [vi i3, vi i4, vi i5, vi i6]]⟩), (1, ⟨0, 22, 4, true, false, [eArr4_i64 a0]⟩), (3, ⟨0, 23, 4, true, false, [.agg [vi i3, vi i4, vi i5, vi i6]]⟩)], 1⟩ ?_
  refine aW [2] ⟨[(2, .box 2 0 0 0)], [(2, ⟨0, 23, 4, true, false, [.agg [vi i3, vi i4, vi i5, vi i6]]⟩), (1, ⟨0, 22, 4, true, false, [eArr4_i64 a0]⟩), (3, ⟨0, 23, 4, true, false, [.agg [vi i3, vi i4, vi i5, vi i6]]⟩)], 1⟩ ?_
  refine WA_weak (Weak_leH [(2, .box 2 0 0 0)] [(2, ⟨0, 23, 4, true, false, [eArr4_i64 (Arr4_i64.mk i3 i4 i5 i6)]⟩), (1, ⟨0, 22, 4, true, false, [eArr4_i64 a0]⟩), (3, ⟨0, 23, 4, true, false, [.agg [vi i3, vi i4, vi i5, vi i6]]⟩)] (by kernel_rfl) ⟨VLf.refl _, trivial⟩ ⟨rfl, .inr (.inl ⟨rfl, rfl, CLe.agg ⟨VLf.refl _, VLf.refl _, VLf.refl _, VLf.refl _, trivial⟩, trivial⟩), rfl, .inl rfl, rfl, .inl rfl, trivial⟩) ?_
  obtain rfl := Option.some.inj h
  exact rR [(2, 1000, 0)] ⟨[(2, .box 1000 0 0 0)], [(1000, ⟨0, 23, 4, true, false, [eArr4_i64 (Arr4_i64.mk i3 i4 i5 i6)]⟩)], 1⟩ ⟨by kernel_rfl, rfl⟩

theorem clock_Join_ok {n : Nat} {a0 : Arr4_i64} {a1 : Arr4_i64} {r : Arr4_i64} (h : clock_Join n a0 a1 = some r) : PT Try.prog 13 [eArr4_i64 a0, eArr4_i64 a1] (eArr4_i64 r) := by
  unfold clock_Join at h
  refine PT_bodyA hT Try.func13 rfl (by kernel_rfl) fun bad w => ?_
  refine Qz hT 3 [2, 3, 4] ⟨[(2, .box 2 0 0 0), (3, .box 3 1 0 0), (4, .box 4 2 0 0)], [(4, ⟨2, 23, 4, true, false, [.agg [vi 0, vi 0, vi 0, vi 0]]⟩), (3, ⟨1, 23, 4, true, false, [eArr4_i64 a1]⟩), (2, ⟨0, 23, 4, true, false, [eArr4_i64 a0]⟩)], 3⟩ ?_
  refine WA_seq ?_
  refine Qzd hT 1 [2, 3, 4, 6] [(6, vi 0)] ?_
  refine WA_block ?_
  refine lK [2, 3, 4, 6] [(2, 2, 0), (3, 3, 0), (4, 4, 0)] (fun k s => ∃ q, q ≤ k ∧ q ≤ n ∧ ∃ (i3 : Int), ∃ (i4 : Int), ∃ (i5 : Int), ∃ (i6 : Int), ∃ (i7 : Int), clock_Join_L0 q a0 a1 i3 i4 i5 i6 i7 = some r ∧ s = ⟨[(2, .box 2 0 0 0), (3, .box 3 0 0 0), (4, .box 4 0 0 0), (6, vi i7)], [(2, ⟨0, 23, 4, true, false, [.agg [vi i3, vi i4, vi i5, vi i6]]⟩), (3, ⟨0, 23, 4, true, false, [eArr4_i64 a1]⟩), (4, ⟨0, 23, 4, true, false, [.agg [vi 0, vi 0, vi 0, vi 0]]⟩)], 1⟩) n ⟨n, Nat.le_refl _, Nat.le_refl _, a0.e0, a0.e1, a0.e2, a0.e3, 0, h, rfl⟩ (by rintro s ⟨q, hq, _, i3, i4, i5, i6, i7, h, _⟩; obtain rfl := Nat.le_zero.1 hq; rw [clock_Join_L0] at h; cases h) ?_
  clear h
  rintro k1 s ⟨q1, hk1, hn1, i3, i4, i5, i6, i7, h, rfl⟩
  rcases q1 with _ | q1
  · rw [clock_Join_L0] at h; cases h
  rw [clock_Join_L0] at h
  refine Qzd hT 1 [2, 3, 4, 6, 7] [(7, vb (decide (i7 < 4)))] ?_
  refine WA_seq ?_
  refine Cd (decide (i7 < 4)) ?_ ?_
  · intro hb; replace h := ctrue hb h
    refine WA_skip ?_
    refine WA_seq ?_
    refine WA_block ?_
    refine Qzd hT 2 [2, 3, 4, 5, 6] [(5, vi i7)] ?_
    refine WA_drawW hT hM (by kernel_rfl) ?_
    refine Ds 2 [(10, vi i7), (9, vi i7)] [] [] ?_
    obtain ⟨x8, hx8, h⟩ := bsome h
    refine WD_loc' rfl (by kernel_rfl) (by kernel_rfl) (by kernel_rfl) (ev_indexAddrA [i3, i4, i5, i6] 2 0 .i64 i7 _ _ 3 hx8 (by kernel_rfl) (by kernel_rfl) rfl rfl rfl rfl (by kernel_rfl)) (by kernel_rfl) ?_
    refine Dt (.box 2 0 0 i7.toNat) ?_
    refine WD_loc' rfl (by kernel_rfl) (by kernel_rfl) (by kernel_rfl) (ev_loadA e_i64 [i3, i4, i5, i6] 2 0 ⟨0, 23, 4, true, false, [.agg [vi i3, vi i4, vi i5, vi i6]]⟩ i7 _ hx8 (by kernel_rfl) (by kernel_rfl) rfl rfl rfl rfl rfl) (by kernel_rfl) ?_
    refine Dt (vi x8) ?_
    refine Ds 1 [(13, vi i7)] [] [] ?_
    obtain ⟨x9, hx9, h⟩ := bsome h
    refine WD_loc' rfl (by kernel_rfl) (by kernel_rfl) (by kernel_rfl) (ev_indexAddrA [a1.e0, a1.e1, a1.e2, a1.e3] 3 0 .i64 i7 _ _ 3 hx9 (by kernel_rfl) (by kernel_rfl) rfl rfl rfl rfl (by kernel_rfl)) (by kernel_rfl) ?_
    refine Dt (.box 3 0 0 i7.toNat) ?_
    refine WD_loc' rfl (by kernel_rfl) (by kernel_rfl) (by kernel_rfl) (ev_loadA e_i64 [a1.e0, a1.e1, a1.e2, a1.e3] 3 0 ⟨0, 23, 4, true, false, [eArr4_i64 a1]⟩ i7 _ hx9 (by kernel_rfl) (by kernel_rfl) rfl rfl rfl rfl rfl) (by kernel_rfl) ?_
    refine Dt (vi x9) ?_
    refine Ds 1 [(16, vi (gomax x8 x9))] [] [] ?_
    obtain ⟨x10, hx10, h⟩ := bsome h
    refine WD_loc' rfl (by kernel_rfl) (by kernel_rfl) (by kernel_rfl) (ev_indexAddrA [i3, i4, i5, i6] 2 0 .i64 i7 _ _ 3 hx10 (by kernel_rfl) (by kernel_rfl) rfl rfl rfl rfl (by kernel_rfl)) (by kernel_rfl) ?_
    refine Dt (.box 2 0 0 i7.toNat) ?_
    refine WD_wr' rfl (by kernel_rfl) (by kernel_rfl) (by kernel_rfl) (ev_storeA e_i64 [i3, i4, i5, i6] 2 0 ⟨0, 23, 4, true, false, [.agg [vi i3, vi i4, vi i5, vi i6]]⟩ i7 (gomax x8 x9) _ hx10 (by kernel_rfl) (by kernel_rfl) rfl rfl rfl rfl (fun _ => rfl) (fun _ => rfl) (fun _ => rfl) rfl rfl) (by kernel_rfl) ?_
    refine WD_end (by kernel_rfl) (by kernel_rfl) (by kernel_rfl) ?_
    refine Wk_done ?_
    refine Rgd hT 2 [2, 3, 4, 6] [(6, vi (wr (i7 + 1)))] ?_
    exact oK [2, 3, 4, 6] [(2, 2, 0), (3, 3, 0), (4, 4, 0)] ⟨_, by omega, by omega, selA i7 0 (gomax x8 x9) i3, selA i7 1 (gomax x8 x9) i4, selA i7 2 (gomax x8 x9) i5, selA i7 3 (gomax x8 x9) i6, wr (i7 + 1), h, rfl⟩
  intro hb; replace h := cfalse hb h
  refine WA_exit ?_
  refine Qz hT 2 [4] ⟨[(4, .box 4 0 0 0)], [(4, ⟨0, 23, 4, true, false, [.agg [vi i3, vi i4, vi i5, vi i6]]⟩), (2, ⟨0, 23, 4, true, false, [.agg [vi i3, vi i4, vi i5, vi i6]]⟩), (3, ⟨0, 23, 4, true, false, [eArr4_i64 a1]⟩)], 1⟩ ?_
  refine aW [4] ⟨[(4, .box 4 0 0 0)], [(4, ⟨0, 23, 4, true, false, [.agg [vi i3, vi i4, vi i5, vi i6]]⟩), (2, ⟨0, 23, 4, true, false, [.agg [vi i3, vi i4, vi i5, vi i6]]⟩), (3, ⟨0, 23, 4, true, false, [eArr4_i64 a1]⟩)], 1⟩ ?_
  refine WA_weak (Weak_leH [(4, .box 4 0 0 0)] [(4, ⟨0, 23, 4, true, false, [eArr4_i64 (Arr4_i64.mk i3 i4 i5 i6)]⟩), (2, ⟨0, 23, 4, true, false, [.agg [vi i3, vi i4, vi i5, vi i6]]⟩), (3, ⟨0, 23, 4, true, false, [eArr4_i64 a1]⟩)] (by kernel_rfl) ⟨VLf.refl _, trivial⟩ ⟨rfl, .inr (.inl ⟨rfl, rfl, CLe.agg ⟨VLf.refl _, VLf.refl _, VLf.refl _, VLf.refl _, trivial⟩, trivial⟩), rfl, .inl rfl, rfl, .inl rfl, trivial⟩) ?_
  obtain rfl := Option.some.inj h
  exact rR [(4, 1000, 0)] ⟨[(4, .box 1000 0 0 0)], [(1000, ⟨0, 23, 4, true, false, [eArr4_i64 (Arr4_i64.mk i3 i4 i5 i6)]⟩)], 1⟩ ⟨by kernel_rfl, rfl⟩

theorem clock_Tick_ok {n : Nat} {a0 : Arr4_i64} {a1 : Int} {r : Arr4_i64} (h : clock_Tick n a0 a1 = some r) : PT Try.prog 8 [eArr4_i64 a0, vi a1] (eArr4_i64 r) := by
  unfold clock_Tick at h
  refine PT_bodyA hT Try.func8 rfl (by kernel_rfl) fun bad w => ?_
  refine Qz hT 2 [1, 2, 4] ⟨[(1, vi a1), (2, .box 2 0 0 0), (4, .box 4 1 0 0)], [(4, ⟨1, 23, 4, true, false, [.agg [vi 0, vi 0, vi 0, vi 0]]⟩), (2, ⟨0, 23, 4, true, false, [eArr4_i64 a0]⟩)], 2⟩ ?_
  refine WA_seq ?_
  refine WA_seq ?_
  obtain ⟨J2, hJ2, h⟩ := jsome h
  refine WA_join (fun s => ∃ (b1 : Bool), J2 b1 = some r ∧ s = ⟨[(1, vi a1), (2, .box 2 0 0 0), (4, .box 4 0 0 0), (10, vb b1)], [(2, ⟨0, 23, 4, true, false, [eArr4_i64 a0]⟩), (4, ⟨0, 23, 4, true, false, [.agg [vi 0, vi 0, vi 0, vi 0]]⟩)], 1⟩) ?_ ?_
  · refine Rgd hT 3 [1, 2, 4, 7] [(7, vb (decide (a1 ≥ 0)))] ?_
    cases hb : (decide (a1 ≥ 0) : Bool)
    · replace h := cfalse hb h
      refine Sgd hT 3 [1, 2, 4, 10] [(10, vb false)] ?_
      exact oK [1, 2, 4, 10] [(2, 2, 0), (4, 4, 0)] ⟨false, h, rfl⟩
    replace h := ctrue hb h
    refine Sgd hT 3 [1, 2, 4, 10] [(10, vb (decide (a1 < 4)))] ?_
    exact oK [1, 2, 4, 10] [(2, 2, 0), (4, 4, 0)] ⟨decide (a1 < 4), h, rfl⟩
  subst hJ2
  rintro s ⟨b1, h, rfl⟩
  obtain ⟨J7, hJ7, h⟩ := jsome h
  refine WA_join (fun s => ∃ (i3 : Int), ∃ (i4 : Int), ∃ (i5 : Int), ∃ (i6 : Int), J7 i3 i4 i5 i6 = some r ∧ s = ⟨[(2, .box 2 0 0 0), (4, .box 4 0 0 0)], [(2, ⟨0, 23, 4, true, false, [.agg [vi i3, vi i4, vi i5, vi i6]]⟩), (4, ⟨0, 23, 4, true, false, [.agg [vi 0, vi 0, vi 0, vi 0]]⟩)], 1⟩) ?_ ?_
  · refine Cd b1 ?_ ?_
    · intro hb; replace h := ctrue hb h
      refine Rgd hT 1 [2, 4, 11] [(11, vi a1)] ?_
      obtain ⟨x8, hx8, h⟩ := bsome h
      refine One' hT rfl (ev_indexAddrA [a0.e0, a0.e1, a0.e2, a0.e3] 2 0 .i64 a1 _ _ 3 hx8 (by kernel_rfl) (by kernel_rfl) rfl rfl rfl rfl (by kernel_rfl)) ?_
      refine Sgd hT 0 [2, 4, 11, 12] [(12, .box 2 0 0 a1.toNat)] ?_
      refine One' hT rfl (ev_loadA e_i64 [a0.e0, a0.e1, a0.e2, a0.e3] 2 0 ⟨0, 23, 4, true, false, [eArr4_i64 a0]⟩ a1 _ hx8 (by kernel_rfl) (by kernel_rfl) rfl rfl rfl rfl rfl) ?_
      refine Sgd hT 1 [2, 4, 11, 14] [(14, vi (wr (x8 + 1)))] ?_
      obtain ⟨x9, hx9, h⟩ := bsome h
      refine One' hT rfl (ev_indexAddrA [a0.e0, a0.e1, a0.e2, a0.e3] 2 0 .i64 a1 _ _ 3 hx9 (by kernel_rfl) (by kernel_rfl) rfl rfl rfl rfl (by kernel_rfl)) ?_
      refine Sgd hT 0 [2, 4, 14, 15] [(15, .box 2 0 0 a1.toNat)] ?_
      refine One' hT rfl (ev_storeA e_i64 [a0.e0, a0.e1, a0.e2, a0.e3] 2 0 ⟨0, 23, 4, true, false, [eArr4_i64 a0]⟩ a1 (wr (x8 + 1)) _ hx9 (by kernel_rfl) (by kernel_rfl) rfl rfl rfl rfl (fun _ => rfl) (fun _ => rfl) (fun _ => rfl) rfl rfl) ?_
      refine Sgh hT 0 [2, 4] [] [(2, ⟨0, 23, 4, true, false, [.agg [vi (selA a1 0 (wr (x8 + 1)) a0.e0), vi (selA a1 1 (wr (x8 + 1)) a0.e1), vi (selA a1 2 (wr (x8 + 1)) a0.e2), vi (selA a1 3 (wr (x8 + 1)) a0.e3)]]⟩), (4, ⟨0, 23, 4, true, false, [.agg [vi 0, vi 0, vi 0, vi 0]]⟩)] 1 ?_
      exact oK [2, 4] [(2, 2, 0), (4, 4, 0)] ⟨selA a1 0 (wr (x8 + 1)) a0.e0, selA a1 1 (wr (x8 + 1)) a0.e1, selA a1 2 (wr (x8 + 1)) a0.e2, selA a1 3 (wr (x8 + 1)) a0.e3, h, rfl⟩
    intro hb; replace h := cfalse hb h
    exact sK [2, 4] [(2, 2, 0), (4, 4, 0)] ⟨a0.e0, a0.e1, a0.e2, a0.e3, h, rfl⟩
  subst hJ7
  rintro s ⟨i3, i4, i5, i6, h, rfl⟩
  refine Qz hT 2 [4] ⟨[(4, .box 4 0 0 0)], [(4, ⟨0, 23, 4, true, false, [.agg [vi i3, vi i4, vi i5, vi i6]]⟩), (2, ⟨0, 23, 4, true, false, [.agg [vi i3, vi i4, vi i5, vi i6]]⟩)], 1⟩ ?_
  refine aW [4] ⟨[(4, .box 4 0 0 0)], [(4, ⟨0, 23, 4, true, false, [.agg [vi i3, vi i4, vi i5, vi i6]]⟩), (2, ⟨0, 23, 4, true, false, [.agg [vi i3, vi i4, vi i5, vi i6]]⟩)], 1⟩ ?_
  refine WA_weak (Weak_leH [(4, .box 4 0 0 0)] [(4, ⟨0, 23, 4, true, false, [eArr4_i64 (Arr4_i64.mk i3 i4 i5 i6)]⟩), (2, ⟨0, 23, 4, true, false, [.agg [vi i3, vi i4, vi i5, vi i6]]⟩)] (by kernel_rfl) ⟨VLf.refl _, trivial⟩ ⟨rfl, .inr (.inl ⟨rfl, rfl, CLe.agg ⟨VLf.refl _, VLf.refl _, VLf.refl _, VLf.refl _, trivial⟩, trivial⟩), rfl, .inl rfl, trivial⟩) ?_
  obtain rfl := Option.some.inj h
  exact rR [(4, 1000, 0)] ⟨[(4, .box 1000 0 0 0)], [(1000, ⟨0, 23, 4, true, false, [eArr4_i64 (Arr4_i64.mk i3 i4 i5 i6)]⟩)], 1⟩ ⟨by kernel_rfl, rfl⟩

theorem clock_Below_ok {n : Nat} {a0 : Arr4_i64} {a1 : Arr4_i64} {r : Bool} (h : clock_Below n a0 a1 = some r) : PT Try.prog 9 [eArr4_i64 a0, eArr4_i64 a1] (vb r) := by
  unfold clock_Below at h
  refine PT_bodyA hT Try.func9 rfl (by kernel_rfl) fun bad w => ?_
  refine Qz hT 3 [2, 3] ⟨[(2, .box 2 0 0 0), (3, .box 3 1 0 0)], [(3, ⟨1, 23, 4, true, false, [eArr4_i64 a1]⟩), (2, ⟨0, 23, 4, true, false, [eArr4_i64 a0]⟩)], 2⟩ ?_
  refine WA_seq ?_
  refine WA_drawW hT hM (by kernel_rfl) ?_
  refine Ds 2 [(6, eArr4_i64 a1), (5, eArr4_i64 a0)] [] [(0, [2]), (1, [3])] ?_
  obtain ⟨r1, hr1, h⟩ := bsome h
  refine WD_pt' rfl (by kernel_rfl) (by kernel_rfl) [eArr4_i64 a0, eArr4_i64 a1] (eArr4_i64 r1) rfl (by kernel_rfl) en13 (by kernel_rfl) (clock_Join_ok hr1) (by kernel_rfl) ?_
  refine Ds 1 [(8, eArr4_i64 a1)] [] [(3, [3])] ?_
  refine WD_loc' rfl (by kernel_rfl) (by kernel_rfl) (by kernel_rfl) (ev_eqlA [.int .i64 r1.e0 a1.e0, .int .i64 r1.e1 a1.e1, .int .i64 r1.e2 a1.e2, .int .i64 r1.e3 a1.e3] (by kernel_rfl) (by kernel_rfl) (eqlArr [.int .i64 r1.e0 a1.e0, .int .i64 r1.e1 a1.e1, .int .i64 r1.e2 a1.e2, .int .i64 r1.e3 a1.e3] 3 (.int .i64) _ (by kernel_rfl) (by kernel_rfl) (by kernel_rfl) (by kernel_rfl) (by kernel_rfl)) (by kernel_rfl)) (by kernel_rfl) ?_
  refine Dt (vb (andL [r1.e0 == a1.e0, r1.e1 == a1.e1, r1.e2 == a1.e2, r1.e3 == a1.e3])) ?_
  refine Ds 1 [(4, vb (andL [r1.e0 == a1.e0, r1.e1 == a1.e1, r1.e2 == a1.e2, r1.e3 == a1.e3]))] [] [] ?_
  refine WD_end (by kernel_rfl) (by kernel_rfl) (by kernel_rfl) ?_
  refine Wk_done ?_
  obtain rfl := Option.some.inj h
  exact rK [4] [] ⟨[(4, vb (andL [r1.e0 == a1.e0, r1.e1 == a1.e1, r1.e2 == a1.e2, r1.e3 == a1.e3]))], [], 1⟩ ⟨by kernel_rfl, rfl⟩

theorem clock_Apart_ok {n : Nat} {a0 : Arr4_i64} {a1 : Arr4_i64} {r : Bool} (h : clock_Apart n a0 a1 = some r) : PT Try.prog 10 [eArr4_i64 a0, eArr4_i64 a1] (vb r) := by
  unfold clock_Apart at h
  refine PT_bodyA hT Try.func10 rfl (by kernel_rfl) fun bad w => ?_
  refine Qz hT 3 [2, 3] ⟨[(2, .box 2 0 0 0), (3, .box 3 1 0 0)], [(3, ⟨1, 23, 4, true, false, [eArr4_i64 a1]⟩), (2, ⟨0, 23, 4, true, false, [eArr4_i64 a0]⟩)], 2⟩ ?_
  refine WA_seq ?_
  obtain ⟨J2, hJ2, h⟩ := jsome h
  refine WA_join (fun s => ∃ (b1 : Bool), J2 b1 = some r ∧ s = ⟨[(4, vb b1)], [], 1⟩) ?_ ?_
  · refine Rgd hT 2 [2, 3, 5, 6] [(5, eArr4_i64 a0), (6, eArr4_i64 a1)] ?_
    obtain ⟨r3, hr3, h⟩ := bsome h
    refine Pt' en9 (clock_Below_ok hr3) ?_
    refine Sgd hT 2 [2, 3, 9] [(9, vb (!r3))] ?_
    cases hb : (!r3 : Bool)
    · replace h := cfalse hb h
      refine Sgd hT 6 [4] [(4, vb false)] ?_
      exact oK [4] [] ⟨false, h, rfl⟩
    replace h := ctrue hb h
    refine Sg hT 2 [9, 10, 11] ⟨[(9, vb true), (10, eArr4_i64 a1), (11, eArr4_i64 a0)], [(3, ⟨1, 23, 4, true, false, [eArr4_i64 a1]⟩), (2, ⟨0, 23, 4, true, false, [eArr4_i64 a0]⟩)], 2⟩ ?_
    obtain ⟨r4, hr4, h⟩ := bsome h
    refine Pt' en9 (clock_Below_ok hr4) ?_
    refine Sgd hT 3 [4] [(4, vb (!r4))] ?_
    exact oK [4] [] ⟨!r4, h, rfl⟩
  subst hJ2
  rintro s ⟨b1, h, rfl⟩
  obtain rfl := Option.some.inj h
  exact rK [4] [] ⟨[(4, vb b1)], [], 1⟩ ⟨by kernel_rfl, rfl⟩

theorem law18_known_ok {n : Nat} {r : Bool} (h : law18_known n = some r) : PT Try.prog 7 [] (vb r) := by
  unfold law18_known at h
  refine PT_bodyA hT Try.func7 rfl (by kernel_rfl) fun bad w => ?_
  refine Qz hT 1 [] ⟨[], [], 0⟩ ?_
  refine WA_seq ?_
  obtain ⟨J2, hJ2, h⟩ := jsome h
  refine WA_join (fun s => ∃ (b1 : Bool), J2 b1 = some r ∧ s = ⟨[(0, vb b1)], [], 1⟩) ?_ ?_
  · refine Rg hT 2 [1, 2] ⟨[(1, .agg [vi 1, vi 0, vi 0, vi 0]), (2, .agg [vi 0, vi 1, vi 0, vi 0])], [], 0⟩ ?_
    obtain ⟨r3, hr3, h⟩ := bsome h
    refine Pt' (vs := [.agg [vi 1, vi 0, vi 0, vi 0], .agg [vi 0, vi 1, vi 0, vi 0]]) en10 (PT_args ((clock_Apart_ok hr3)) ⟨VLe.agg ⟨VLe.refl _, VLe.refl _, VLe.refl _, VLe.refl _, trivial⟩, VLe.agg ⟨VLe.refl _, VLe.refl _, VLe.refl _, VLe.refl _, trivial⟩, trivial⟩) ?_
    refine Sg hT 1 [4] ⟨[(4, vb r3)], [], 0⟩ ?_
    cases hb : (r3 : Bool)
    · replace h := cfalse hb h
      refine Sg hT 13 [0] ⟨[(0, vb false)], [], 0⟩ ?_
      exact oK [0] [] ⟨false, h, rfl⟩
    replace h := ctrue hb h
    refine Sg hT 1 [4, 5] ⟨[(4, vb true), (5, .agg [vi 0, vi 0, vi 0, vi 0])], [], 0⟩ ?_
    obtain ⟨r4, hr4, h⟩ := bsome h
    refine Pt' (vs := [.agg [vi 0, vi 0, vi 0, vi 0], vi 1]) en8 (PT_args ((clock_Tick_ok hr4)) ⟨VLe.agg ⟨VLe.refl _, VLe.refl _, VLe.refl _, VLe.refl _, trivial⟩, VLe.refl _, trivial⟩) ?_
    refine Sg hT 1 [4, 6, 7] ⟨[(4, vb true), (6, eArr4_i64 r4), (7, .agg [vi 0, vi 1, vi 0, vi 0])], [], 0⟩ ?_
    refine One' hT rfl (ev_eqlA [.int .i64 r4.e0 0, .int .i64 r4.e1 1, .int .i64 r4.e2 0, .int .i64 r4.e3 0] (by kernel_rfl) (by kernel_rfl) (eqlArr [.int .i64 r4.e0 0, .int .i64 r4.e1 1, .int .i64 r4.e2 0, .int .i64 r4.e3 0] 3 (.int .i64) _ (by kernel_rfl) (by kernel_rfl) (by kernel_rfl) (by kernel_rfl) (by kernel_rfl)) (by kernel_rfl)) ?_
    refine Sg hT 2 [10] ⟨[(10, vb (andL [r4.e0 == 0, r4.e1 == 1, r4.e2 == 0, r4.e3 == 0]))], [], 0⟩ ?_
    cases hb : (andL [r4.e0 == 0, r4.e1 == 1, r4.e2 == 0, r4.e3 == 0] : Bool)
    · replace h := cfalse hb h
      refine Sg hT 7 [0] ⟨[(0, vb false)], [], 0⟩ ?_
      exact oK [0] [] ⟨false, h, rfl⟩
    replace h := ctrue hb h
    refine Sg hT 2 [10, 11, 12] ⟨[(10, vb true), (11, .agg [vi 1, vi 0, vi 0, vi 0]), (12, .agg [vi 0, vi 2, vi 0, vi 0])], [], 0⟩ ?_
    obtain ⟨r5, hr5, h⟩ := bsome h
    refine Pt' (vs := [.agg [vi 1, vi 0, vi 0, vi 0], .agg [vi 0, vi 2, vi 0, vi 0]]) en13 (PT_args ((clock_Join_ok hr5)) ⟨VLe.agg ⟨VLe.refl _, VLe.refl _, VLe.refl _, VLe.refl _, trivial⟩, VLe.agg ⟨VLe.refl _, VLe.refl _, VLe.refl _, VLe.refl _, trivial⟩, trivial⟩) ?_
    refine Sg hT 1 [10, 13, 14] ⟨[(10, vb true), (13, eArr4_i64 r5), (14, .agg [vi 1, vi 2, vi 0, vi 0])], [], 0⟩ ?_
    refine One' hT rfl (ev_eqlA [.int .i64 r5.e0 1, .int .i64 r5.e1 2, .int .i64 r5.e2 0, .int .i64 r5.e3 0] (by kernel_rfl) (by kernel_rfl) (eqlArr [.int .i64 r5.e0 1, .int .i64 r5.e1 2, .int .i64 r5.e2 0, .int .i64 r5.e3 0] 3 (.int .i64) _ (by kernel_rfl) (by kernel_rfl) (by kernel_rfl) (by kernel_rfl) (by kernel_rfl)) (by kernel_rfl)) ?_
    refine Sg hT 2 [0] ⟨[(0, vb (andL [r5.e0 == 1, r5.e1 == 2, r5.e2 == 0, r5.e3 == 0]))], [], 0⟩ ?_
    exact oK [0] [] ⟨andL [r5.e0 == 1, r5.e1 == 2, r5.e2 == 0, r5.e3 == 0], h, rfl⟩
  subst hJ2
  rintro s ⟨b1, h, rfl⟩
  obtain rfl := Option.some.inj h
  exact rK [0] [] ⟨[(0, vb b1)], [], 1⟩ ⟨by kernel_rfl, rfl⟩

end Go.Su.Ytacknokheanpbaa
