/-
  The functions of the program compute that.
-/
import Derived.Test.YtacknokheanpbaaCLPa
namespace Go.Su.Ytacknokheanpbaa
open Go.Mx Go.Proofs
set_option maxRecDepth 100000
set_option maxHeartbeats 20000000
set_option linter.unusedVariables false
set_option linter.unusedSimpArgs false

theorem law18_ClockLattice_ok {n : Nat} {a0 : Arr4_i64} {a1 : Arr4_i64} {a2 : Arr4_i64} {a3 : Int} {r : Bool} (h : law18_ClockLattice n a0 a1 a2 a3 = some r) : PT Try.prog 5 [eArr4_i64 a0, eArr4_i64 a1, eArr4_i64 a2, vi a3] (vb r) := by
  unfold law18_ClockLattice at h
  refine PT_bodyA hT Try.func5 rfl (by kernel_rfl) fun bad w => ?_
  refine Qz hT 4 [3, 4, 5, 6] ⟨[(3, vi a3), (4, .box 4 0 0 0), (5, .box 5 1 0 0), (6, .box 6 2 0 0)], [(6, ⟨2, 22, 4, true, false, [eArr4_i64 a2]⟩), (5, ⟨1, 22, 4, true, false, [eArr4_i64 a1]⟩), (4, ⟨0, 22, 4, true, false, [eArr4_i64 a0]⟩)], 3⟩ ?_
  refine Qgd hT 1 [3, 5, 6, 14] [(14, eArr4_i64 a0)] ?_
  obtain ⟨r1, hr1, h⟩ := bsome h
  refine Pt' en11 (law18_of_ok hr1) ?_
  refine Szh hT 2 [3, 5, 6, 9] [(9, .box 9 3 0 0)] [(9, ⟨3, 23, 4, true, false, [eArr4_i64 r1]⟩), (6, ⟨2, 22, 4, true, false, [eArr4_i64 a2]⟩), (5, ⟨1, 22, 4, true, false, [eArr4_i64 a1]⟩), (4, ⟨0, 22, 4, true, false, [eArr4_i64 a0]⟩)] 4 ?_
  refine Qgd hT 1 [3, 6, 9, 16] [(16, eArr4_i64 a1)] ?_
  obtain ⟨r2, hr2, h⟩ := bsome h
  refine Pt' en11 (law18_of_ok hr2) ?_
  refine Szh hT 2 [3, 6, 9, 10] [(10, .box 10 4 0 0)] [(10, ⟨4, 23, 4, true, false, [eArr4_i64 r2]⟩), (9, ⟨3, 23, 4, true, false, [eArr4_i64 r1]⟩), (6, ⟨2, 22, 4, true, false, [eArr4_i64 a2]⟩), (5, ⟨1, 22, 4, true, false, [eArr4_i64 a1]⟩), (4, ⟨0, 22, 4, true, false, [eArr4_i64 a0]⟩)] 5 ?_
  refine Qgd hT 1 [3, 9, 10, 18] [(18, eArr4_i64 a2)] ?_
  obtain ⟨r3, hr3, h⟩ := bsome h
  refine Pt' en11 (law18_of_ok hr3) ?_
  refine Szh hT 2 [3, 9, 10, 11] [(11, .box 11 5 0 0)] [(11, ⟨5, 23, 4, true, false, [eArr4_i64 r3]⟩), (10, ⟨4, 23, 4, true, false, [eArr4_i64 r2]⟩), (9, ⟨3, 23, 4, true, false, [eArr4_i64 r1]⟩), (6, ⟨2, 22, 4, true, false, [eArr4_i64 a2]⟩), (5, ⟨1, 22, 4, true, false, [eArr4_i64 a1]⟩), (4, ⟨0, 22, 4, true, false, [eArr4_i64 a0]⟩)] 6 ?_
  refine Qgd hT 2 [3, 9, 10, 11, 20, 21] [(20, eArr4_i64 r1), (21, eArr4_i64 r2)] ?_
  obtain ⟨r4, hr4, h⟩ := bsome h
  refine Pt' en13 (clock_Join_ok hr4) ?_
  refine Szh hT 2 [3, 9, 10, 11, 12] [(12, .box 12 6 0 0)] [(12, ⟨6, 23, 4, true, false, [eArr4_i64 r4]⟩), (11, ⟨5, 23, 4, true, false, [eArr4_i64 r3]⟩), (10, ⟨4, 23, 4, true, false, [eArr4_i64 r2]⟩), (9, ⟨3, 23, 4, true, false, [eArr4_i64 r1]⟩), (6, ⟨2, 22, 4, true, false, [eArr4_i64 a2]⟩), (5, ⟨1, 22, 4, true, false, [eArr4_i64 a1]⟩), (4, ⟨0, 22, 4, true, false, [eArr4_i64 a0]⟩)] 7 ?_
  refine Qg hT 1 [9, 10, 11, 12, 23] ⟨[(9, .box 9 3 0 0), (10, .box 10 4 0 0), (11, .box 11 5 0 0), (12, .box 12 6 0 0), (23, vi a3)], [(12, ⟨6, 23, 4, true, false, [eArr4_i64 r4]⟩), (11, ⟨5, 23, 4, true, false, [eArr4_i64 r3]⟩), (10, ⟨4, 23, 4, true, false, [eArr4_i64 r2]⟩), (9, ⟨3, 23, 4, true, false, [eArr4_i64 r1]⟩), (6, ⟨2, 22, 4, true, false, [eArr4_i64 a2]⟩), (5, ⟨1, 22, 4, true, false, [eArr4_i64 a1]⟩), (4, ⟨0, 22, 4, true, false, [eArr4_i64 a0]⟩)], 7⟩ ?_
  obtain ⟨r5, hr5, h⟩ := bsome h
  refine Pt' en12 (hand_Pick_ok hr5) ?_
  refine Szd hT 1 [3, 9, 10, 11, 12] [(3, vi r5)] ?_
  refine Qgd hT 2 [9, 10, 11, 12, 25, 26] [(25, eArr4_i64 r1), (26, vi r5)] ?_
  obtain ⟨r6, hr6, h⟩ := bsome h
  refine Pt' en8 (clock_Tick_ok hr6) ?_
  refine Szh hT 2 [9, 10, 11, 12, 13] [(13, .box 13 7 0 0)] [(13, ⟨7, 23, 4, true, false, [eArr4_i64 r6]⟩), (12, ⟨6, 23, 4, true, false, [eArr4_i64 r4]⟩), (11, ⟨5, 23, 4, true, false, [eArr4_i64 r3]⟩), (10, ⟨4, 23, 4, true, false, [eArr4_i64 r2]⟩), (9, ⟨3, 23, 4, true, false, [eArr4_i64 r1]⟩), (6, ⟨2, 22, 4, true, false, [eArr4_i64 a2]⟩), (5, ⟨1, 22, 4, true, false, [eArr4_i64 a1]⟩), (4, ⟨0, 22, 4, true, false, [eArr4_i64 a0]⟩)] 8 ?_
  refine WA_seq ?_
  obtain ⟨J8, hJ8, h⟩ := jsome h
  refine WA_join (fun s => ∃ (b7 : Bool), J8 b7 = some r ∧ s = ⟨[(8, vb b7)], [], 1⟩) ?_ ?_
  · refine WA_drawW hT hM (by kernel_rfl) ?_
    obtain ⟨r9, hr9, h⟩ := bsome h
    refine WD_pt' rfl (by kernel_rfl) (by kernel_rfl) [] (vb r9) rfl (by kernel_rfl) en7 (by kernel_rfl) (law18_known_ok hr9) (by kernel_rfl) ?_
    refine Ds 1 [(29, vb r9)] [] [] ?_
    cases hb : (r9 : Bool)
    · replace h := cfalse hb h
      refine Ds 102 [(8, vb false), (130, vb false), (129, .p Go.undef), (128, .p Go.undef), (127, .p Go.undef), (126, .p Go.undef), (125, .p Go.undef), (124, .p Go.undef), (123, .p Go.undef), (122, vb false), (121, vb false), (120, .p Go.undef), (119, .p Go.undef), (118, .p Go.undef), (117, .p Go.undef), (116, .p Go.undef), (115, .p Go.undef), (114, .p Go.undef), (113, vb false), (112, vb false), (111, .p Go.undef), (110, .p Go.undef), (109, .p Go.undef), (108, .p Go.undef), (107, vb false), (106, vb false), (105, .p Go.undef), (104, .p Go.undef), (103, .p Go.undef), (102, vb false), (101, vb false), (100, .p Go.undef), (99, .p Go.undef), (98, .p Go.undef), (97, .p Go.undef), (96, .p Go.undef), (95, vb false), (94, vb false), (93, .p Go.undef), (92, .p Go.undef), (91, .p Go.undef), (90, .p Go.undef), (89, .p Go.undef), (88, .p Go.undef), (87, .p Go.undef), (86, .p Go.undef), (85, .p Go.undef), (84, .p Go.undef), (83, .p Go.undef), (82, .p Go.undef), (81, .p Go.undef), (80, .p Go.undef), (79, .p Go.undef), (78, vb false), (77, vb false), (76, .p Go.undef), (75, .p Go.undef), (74, .p Go.undef), (73, vb false), (72, vb false), (71, .p Go.undef), (70, .p Go.undef), (69, .p Go.undef), (68, vb false), (67, vb false), (66, .p Go.undef), (65, .p Go.undef), (64, .p Go.undef), (63, .p Go.undef), (62, .p Go.undef), (61, .p Go.undef), (60, .p Go.undef), (59, .p Go.undef), (58, .p Go.undef), (57, .p Go.undef), (56, .p Go.undef), (55, .p Go.undef), (54, .p Go.undef), (53, .p Go.undef), (52, .p Go.undef), (51, vb false), (50, vb false), (49, .p Go.undef), (48, .p Go.undef), (47, .p Go.undef), (46, .p Go.undef), (45, .p Go.undef), (44, .p Go.undef), (43, .p Go.undef), (42, .p Go.undef), (41, .p Go.undef), (40, .p Go.undef), (39, .p Go.undef), (38, .p Go.undef), (37, .p Go.undef), (36, .p Go.undef), (35, .p Go.undef), (34, vb false), (33, vb false), (32, .p Go.undef), (31, .p Go.undef), (30, .p Go.undef)] [] [] ?_
      refine WD_end (by kernel_rfl) (by kernel_rfl) (by kernel_rfl) ?_
      exact wK [8] [] ⟨false, h, rfl⟩
    replace h := ctrue hb h
    refine Ds 2 [(31, eArr4_i64 r1), (30, eArr4_i64 r1)] [] [(2, [9]), (3, [9])] ?_
    obtain ⟨r10, hr10, h⟩ := bsome h
    refine WD_pt' rfl (by kernel_rfl) (by kernel_rfl) [eArr4_i64 r1, eArr4_i64 r1] (vb r10) rfl (by kernel_rfl) en9 (by kernel_rfl) (clock_Below_ok hr10) (by kernel_rfl) ?_
    refine Ds 2 [(34, vb r10), (33, vb r10)] [] [] ?_
    cases hb : (r10 : Bool)
    · replace h := cfalse hb h
      refine Ds 97 [(8, vb false), (130, vb false), (129, .p Go.undef), (128, .p Go.undef), (127, .p Go.undef), (126, .p Go.undef), (125, .p Go.undef), (124, .p Go.undef), (123, .p Go.undef), (122, vb false), (121, vb false), (120, .p Go.undef), (119, .p Go.undef), (118, .p Go.undef), (117, .p Go.undef), (116, .p Go.undef), (115, .p Go.undef), (114, .p Go.undef), (113, vb false), (112, vb false), (111, .p Go.undef), (110, .p Go.undef), (109, .p Go.undef), (108, .p Go.undef), (107, vb false), (106, vb false), (105, .p Go.undef), (104, .p Go.undef), (103, .p Go.undef), (102, vb false), (101, vb false), (100, .p Go.undef), (99, .p Go.undef), (98, .p Go.undef), (97, .p Go.undef), (96, .p Go.undef), (95, vb false), (94, vb false), (93, .p Go.undef), (92, .p Go.undef), (91, .p Go.undef), (90, .p Go.undef), (89, .p Go.undef), (88, .p Go.undef), (87, .p Go.undef), (86, .p Go.undef), (85, .p Go.undef), (84, .p Go.undef), (83, .p Go.undef), (82, .p Go.undef), (81, .p Go.undef), (80, .p Go.undef), (79, .p Go.undef), (78, vb false), (77, vb false), (76, .p Go.undef), (75, .p Go.undef), (74, .p Go.undef), (73, vb false), (72, vb false), (71, .p Go.undef), (70, .p Go.undef), (69, .p Go.undef), (68, vb false), (67, vb false), (66, .p Go.undef), (65, .p Go.undef), (64, .p Go.undef), (63, .p Go.undef), (62, .p Go.undef), (61, .p Go.undef), (60, .p Go.undef), (59, .p Go.undef), (58, .p Go.undef), (57, .p Go.undef), (56, .p Go.undef), (55, .p Go.undef), (54, .p Go.undef), (53, .p Go.undef), (52, .p Go.undef), (51, vb false), (50, vb false), (49, .p Go.undef), (48, .p Go.undef), (47, .p Go.undef), (46, .p Go.undef), (45, .p Go.undef), (44, .p Go.undef), (43, .p Go.undef), (42, .p Go.undef), (41, .p Go.undef), (40, .p Go.undef), (39, .p Go.undef), (38, .p Go.undef), (37, .p Go.undef), (36, .p Go.undef), (35, .p Go.undef)] [] [] ?_
      refine WD_end (by kernel_rfl) (by kernel_rfl) (by kernel_rfl) ?_
      exact wK [8] [] ⟨false, h, rfl⟩
    replace h := ctrue hb h
    refine Ds 2 [(36, eArr4_i64 r2), (35, eArr4_i64 r1)] [] [(7, [9]), (8, [10])] ?_
    obtain ⟨r11, hr11, h⟩ := bsome h
    refine WD_pt' rfl (by kernel_rfl) (by kernel_rfl) [eArr4_i64 r1, eArr4_i64 r2] (vb r11) rfl (by kernel_rfl) en9 (by kernel_rfl) (clock_Below_ok hr11) (by kernel_rfl) ?_
    refine Ds 2 [(39, vb (!r11)), (38, vb (!r11))] [] [] ?_
    cases hb : (!r11 : Bool)
    · replace h := cfalse hb h
      refine Ds 2 [(41, eArr4_i64 r1), (40, eArr4_i64 r2)] [] [(12, [10]), (13, [9])] ?_
      obtain ⟨r12, hr12, h⟩ := bsome h
      refine WD_pt' rfl (by kernel_rfl) (by kernel_rfl) [eArr4_i64 r2, eArr4_i64 r1] (vb r12) rfl (by kernel_rfl) en9 (by kernel_rfl) (clock_Below_ok hr12) (by kernel_rfl) ?_
      refine Ds 3 [(45, vb (!r12)), (44, vb (!r12)), (43, vb (!r12))] [] [] ?_
      cases hb : (!r12 : Bool)
      · replace h := cfalse hb h
        refine Ds 2 [(47, eArr4_i64 r2), (46, eArr4_i64 r1)] [] [(18, [9]), (19, [10])] ?_
        refine WD_loc' rfl (by kernel_rfl) (by kernel_rfl) (by kernel_rfl) (ev_eqlA [.int .i64 r1.e0 r2.e0, .int .i64 r1.e1 r2.e1, .int .i64 r1.e2 r2.e2, .int .i64 r1.e3 r2.e3] (by kernel_rfl) (by kernel_rfl) (eqlArr [.int .i64 r1.e0 r2.e0, .int .i64 r1.e1 r2.e1, .int .i64 r1.e2 r2.e2, .int .i64 r1.e3 r2.e3] 3 (.int .i64) _ (by kernel_rfl) (by kernel_rfl) (by kernel_rfl) (by kernel_rfl) (by kernel_rfl)) (by kernel_rfl)) (by kernel_rfl) ?_
        refine Dt (vb (andL [r1.e0 == r2.e0, r1.e1 == r2.e1, r1.e2 == r2.e2, r1.e3 == r2.e3])) ?_
        refine Ds 3 [(51, vb (andL [r1.e0 == r2.e0, r1.e1 == r2.e1, r1.e2 == r2.e2, r1.e3 == r2.e3])), (50, vb (andL [r1.e0 == r2.e0, r1.e1 == r2.e1, r1.e2 == r2.e2, r1.e3 == r2.e3])), (49, vb (andL [r1.e0 == r2.e0, r1.e1 == r2.e1, r1.e2 == r2.e2, r1.e3 == r2.e3]))] [] [] ?_
        cases hb : (andL [r1.e0 == r2.e0, r1.e1 == r2.e1, r1.e2 == r2.e2, r1.e3 == r2.e3] : Bool)
        · replace h := cfalse hb h
          refine Ds 80 [(8, vb false), (130, vb false), (129, .p Go.undef), (128, .p Go.undef), (127, .p Go.undef), (126, .p Go.undef), (125, .p Go.undef), (124, .p Go.undef), (123, .p Go.undef), (122, vb false), (121, vb false), (120, .p Go.undef), (119, .p Go.undef), (118, .p Go.undef), (117, .p Go.undef), (116, .p Go.undef), (115, .p Go.undef), (114, .p Go.undef), (113, vb false), (112, vb false), (111, .p Go.undef), (110, .p Go.undef), (109, .p Go.undef), (108, .p Go.undef), (107, vb false), (106, vb false), (105, .p Go.undef), (104, .p Go.undef), (103, .p Go.undef), (102, vb false), (101, vb false), (100, .p Go.undef), (99, .p Go.undef), (98, .p Go.undef), (97, .p Go.undef), (96, .p Go.undef), (95, vb false), (94, vb false), (93, .p Go.undef), (92, .p Go.undef), (91, .p Go.undef), (90, .p Go.undef), (89, .p Go.undef), (88, .p Go.undef), (87, .p Go.undef), (86, .p Go.undef), (85, .p Go.undef), (84, .p Go.undef), (83, .p Go.undef), (82, .p Go.undef), (81, .p Go.undef), (80, .p Go.undef), (79, .p Go.undef), (78, vb false), (77, vb false), (76, .p Go.undef), (75, .p Go.undef), (74, .p Go.undef), (73, vb false), (72, vb false), (71, .p Go.undef), (70, .p Go.undef), (69, .p Go.undef), (68, vb false), (67, vb false), (66, .p Go.undef), (65, .p Go.undef), (64, .p Go.undef), (63, .p Go.undef), (62, .p Go.undef), (61, .p Go.undef), (60, .p Go.undef), (59, .p Go.undef), (58, .p Go.undef), (57, .p Go.undef), (56, .p Go.undef), (55, .p Go.undef), (54, .p Go.undef), (53, .p Go.undef), (52, .p Go.undef)] [] [] ?_
          refine WD_end (by kernel_rfl) (by kernel_rfl) (by kernel_rfl) ?_
          exact wK [8] [] ⟨false, h, rfl⟩
        replace h := ctrue hb h
        refine Ds 2 [(53, eArr4_i64 r2), (52, eArr4_i64 r1)] [] [(24, [9]), (25, [10])] ?_
        obtain ⟨r13, hr13, h⟩ := bsome h
        refine WD_pt' rfl (by kernel_rfl) (by kernel_rfl) [eArr4_i64 r1, eArr4_i64 r2] (vb r13) rfl (by kernel_rfl) en9 (by kernel_rfl) (clock_Below_ok hr13) (by kernel_rfl) ?_
        refine Ds 2 [(56, vb (!r13)), (55, vb (!r13))] [] [] ?_
        cases hb : (!r13 : Bool)
        · replace h := cfalse hb h
          refine Ds 2 [(58, eArr4_i64 r3), (57, eArr4_i64 r2)] [] [(29, [10]), (30, [11])] ?_
          obtain ⟨r14, hr14, h⟩ := bsome h
          refine WD_pt' rfl (by kernel_rfl) (by kernel_rfl) [eArr4_i64 r2, eArr4_i64 r3] (vb r14) rfl (by kernel_rfl) en9 (by kernel_rfl) (clock_Below_ok hr14) (by kernel_rfl) ?_
          refine Ds 3 [(62, vb (!r14)), (61, vb (!r14)), (60, vb (!r14))] [] [] ?_
          cases hb : (!r14 : Bool)
          · replace h := cfalse hb h
            refine Ds 2 [(64, eArr4_i64 r3), (63, eArr4_i64 r1)] [] [(35, [9]), (36, [11])] ?_
            obtain ⟨r15, hr15, h⟩ := bsome h
            refine WD_pt' rfl (by kernel_rfl) (by kernel_rfl) [eArr4_i64 r1, eArr4_i64 r3] (vb r15) rfl (by kernel_rfl) en9 (by kernel_rfl) (clock_Below_ok hr15) (by kernel_rfl) ?_
            refine Ds 3 [(68, vb r15), (67, vb r15), (66, vb r15)] [] [] ?_
            cases hb : (r15 : Bool)
            · replace h := cfalse hb h
              refine Ds 63 [(8, vb false), (130, vb false), (129, .p Go.undef), (128, .p Go.undef), (127, .p Go.undef), (126, .p Go.undef), (125, .p Go.undef), (124, .p Go.undef), (123, .p Go.undef), (122, vb false), (121, vb false), (120, .p Go.undef), (119, .p Go.undef), (118, .p Go.undef), (117, .p Go.undef), (116, .p Go.undef), (115, .p Go.undef), (114, .p Go.undef), (113, vb false), (112, vb false), (111, .p Go.undef), (110, .p Go.undef), (109, .p Go.undef), (108, .p Go.undef), (107, vb false), (106, vb false), (105, .p Go.undef), (104, .p Go.undef), (103, .p Go.undef), (102, vb false), (101, vb false), (100, .p Go.undef), (99, .p Go.undef), (98, .p Go.undef), (97, .p Go.undef), (96, .p Go.undef), (95, vb false), (94, vb false), (93, .p Go.undef), (92, .p Go.undef), (91, .p Go.undef), (90, .p Go.undef), (89, .p Go.undef), (88, .p Go.undef), (87, .p Go.undef), (86, .p Go.undef), (85, .p Go.undef), (84, .p Go.undef), (83, .p Go.undef), (82, .p Go.undef), (81, .p Go.undef), (80, .p Go.undef), (79, .p Go.undef), (78, vb false), (77, vb false), (76, .p Go.undef), (75, .p Go.undef), (74, .p Go.undef), (73, vb false), (72, vb false), (71, .p Go.undef), (70, .p Go.undef), (69, .p Go.undef)] [] [] ?_
              refine WD_end (by kernel_rfl) (by kernel_rfl) (by kernel_rfl) ?_
              exact wK [8] [] ⟨false, h, rfl⟩
            replace h := ctrue hb h
            refine Ds 2 [(70, eArr4_i64 r4), (69, eArr4_i64 r1)] [] [(41, [9]), (42, [12])] ?_
            obtain ⟨r16, hr16, h⟩ := bsome h
            refine WD_pt' rfl (by kernel_rfl) (by kernel_rfl) [eArr4_i64 r1, eArr4_i64 r4] (vb r16) rfl (by kernel_rfl) en9 (by kernel_rfl) (clock_Below_ok hr16) (by kernel_rfl) ?_
            refine Ds 2 [(73, vb r16), (72, vb r16)] [] [] ?_
            cases hb : (r16 : Bool)
            · replace h := cfalse hb h
              refine Ds 58 [(8, vb false), (130, vb false), (129, .p Go.undef), (128, .p Go.undef), (127, .p Go.undef), (126, .p Go.undef), (125, .p Go.undef), (124, .p Go.undef), (123, .p Go.undef), (122, vb false), (121, vb false), (120, .p Go.undef), (119, .p Go.undef), (118, .p Go.undef), (117, .p Go.undef), (116, .p Go.undef), (115, .p Go.undef), (114, .p Go.undef), (113, vb false), (112, vb false), (111, .p Go.undef), (110, .p Go.undef), (109, .p Go.undef), (108, .p Go.undef), (107, vb false), (106, vb false), (105, .p Go.undef), (104, .p Go.undef), (103, .p Go.undef), (102, vb false), (101, vb false), (100, .p Go.undef), (99, .p Go.undef), (98, .p Go.undef), (97, .p Go.undef), (96, .p Go.undef), (95, vb false), (94, vb false), (93, .p Go.undef), (92, .p Go.undef), (91, .p Go.undef), (90, .p Go.undef), (89, .p Go.undef), (88, .p Go.undef), (87, .p Go.undef), (86, .p Go.undef), (85, .p Go.undef), (84, .p Go.undef), (83, .p Go.undef), (82, .p Go.undef), (81, .p Go.undef), (80, .p Go.undef), (79, .p Go.undef), (78, vb false), (77, vb false), (76, .p Go.undef), (75, .p Go.undef), (74, .p Go.undef)] [] [] ?_
              refine WD_end (by kernel_rfl) (by kernel_rfl) (by kernel_rfl) ?_
              exact wK [8] [] ⟨false, h, rfl⟩
            replace h := ctrue hb h
            refine Ds 2 [(75, eArr4_i64 r4), (74, eArr4_i64 r2)] [] [(46, [10]), (47, [12])] ?_
            obtain ⟨r17, hr17, h⟩ := bsome h
            refine WD_pt' rfl (by kernel_rfl) (by kernel_rfl) [eArr4_i64 r2, eArr4_i64 r4] (vb r17) rfl (by kernel_rfl) en9 (by kernel_rfl) (clock_Below_ok hr17) (by kernel_rfl) ?_
            refine Ds 2 [(78, vb r17), (77, vb r17)] [] [] ?_
            cases hb : (r17 : Bool)
            · replace h := cfalse hb h
              refine Ds 53 [(8, vb false), (130, vb false), (129, .p Go.undef), (128, .p Go.undef), (127, .p Go.undef), (126, .p Go.undef), (125, .p Go.undef), (124, .p Go.undef), (123, .p Go.undef), (122, vb false), (121, vb false), (120, .p Go.undef), (119, .p Go.undef), (118, .p Go.undef), (117, .p Go.undef), (116, .p Go.undef), (115, .p Go.undef), (114, .p Go.undef), (113, vb false), (112, vb false), (111, .p Go.undef), (110, .p Go.undef), (109, .p Go.undef), (108, .p Go.undef), (107, vb false), (106, vb false), (105, .p Go.undef), (104, .p Go.undef), (103, .p Go.undef), (102, vb false), (101, vb false), (100, .p Go.undef), (99, .p Go.undef), (98, .p Go.undef), (97, .p Go.undef), (96, .p Go.undef), (95, vb false), (94, vb false), (93, .p Go.undef), (92, .p Go.undef), (91, .p Go.undef), (90, .p Go.undef), (89, .p Go.undef), (88, .p Go.undef), (87, .p Go.undef), (86, .p Go.undef), (85, .p Go.undef), (84, .p Go.undef), (83, .p Go.undef), (82, .p Go.undef), (81, .p Go.undef), (80, .p Go.undef), (79, .p Go.undef)] [] [] ?_
              refine WD_end (by kernel_rfl) (by kernel_rfl) (by kernel_rfl) ?_
              exact wK [8] [] ⟨false, h, rfl⟩
            replace h := ctrue hb h
            refine Ds 2 [(80, eArr4_i64 r3), (79, eArr4_i64 r1)] [] [(51, [9]), (52, [11])] ?_
            obtain ⟨r18, hr18, h⟩ := bsome h
            refine WD_pt' rfl (by kernel_rfl) (by kernel_rfl) [eArr4_i64 r1, eArr4_i64 r3] (vb r18) rfl (by kernel_rfl) en9 (by kernel_rfl) (clock_Below_ok hr18) (by kernel_rfl) ?_
            refine Ds 2 [(83, vb (!r18)), (82, vb (!r18))] [] [] ?_
            cases hb : (!r18 : Bool)
            · replace h := cfalse hb h
              refine Ds 2 [(85, eArr4_i64 r3), (84, eArr4_i64 r2)] [] [(56, [10]), (57, [11])] ?_
              obtain ⟨r19, hr19, h⟩ := bsome h
              refine WD_pt' rfl (by kernel_rfl) (by kernel_rfl) [eArr4_i64 r2, eArr4_i64 r3] (vb r19) rfl (by kernel_rfl) en9 (by kernel_rfl) (clock_Below_ok hr19) (by kernel_rfl) ?_
              refine Ds 3 [(89, vb (!r19)), (88, vb (!r19)), (87, vb (!r19))] [] [] ?_
              cases hb : (!r19 : Bool)
              · replace h := cfalse hb h
                refine Ds 2 [(91, eArr4_i64 r3), (90, eArr4_i64 r4)] [] [(62, [12]), (63, [11])] ?_
                obtain ⟨r20, hr20, h⟩ := bsome h
                refine WD_pt' rfl (by kernel_rfl) (by kernel_rfl) [eArr4_i64 r4, eArr4_i64 r3] (vb r20) rfl (by kernel_rfl) en9 (by kernel_rfl) (clock_Below_ok hr20) (by kernel_rfl) ?_
                refine Ds 3 [(95, vb r20), (94, vb r20), (93, vb r20)] [] [] ?_
                cases hb : (r20 : Bool)
                · replace h := cfalse hb h
                  refine Ds 36 [(8, vb false), (130, vb false), (129, .p Go.undef), (128, .p Go.undef), (127, .p Go.undef), (126, .p Go.undef), (125, .p Go.undef), (124, .p Go.undef), (123, .p Go.undef), (122, vb false), (121, vb false), (120, .p Go.undef), (119, .p Go.undef), (118, .p Go.undef), (117, .p Go.undef), (116, .p Go.undef), (115, .p Go.undef), (114, .p Go.undef), (113, vb false), (112, vb false), (111, .p Go.undef), (110, .p Go.undef), (109, .p Go.undef), (108, .p Go.undef), (107, vb false), (106, vb false), (105, .p Go.undef), (104, .p Go.undef), (103, .p Go.undef), (102, vb false), (101, vb false), (100, .p Go.undef), (99, .p Go.undef), (98, .p Go.undef), (97, .p Go.undef), (96, .p Go.undef)] [] [] ?_
                  refine WD_end (by kernel_rfl) (by kernel_rfl) (by kernel_rfl) ?_
                  exact wK [8] [] ⟨false, h, rfl⟩
                replace h := ctrue hb h
                refine Ds 3 [(98, eArr4_i64 r1), (97, eArr4_i64 r2), (96, eArr4_i64 r4)] [] [(68, [12]), (69, [10]), (70, [9])] ?_
                obtain ⟨r21, hr21, h⟩ := bsome h
                refine WD_pt' rfl (by kernel_rfl) (by kernel_rfl) [eArr4_i64 r2, eArr4_i64 r1] (eArr4_i64 r21) rfl (by kernel_rfl) en13 (by kernel_rfl) (clock_Join_ok hr21) (by kernel_rfl) ?_
                refine WD_loc' rfl (by kernel_rfl) (by kernel_rfl) (by kernel_rfl) (ev_eqlA [.int .i64 r4.e0 r21.e0, .int .i64 r4.e1 r21.e1, .int .i64 r4.e2 r21.e2, .int .i64 r4.e3 r21.e3] (by kernel_rfl) (by kernel_rfl) (eqlArr [.int .i64 r4.e0 r21.e0, .int .i64 r4.e1 r21.e1, .int .i64 r4.e2 r21.e2, .int .i64 r4.e3 r21.e3] 3 (.int .i64) _ (by kernel_rfl) (by kernel_rfl) (by kernel_rfl) (by kernel_rfl) (by kernel_rfl)) (by kernel_rfl)) (by kernel_rfl) ?_
                refine Dt (vb (andL [r4.e0 == r21.e0, r4.e1 == r21.e1, r4.e2 == r21.e2, r4.e3 == r21.e3])) ?_
                refine Ds 2 [(102, vb (andL [r4.e0 == r21.e0, r4.e1 == r21.e1, r4.e2 == r21.e2, r4.e3 == r21.e3])), (101, vb (andL [r4.e0 == r21.e0, r4.e1 == r21.e1, r4.e2 == r21.e2, r4.e3 == r21.e3]))] [] [] ?_
                cases hb : (andL [r4.e0 == r21.e0, r4.e1 == r21.e1, r4.e2 == r21.e2, r4.e3 == r21.e3] : Bool)
                · replace h := cfalse hb h
                  refine Ds 29 [(8, vb false), (130, vb false), (129, .p Go.undef), (128, .p Go.undef), (127, .p Go.undef), (126, .p Go.undef), (125, .p Go.undef), (124, .p Go.undef), (123, .p Go.undef), (122, vb false), (121, vb false), (120, .p Go.undef), (119, .p Go.undef), (118, .p Go.undef), (117, .p Go.undef), (116, .p Go.undef), (115, .p Go.undef), (114, .p Go.undef), (113, vb false), (112, vb false), (111, .p Go.undef), (110, .p Go.undef), (109, .p Go.undef), (108, .p Go.undef), (107, vb false), (106, vb false), (105, .p Go.undef), (104, .p Go.undef), (103, .p Go.undef)] [] [] ?_
                  refine WD_end (by kernel_rfl) (by kernel_rfl) (by kernel_rfl) ?_
                  exact wK [8] [] ⟨false, h, rfl⟩
                replace h := ctrue hb h
                refine Ds 2 [(104, eArr4_i64 r6), (103, eArr4_i64 r1)] [] [(75, [9]), (76, [13])] ?_
                obtain ⟨r22, hr22, h⟩ := bsome h
                refine WD_pt' rfl (by kernel_rfl) (by kernel_rfl) [eArr4_i64 r1, eArr4_i64 r6] (vb r22) rfl (by kernel_rfl) en9 (by kernel_rfl) (clock_Below_ok hr22) (by kernel_rfl) ?_
                refine Ds 2 [(107, vb r22), (106, vb r22)] [] [] ?_
                cases hb : (r22 : Bool)
                · replace h := cfalse hb h
                  refine Ds 24 [(8, vb false), (130, vb false), (129, .p Go.undef), (128, .p Go.undef), (127, .p Go.undef), (126, .p Go.undef), (125, .p Go.undef), (124, .p Go.undef), (123, .p Go.undef), (122, vb false), (121, vb false), (120, .p Go.undef), (119, .p Go.undef), (118, .p Go.undef), (117, .p Go.undef), (116, .p Go.undef), (115, .p Go.undef), (114, .p Go.undef), (113, vb false), (112, vb false), (111, .p Go.undef), (110, .p Go.undef), (109, .p Go.undef), (108, .p Go.undef)] [] [] ?_
                  refine WD_end (by kernel_rfl) (by kernel_rfl) (by kernel_rfl) ?_
                  exact wK [8] [] ⟨false, h, rfl⟩
                replace h := ctrue hb h
                refine Ds 2 [(109, eArr4_i64 r1), (108, eArr4_i64 r6)] [] [(80, [13]), (81, [9])] ?_
                obtain ⟨r23, hr23, h⟩ := bsome h
                refine WD_pt' rfl (by kernel_rfl) (by kernel_rfl) [eArr4_i64 r6, eArr4_i64 r1] (vb r23) rfl (by kernel_rfl) en9 (by kernel_rfl) (clock_Below_ok hr23) (by kernel_rfl) ?_
                refine Ds 3 [(113, vb (!r23)), (112, vb (!r23)), (111, vb (!r23))] [] [] ?_
                cases hb : (!r23 : Bool)
                · replace h := cfalse hb h
                  refine Ds 18 [(8, vb false), (130, vb false), (129, .p Go.undef), (128, .p Go.undef), (127, .p Go.undef), (126, .p Go.undef), (125, .p Go.undef), (124, .p Go.undef), (123, .p Go.undef), (122, vb false), (121, vb false), (120, .p Go.undef), (119, .p Go.undef), (118, .p Go.undef), (117, .p Go.undef), (116, .p Go.undef), (115, .p Go.undef), (114, .p Go.undef)] [] [] ?_
                  refine WD_end (by kernel_rfl) (by kernel_rfl) (by kernel_rfl) ?_
                  exact wK [8] [] ⟨false, h, rfl⟩
                replace h := ctrue hb h
                refine Ds 2 [(115, eArr4_i64 r2), (114, eArr4_i64 r1)] [] [(86, [9]), (87, [10])] ?_
                obtain ⟨r24, hr24, h⟩ := bsome h
                refine WD_pt' rfl (by kernel_rfl) (by kernel_rfl) [eArr4_i64 r1, eArr4_i64 r2] (vb r24) rfl (by kernel_rfl) en10 (by kernel_rfl) (clock_Apart_ok hr24) (by kernel_rfl) ?_
                refine Ds 2 [(118, eArr4_i64 r1), (117, eArr4_i64 r2)] [] [(89, [10]), (90, [9])] ?_
                obtain ⟨r25, hr25, h⟩ := bsome h
                refine WD_pt' rfl (by kernel_rfl) (by kernel_rfl) [eArr4_i64 r2, eArr4_i64 r1] (vb r25) rfl (by kernel_rfl) en10 (by kernel_rfl) (clock_Apart_ok hr25) (by kernel_rfl) ?_
                refine Ds 3 [(122, vb (r24 == r25)), (121, vb (r24 == r25)), (120, vb (r24 == r25))] [] [] ?_
                cases hb : ((r24 == r25) : Bool)
                · replace h := cfalse hb h
                  refine Ds 9 [(8, vb false), (130, vb false), (129, .p Go.undef), (128, .p Go.undef), (127, .p Go.undef), (126, .p Go.undef), (125, .p Go.undef), (124, .p Go.undef), (123, .p Go.undef)] [] [] ?_
                  refine WD_end (by kernel_rfl) (by kernel_rfl) (by kernel_rfl) ?_
                  exact wK [8] [] ⟨false, h, rfl⟩
                replace h := ctrue hb h
                refine Ds 2 [(124, eArr4_i64 r2), (123, eArr4_i64 r1)] [] [(95, [9]), (96, [10])] ?_
                obtain ⟨r26, hr26, h⟩ := bsome h
                refine WD_pt' rfl (by kernel_rfl) (by kernel_rfl) [eArr4_i64 r1, eArr4_i64 r2] (vb r26) rfl (by kernel_rfl) en9 (by kernel_rfl) (clock_Below_ok hr26) (by kernel_rfl) ?_
                refine Ds 2 [(127, eArr4_i64 r2), (126, eArr4_i64 r4)] [] [(98, [12]), (99, [10])] ?_
                refine WD_loc' rfl (by kernel_rfl) (by kernel_rfl) (by kernel_rfl) (ev_eqlA [.int .i64 r4.e0 r2.e0, .int .i64 r4.e1 r2.e1, .int .i64 r4.e2 r2.e2, .int .i64 r4.e3 r2.e3] (by kernel_rfl) (by kernel_rfl) (eqlArr [.int .i64 r4.e0 r2.e0, .int .i64 r4.e1 r2.e1, .int .i64 r4.e2 r2.e2, .int .i64 r4.e3 r2.e3] 3 (.int .i64) _ (by kernel_rfl) (by kernel_rfl) (by kernel_rfl) (by kernel_rfl) (by kernel_rfl)) (by kernel_rfl)) (by kernel_rfl) ?_
                refine Dt (vb (andL [r4.e0 == r2.e0, r4.e1 == r2.e1, r4.e2 == r2.e2, r4.e3 == r2.e3])) ?_
                refine Ds 3 [(8, vb (r26 == (andL [r4.e0 == r2.e0, r4.e1 == r2.e1, r4.e2 == r2.e2, r4.e3 == r2.e3]))), (130, vb (r26 == (andL [r4.e0 == r2.e0, r4.e1 == r2.e1, r4.e2 == r2.e2, r4.e3 == r2.e3]))), (129, vb (r26 == (andL [r4.e0 == r2.e0, r4.e1 == r2.e1, r4.e2 == r2.e2, r4.e3 == r2.e3])))] [] [] ?_
                refine WD_end (by kernel_rfl) (by kernel_rfl) (by kernel_rfl) ?_
                exact wK [8] [] ⟨(r26 == (andL [r4.e0 == r2.e0, r4.e1 == r2.e1, r4.e2 == r2.e2, r4.e3 == r2.e3])), h, rfl⟩
              replace h := ctrue hb h
              refine Ds 9 [(98, eArr4_i64 r1), (97, eArr4_i64 r2), (96, eArr4_i64 r4), (95, vb true), (94, vb true), (93, vb true), (92, .p Go.undef), (91, .p Go.undef), (90, .p Go.undef)] [] [(68, [12]), (69, [10]), (70, [9])] ?_
              obtain ⟨r27, hr27, h⟩ := bsome h
              refine WD_pt' rfl (by kernel_rfl) (by kernel_rfl) [eArr4_i64 r2, eArr4_i64 r1] (eArr4_i64 r27) rfl (by kernel_rfl) en13 (by kernel_rfl) (clock_Join_ok hr27) (by kernel_rfl) ?_
              refine WD_loc' rfl (by kernel_rfl) (by kernel_rfl) (by kernel_rfl) (ev_eqlA [.int .i64 r4.e0 r27.e0, .int .i64 r4.e1 r27.e1, .int .i64 r4.e2 r27.e2, .int .i64 r4.e3 r27.e3] (by kernel_rfl) (by kernel_rfl) (eqlArr [.int .i64 r4.e0 r27.e0, .int .i64 r4.e1 r27.e1, .int .i64 r4.e2 r27.e2, .int .i64 r4.e3 r27.e3] 3 (.int .i64) _ (by kernel_rfl) (by kernel_rfl) (by kernel_rfl) (by kernel_rfl) (by kernel_rfl)) (by kernel_rfl)) (by kernel_rfl) ?_
              refine Dt (vb (andL [r4.e0 == r27.e0, r4.e1 == r27.e1, r4.e2 == r27.e2, r4.e3 == r27.e3])) ?_
              refine Ds 2 [(102, vb (andL [r4.e0 == r27.e0, r4.e1 == r27.e1, r4.e2 == r27.e2, r4.e3 == r27.e3])), (101, vb (andL [r4.e0 == r27.e0, r4.e1 == r27.e1, r4.e2 == r27.e2, r4.e3 == r27.e3]))] [] [] ?_
              cases hb : (andL [r4.e0 == r27.e0, r4.e1 == r27.e1, r4.e2 == r27.e2, r4.e3 == r27.e3] : Bool)
              · replace h := cfalse hb h
                refine Ds 29 [(8, vb false), (130, vb false), (129, .p Go.undef), (128, .p Go.undef), (127, .p Go.undef), (126, .p Go.undef), (125, .p Go.undef), (124, .p Go.undef), (123, .p Go.undef), (122, vb false), (121, vb false), (120, .p Go.undef), (119, .p Go.undef), (118, .p Go.undef), (117, .p Go.undef), (116, .p Go.undef), (115, .p Go.undef), (114, .p Go.undef), (113, vb false), (112, vb false), (111, .p Go.undef), (110, .p Go.undef), (109, .p Go.undef), (108, .p Go.undef), (107, vb false), (106, vb false), (105, .p Go.undef), (104, .p Go.undef), (103, .p Go.undef)] [] [] ?_
                refine WD_end (by kernel_rfl) (by kernel_rfl) (by kernel_rfl) ?_
                exact wK [8] [] ⟨false, h, rfl⟩
              replace h := ctrue hb h
              refine Ds 2 [(104, eArr4_i64 r6), (103, eArr4_i64 r1)] [] [(75, [9]), (76, [13])] ?_
              obtain ⟨r28, hr28, h⟩ := bsome h
              refine WD_pt' rfl (by kernel_rfl) (by kernel_rfl) [eArr4_i64 r1, eArr4_i64 r6] (vb r28) rfl (by kernel_rfl) en9 (by kernel_rfl) (clock_Below_ok hr28) (by kernel_rfl) ?_
              refine Ds 2 [(107, vb r28), (106, vb r28)] [] [] ?_
              cases hb : (r28 : Bool)
              · replace h := cfalse hb h
                refine Ds 24 [(8, vb false), (130, vb false), (129, .p Go.undef), (128, .p Go.undef), (127, .p Go.undef), (126, .p Go.undef), (125, .p Go.undef), (124, .p Go.undef), (123, .p Go.undef), (122, vb false), (121, vb false), (120, .p Go.undef), (119, .p Go.undef), (118, .p Go.undef), (117, .p Go.undef), (116, .p Go.undef), (115, .p Go.undef), (114, .p Go.undef), (113, vb false), (112, vb false), (111, .p Go.undef), (110, .p Go.undef), (109, .p Go.undef), (108, .p Go.undef)] [] [] ?_
                refine WD_end (by kernel_rfl) (by kernel_rfl) (by kernel_rfl) ?_
                exact wK [8] [] ⟨false, h, rfl⟩
              replace h := ctrue hb h
              refine Ds 2 [(109, eArr4_i64 r1), (108, eArr4_i64 r6)] [] [(80, [13]), (81, [9])] ?_
              obtain ⟨r29, hr29, h⟩ := bsome h
              refine WD_pt' rfl (by kernel_rfl) (by kernel_rfl) [eArr4_i64 r6, eArr4_i64 r1] (vb r29) rfl (by kernel_rfl) en9 (by kernel_rfl) (clock_Below_ok hr29) (by kernel_rfl) ?_
              refine Ds 3 [(113, vb (!r29)), (112, vb (!r29)), (111, vb (!r29))] [] [] ?_
              cases hb : (!r29 : Bool)
              · replace h := cfalse hb h
                refine Ds 18 [(8, vb false), (130, vb false), (129, .p Go.undef), (128, .p Go.undef), (127, .p Go.undef), (126, .p Go.undef), (125, .p Go.undef), (124, .p Go.undef), (123, .p Go.undef), (122, vb false), (121, vb false), (120, .p Go.undef), (119, .p Go.undef), (118, .p Go.undef), (117, .p Go.undef), (116, .p Go.undef), (115, .p Go.undef), (114, .p Go.undef)] [] [] ?_
                refine WD_end (by kernel_rfl) (by kernel_rfl) (by kernel_rfl) ?_
                exact wK [8] [] ⟨false, h, rfl⟩
              replace h := ctrue hb h
              refine Ds 2 [(115, eArr4_i64 r2), (114, eArr4_i64 r1)] [] [(86, [9]), (87, [10])] ?_
              obtain ⟨r30, hr30, h⟩ := bsome h
              refine WD_pt' rfl (by kernel_rfl) (by kernel_rfl) [eArr4_i64 r1, eArr4_i64 r2] (vb r30) rfl (by kernel_rfl) en10 (by kernel_rfl) (clock_Apart_ok hr30) (by kernel_rfl) ?_
              refine Ds 2 [(118, eArr4_i64 r1), (117, eArr4_i64 r2)] [] [(89, [10]), (90, [9])] ?_
              obtain ⟨r31, hr31, h⟩ := bsome h
              refine WD_pt' rfl (by kernel_rfl) (by kernel_rfl) [eArr4_i64 r2, eArr4_i64 r1] (vb r31) rfl (by kernel_rfl) en10 (by kernel_rfl) (clock_Apart_ok hr31) (by kernel_rfl) ?_
              refine Ds 3 [(122, vb (r30 == r31)), (121, vb (r30 == r31)), (120, vb (r30 == r31))] [] [] ?_
              cases hb : ((r30 == r31) : Bool)
              · replace h := cfalse hb h
                refine Ds 9 [(8, vb false), (130, vb false), (129, .p Go.undef), (128, .p Go.undef), (127, .p Go.undef), (126, .p Go.undef), (125, .p Go.undef), (124, .p Go.undef), (123, .p Go.undef)] [] [] ?_
                refine WD_end (by kernel_rfl) (by kernel_rfl) (by kernel_rfl) ?_
                exact wK [8] [] ⟨false, h, rfl⟩
              replace h := ctrue hb h
              refine Ds 2 [(124, eArr4_i64 r2), (123, eArr4_i64 r1)] [] [(95, [9]), (96, [10])] ?_
              obtain ⟨r32, hr32, h⟩ := bsome h
              refine WD_pt' rfl (by kernel_rfl) (by kernel_rfl) [eArr4_i64 r1, eArr4_i64 r2] (vb r32) rfl (by kernel_rfl) en9 (by kernel_rfl) (clock_Below_ok hr32) (by kernel_rfl) ?_
              refine Ds 2 [(127, eArr4_i64 r2), (126, eArr4_i64 r4)] [] [(98, [12]), (99, [10])] ?_
              refine WD_loc' rfl (by kernel_rfl) (by kernel_rfl) (by kernel_rfl) (ev_eqlA [.int .i64 r4.e0 r2.e0, .int .i64 r4.e1 r2.e1, .int .i64 r4.e2 r2.e2, .int .i64 r4.e3 r2.e3] (by kernel_rfl) (by kernel_rfl) (eqlArr [.int .i64 r4.e0 r2.e0, .int .i64 r4.e1 r2.e1, .int .i64 r4.e2 r2.e2, .int .i64 r4.e3 r2.e3] 3 (.int .i64) _ (by kernel_rfl) (by kernel_rfl) (by kernel_rfl) (by kernel_rfl) (by kernel_rfl)) (by kernel_rfl)) (by kernel_rfl) ?_
              refine Dt (vb (andL [r4.e0 == r2.e0, r4.e1 == r2.e1, r4.e2 == r2.e2, r4.e3 == r2.e3])) ?_
              refine Ds 3 [(8, vb (r32 == (andL [r4.e0 == r2.e0, r4.e1 == r2.e1, r4.e2 == r2.e2, r4.e3 == r2.e3]))), (130, vb (r32 == (andL [r4.e0 == r2.e0, r4.e1 == r2.e1, r4.e2 == r2.e2, r4.e3 == r2.e3]))), (129, vb (r32 == (andL [r4.e0 == r2.e0, r4.e1 == r2.e1, r4.e2 == r2.e2, r4.e3 == r2.e3])))] [] [] ?_
              refine WD_end (by kernel_rfl) (by kernel_rfl) (by kernel_rfl) ?_
              exact wK [8] [] ⟨(r32 == (andL [r4.e0 == r2.e0, r4.e1 == r2.e1, r4.e2 == r2.e2, r4.e3 == r2.e3])), h, rfl⟩
            replace h := ctrue hb h
            refine Ds 15 [(98, eArr4_i64 r1), (97, eArr4_i64 r2), (96, eArr4_i64 r4), (95, vb true), (94, vb true), (93, vb true), (92, .p Go.undef), (91, .p Go.undef), (90, .p Go.undef), (89, vb true), (88, vb true), (87, .p Go.undef), (86, .p Go.undef), (85, .p Go.undef), (84, .p Go.undef)] [] [(68, [12]), (69, [10]), (70, [9])] ?_
            obtain ⟨r33, hr33, h⟩ := bsome h
            refine WD_pt' rfl (by kernel_rfl) (by kernel_rfl) [eArr4_i64 r2, eArr4_i64 r1] (eArr4_i64 r33) rfl (by kernel_rfl) en13 (by kernel_rfl) (clock_Join_ok hr33) (by kernel_rfl) ?_
            refine WD_loc' rfl (by kernel_rfl) (by kernel_rfl) (by kernel_rfl) (ev_eqlA [.int .i64 r4.e0 r33.e0, .int .i64 r4.e1 r33.e1, .int .i64 r4.e2 r33.e2, .int .i64 r4.e3 r33.e3] (by kernel_rfl) (by kernel_rfl) (eqlArr [.int .i64 r4.e0 r33.e0, .int .i64 r4.e1 r33.e1, .int .i64 r4.e2 r33.e2, .int .i64 r4.e3 r33.e3] 3 (.int .i64) _ (by kernel_rfl) (by kernel_rfl) (by kernel_rfl) (by kernel_rfl) (by kernel_rfl)) (by kernel_rfl)) (by kernel_rfl) ?_
            refine Dt (vb (andL [r4.e0 == r33.e0, r4.e1 == r33.e1, r4.e2 == r33.e2, r4.e3 == r33.e3])) ?_
            refine Ds 2 [(102, vb (andL [r4.e0 == r33.e0, r4.e1 == r33.e1, r4.e2 == r33.e2, r4.e3 == r33.e3])), (101, vb (andL [r4.e0 == r33.e0, r4.e1 == r33.e1, r4.e2 == r33.e2, r4.e3 == r33.e3]))] [] [] ?_
            cases hb : (andL [r4.e0 == r33.e0, r4.e1 == r33.e1, r4.e2 == r33.e2, r4.e3 == r33.e3] : Bool)
            · replace h := cfalse hb h
              refine Ds 29 [(8, vb false), (130, vb false), (129, .p Go.undef), (128, .p Go.undef), (127, .p Go.undef), (126, .p Go.undef), (125, .p Go.undef), (124, .p Go.undef), (123, .p Go.undef), (122, vb false), (121, vb false), (120, .p Go.undef), (119, .p Go.undef), (118, .p Go.undef), (117, .p Go.undef), (116, .p Go.undef), (115, .p Go.undef), (114, .p Go.undef), (113, vb false), (112, vb false), (111, .p Go.undef), (110, .p Go.undef), (109, .p Go.undef), (108, .p Go.undef), (107, vb false), (106, vb false), (105, .p Go.undef), (104, .p Go.undef), (103, .p Go.undef)] [] [] ?_
              refine WD_end (by kernel_rfl) (by kernel_rfl) (by kernel_rfl) ?_
              exact wK [8] [] ⟨false, h, rfl⟩
            replace h := ctrue hb h
            refine Ds 2 [(104, eArr4_i64 r6), (103, eArr4_i64 r1)] [] [(75, [9]), (76, [13])] ?_
            obtain ⟨r34, hr34, h⟩ := bsome h
            refine WD_pt' rfl (by kernel_rfl) (by kernel_rfl) [eArr4_i64 r1, eArr4_i64 r6] (vb r34) rfl (by kernel_rfl) en9 (by kernel_rfl) (clock_Below_ok hr34) (by kernel_rfl) ?_
            refine Ds 2 [(107, vb r34), (106, vb r34)] [] [] ?_
            cases hb : (r34 : Bool)
            · replace h := cfalse hb h
              refine Ds 24 [(8, vb false), (130, vb false), (129, .p Go.undef), (128, .p Go.undef), (127, .p Go.undef), (126, .p Go.undef), (125, .p Go.undef), (124, .p Go.undef), (123, .p Go.undef), (122, vb false), (121, vb false), (120, .p Go.undef), (119, .p Go.undef), (118, .p Go.undef), (117, .p Go.undef), (116, .p Go.undef), (115, .p Go.undef), (114, .p Go.undef), (113, vb false), (112, vb false), (111, .p Go.undef), (110, .p Go.undef), (109, .p Go.undef), (108, .p Go.undef)] [] [] ?_
              refine WD_end (by kernel_rfl) (by kernel_rfl) (by kernel_rfl) ?_
              exact wK [8] [] ⟨false, h, rfl⟩
            replace h := ctrue hb h
            refine Ds 2 [(109, eArr4_i64 r1), (108, eArr4_i64 r6)] [] [(80, [13]), (81, [9])] ?_
            obtain ⟨r35, hr35, h⟩ := bsome h
            refine WD_pt' rfl (by kernel_rfl) (by kernel_rfl) [eArr4_i64 r6, eArr4_i64 r1] (vb r35) rfl (by kernel_rfl) en9 (by kernel_rfl) (clock_Below_ok hr35) (by kernel_rfl) ?_
            refine Ds 3 [(113, vb (!r35)), (112, vb (!r35)), (111, vb (!r35))] [] [] ?_
            cases hb : (!r35 : Bool)
            · replace h := cfalse hb h
              refine Ds 18 [(8, vb false), (130, vb false), (129, .p Go.undef), (128, .p Go.undef), (127, .p Go.undef), (126, .p Go.undef), (125, .p Go.undef), (124, .p Go.undef), (123, .p Go.undef), (122, vb false), (121, vb false), (120, .p Go.undef), (119, .p Go.undef), (118, .p Go.undef), (117, .p Go.undef), (116, .p Go.undef), (115, .p Go.undef), (114, .p Go.undef)] [] [] ?_
              refine WD_end (by kernel_rfl) (by kernel_rfl) (by kernel_rfl) ?_
              exact wK [8] [] ⟨false, h, rfl⟩
            replace h := ctrue hb h
            refine Ds 2 [(115, eArr4_i64 r2), (114, eArr4_i64 r1)] [] [(86, [9]), (87, [10])] ?_
            obtain ⟨r36, hr36, h⟩ := bsome h
            refine WD_pt' rfl (by kernel_rfl) (by kernel_rfl) [eArr4_i64 r1, eArr4_i64 r2] (vb r36) rfl (by kernel_rfl) en10 (by kernel_rfl) (clock_Apart_ok hr36) (by kernel_rfl) ?_
            refine Ds 2 [(118, eArr4_i64 r1), (117, eArr4_i64 r2)] [] [(89, [10]), (90, [9])] ?_
            obtain ⟨r37, hr37, h⟩ := bsome h
            refine WD_pt' rfl (by kernel_rfl) (by kernel_rfl) [eArr4_i64 r2, eArr4_i64 r1] (vb r37) rfl (by kernel_rfl) en10 (by kernel_rfl) (clock_Apart_ok hr37) (by kernel_rfl) ?_
            refine Ds 3 [(122, vb (r36 == r37)), (121, vb (r36 == r37)), (120, vb (r36 == r37))] [] [] ?_
            cases hb : ((r36 == r37) : Bool)
            · replace h := cfalse hb h
              refine Ds 9 [(8, vb false), (130, vb false), (129, .p Go.undef), (128, .p Go.undef), (127, .p Go.undef), (126, .p Go.undef), (125, .p Go.undef), (124, .p Go.undef), (123, .p Go.undef)] [] [] ?_
              refine WD_end (by kernel_rfl) (by kernel_rfl) (by kernel_rfl) ?_
              exact wK [8] [] ⟨false, h, rfl⟩
            replace h := ctrue hb h
            refine Ds 2 [(124, eArr4_i64 r2), (123, eArr4_i64 r1)] [] [(95, [9]), (96, [10])] ?_
            obtain ⟨r38, hr38, h⟩ := bsome h
            refine WD_pt' rfl (by kernel_rfl) (by kernel_rfl) [eArr4_i64 r1, eArr4_i64 r2] (vb r38) rfl (by kernel_rfl) en9 (by kernel_rfl) (clock_Below_ok hr38) (by kernel_rfl) ?_
            refine Ds 2 [(127, eArr4_i64 r2), (126, eArr4_i64 r4)] [] [(98, [12]), (99, [10])] ?_
            refine WD_loc' rfl (by kernel_rfl) (by kernel_rfl) (by kernel_rfl) (ev_eqlA [.int .i64 r4.e0 r2.e0, .int .i64 r4.e1 r2.e1, .int .i64 r4.e2 r2.e2, .int .i64 r4.e3 r2.e3] (by kernel_rfl) (by kernel_rfl) (eqlArr [.int .i64 r4.e0 r2.e0, .int .i64 r4.e1 r2.e1, .int .i64 r4.e2 r2.e2, .int .i64 r4.e3 r2.e3] 3 (.int .i64) _ (by kernel_rfl) (by kernel_rfl) (by kernel_rfl) (by kernel_rfl) (by kernel_rfl)) (by kernel_rfl)) (by kernel_rfl) ?_
            refine Dt (vb (andL [r4.e0 == r2.e0, r4.e1 == r2.e1, r4.e2 == r2.e2, r4.e3 == r2.e3])) ?_
            refine Ds 3 [(8, vb (r38 == (andL [r4.e0 == r2.e0, r4.e1 == r2.e1, r4.e2 == r2.e2, r4.e3 == r2.e3]))), (130, vb (r38 == (andL [r4.e0 == r2.e0, r4.e1 == r2.e1, r4.e2 == r2.e2, r4.e3 == r2.e3]))), (129, vb (r38 == (andL [r4.e0 == r2.e0, r4.e1 == r2.e1, r4.e2 == r2.e2, r4.e3 == r2.e3])))] [] [] ?_
            refine WD_end (by kernel_rfl) (by kernel_rfl) (by kernel_rfl) ?_
            exact wK [8] [] ⟨(r38 == (andL [r4.e0 == r2.e0, r4.e1 == r2.e1, r4.e2 == r2.e2, r4.e3 == r2.e3])), h, rfl⟩
          replace h := ctrue hb h
          refine Ds 8 [(70, eArr4_i64 r4), (69, eArr4_i64 r1), (68, vb true), (67, vb true), (66, vb true), (65, .p Go.undef), (64, .p Go.undef), (63, .p Go.undef)] [] [(41, [9]), (42, [12])] ?_
          obtain ⟨r39, hr39, h⟩ := bsome h
          refine WD_pt' rfl (by kernel_rfl) (by kernel_rfl) [eArr4_i64 r1, eArr4_i64 r4] (vb r39) rfl (by kernel_rfl) en9 (by kernel_rfl) (clock_Below_ok hr39) (by kernel_rfl) ?_
          refine Ds 2 [(73, vb r39), (72, vb r39)] [] [] ?_
          cases hb : (r39 : Bool)
          · replace h := cfalse hb h
            refine Ds 58 [(8, vb false), (130, vb false), (129, .p Go.undef), (128, .p Go.undef), (127, .p Go.undef), (126, .p Go.undef), (125, .p Go.undef), (124, .p Go.undef), (123, .p Go.undef), (122, vb false), (121, vb false), (120, .p Go.undef), (119, .p Go.undef), (118, .p Go.undef), (117, .p Go.undef), (116, .p Go.undef), (115, .p Go.undef), (114, .p Go.undef), (113, vb false), (112, vb false), (111, .p Go.undef), (110, .p Go.undef), (109, .p Go.undef), (108, .p Go.undef), (107, vb false), (106, vb false), (105, .p Go.undef), (104, .p Go.undef), (103, .p Go.undef), (102, vb false), (101, vb false), (100, .p Go.undef), (99, .p Go.undef), (98, .p Go.undef), (97, .p Go.undef), (96, .p Go.undef), (95, vb false), (94, vb false), (93, .p Go.undef), (92, .p Go.undef), (91, .p Go.undef), (90, .p Go.undef), (89, .p Go.undef), (88, .p Go.undef), (87, .p Go.undef), (86, .p Go.undef), (85, .p Go.undef), (84, .p Go.undef), (83, .p Go.undef), (82, .p Go.undef), (81, .p Go.undef), (80, .p Go.undef), (79, .p Go.undef), (78, vb false), (77, vb false), (76, .p Go.undef), (75, .p Go.undef), (74, .p Go.undef)] [] [] ?_
            refine WD_end (by kernel_rfl) (by kernel_rfl) (by kernel_rfl) ?_
            exact wK [8] [] ⟨false, h, rfl⟩
          replace h := ctrue hb h
          refine Ds 2 [(75, eArr4_i64 r4), (74, eArr4_i64 r2)] [] [(46, [10]), (47, [12])] ?_
          obtain ⟨r40, hr40, h⟩ := bsome h
          refine WD_pt' rfl (by kernel_rfl) (by kernel_rfl) [eArr4_i64 r2, eArr4_i64 r4] (vb r40) rfl (by kernel_rfl) en9 (by kernel_rfl) (clock_Below_ok hr40) (by kernel_rfl) ?_
          refine Ds 2 [(78, vb r40), (77, vb r40)] [] [] ?_
          cases hb : (r40 : Bool)
          · replace h := cfalse hb h
            refine Ds 53 [(8, vb false), (130, vb false), (129, .p Go.undef), (128, .p Go.undef), (127, .p Go.undef), (126, .p Go.undef), (125, .p Go.undef), (124, .p Go.undef), (123, .p Go.undef), (122, vb false), (121, vb false), (120, .p Go.undef), (119, .p Go.undef), (118, .p Go.undef), (117, .p Go.undef), (116, .p Go.undef), (115, .p Go.undef), (114, .p Go.undef), (113, vb false), (112, vb false), (111, .p Go.undef), (110, .p Go.undef), (109, .p Go.undef), (108, .p Go.undef), (107, vb false), (106, vb false), (105, .p Go.undef), (104, .p Go.undef), (103, .p Go.undef), (102, vb false), (101, vb false), (100, .p Go.undef), (99, .p Go.undef), (98, .p Go.undef), (97, .p Go.undef), (96, .p Go.undef), (95, vb false), (94, vb false), (93, .p Go.undef), (92, .p Go.undef), (91, .p Go.undef), (90, .p Go.undef), (89, .p Go.undef), (88, .p Go.undef), (87, .p Go.undef), (86, .p Go.undef), (85, .p Go.undef), (84, .p Go.undef), (83, .p Go.undef), (82, .p Go.undef), (81, .p Go.undef), (80, .p Go.undef), (79, .p Go.undef)] [] [] ?_
            refine WD_end (by kernel_rfl) (by kernel_rfl) (by kernel_rfl) ?_
            exact wK [8] [] ⟨false, h, rfl⟩
          replace h := ctrue hb h
          refine Ds 2 [(80, eArr4_i64 r3), (79, eArr4_i64 r1)] [] [(51, [9]), (52, [11])] ?_
          obtain ⟨r41, hr41, h⟩ := bsome h
          refine WD_pt' rfl (by kernel_rfl) (by kernel_rfl) [eArr4_i64 r1, eArr4_i64 r3] (vb r41) rfl (by kernel_rfl) en9 (by kernel_rfl) (clock_Below_ok hr41) (by kernel_rfl) ?_
          refine Ds 2 [(83, vb (!r41)), (82, vb (!r41))] [] [] ?_
          cases hb : (!r41 : Bool)
          · replace h := cfalse hb h
            refine Ds 2 [(85, eArr4_i64 r3), (84, eArr4_i64 r2)] [] [(56, [10]), (57, [11])] ?_
            obtain ⟨r42, hr42, h⟩ := bsome h
            refine WD_pt' rfl (by kernel_rfl) (by kernel_rfl) [eArr4_i64 r2, eArr4_i64 r3] (vb r42) rfl (by kernel_rfl) en9 (by kernel_rfl) (clock_Below_ok hr42) (by kernel_rfl) ?_
            refine Ds 3 [(89, vb (!r42)), (88, vb (!r42)), (87, vb (!r42))] [] [] ?_
            cases hb : (!r42 : Bool)
            · replace h := cfalse hb h
              refine Ds 2 [(91, eArr4_i64 r3), (90, eArr4_i64 r4)] [] [(62, [12]), (63, [11])] ?_
              obtain ⟨r43, hr43, h⟩ := bsome h
              refine WD_pt' rfl (by kernel_rfl) (by kernel_rfl) [eArr4_i64 r4, eArr4_i64 r3] (vb r43) rfl (by kernel_rfl) en9 (by kernel_rfl) (clock_Below_ok hr43) (by kernel_rfl) ?_
              refine Ds 3 [(95, vb r43), (94, vb r43), (93, vb r43)] [] [] ?_
              cases hb : (r43 : Bool)
              · replace h := cfalse hb h
                refine Ds 36 [(8, vb false), (130, vb false), (129, .p Go.undef), (128, .p Go.undef), (127, .p Go.undef), (126, .p Go.undef), (125, .p Go.undef), (124, .p Go.undef), (123, .p Go.undef), (122, vb false), (121, vb false), (120, .p Go.undef), (119, .p Go.undef), (118, .p Go.undef), (117, .p Go.undef), (116, .p Go.undef), (115, .p Go.undef), (114, .p Go.undef), (113, vb false), (112, vb false), (111, .p Go.undef), (110, .p Go.undef), (109, .p Go.undef), (108, .p Go.undef), (107, vb false), (106, vb false), (105, .p Go.undef), (104, .p Go.undef), (103, .p Go.undef), (102, vb false), (101, vb false), (100, .p Go.undef), (99, .p Go.undef), (98, .p Go.undef), (97, .p Go.undef), (96, .p Go.undef)] [] [] ?_
                refine WD_end (by kernel_rfl) (by kernel_rfl) (by kernel_rfl) ?_
                exact wK [8] [] ⟨false, h, rfl⟩
              replace h := ctrue hb h
              refine Ds 3 [(98, eArr4_i64 r1), (97, eArr4_i64 r2), (96, eArr4_i64 r4)] [] [(68, [12]), (69, [10]), (70, [9])] ?_
              obtain ⟨r44, hr44, h⟩ := bsome h
              refine WD_pt' rfl (by kernel_rfl) (by kernel_rfl) [eArr4_i64 r2, eArr4_i64 r1] (eArr4_i64 r44) rfl (by kernel_rfl) en13 (by kernel_rfl) (clock_Join_ok hr44) (by kernel_rfl) ?_
              refine WD_loc' rfl (by kernel_rfl) (by kernel_rfl) (by kernel_rfl) (ev_eqlA [.int .i64 r4.e0 r44.e0, .int .i64 r4.e1 r44.e1, .int .i64 r4.e2 r44.e2, .int .i64 r4.e3 r44.e3] (by kernel_rfl) (by kernel_rfl) (eqlArr [.int .i64 r4.e0 r44.e0, .int .i64 r4.e1 r44.e1, .int .i64 r4.e2 r44.e2, .int .i64 r4.e3 r44.e3] 3 (.int .i64) _ (by kernel_rfl) (by kernel_rfl) (by kernel_rfl) (by kernel_rfl) (by kernel_rfl)) (by kernel_rfl)) (by kernel_rfl) ?_
              refine Dt (vb (andL [r4.e0 == r44.e0, r4.e1 == r44.e1, r4.e2 == r44.e2, r4.e3 == r44.e3])) ?_
              refine Ds 2 [(102, vb (andL [r4.e0 == r44.e0, r4.e1 == r44.e1, r4.e2 == r44.e2, r4.e3 == r44.e3])), (101, vb (andL [r4.e0 == r44.e0, r4.e1 == r44.e1, r4.e2 == r44.e2, r4.e3 == r44.e3]))] [] [] ?_
              cases hb : (andL [r4.e0 == r44.e0, r4.e1 == r44.e1, r4.e2 == r44.e2, r4.e3 == r44.e3] : Bool)
              · replace h := cfalse hb h
                refine Ds 29 [(8, vb false), (130, vb false), (129, .p Go.undef), (128, .p Go.undef), (127, .p Go.undef), (126, .p Go.undef), (125, .p Go.undef), (124, .p Go.undef), (123, .p Go.undef), (122, vb false), (121, vb false), (120, .p Go.undef), (119, .p Go.undef), (118, .p Go.undef), (117, .p Go.undef), (116, .p Go.undef), (115, .p Go.undef), (114, .p Go.undef), (113, vb false), (112, vb false), (111, .p Go.undef), (110, .p Go.undef), (109, .p Go.undef), (108, .p Go.undef), (107, vb false), (106, vb false), (105, .p Go.undef), (104, .p Go.undef), (103, .p Go.undef)] [] [] ?_
                refine WD_end (by kernel_rfl) (by kernel_rfl) (by kernel_rfl) ?_
                exact wK [8] [] ⟨false, h, rfl⟩
              replace h := ctrue hb h
              refine Ds 2 [(104, eArr4_i64 r6), (103, eArr4_i64 r1)] [] [(75, [9]), (76, [13])] ?_
              obtain ⟨r45, hr45, h⟩ := bsome h
              refine WD_pt' rfl (by kernel_rfl) (by kernel_rfl) [eArr4_i64 r1, eArr4_i64 r6] (vb r45) rfl (by kernel_rfl) en9 (by kernel_rfl) (clock_Below_ok hr45) (by kernel_rfl) ?_
              refine Ds 2 [(107, vb r45), (106, vb r45)] [] [] ?_
              cases hb : (r45 : Bool)
              · replace h := cfalse hb h
                refine Ds 24 [(8, vb false), (130, vb false), (129, .p Go.undef), (128, .p Go.undef), (127, .p Go.undef), (126, .p Go.undef), (125, .p Go.undef), (124, .p Go.undef), (123, .p Go.undef), (122, vb false), (121, vb false), (120, .p Go.undef), (119, .p Go.undef), (118, .p Go.undef), (117, .p Go.undef), (116, .p Go.undef), (115, .p Go.undef), (114, .p Go.undef), (113, vb false), (112, vb false), (111, .p Go.undef), (110, .p Go.undef), (109, .p Go.undef), (108, .p Go.undef)] [] [] ?_
                refine WD_end (by kernel_rfl) (by kernel_rfl) (by kernel_rfl) ?_
                exact wK [8] [] ⟨false, h, rfl⟩
              replace h := ctrue hb h
              refine Ds 2 [(109, eArr4_i64 r1), (108, eArr4_i64 r6)] [] [(80, [13]), (81, [9])] ?_
              obtain ⟨r46, hr46, h⟩ := bsome h
              refine WD_pt' rfl (by kernel_rfl) (by kernel_rfl) [eArr4_i64 r6, eArr4_i64 r1] (vb r46) rfl (by kernel_rfl) en9 (by kernel_rfl) (clock_Below_ok hr46) (by kernel_rfl) ?_
              refine Ds 3 [(113, vb (!r46)), (112, vb (!r46)), (111, vb (!r46))] [] [] ?_
              cases hb : (!r46 : Bool)
              · replace h := cfalse hb h
                refine Ds 18 [(8, vb false), (130, vb false), (129, .p Go.undef), (128, .p Go.undef), (127, .p Go.undef), (126, .p Go.undef), (125, .p Go.undef), (124, .p Go.undef), (123, .p Go.undef), (122, vb false), (121, vb false), (120, .p Go.undef), (119, .p Go.undef), (118, .p Go.undef), (117, .p Go.undef), (116, .p Go.undef), (115, .p Go.undef), (114, .p Go.undef)] [] [] ?_
                refine WD_end (by kernel_rfl) (by kernel_rfl) (by kernel_rfl) ?_
                exact wK [8] [] ⟨false, h, rfl⟩
              replace h := ctrue hb h
              refine Ds 2 [(115, eArr4_i64 r2), (114, eArr4_i64 r1)] [] [(86, [9]), (87, [10])] ?_
              obtain ⟨r47, hr47, h⟩ := bsome h
              refine WD_pt' rfl (by kernel_rfl) (by kernel_rfl) [eArr4_i64 r1, eArr4_i64 r2] (vb r47) rfl (by kernel_rfl) en10 (by kernel_rfl) (clock_Apart_ok hr47) (by kernel_rfl) ?_
              refine Ds 2 [(118, eArr4_i64 r1), (117, eArr4_i64 r2)] [] [(89, [10]), (90, [9])] ?_
              obtain ⟨r48, hr48, h⟩ := bsome h
              refine WD_pt' rfl (by kernel_rfl) (by kernel_rfl) [eArr4_i64 r2, eArr4_i64 r1] (vb r48) rfl (by kernel_rfl) en10 (by kernel_rfl) (clock_Apart_ok hr48) (by kernel_rfl) ?_
              refine Ds 3 [(122, vb (r47 == r48)), (121, vb (r47 == r48)), (120, vb (r47 == r48))] [] [] ?_
              cases hb : ((r47 == r48) : Bool)
              · replace h := cfalse hb h
                refine Ds 9 [(8, vb false), (130, vb false), (129, .p Go.undef), (128, .p Go.undef), (127, .p Go.undef), (126, .p Go.undef), (125, .p Go.undef), (124, .p Go.undef), (123, .p Go.undef)] [] [] ?_
                refine WD_end (by kernel_rfl) (by kernel_rfl) (by kernel_rfl) ?_
                exact wK [8] [] ⟨false, h, rfl⟩
              replace h := ctrue hb h
              refine Ds 2 [(124, eArr4_i64 r2), (123, eArr4_i64 r1)] [] [(95, [9]), (96, [10])] ?_
              obtain ⟨r49, hr49, h⟩ := bsome h
              refine WD_pt' rfl (by kernel_rfl) (by kernel_rfl) [eArr4_i64 r1, eArr4_i64 r2] (vb r49) rfl (by kernel_rfl) en9 (by kernel_rfl) (clock_Below_ok hr49) (by kernel_rfl) ?_
              refine Ds 2 [(127, eArr4_i64 r2), (126, eArr4_i64 r4)] [] [(98, [12]), (99, [10])] ?_
              refine WD_loc' rfl (by kernel_rfl) (by kernel_rfl) (by kernel_rfl) (ev_eqlA [.int .i64 r4.e0 r2.e0, .int .i64 r4.e1 r2.e1, .int .i64 r4.e2 r2.e2, .int .i64 r4.e3 r2.e3] (by kernel_rfl) (by kernel_rfl) (eqlArr [.int .i64 r4.e0 r2.e0, .int .i64 r4.e1 r2.e1, .int .i64 r4.e2 r2.e2, .int .i64 r4.e3 r2.e3] 3 (.int .i64) _ (by kernel_rfl) (by kernel_rfl) (by kernel_rfl) (by kernel_rfl) (by kernel_rfl)) (by kernel_rfl)) (by kernel_rfl) ?_
              refine Dt (vb (andL [r4.e0 == r2.e0, r4.e1 == r2.e1, r4.e2 == r2.e2, r4.e3 == r2.e3])) ?_
              refine Ds 3 [(8, vb (r49 == (andL [r4.e0 == r2.e0, r4.e1 == r2.e1, r4.e2 == r2.e2, r4.e3 == r2.e3]))), (130, vb (r49 == (andL [r4.e0 == r2.e0, r4.e1 == r2.e1, r4.e2 == r2.e2, r4.e3 == r2.e3]))), (129, vb (r49 == (andL [r4.e0 == r2.e0, r4.e1 == r2.e1, r4.e2 == r2.e2, r4.e3 == r2.e3])))] [] [] ?_
              refine WD_end (by kernel_rfl) (by kernel_rfl) (by kernel_rfl) ?_
              exact wK [8] [] ⟨(r49 == (andL [r4.e0 == r2.e0, r4.e1 == r2.e1, r4.e2 == r2.e2, r4.e3 == r2.e3])), h, rfl⟩
            replace h := ctrue hb h
            refine Ds 9 [(98, eArr4_i64 r1), (97, eArr4_i64 r2), (96, eArr4_i64 r4), (95, vb true), (94, vb true), (93, vb true), (92, .p Go.undef), (91, .p Go.undef), (90, .p Go.undef)] [] [(68, [12]), (69, [10]), (70, [9])] ?_
            obtain ⟨r50, hr50, h⟩ := bsome h
            refine WD_pt' rfl (by kernel_rfl) (by kernel_rfl) [eArr4_i64 r2, eArr4_i64 r1] (eArr4_i64 r50) rfl (by kernel_rfl) en13 (by kernel_rfl) (clock_Join_ok hr50) (by kernel_rfl) ?_
            refine WD_loc' rfl (by kernel_rfl) (by kernel_rfl) (by kernel_rfl) (ev_eqlA [.int .i64 r4.e0 r50.e0, .int .i64 r4.e1 r50.e1, .int .i64 r4.e2 r50.e2, .int .i64 r4.e3 r50.e3] (by kernel_rfl) (by kernel_rfl) (eqlArr [.int .i64 r4.e0 r50.e0, .int .i64 r4.e1 r50.e1, .int .i64 r4.e2 r50.e2, .int .i64 r4.e3 r50.e3] 3 (.int .i64) _ (by kernel_rfl) (by kernel_rfl) (by kernel_rfl) (by kernel_rfl) (by kernel_rfl)) (by kernel_rfl)) (by kernel_rfl) ?_
            refine Dt (vb (andL [r4.e0 == r50.e0, r4.e1 == r50.e1, r4.e2 == r50.e2, r4.e3 == r50.e3])) ?_
            refine Ds 2 [(102, vb (andL [r4.e0 == r50.e0, r4.e1 == r50.e1, r4.e2 == r50.e2, r4.e3 == r50.e3])), (101, vb (andL [r4.e0 == r50.e0, r4.e1 == r50.e1, r4.e2 == r50.e2, r4.e3 == r50.e3]))] [] [] ?_
            cases hb : (andL [r4.e0 == r50.e0, r4.e1 == r50.e1, r4.e2 == r50.e2, r4.e3 == r50.e3] : Bool)
            · replace h := cfalse hb h
              refine Ds 29 [(8, vb false), (130, vb false), (129, .p Go.undef), (128, .p Go.undef), (127, .p Go.undef), (126, .p Go.undef), (125, .p Go.undef), (124, .p Go.undef), (123, .p Go.undef), (122, vb false), (121, vb false), (120, .p Go.undef), (119, .p Go.undef), (118, .p Go.undef), (117, .p Go.undef), (116, .p Go.undef), (115, .p Go.undef), (114, .p Go.undef), (113, vb false), (112, vb false), (111, .p Go.undef), (110, .p Go.undef), (109, .p Go.undef), (108, .p Go.undef), (107, vb false), (106, vb false), (105, .p Go.undef), (104, .p Go.undef), (103, .p Go.undef)] [] [] ?_
              refine WD_end (by kernel_rfl) (by kernel_rfl) (by kernel_rfl) ?_
              exact wK [8] [] ⟨false, h, rfl⟩
            replace h := ctrue hb h
            refine Ds 2 [(104, eArr4_i64 r6), (103, eArr4_i64 r1)] [] [(75, [9]), (76, [13])] ?_
            obtain ⟨r51, hr51, h⟩ := bsome h
            refine WD_pt' rfl (by kernel_rfl) (by kernel_rfl) [eArr4_i64 r1, eArr4_i64 r6] (vb r51) rfl (by kernel_rfl) en9 (by kernel_rfl) (clock_Below_ok hr51) (by kernel_rfl) ?_
            refine Ds 2 [(107, vb r51), (106, vb r51)] [] [] ?_
            cases hb : (r51 : Bool)
            · replace h := cfalse hb h
              refine Ds 24 [(8, vb false), (130, vb false), (129, .p Go.undef), (128, .p Go.undef), (127, .p Go.undef), (126, .p Go.undef), (125, .p Go.undef), (124, .p Go.undef), (123, .p Go.undef), (122, vb false), (121, vb false), (120, .p Go.undef), (119, .p Go.undef), (118, .p Go.undef), (117, .p Go.undef), (116, .p Go.undef), (115, .p Go.undef), (114, .p Go.undef), (113, vb false), (112, vb false), (111, .p Go.undef), (110, .p Go.undef), (109, .p Go.undef), (108, .p Go.undef)] [] [] ?_
              refine WD_end (by kernel_rfl) (by kernel_rfl) (by kernel_rfl) ?_
              exact wK [8] [] ⟨false, h, rfl⟩
            replace h := ctrue hb h
            refine Ds 2 [(109, eArr4_i64 r1), (108, eArr4_i64 r6)] [] [(80, [13]), (81, [9])] ?_
            obtain ⟨r52, hr52, h⟩ := bsome h
            refine WD_pt' rfl (by kernel_rfl) (by kernel_rfl) [eArr4_i64 r6, eArr4_i64 r1] (vb r52) rfl (by kernel_rfl) en9 (by kernel_rfl) (clock_Below_ok hr52) (by kernel_rfl) ?_
            refine Ds 3 [(113, vb (!r52)), (112, vb (!r52)), (111, vb (!r52))] [] [] ?_
            cases hb : (!r52 : Bool)
            · replace h := cfalse hb h
              refine Ds 18 [(8, vb false), (130, vb false), (129, .p Go.undef), (128, .p Go.undef), (127, .p Go.undef), (126, .p Go.undef), (125, .p Go.undef), (124, .p Go.undef), (123, .p Go.undef), (122, vb false), (121, vb false), (120, .p Go.undef), (119, .p Go.undef), (118, .p Go.undef), (117, .p Go.undef), (116, .p Go.undef), (115, .p Go.undef), (114, .p Go.undef)] [] [] ?_
              refine WD_end (by kernel_rfl) (by kernel_rfl) (by kernel_rfl) ?_
              exact wK [8] [] ⟨false, h, rfl⟩
            replace h := ctrue hb h
            refine Ds 2 [(115, eArr4_i64 r2), (114, eArr4_i64 r1)] [] [(86, [9]), (87, [10])] ?_
            obtain ⟨r53, hr53, h⟩ := bsome h
            refine WD_pt' rfl (by kernel_rfl) (by kernel_rfl) [eArr4_i64 r1, eArr4_i64 r2] (vb r53) rfl (by kernel_rfl) en10 (by kernel_rfl) (clock_Apart_ok hr53) (by kernel_rfl) ?_
            refine Ds 2 [(118, eArr4_i64 r1), (117, eArr4_i64 r2)] [] [(89, [10]), (90, [9])] ?_
            obtain ⟨r54, hr54, h⟩ := bsome h
            refine WD_pt' rfl (by kernel_rfl) (by kernel_rfl) [eArr4_i64 r2, eArr4_i64 r1] (vb r54) rfl (by kernel_rfl) en10 (by kernel_rfl) (clock_Apart_ok hr54) (by kernel_rfl) ?_
            refine Ds 3 [(122, vb (r53 == r54)), (121, vb (r53 == r54)), (120, vb (r53 == r54))] [] [] ?_
            cases hb : ((r53 == r54) : Bool)
            · replace h := cfalse hb h
              refine Ds 9 [(8, vb false), (130, vb false), (129, .p Go.undef), (128, .p Go.undef), (127, .p Go.undef), (126, .p Go.undef), (125, .p Go.undef), (124, .p Go.undef), (123, .p Go.undef)] [] [] ?_
              refine WD_end (by kernel_rfl) (by kernel_rfl) (by kernel_rfl) ?_
              exact wK [8] [] ⟨false, h, rfl⟩
            replace h := ctrue hb h
            refine Ds 2 [(124, eArr4_i64 r2), (123, eArr4_i64 r1)] [] [(95, [9]), (96, [10])] ?_
            obtain ⟨r55, hr55, h⟩ := bsome h
            refine WD_pt' rfl (by kernel_rfl) (by kernel_rfl) [eArr4_i64 r1, eArr4_i64 r2] (vb r55) rfl (by kernel_rfl) en9 (by kernel_rfl) (clock_Below_ok hr55) (by kernel_rfl) ?_
            refine Ds 2 [(127, eArr4_i64 r2), (126, eArr4_i64 r4)] [] [(98, [12]), (99, [10])] ?_
            refine WD_loc' rfl (by kernel_rfl) (by kernel_rfl) (by kernel_rfl) (ev_eqlA [.int .i64 r4.e0 r2.e0, .int .i64 r4.e1 r2.e1, .int .i64 r4.e2 r2.e2, .int .i64 r4.e3 r2.e3] (by kernel_rfl) (by kernel_rfl) (eqlArr [.int .i64 r4.e0 r2.e0, .int .i64 r4.e1 r2.e1, .int .i64 r4.e2 r2.e2, .int .i64 r4.e3 r2.e3] 3 (.int .i64) _ (by kernel_rfl) (by kernel_rfl) (by kernel_rfl) (by kernel_rfl) (by kernel_rfl)) (by kernel_rfl)) (by kernel_rfl) ?_
            refine Dt (vb (andL [r4.e0 == r2.e0, r4.e1 == r2.e1, r4.e2 == r2.e2, r4.e3 == r2.e3])) ?_
            refine Ds 3 [(8, vb (r55 == (andL [r4.e0 == r2.e0, r4.e1 == r2.e1, r4.e2 == r2.e2, r4.e3 == r2.e3]))), (130, vb (r55 == (andL [r4.e0 == r2.e0, r4.e1 == r2.e1, r4.e2 == r2.e2, r4.e3 == r2.e3]))), (129, vb (r55 == (andL [r4.e0 == r2.e0, r4.e1 == r2.e1, r4.e2 == r2.e2, r4.e3 == r2.e3])))] [] [] ?_
            refine WD_end (by kernel_rfl) (by kernel_rfl) (by kernel_rfl) ?_
            exact wK [8] [] ⟨(r55 == (andL [r4.e0 == r2.e0, r4.e1 == r2.e1, r4.e2 == r2.e2, r4.e3 == r2.e3])), h, rfl⟩
          replace h := ctrue hb h
          refine Ds 15 [(98, eArr4_i64 r1), (97, eArr4_i64 r2), (96, eArr4_i64 r4), (95, vb true), (94, vb true), (93, vb true), (92, .p Go.undef), (91, .p Go.undef), (90, .p Go.undef), (89, vb true), (88, vb true), (87, .p Go.undef), (86, .p Go.undef), (85, .p Go.undef), (84, .p Go.undef)] [] [(68, [12]), (69, [10]), (70, [9])] ?_
          obtain ⟨r56, hr56, h⟩ := bsome h
          refine WD_pt' rfl (by kernel_rfl) (by kernel_rfl) [eArr4_i64 r2, eArr4_i64 r1] (eArr4_i64 r56) rfl (by kernel_rfl) en13 (by kernel_rfl) (clock_Join_ok hr56) (by kernel_rfl) ?_
          refine WD_loc' rfl (by kernel_rfl) (by kernel_rfl) (by kernel_rfl) (ev_eqlA [.int .i64 r4.e0 r56.e0, .int .i64 r4.e1 r56.e1, .int .i64 r4.e2 r56.e2, .int .i64 r4.e3 r56.e3] (by kernel_rfl) (by kernel_rfl) (eqlArr [.int .i64 r4.e0 r56.e0, .int .i64 r4.e1 r56.e1, .int .i64 r4.e2 r56.e2, .int .i64 r4.e3 r56.e3] 3 (.int .i64) _ (by kernel_rfl) (by kernel_rfl) (by kernel_rfl) (by kernel_rfl) (by kernel_rfl)) (by kernel_rfl)) (by kernel_rfl) ?_
          refine Dt (vb (andL [r4.e0 == r56.e0, r4.e1 == r56.e1, r4.e2 == r56.e2, r4.e3 == r56.e3])) ?_
          refine Ds 2 [(102, vb (andL [r4.e0 == r56.e0, r4.e1 == r56.e1, r4.e2 == r56.e2, r4.e3 == r56.e3])), (101, vb (andL [r4.e0 == r56.e0, r4.e1 == r56.e1, r4.e2 == r56.e2, r4.e3 == r56.e3]))] [] [] ?_
          cases hb : (andL [r4.e0 == r56.e0, r4.e1 == r56.e1, r4.e2 == r56.e2, r4.e3 == r56.e3] : Bool)
          · replace h := cfalse hb h
            refine Ds 29 [(8, vb false), (130, vb false), (129, .p Go.undef), (128, .p Go.undef), (127, .p Go.undef), (126, .p Go.undef), (125, .p Go.undef), (124, .p Go.undef), (123, .p Go.undef), (122, vb false), (121, vb false), (120, .p Go.undef), (119, .p Go.undef), (118, .p Go.undef), (117, .p Go.undef), (116, .p Go.undef), (115, .p Go.undef), (114, .p Go.undef), (113, vb false), (112, vb false), (111, .p Go.undef), (110, .p Go.undef), (109, .p Go.undef), (108, .p Go.undef), (107, vb false), (106, vb false), (105, .p Go.undef), (104, .p Go.undef), (103, .p Go.undef)] [] [] ?_
            refine WD_end (by kernel_rfl) (by kernel_rfl) (by kernel_rfl) ?_
            exact wK [8] [] ⟨false, h, rfl⟩
          replace h := ctrue hb h
          refine Ds 2 [(104, eArr4_i64 r6), (103, eArr4_i64 r1)] [] [(75, [9]), (76, [13])] ?_
          obtain ⟨r57, hr57, h⟩ := bsome h
          refine WD_pt' rfl (by kernel_rfl) (by kernel_rfl) [eArr4_i64 r1, eArr4_i64 r6] (vb r57) rfl (by kernel_rfl) en9 (by kernel_rfl) (clock_Below_ok hr57) (by kernel_rfl) ?_
          refine Ds 2 [(107, vb r57), (106, vb r57)] [] [] ?_
          cases hb : (r57 : Bool)
          · replace h := cfalse hb h
            refine Ds 24 [(8, vb false), (130, vb false), (129, .p Go.undef), (128, .p Go.undef), (127, .p Go.undef), (126, .p Go.undef), (125, .p Go.undef), (124, .p Go.undef), (123, .p Go.undef), (122, vb false), (121, vb false), (120, .p Go.undef), (119, .p Go.undef), (118, .p Go.undef), (117, .p Go.undef), (116, .p Go.undef), (115, .p Go.undef), (114, .p Go.undef), (113, vb false), (112, vb false), (111, .p Go.undef), (110, .p Go.undef), (109, .p Go.undef), (108, .p Go.undef)] [] [] ?_
            refine WD_end (by kernel_rfl) (by kernel_rfl) (by kernel_rfl) ?_
            exact wK [8] [] ⟨false, h, rfl⟩
          replace h := ctrue hb h
          refine Ds 2 [(109, eArr4_i64 r1), (108, eArr4_i64 r6)] [] [(80, [13]), (81, [9])] ?_
          obtain ⟨r58, hr58, h⟩ := bsome h
          refine WD_pt' rfl (by kernel_rfl) (by kernel_rfl) [eArr4_i64 r6, eArr4_i64 r1] (vb r58) rfl (by kernel_rfl) en9 (by kernel_rfl) (clock_Below_ok hr58) (by kernel_rfl) ?_
          refine Ds 3 [(113, vb (!r58)), (112, vb (!r58)), (111, vb (!r58))] [] [] ?_
          cases hb : (!r58 : Bool)
          · replace h := cfalse hb h
            refine Ds 18 [(8, vb false), (130, vb false), (129, .p Go.undef), (128, .p Go.undef), (127, .p Go.undef), (126, .p Go.undef), (125, .p Go.undef), (124, .p Go.undef), (123, .p Go.undef), (122, vb false), (121, vb false), (120, .p Go.undef), (119, .p Go.undef), (118, .p Go.undef), (117, .p Go.undef), (116, .p Go.undef), (115, .p Go.undef), (114, .p Go.undef)] [] [] ?_
            refine WD_end (by kernel_rfl) (by kernel_rfl) (by kernel_rfl) ?_
            exact wK [8] [] ⟨false, h, rfl⟩
          replace h := ctrue hb h
          refine Ds 2 [(115, eArr4_i64 r2), (114, eArr4_i64 r1)] [] [(86, [9]), (87, [10])] ?_
          obtain ⟨r59, hr59, h⟩ := bsome h
          refine WD_pt' rfl (by kernel_rfl) (by kernel_rfl) [eArr4_i64 r1, eArr4_i64 r2] (vb r59) rfl (by kernel_rfl) en10 (by kernel_rfl) (clock_Apart_ok hr59) (by kernel_rfl) ?_
          refine Ds 2 [(118, eArr4_i64 r1), (117, eArr4_i64 r2)] [] [(89, [10]), (90, [9])] ?_
          obtain ⟨r60, hr60, h⟩ := bsome h
          refine WD_pt' rfl (by kernel_rfl) (by kernel_rfl) [eArr4_i64 r2, eArr4_i64 r1] (vb r60) rfl (by kernel_rfl) en10 (by kernel_rfl) (clock_Apart_ok hr60) (by kernel_rfl) ?_
          refine Ds 3 [(122, vb (r59 == r60)), (121, vb (r59 == r60)), (120, vb (r59 == r60))] [] [] ?_
          cases hb : ((r59 == r60) : Bool)
          · replace h := cfalse hb h
            refine Ds 9 [(8, vb false), (130, vb false), (129, .p Go.undef), (128, .p Go.undef), (127, .p Go.undef), (126, .p Go.undef), (125, .p Go.undef), (124, .p Go.undef), (123, .p Go.undef)] [] [] ?_
            refine WD_end (by kernel_rfl) (by kernel_rfl) (by kernel_rfl) ?_
            exact wK [8] [] ⟨false, h, rfl⟩
          replace h := ctrue hb h
          refine Ds 2 [(124, eArr4_i64 r2), (123, eArr4_i64 r1)] [] [(95, [9]), (96, [10])] ?_
          obtain ⟨r61, hr61, h⟩ := bsome h
          refine WD_pt' rfl (by kernel_rfl) (by kernel_rfl) [eArr4_i64 r1, eArr4_i64 r2] (vb r61) rfl (by kernel_rfl) en9 (by kernel_rfl) (clock_Below_ok hr61) (by kernel_rfl) ?_
          refine Ds 2 [(127, eArr4_i64 r2), (126, eArr4_i64 r4)] [] [(98, [12]), (99, [10])] ?_
          refine WD_loc' rfl (by kernel_rfl) (by kernel_rfl) (by kernel_rfl) (ev_eqlA [.int .i64 r4.e0 r2.e0, .int .i64 r4.e1 r2.e1, .int .i64 r4.e2 r2.e2, .int .i64 r4.e3 r2.e3] (by kernel_rfl) (by kernel_rfl) (eqlArr [.int .i64 r4.e0 r2.e0, .int .i64 r4.e1 r2.e1, .int .i64 r4.e2 r2.e2, .int .i64 r4.e3 r2.e3] 3 (.int .i64) _ (by kernel_rfl) (by kernel_rfl) (by kernel_rfl) (by kernel_rfl) (by kernel_rfl)) (by kernel_rfl)) (by kernel_rfl) ?_
          refine Dt (vb (andL [r4.e0 == r2.e0, r4.e1 == r2.e1, r4.e2 == r2.e2, r4.e3 == r2.e3])) ?_
          refine Ds 3 [(8, vb (r61 == (andL [r4.e0 == r2.e0, r4.e1 == r2.e1, r4.e2 == r2.e2, r4.e3 == r2.e3]))), (130, vb (r61 == (andL [r4.e0 == r2.e0, r4.e1 == r2.e1, r4.e2 == r2.e2, r4.e3 == r2.e3]))), (129, vb (r61 == (andL [r4.e0 == r2.e0, r4.e1 == r2.e1, r4.e2 == r2.e2, r4.e3 == r2.e3])))] [] [] ?_
          refine WD_end (by kernel_rfl) (by kernel_rfl) (by kernel_rfl) ?_
          exact wK [8] [] ⟨(r61 == (andL [r4.e0 == r2.e0, r4.e1 == r2.e1, r4.e2 == r2.e2, r4.e3 == r2.e3])), h, rfl⟩
        replace h := ctrue hb h
        refine Ds 14 [(70, eArr4_i64 r4), (69, eArr4_i64 r1), (68, vb true), (67, vb true), (66, vb true), (65, .p Go.undef), (64, .p Go.undef), (63, .p Go.undef), (62, vb true), (61, vb true), (60, .p Go.undef), (59, .p Go.undef), (58, .p Go.undef), (57, .p Go.undef)] [] [(41, [9]), (42, [12])] ?_
        obtain ⟨r62, hr62, h⟩ := bsome h
        refine WD_pt' rfl (by kernel_rfl) (by kernel_rfl) [eArr4_i64 r1, eArr4_i64 r4] (vb r62) rfl (by kernel_rfl) en9 (by kernel_rfl) (clock_Below_ok hr62) (by kernel_rfl) ?_
        refine Ds 2 [(73, vb r62), (72, vb r62)] [] [] ?_
        cases hb : (r62 : Bool)
        · replace h := cfalse hb h
          refine Ds 58 [(8, vb false), (130, vb false), (129, .p Go.undef), (128, .p Go.undef), (127, .p Go.undef), (126, .p Go.undef), (125, .p Go.undef), (124, .p Go.undef), (123, .p Go.undef), (122, vb false), (121, vb false), (120, .p Go.undef), (119, .p Go.undef), (118, .p Go.undef), (117, .p Go.undef), (116, .p Go.undef), (115, .p Go.undef), (114, .p Go.undef), (113, vb false), (112, vb false), (111, .p Go.undef), (110, .p Go.undef), (109, .p Go.undef), (108, .p Go.undef), (107, vb false), (106, vb false), (105, .p Go.undef), (104, .p Go.undef), (103, .p Go.undef), (102, vb false), (101, vb false), (100, .p Go.undef), (99, .p Go.undef), (98, .p Go.undef), (97, .p Go.undef), (96, .p Go.undef), (95, vb false), (94, vb false), (93, .p Go.undef), (92, .p Go.undef), (91, .p Go.undef), (90, .p Go.undef), (89, .p Go.undef), (88, .p Go.undef), (87, .p Go.undef), (86, .p Go.undef), (85, .p Go.undef), (84, .p Go.undef), (83, .p Go.undef), (82, .p Go.undef), (81, .p Go.undef), (80, .p Go.undef), (79, .p Go.undef), (78, vb false), (77, vb false), (76, .p Go.undef), (75, .p Go.undef), (74, .p Go.undef)] [] [] ?_
          refine WD_end (by kernel_rfl) (by kernel_rfl) (by kernel_rfl) ?_
          exact wK [8] [] ⟨false, h, rfl⟩
        replace h := ctrue hb h
        refine Ds 2 [(75, eArr4_i64 r4), (74, eArr4_i64 r2)] [] [(46, [10]), (47, [12])] ?_
        obtain ⟨r63, hr63, h⟩ := bsome h
        refine WD_pt' rfl (by kernel_rfl) (by kernel_rfl) [eArr4_i64 r2, eArr4_i64 r4] (vb r63) rfl (by kernel_rfl) en9 (by kernel_rfl) (clock_Below_ok hr63) (by kernel_rfl) ?_
        refine Ds 2 [(78, vb r63), (77, vb r63)] [] [] ?_
        cases hb : (r63 : Bool)
        · replace h := cfalse hb h
          refine Ds 53 [(8, vb false), (130, vb false), (129, .p Go.undef), (128, .p Go.undef), (127, .p Go.undef), (126, .p Go.undef), (125, .p Go.undef), (124, .p Go.undef), (123, .p Go.undef), (122, vb false), (121, vb false), (120, .p Go.undef), (119, .p Go.undef), (118, .p Go.undef), (117, .p Go.undef), (116, .p Go.undef), (115, .p Go.undef), (114, .p Go.undef), (113, vb false), (112, vb false), (111, .p Go.undef), (110, .p Go.undef), (109, .p Go.undef), (108, .p Go.undef), (107, vb false), (106, vb false), (105, .p Go.undef), (104, .p Go.undef), (103, .p Go.undef), (102, vb false), (101, vb false), (100, .p Go.undef), (99, .p Go.undef), (98, .p Go.undef), (97, .p Go.undef), (96, .p Go.undef), (95, vb false), (94, vb false), (93, .p Go.undef), (92, .p Go.undef), (91, .p Go.undef), (90, .p Go.undef), (89, .p Go.undef), (88, .p Go.undef), (87, .p Go.undef), (86, .p Go.undef), (85, .p Go.undef), (84, .p Go.undef), (83, .p Go.undef), (82, .p Go.undef), (81, .p Go.undef), (80, .p Go.undef), (79, .p Go.undef)] [] [] ?_
          refine WD_end (by kernel_rfl) (by kernel_rfl) (by kernel_rfl) ?_
          exact wK [8] [] ⟨false, h, rfl⟩
        replace h := ctrue hb h
        refine Ds 2 [(80, eArr4_i64 r3), (79, eArr4_i64 r1)] [] [(51, [9]), (52, [11])] ?_
        obtain ⟨r64, hr64, h⟩ := bsome h
        refine WD_pt' rfl (by kernel_rfl) (by kernel_rfl) [eArr4_i64 r1, eArr4_i64 r3] (vb r64) rfl (by kernel_rfl) en9 (by kernel_rfl) (clock_Below_ok hr64) (by kernel_rfl) ?_
        refine Ds 2 [(83, vb (!r64)), (82, vb (!r64))] [] [] ?_
        cases hb : (!r64 : Bool)
        · replace h := cfalse hb h
          refine Ds 2 [(85, eArr4_i64 r3), (84, eArr4_i64 r2)] [] [(56, [10]), (57, [11])] ?_
          obtain ⟨r65, hr65, h⟩ := bsome h
          refine WD_pt' rfl (by kernel_rfl) (by kernel_rfl) [eArr4_i64 r2, eArr4_i64 r3] (vb r65) rfl (by kernel_rfl) en9 (by kernel_rfl) (clock_Below_ok hr65) (by kernel_rfl) ?_
          refine Ds 3 [(89, vb (!r65)), (88, vb (!r65)), (87, vb (!r65))] [] [] ?_
          cases hb : (!r65 : Bool)
          · replace h := cfalse hb h
            refine Ds 2 [(91, eArr4_i64 r3), (90, eArr4_i64 r4)] [] [(62, [12]), (63, [11])] ?_
            obtain ⟨r66, hr66, h⟩ := bsome h
            refine WD_pt' rfl (by kernel_rfl) (by kernel_rfl) [eArr4_i64 r4, eArr4_i64 r3] (vb r66) rfl (by kernel_rfl) en9 (by kernel_rfl) (clock_Below_ok hr66) (by kernel_rfl) ?_
            refine Ds 3 [(95, vb r66), (94, vb r66), (93, vb r66)] [] [] ?_
            cases hb : (r66 : Bool)
            · replace h := cfalse hb h
              refine Ds 36 [(8, vb false), (130, vb false), (129, .p Go.undef), (128, .p Go.undef), (127, .p Go.undef), (126, .p Go.undef), (125, .p Go.undef), (124, .p Go.undef), (123, .p Go.undef), (122, vb false), (121, vb false), (120, .p Go.undef), (119, .p Go.undef), (118, .p Go.undef), (117, .p Go.undef), (116, .p Go.undef), (115, .p Go.undef), (114, .p Go.undef), (113, vb false), (112, vb false), (111, .p Go.undef), (110, .p Go.undef), (109, .p Go.undef), (108, .p Go.undef), (107, vb false), (106, vb false), (105, .p Go.undef), (104, .p Go.undef), (103, .p Go.undef), (102, vb false), (101, vb false), (100, .p Go.undef), (99, .p Go.undef), (98, .p Go.undef), (97, .p Go.undef), (96, .p Go.undef)] [] [] ?_
              refine WD_end (by kernel_rfl) (by kernel_rfl) (by kernel_rfl) ?_
              exact wK [8] [] ⟨false, h, rfl⟩
            replace h := ctrue hb h
            refine Ds 3 [(98, eArr4_i64 r1), (97, eArr4_i64 r2), (96, eArr4_i64 r4)] [] [(68, [12]), (69, [10]), (70, [9])] ?_
            obtain ⟨r67, hr67, h⟩ := bsome h
            refine WD_pt' rfl (by kernel_rfl) (by kernel_rfl) [eArr4_i64 r2, eArr4_i64 r1] (eArr4_i64 r67) rfl (by kernel_rfl) en13 (by kernel_rfl) (clock_Join_ok hr67) (by kernel_rfl) ?_
            refine WD_loc' rfl (by kernel_rfl) (by kernel_rfl) (by kernel_rfl) (ev_eqlA [.int .i64 r4.e0 r67.e0, .int .i64 r4.e1 r67.e1, .int .i64 r4.e2 r67.e2, .int .i64 r4.e3 r67.e3] (by kernel_rfl) (by kernel_rfl) (eqlArr [.int .i64 r4.e0 r67.e0, .int .i64 r4.e1 r67.e1, .int .i64 r4.e2 r67.e2, .int .i64 r4.e3 r67.e3] 3 (.int .i64) _ (by kernel_rfl) (by kernel_rfl) (by kernel_rfl) (by kernel_rfl) (by kernel_rfl)) (by kernel_rfl)) (by kernel_rfl) ?_
            refine Dt (vb (andL [r4.e0 == r67.e0, r4.e1 == r67.e1, r4.e2 == r67.e2, r4.e3 == r67.e3])) ?_
            refine Ds 2 [(102, vb (andL [r4.e0 == r67.e0, r4.e1 == r67.e1, r4.e2 == r67.e2, r4.e3 == r67.e3])), (101, vb (andL [r4.e0 == r67.e0, r4.e1 == r67.e1, r4.e2 == r67.e2, r4.e3 == r67.e3]))] [] [] ?_
            cases hb : (andL [r4.e0 == r67.e0, r4.e1 == r67.e1, r4.e2 == r67.e2, r4.e3 == r67.e3] : Bool)
            · replace h := cfalse hb h
              refine Ds 29 [(8, vb false), (130, vb false), (129, .p Go.undef), (128, .p Go.undef), (127, .p Go.undef), (126, .p Go.undef), (125, .p Go.undef), (124, .p Go.undef), (123, .p Go.undef), (122, vb false), (121, vb false), (120, .p Go.undef), (119, .p Go.undef), (118, .p Go.undef), (117, .p Go.undef), (116, .p Go.undef), (115, .p Go.undef), (114, .p Go.undef), (113, vb false), (112, vb false), (111, .p Go.undef), (110, .p Go.undef), (109, .p Go.undef), (108, .p Go.undef), (107, vb false), (106, vb false), (105, .p Go.undef), (104, .p Go.undef), (103, .p Go.undef)] [] [] ?_
              refine WD_end (by kernel_rfl) (by kernel_rfl) (by kernel_rfl) ?_
              exact wK [8] [] ⟨false, h, rfl⟩
            replace h := ctrue hb h
            refine Ds 2 [(104, eArr4_i64 r6), (103, eArr4_i64 r1)] [] [(75, [9]), (76, [13])] ?_
            obtain ⟨r68, hr68, h⟩ := bsome h
            refine WD_pt' rfl (by kernel_rfl) (by kernel_rfl) [eArr4_i64 r1, eArr4_i64 r6] (vb r68) rfl (by kernel_rfl) en9 (by kernel_rfl) (clock_Below_ok hr68) (by kernel_rfl) ?_
            refine Ds 2 [(107, vb r68), (106, vb r68)] [] [] ?_
            cases hb : (r68 : Bool)
            · replace h := cfalse hb h
              refine Ds 24 [(8, vb false), (130, vb false), (129, .p Go.undef), (128, .p Go.undef), (127, .p Go.undef), (126, .p Go.undef), (125, .p Go.undef), (124, .p Go.undef), (123, .p Go.undef), (122, vb false), (121, vb false), (120, .p Go.undef), (119, .p Go.undef), (118, .p Go.undef), (117, .p Go.undef), (116, .p Go.undef), (115, .p Go.undef), (114, .p Go.undef), (113, vb false), (112, vb false), (111, .p Go.undef), (110, .p Go.undef), (109, .p Go.undef), (108, .p Go.undef)] [] [] ?_
              refine WD_end (by kernel_rfl) (by kernel_rfl) (by kernel_rfl) ?_
              exact wK [8] [] ⟨false, h, rfl⟩
            replace h := ctrue hb h
            refine Ds 2 [(109, eArr4_i64 r1), (108, eArr4_i64 r6)] [] [(80, [13]), (81, [9])] ?_
            obtain ⟨r69, hr69, h⟩ := bsome h
            refine WD_pt' rfl (by kernel_rfl) (by kernel_rfl) [eArr4_i64 r6, eArr4_i64 r1] (vb r69) rfl (by kernel_rfl) en9 (by kernel_rfl) (clock_Below_ok hr69) (by kernel_rfl) ?_
            refine Ds 3 [(113, vb (!r69)), (112, vb (!r69)), (111, vb (!r69))] [] [] ?_
            cases hb : (!r69 : Bool)
            · replace h := cfalse hb h
              refine Ds 18 [(8, vb false), (130, vb false), (129, .p Go.undef), (128, .p Go.undef), (127, .p Go.undef), (126, .p Go.undef), (125, .p Go.undef), (124, .p Go.undef), (123, .p Go.undef), (122, vb false), (121, vb false), (120, .p Go.undef), (119, .p Go.undef), (118, .p Go.undef), (117, .p Go.undef), (116, .p Go.undef), (115, .p Go.undef), (114, .p Go.undef)] [] [] ?_
              refine WD_end (by kernel_rfl) (by kernel_rfl) (by kernel_rfl) ?_
              exact wK [8] [] ⟨false, h, rfl⟩
            replace h := ctrue hb h
            refine Ds 2 [(115, eArr4_i64 r2), (114, eArr4_i64 r1)] [] [(86, [9]), (87, [10])] ?_
            obtain ⟨r70, hr70, h⟩ := bsome h
            refine WD_pt' rfl (by kernel_rfl) (by kernel_rfl) [eArr4_i64 r1, eArr4_i64 r2] (vb r70) rfl (by kernel_rfl) en10 (by kernel_rfl) (clock_Apart_ok hr70) (by kernel_rfl) ?_
            refine Ds 2 [(118, eArr4_i64 r1), (117, eArr4_i64 r2)] [] [(89, [10]), (90, [9])] ?_
            obtain ⟨r71, hr71, h⟩ := bsome h
            refine WD_pt' rfl (by kernel_rfl) (by kernel_rfl) [eArr4_i64 r2, eArr4_i64 r1] (vb r71) rfl (by kernel_rfl) en10 (by kernel_rfl) (clock_Apart_ok hr71) (by kernel_rfl) ?_
            refine Ds 3 [(122, vb (r70 == r71)), (121, vb (r70 == r71)), (120, vb (r70 == r71))] [] [] ?_
            cases hb : ((r70 == r71) : Bool)
            · replace h := cfalse hb h
              refine Ds 9 [(8, vb false), (130, vb false), (129, .p Go.undef), (128, .p Go.undef), (127, .p Go.undef), (126, .p Go.undef), (125, .p Go.undef), (124, .p Go.undef), (123, .p Go.undef)] [] [] ?_
              refine WD_end (by kernel_rfl) (by kernel_rfl) (by kernel_rfl) ?_
              exact wK [8] [] ⟨false, h, rfl⟩
            replace h := ctrue hb h
            refine Ds 2 [(124, eArr4_i64 r2), (123, eArr4_i64 r1)] [] [(95, [9]), (96, [10])] ?_
            obtain ⟨r72, hr72, h⟩ := bsome h
            refine WD_pt' rfl (by kernel_rfl) (by kernel_rfl) [eArr4_i64 r1, eArr4_i64 r2] (vb r72) rfl (by kernel_rfl) en9 (by kernel_rfl) (clock_Below_ok hr72) (by kernel_rfl) ?_
            refine Ds 2 [(127, eArr4_i64 r2), (126, eArr4_i64 r4)] [] [(98, [12]), (99, [10])] ?_
            refine WD_loc' rfl (by kernel_rfl) (by kernel_rfl) (by kernel_rfl) (ev_eqlA [.int .i64 r4.e0 r2.e0, .int .i64 r4.e1 r2.e1, .int .i64 r4.e2 r2.e2, .int .i64 r4.e3 r2.e3] (by kernel_rfl) (by kernel_rfl) (eqlArr [.int .i64 r4.e0 r2.e0, .int .i64 r4.e1 r2.e1, .int .i64 r4.e2 r2.e2, .int .i64 r4.e3 r2.e3] 3 (.int .i64) _ (by kernel_rfl) (by kernel_rfl) (by kernel_rfl) (by kernel_rfl) (by kernel_rfl)) (by kernel_rfl)) (by kernel_rfl) ?_
            refine Dt (vb (andL [r4.e0 == r2.e0, r4.e1 == r2.e1, r4.e2 == r2.e2, r4.e3 == r2.e3])) ?_
            refine Ds 3 [(8, vb (r72 == (andL [r4.e0 == r2.e0, r4.e1 == r2.e1, r4.e2 == r2.e2, r4.e3 == r2.e3]))), (130, vb (r72 == (andL [r4.e0 == r2.e0, r4.e1 == r2.e1, r4.e2 == r2.e2, r4.e3 == r2.e3]))), (129, vb (r72 == (andL [r4.e0 == r2.e0, r4.e1 == r2.e1, r4.e2 == r2.e2, r4.e3 == r2.e3])))] [] [] ?_
            refine WD_end (by kernel_rfl) (by kernel_rfl) (by kernel_rfl) ?_
            exact wK [8] [] ⟨(r72 == (andL [r4.e0 == r2.e0, r4.e1 == r2.e1, r4.e2 == r2.e2, r4.e3 == r2.e3])), h, rfl⟩
          replace h := ctrue hb h
          refine Ds 9 [(98, eArr4_i64 r1), (97, eArr4_i64 r2), (96, eArr4_i64 r4), (95, vb true), (94, vb true), (93, vb true), (92, .p Go.undef), (91, .p Go.undef), (90, .p Go.undef)] [] [(68, [12]), (69, [10]), (70, [9])] ?_
          obtain ⟨r73, hr73, h⟩ := bsome h
          refine WD_pt' rfl (by kernel_rfl) (by kernel_rfl) [eArr4_i64 r2, eArr4_i64 r1] (eArr4_i64 r73) rfl (by kernel_rfl) en13 (by kernel_rfl) (clock_Join_ok hr73) (by kernel_rfl) ?_
          refine WD_loc' rfl (by kernel_rfl) (by kernel_rfl) (by kernel_rfl) (ev_eqlA [.int .i64 r4.e0 r73.e0, .int .i64 r4.e1 r73.e1, .int .i64 r4.e2 r73.e2, .int .i64 r4.e3 r73.e3] (by kernel_rfl) (by kernel_rfl) (eqlArr [.int .i64 r4.e0 r73.e0, .int .i64 r4.e1 r73.e1, .int .i64 r4.e2 r73.e2, .int .i64 r4.e3 r73.e3] 3 (.int .i64) _ (by kernel_rfl) (by kernel_rfl) (by kernel_rfl) (by kernel_rfl) (by kernel_rfl)) (by kernel_rfl)) (by kernel_rfl) ?_
          refine Dt (vb (andL [r4.e0 == r73.e0, r4.e1 == r73.e1, r4.e2 == r73.e2, r4.e3 == r73.e3])) ?_
          refine Ds 2 [(102, vb (andL [r4.e0 == r73.e0, r4.e1 == r73.e1, r4.e2 == r73.e2, r4.e3 == r73.e3])), (101, vb (andL [r4.e0 == r73.e0, r4.e1 == r73.e1, r4.e2 == r73.e2, r4.e3 == r73.e3]))] [] [] ?_
          cases hb : (andL [r4.e0 == r73.e0, r4.e1 == r73.e1, r4.e2 == r73.e2, r4.e3 == r73.e3] : Bool)
          · replace h := cfalse hb h
            refine Ds 29 [(8, vb false), (130, vb false), (129, .p Go.undef), (128, .p Go.undef), (127, .p Go.undef), (126, .p Go.undef), (125, .p Go.undef), (124, .p Go.undef), (123, .p Go.undef), (122, vb false), (121, vb false), (120, .p Go.undef), (119, .p Go.undef), (118, .p Go.undef), (117, .p Go.undef), (116, .p Go.undef), (115, .p Go.undef), (114, .p Go.undef), (113, vb false), (112, vb false), (111, .p Go.undef), (110, .p Go.undef), (109, .p Go.undef), (108, .p Go.undef), (107, vb false), (106, vb false), (105, .p Go.undef), (104, .p Go.undef), (103, .p Go.undef)] [] [] ?_
            refine WD_end (by kernel_rfl) (by kernel_rfl) (by kernel_rfl) ?_
            exact wK [8] [] ⟨false, h, rfl⟩
          replace h := ctrue hb h
          refine Ds 2 [(104, eArr4_i64 r6), (103, eArr4_i64 r1)] [] [(75, [9]), (76, [13])] ?_
          obtain ⟨r74, hr74, h⟩ := bsome h
          refine WD_pt' rfl (by kernel_rfl) (by kernel_rfl) [eArr4_i64 r1, eArr4_i64 r6] (vb r74) rfl (by kernel_rfl) en9 (by kernel_rfl) (clock_Below_ok hr74) (by kernel_rfl) ?_
          refine Ds 2 [(107, vb r74), (106, vb r74)] [] [] ?_
          cases hb : (r74 : Bool)
          · replace h := cfalse hb h
            refine Ds 24 [(8, vb false), (130, vb false), (129, .p Go.undef), (128, .p Go.undef), (127, .p Go.undef), (126, .p Go.undef), (125, .p Go.undef), (124, .p Go.undef), (123, .p Go.undef), (122, vb false), (121, vb false), (120, .p Go.undef), (119, .p Go.undef), (118, .p Go.undef), (117, .p Go.undef), (116, .p Go.undef), (115, .p Go.undef), (114, .p Go.undef), (113, vb false), (112, vb false), (111, .p Go.undef), (110, .p Go.undef), (109, .p Go.undef), (108, .p Go.undef)] [] [] ?_
            refine WD_end (by kernel_rfl) (by kernel_rfl) (by kernel_rfl) ?_
            exact wK [8] [] ⟨false, h, rfl⟩
          replace h := ctrue hb h
          refine Ds 2 [(109, eArr4_i64 r1), (108, eArr4_i64 r6)] [] [(80, [13]), (81, [9])] ?_
          obtain ⟨r75, hr75, h⟩ := bsome h
          refine WD_pt' rfl (by kernel_rfl) (by kernel_rfl) [eArr4_i64 r6, eArr4_i64 r1] (vb r75) rfl (by kernel_rfl) en9 (by kernel_rfl) (clock_Below_ok hr75) (by kernel_rfl) ?_
          refine Ds 3 [(113, vb (!r75)), (112, vb (!r75)), (111, vb (!r75))] [] [] ?_
          cases hb : (!r75 : Bool)
          · replace h := cfalse hb h
            refine Ds 18 [(8, vb false), (130, vb false), (129, .p Go.undef), (128, .p Go.undef), (127, .p Go.undef), (126, .p Go.undef), (125, .p Go.undef), (124, .p Go.undef), (123, .p Go.undef), (122, vb false), (121, vb false), (120, .p Go.undef), (119, .p Go.undef), (118, .p Go.undef), (117, .p Go.undef), (116, .p Go.undef), (115, .p Go.undef), (114, .p Go.undef)] [] [] ?_
            refine WD_end (by kernel_rfl) (by kernel_rfl) (by kernel_rfl) ?_
            exact wK [8] [] ⟨false, h, rfl⟩
          replace h := ctrue hb h
          refine Ds 2 [(115, eArr4_i64 r2), (114, eArr4_i64 r1)] [] [(86, [9]), (87, [10])] ?_
          obtain ⟨r76, hr76, h⟩ := bsome h
          refine WD_pt' rfl (by kernel_rfl) (by kernel_rfl) [eArr4_i64 r1, eArr4_i64 r2] (vb r76) rfl (by kernel_rfl) en10 (by kernel_rfl) (clock_Apart_ok hr76) (by kernel_rfl) ?_
          refine Ds 2 [(118, eArr4_i64 r1), (117, eArr4_i64 r2)] [] [(89, [10]), (90, [9])] ?_
          obtain ⟨r77, hr77, h⟩ := bsome h
          refine WD_pt' rfl (by kernel_rfl) (by kernel_rfl) [eArr4_i64 r2, eArr4_i64 r1] (vb r77) rfl (by kernel_rfl) en10 (by kernel_rfl) (clock_Apart_ok hr77) (by kernel_rfl) ?_
          refine Ds 3 [(122, vb (r76 == r77)), (121, vb (r76 == r77)), (120, vb (r76 == r77))] [] [] ?_
          cases hb : ((r76 == r77) : Bool)
          · replace h := cfalse hb h
            refine Ds 9 [(8, vb false), (130, vb false), (129, .p Go.undef), (128, .p Go.undef), (127, .p Go.undef), (126, .p Go.undef), (125, .p Go.undef), (124, .p Go.undef), (123, .p Go.undef)] [] [] ?_
            refine WD_end (by kernel_rfl) (by kernel_rfl) (by kernel_rfl) ?_
            exact wK [8] [] ⟨false, h, rfl⟩
          replace h := ctrue hb h
          refine Ds 2 [(124, eArr4_i64 r2), (123, eArr4_i64 r1)] [] [(95, [9]), (96, [10])] ?_
          obtain ⟨r78, hr78, h⟩ := bsome h
          refine WD_pt' rfl (by kernel_rfl) (by kernel_rfl) [eArr4_i64 r1, eArr4_i64 r2] (vb r78) rfl (by kernel_rfl) en9 (by kernel_rfl) (clock_Below_ok hr78) (by kernel_rfl) ?_
          refine Ds 2 [(127, eArr4_i64 r2), (126, eArr4_i64 r4)] [] [(98, [12]), (99, [10])] ?_
          refine WD_loc' rfl (by kernel_rfl) (by kernel_rfl) (by kernel_rfl) (ev_eqlA [.int .i64 r4.e0 r2.e0, .int .i64 r4.e1 r2.e1, .int .i64 r4.e2 r2.e2, .int .i64 r4.e3 r2.e3] (by kernel_rfl) (by kernel_rfl) (eqlArr [.int .i64 r4.e0 r2.e0, .int .i64 r4.e1 r2.e1, .int .i64 r4.e2 r2.e2, .int .i64 r4.e3 r2.e3] 3 (.int .i64) _ (by kernel_rfl) (by kernel_rfl) (by kernel_rfl) (by kernel_rfl) (by kernel_rfl)) (by kernel_rfl)) (by kernel_rfl) ?_
          refine Dt (vb (andL [r4.e0 == r2.e0, r4.e1 == r2.e1, r4.e2 == r2.e2, r4.e3 == r2.e3])) ?_
          refine Ds 3 [(8, vb (r78 == (andL [r4.e0 == r2.e0, r4.e1 == r2.e1, r4.e2 == r2.e2, r4.e3 == r2.e3]))), (130, vb (r78 == (andL [r4.e0 == r2.e0, r4.e1 == r2.e1, r4.e2 == r2.e2, r4.e3 == r2.e3]))), (129, vb (r78 == (andL [r4.e0 == r2.e0, r4.e1 == r2.e1, r4.e2 == r2.e2, r4.e3 == r2.e3])))] [] [] ?_
          refine WD_end (by kernel_rfl) (by kernel_rfl) (by kernel_rfl) ?_
          exact wK [8] [] ⟨(r78 == (andL [r4.e0 == r2.e0, r4.e1 == r2.e1, r4.e2 == r2.e2, r4.e3 == r2.e3])), h, rfl⟩
        replace h := ctrue hb h
        refine Ds 15 [(98, eArr4_i64 r1), (97, eArr4_i64 r2), (96, eArr4_i64 r4), (95, vb true), (94, vb true), (93, vb true), (92, .p Go.undef), (91, .p Go.undef), (90, .p Go.undef), (89, vb true), (88, vb true), (87, .p Go.undef), (86, .p Go.undef), (85, .p Go.undef), (84, .p Go.undef)] [] [(68, [12]), (69, [10]), (70, [9])] ?_
        obtain ⟨r79, hr79, h⟩ := bsome h
        refine WD_pt' rfl (by kernel_rfl) (by kernel_rfl) [eArr4_i64 r2, eArr4_i64 r1] (eArr4_i64 r79) rfl (by kernel_rfl) en13 (by kernel_rfl) (clock_Join_ok hr79) (by kernel_rfl) ?_
        refine WD_loc' rfl (by kernel_rfl) (by kernel_rfl) (by kernel_rfl) (ev_eqlA [.int .i64 r4.e0 r79.e0, .int .i64 r4.e1 r79.e1, .int .i64 r4.e2 r79.e2, .int .i64 r4.e3 r79.e3] (by kernel_rfl) (by kernel_rfl) (eqlArr [.int .i64 r4.e0 r79.e0, .int .i64 r4.e1 r79.e1, .int .i64 r4.e2 r79.e2, .int .i64 r4.e3 r79.e3] 3 (.int .i64) _ (by kernel_rfl) (by kernel_rfl) (by kernel_rfl) (by kernel_rfl) (by kernel_rfl)) (by kernel_rfl)) (by kernel_rfl) ?_
        refine Dt (vb (andL [r4.e0 == r79.e0, r4.e1 == r79.e1, r4.e2 == r79.e2, r4.e3 == r79.e3])) ?_
        refine Ds 2 [(102, vb (andL [r4.e0 == r79.e0, r4.e1 == r79.e1, r4.e2 == r79.e2, r4.e3 == r79.e3])), (101, vb (andL [r4.e0 == r79.e0, r4.e1 == r79.e1, r4.e2 == r79.e2, r4.e3 == r79.e3]))] [] [] ?_
        cases hb : (andL [r4.e0 == r79.e0, r4.e1 == r79.e1, r4.e2 == r79.e2, r4.e3 == r79.e3] : Bool)
        · replace h := cfalse hb h
          refine Ds 29 [(8, vb false), (130, vb false), (129, .p Go.undef), (128, .p Go.undef), (127, .p Go.undef), (126, .p Go.undef), (125, .p Go.undef), (124, .p Go.undef), (123, .p Go.undef), (122, vb false), (121, vb false), (120, .p Go.undef), (119, .p Go.undef), (118, .p Go.undef), (117, .p Go.undef), (116, .p Go.undef), (115, .p Go.undef), (114, .p Go.undef), (113, vb false), (112, vb false), (111, .p Go.undef), (110, .p Go.undef), (109, .p Go.undef), (108, .p Go.undef), (107, vb false), (106, vb false), (105, .p Go.undef), (104, .p Go.undef), (103, .p Go.undef)] [] [] ?_
          refine WD_end (by kernel_rfl) (by kernel_rfl) (by kernel_rfl) ?_
          exact wK [8] [] ⟨false, h, rfl⟩
        replace h := ctrue hb h
        refine Ds 2 [(104, eArr4_i64 r6), (103, eArr4_i64 r1)] [] [(75, [9]), (76, [13])] ?_
        obtain ⟨r80, hr80, h⟩ := bsome h
        refine WD_pt' rfl (by kernel_rfl) (by kernel_rfl) [eArr4_i64 r1, eArr4_i64 r6] (vb r80) rfl (by kernel_rfl) en9 (by kernel_rfl) (clock_Below_ok hr80) (by kernel_rfl) ?_
        refine Ds 2 [(107, vb r80), (106, vb r80)] [] [] ?_
        cases hb : (r80 : Bool)
        · replace h := cfalse hb h
          refine Ds 24 [(8, vb false), (130, vb false), (129, .p Go.undef), (128, .p Go.undef), (127, .p Go.undef), (126, .p Go.undef), (125, .p Go.undef), (124, .p Go.undef), (123, .p Go.undef), (122, vb false), (121, vb false), (120, .p Go.undef), (119, .p Go.undef), (118, .p Go.undef), (117, .p Go.undef), (116, .p Go.undef), (115, .p Go.undef), (114, .p Go.undef), (113, vb false), (112, vb false), (111, .p Go.undef), (110, .p Go.undef), (109, .p Go.undef), (108, .p Go.undef)] [] [] ?_
          refine WD_end (by kernel_rfl) (by kernel_rfl) (by kernel_rfl) ?_
          exact wK [8] [] ⟨false, h, rfl⟩
        replace h := ctrue hb h
        refine Ds 2 [(109, eArr4_i64 r1), (108, eArr4_i64 r6)] [] [(80, [13]), (81, [9])] ?_
        obtain ⟨r81, hr81, h⟩ := bsome h
        refine WD_pt' rfl (by kernel_rfl) (by kernel_rfl) [eArr4_i64 r6, eArr4_i64 r1] (vb r81) rfl (by kernel_rfl) en9 (by kernel_rfl) (clock_Below_ok hr81) (by kernel_rfl) ?_
        refine Ds 3 [(113, vb (!r81)), (112, vb (!r81)), (111, vb (!r81))] [] [] ?_
        cases hb : (!r81 : Bool)
        · replace h := cfalse hb h
          refine Ds 18 [(8, vb false), (130, vb false), (129, .p Go.undef), (128, .p Go.undef), (127, .p Go.undef), (126, .p Go.undef), (125, .p Go.undef), (124, .p Go.undef), (123, .p Go.undef), (122, vb false), (121, vb false), (120, .p Go.undef), (119, .p Go.undef), (118, .p Go.undef), (117, .p Go.undef), (116, .p Go.undef), (115, .p Go.undef), (114, .p Go.undef)] [] [] ?_
          refine WD_end (by kernel_rfl) (by kernel_rfl) (by kernel_rfl) ?_
          exact wK [8] [] ⟨false, h, rfl⟩
        replace h := ctrue hb h
        refine Ds 2 [(115, eArr4_i64 r2), (114, eArr4_i64 r1)] [] [(86, [9]), (87, [10])] ?_
        obtain ⟨r82, hr82, h⟩ := bsome h
        refine WD_pt' rfl (by kernel_rfl) (by kernel_rfl) [eArr4_i64 r1, eArr4_i64 r2] (vb r82) rfl (by kernel_rfl) en10 (by kernel_rfl) (clock_Apart_ok hr82) (by kernel_rfl) ?_
        refine Ds 2 [(118, eArr4_i64 r1), (117, eArr4_i64 r2)] [] [(89, [10]), (90, [9])] ?_
        obtain ⟨r83, hr83, h⟩ := bsome h
        refine WD_pt' rfl (by kernel_rfl) (by kernel_rfl) [eArr4_i64 r2, eArr4_i64 r1] (vb r83) rfl (by kernel_rfl) en10 (by kernel_rfl) (clock_Apart_ok hr83) (by kernel_rfl) ?_
        refine Ds 3 [(122, vb (r82 == r83)), (121, vb (r82 == r83)), (120, vb (r82 == r83))] [] [] ?_
        cases hb : ((r82 == r83) : Bool)
        · replace h := cfalse hb h
          refine Ds 9 [(8, vb false), (130, vb false), (129, .p Go.undef), (128, .p Go.undef), (127, .p Go.undef), (126, .p Go.undef), (125, .p Go.undef), (124, .p Go.undef), (123, .p Go.undef)] [] [] ?_
          refine WD_end (by kernel_rfl) (by kernel_rfl) (by kernel_rfl) ?_
          exact wK [8] [] ⟨false, h, rfl⟩
        replace h := ctrue hb h
        refine Ds 2 [(124, eArr4_i64 r2), (123, eArr4_i64 r1)] [] [(95, [9]), (96, [10])] ?_
        obtain ⟨r84, hr84, h⟩ := bsome h
        refine WD_pt' rfl (by kernel_rfl) (by kernel_rfl) [eArr4_i64 r1, eArr4_i64 r2] (vb r84) rfl (by kernel_rfl) en9 (by kernel_rfl) (clock_Below_ok hr84) (by kernel_rfl) ?_
        refine Ds 2 [(127, eArr4_i64 r2), (126, eArr4_i64 r4)] [] [(98, [12]), (99, [10])] ?_
        refine WD_loc' rfl (by kernel_rfl) (by kernel_rfl) (by kernel_rfl) (ev_eqlA [.int .i64 r4.e0 r2.e0, .int .i64 r4.e1 r2.e1, .int .i64 r4.e2 r2.e2, .int .i64 r4.e3 r2.e3] (by kernel_rfl) (by kernel_rfl) (eqlArr [.int .i64 r4.e0 r2.e0, .int .i64 r4.e1 r2.e1, .int .i64 r4.e2 r2.e2, .int .i64 r4.e3 r2.e3] 3 (.int .i64) _ (by kernel_rfl) (by kernel_rfl) (by kernel_rfl) (by kernel_rfl) (by kernel_rfl)) (by kernel_rfl)) (by kernel_rfl) ?_
        refine Dt (vb (andL [r4.e0 == r2.e0, r4.e1 == r2.e1, r4.e2 == r2.e2, r4.e3 == r2.e3])) ?_
        refine Ds 3 [(8, vb (r84 == (andL [r4.e0 == r2.e0, r4.e1 == r2.e1, r4.e2 == r2.e2, r4.e3 == r2.e3]))), (130, vb (r84 == (andL [r4.e0 == r2.e0, r4.e1 == r2.e1, r4.e2 == r2.e2, r4.e3 == r2.e3]))), (129, vb (r84 == (andL [r4.e0 == r2.e0, r4.e1 == r2.e1, r4.e2 == r2.e2, r4.e3 == r2.e3])))] [] [] ?_
        refine WD_end (by kernel_rfl) (by kernel_rfl) (by kernel_rfl) ?_
        exact wK [8] [] ⟨(r84 == (andL [r4.e0 == r2.e0, r4.e1 == r2.e1, r4.e2 == r2.e2, r4.e3 == r2.e3])), h, rfl⟩
      replace h := ctrue hb h
      refine Ds 8 [(53, eArr4_i64 r2), (52, eArr4_i64 r1), (51, vb true), (50, vb true), (49, vb true), (48, .p Go.undef), (47, .p Go.undef), (46, .p Go.undef)] [] [(24, [9]), (25, [10])] ?_
      obtain ⟨r85, hr85, h⟩ := bsome h
      refine WD_pt' rfl (by kernel_rfl) (by kernel_rfl) [eArr4_i64 r1, eArr4_i64 r2] (vb r85) rfl (by kernel_rfl) en9 (by kernel_rfl) (clock_Below_ok hr85) (by kernel_rfl) ?_
      refine Ds 2 [(56, vb (!r85)), (55, vb (!r85))] [] [] ?_
      cases hb : (!r85 : Bool)
      · replace h := cfalse hb h
        refine Ds 2 [(58, eArr4_i64 r3), (57, eArr4_i64 r2)] [] [(29, [10]), (30, [11])] ?_
        obtain ⟨r86, hr86, h⟩ := bsome h
        refine WD_pt' rfl (by kernel_rfl) (by kernel_rfl) [eArr4_i64 r2, eArr4_i64 r3] (vb r86) rfl (by kernel_rfl) en9 (by kernel_rfl) (clock_Below_ok hr86) (by kernel_rfl) ?_
        refine Ds 3 [(62, vb (!r86)), (61, vb (!r86)), (60, vb (!r86))] [] [] ?_
        cases hb : (!r86 : Bool)
        · replace h := cfalse hb h
          refine Ds 2 [(64, eArr4_i64 r3), (63, eArr4_i64 r1)] [] [(35, [9]), (36, [11])] ?_
          obtain ⟨r87, hr87, h⟩ := bsome h
          refine WD_pt' rfl (by kernel_rfl) (by kernel_rfl) [eArr4_i64 r1, eArr4_i64 r3] (vb r87) rfl (by kernel_rfl) en9 (by kernel_rfl) (clock_Below_ok hr87) (by kernel_rfl) ?_
          refine Ds 3 [(68, vb r87), (67, vb r87), (66, vb r87)] [] [] ?_
          cases hb : (r87 : Bool)
          · replace h := cfalse hb h
            refine Ds 63 [(8, vb false), (130, vb false), (129, .p Go.undef), (128, .p Go.undef), (127, .p Go.undef), (126, .p Go.undef), (125, .p Go.undef), (124, .p Go.undef), (123, .p Go.undef), (122, vb false), (121, vb false), (120, .p Go.undef), (119, .p Go.undef), (118, .p Go.undef), (117, .p Go.undef), (116, .p Go.undef), (115, .p Go.undef), (114, .p Go.undef), (113, vb false), (112, vb false), (111, .p Go.undef), (110, .p Go.undef), (109, .p Go.undef), (108, .p Go.undef), (107, vb false), (106, vb false), (105, .p Go.undef), (104, .p Go.undef), (103, .p Go.undef), (102, vb false), (101, vb false), (100, .p Go.undef), (99, .p Go.undef), (98, .p Go.undef), (97, .p Go.undef), (96, .p Go.undef), (95, vb false), (94, vb false), (93, .p Go.undef), (92, .p Go.undef), (91, .p Go.undef), (90, .p Go.undef), (89, .p Go.undef), (88, .p Go.undef), (87, .p Go.undef), (86, .p Go.undef), (85, .p Go.undef), (84, .p Go.undef), (83, .p Go.undef), (82, .p Go.undef), (81, .p Go.undef), (80, .p Go.undef), (79, .p Go.undef), (78, vb false), (77, vb false), (76, .p Go.undef), (75, .p Go.undef), (74, .p Go.undef), (73, vb false), (72, vb false), (71, .p Go.undef), (70, .p Go.undef), (69, .p Go.undef)] [] [] ?_
            refine WD_end (by kernel_rfl) (by kernel_rfl) (by kernel_rfl) ?_
            exact wK [8] [] ⟨false, h, rfl⟩
          replace h := ctrue hb h
          refine Ds 2 [(70, eArr4_i64 r4), (69, eArr4_i64 r1)] [] [(41, [9]), (42, [12])] ?_
          obtain ⟨r88, hr88, h⟩ := bsome h
          refine WD_pt' rfl (by kernel_rfl) (by kernel_rfl) [eArr4_i64 r1, eArr4_i64 r4] (vb r88) rfl (by kernel_rfl) en9 (by kernel_rfl) (clock_Below_ok hr88) (by kernel_rfl) ?_
          refine Ds 2 [(73, vb r88), (72, vb r88)] [] [] ?_
          cases hb : (r88 : Bool)
          · replace h := cfalse hb h
            refine Ds 58 [(8, vb false), (130, vb false), (129, .p Go.undef), (128, .p Go.undef), (127, .p Go.undef), (126, .p Go.undef), (125, .p Go.undef), (124, .p Go.undef), (123, .p Go.undef), (122, vb false), (121, vb false), (120, .p Go.undef), (119, .p Go.undef), (118, .p Go.undef), (117, .p Go.undef), (116, .p Go.undef), (115, .p Go.undef), (114, .p Go.undef), (113, vb false), (112, vb false), (111, .p Go.undef), (110, .p Go.undef), (109, .p Go.undef), (108, .p Go.undef), (107, vb false), (106, vb false), (105, .p Go.undef), (104, .p Go.undef), (103, .p Go.undef), (102, vb false), (101, vb false), (100, .p Go.undef), (99, .p Go.undef), (98, .p Go.undef), (97, .p Go.undef), (96, .p Go.undef), (95, vb false), (94, vb false), (93, .p Go.undef), (92, .p Go.undef), (91, .p Go.undef), (90, .p Go.undef), (89, .p Go.undef), (88, .p Go.undef), (87, .p Go.undef), (86, .p Go.undef), (85, .p Go.undef), (84, .p Go.undef), (83, .p Go.undef), (82, .p Go.undef), (81, .p Go.undef), (80, .p Go.undef), (79, .p Go.undef), (78, vb false), (77, vb false), (76, .p Go.undef), (75, .p Go.undef), (74, .p Go.undef)] [] [] ?_
            refine WD_end (by kernel_rfl) (by kernel_rfl) (by kernel_rfl) ?_
            exact wK [8] [] ⟨false, h, rfl⟩
          replace h := ctrue hb h
          refine Ds 2 [(75, eArr4_i64 r4), (74, eArr4_i64 r2)] [] [(46, [10]), (47, [12])] ?_
          obtain ⟨r89, hr89, h⟩ := bsome h
          refine WD_pt' rfl (by kernel_rfl) (by kernel_rfl) [eArr4_i64 r2, eArr4_i64 r4] (vb r89) rfl (by kernel_rfl) en9 (by kernel_rfl) (clock_Below_ok hr89) (by kernel_rfl) ?_
          refine Ds 2 [(78, vb r89), (77, vb r89)] [] [] ?_
          cases hb : (r89 : Bool)
          · replace h := cfalse hb h
            refine Ds 53 [(8, vb false), (130, vb false), (129, .p Go.undef), (128, .p Go.undef), (127, .p Go.undef), (126, .p Go.undef), (125, .p Go.undef), (124, .p Go.undef), (123, .p Go.undef), (122, vb false), (121, vb false), (120, .p Go.undef), (119, .p Go.undef), (118, .p Go.undef), (117, .p Go.undef), (116, .p Go.undef), (115, .p Go.undef), (114, .p Go.undef), (113, vb false), (112, vb false), (111, .p Go.undef), (110, .p Go.undef), (109, .p Go.undef), (108, .p Go.undef), (107, vb false), (106, vb false), (105, .p Go.undef), (104, .p Go.undef), (103, .p Go.undef), (102, vb false), (101, vb false), (100, .p Go.undef), (99, .p Go.undef), (98, .p Go.undef), (97, .p Go.undef), (96, .p Go.undef), (95, vb false), (94, vb false), (93, .p Go.undef), (92, .p Go.undef), (91, .p Go.undef), (90, .p Go.undef), (89, .p Go.undef), (88, .p Go.undef), (87, .p Go.undef), (86, .p Go.undef), (85, .p Go.undef), (84, .p Go.undef), (83, .p Go.undef), (82, .p Go.undef), (81, .p Go.undef), (80, .p Go.undef), (79, .p Go.undef)] [] [] ?_
            refine WD_end (by kernel_rfl) (by kernel_rfl) (by kernel_rfl) ?_
            exact wK [8] [] ⟨false, h, rfl⟩
          replace h := ctrue hb h
          refine Ds 2 [(80, eArr4_i64 r3), (79, eArr4_i64 r1)] [] [(51, [9]), (52, [11])] ?_
          obtain ⟨r90, hr90, h⟩ := bsome h
          refine WD_pt' rfl (by kernel_rfl) (by kernel_rfl) [eArr4_i64 r1, eArr4_i64 r3] (vb r90) rfl (by kernel_rfl) en9 (by kernel_rfl) (clock_Below_ok hr90) (by kernel_rfl) ?_
          refine Ds 2 [(83, vb (!r90)), (82, vb (!r90))] [] [] ?_
          cases hb : (!r90 : Bool)
          · replace h := cfalse hb h
            refine Ds 2 [(85, eArr4_i64 r3), (84, eArr4_i64 r2)] [] [(56, [10]), (57, [11])] ?_
            obtain ⟨r91, hr91, h⟩ := bsome h
            refine WD_pt' rfl (by kernel_rfl) (by kernel_rfl) [eArr4_i64 r2, eArr4_i64 r3] (vb r91) rfl (by kernel_rfl) en9 (by kernel_rfl) (clock_Below_ok hr91) (by kernel_rfl) ?_
            refine Ds 3 [(89, vb (!r91)), (88, vb (!r91)), (87, vb (!r91))] [] [] ?_
            cases hb : (!r91 : Bool)
            · replace h := cfalse hb h
              refine Ds 2 [(91, eArr4_i64 r3), (90, eArr4_i64 r4)] [] [(62, [12]), (63, [11])] ?_
              obtain ⟨r92, hr92, h⟩ := bsome h
              refine WD_pt' rfl (by kernel_rfl) (by kernel_rfl) [eArr4_i64 r4, eArr4_i64 r3] (vb r92) rfl (by kernel_rfl) en9 (by kernel_rfl) (clock_Below_ok hr92) (by kernel_rfl) ?_
              refine Ds 3 [(95, vb r92), (94, vb r92), (93, vb r92)] [] [] ?_
              cases hb : (r92 : Bool)
              · replace h := cfalse hb h
                refine Ds 36 [(8, vb false), (130, vb false), (129, .p Go.undef), (128, .p Go.undef), (127, .p Go.undef), (126, .p Go.undef), (125, .p Go.undef), (124, .p Go.undef), (123, .p Go.undef), (122, vb false), (121, vb false), (120, .p Go.undef), (119, .p Go.undef), (118, .p Go.undef), (117, .p Go.undef), (116, .p Go.undef), (115, .p Go.undef), (114, .p Go.undef), (113, vb false), (112, vb false), (111, .p Go.undef), (110, .p Go.undef), (109, .p Go.undef), (108, .p Go.undef), (107, vb false), (106, vb false), (105, .p Go.undef), (104, .p Go.undef), (103, .p Go.undef), (102, vb false), (101, vb false), (100, .p Go.undef), (99, .p Go.undef), (98, .p Go.undef), (97, .p Go.undef), (96, .p Go.undef)] [] [] ?_
                refine WD_end (by kernel_rfl) (by kernel_rfl) (by kernel_rfl) ?_
                exact wK [8] [] ⟨false, h, rfl⟩
              replace h := ctrue hb h
              refine Ds 3 [(98, eArr4_i64 r1), (97, eArr4_i64 r2), (96, eArr4_i64 r4)] [] [(68, [12]), (69, [10]), (70, [9])] ?_
              obtain ⟨r93, hr93, h⟩ := bsome h
              refine WD_pt' rfl (by kernel_rfl) (by kernel_rfl) [eArr4_i64 r2, eArr4_i64 r1] (eArr4_i64 r93) rfl (by kernel_rfl) en13 (by kernel_rfl) (clock_Join_ok hr93) (by kernel_rfl) ?_
              refine WD_loc' rfl (by kernel_rfl) (by kernel_rfl) (by kernel_rfl) (ev_eqlA [.int .i64 r4.e0 r93.e0, .int .i64 r4.e1 r93.e1, .int .i64 r4.e2 r93.e2, .int .i64 r4.e3 r93.e3] (by kernel_rfl) (by kernel_rfl) (eqlArr [.int .i64 r4.e0 r93.e0, .int .i64 r4.e1 r93.e1, .int .i64 r4.e2 r93.e2, .int .i64 r4.e3 r93.e3] 3 (.int .i64) _ (by kernel_rfl) (by kernel_rfl) (by kernel_rfl) (by kernel_rfl) (by kernel_rfl)) (by kernel_rfl)) (by kernel_rfl) ?_
              refine Dt (vb (andL [r4.e0 == r93.e0, r4.e1 == r93.e1, r4.e2 == r93.e2, r4.e3 == r93.e3])) ?_
              refine Ds 2 [(102, vb (andL [r4.e0 == r93.e0, r4.e1 == r93.e1, r4.e2 == r93.e2, r4.e3 == r93.e3])), (101, vb (andL [r4.e0 == r93.e0, r4.e1 == r93.e1, r4.e2 == r93.e2, r4.e3 == r93.e3]))] [] [] ?_
              cases hb : (andL [r4.e0 == r93.e0, r4.e1 == r93.e1, r4.e2 == r93.e2, r4.e3 == r93.e3] : Bool)
              · replace h := cfalse hb h
                refine Ds 29 [(8, vb false), (130, vb false), (129, .p Go.undef), (128, .p Go.undef), (127, .p Go.undef), (126, .p Go.undef), (125, .p Go.undef), (124, .p Go.undef), (123, .p Go.undef), (122, vb false), (121, vb false), (120, .p Go.undef), (119, .p Go.undef), (118, .p Go.undef), (117, .p Go.undef), (116, .p Go.undef), (115, .p Go.undef), (114, .p Go.undef), (113, vb false), (112, vb false), (111, .p Go.undef), (110, .p Go.undef), (109, .p Go.undef), (108, .p Go.undef), (107, vb false), (106, vb false), (105, .p Go.undef), (104, .p Go.undef), (103, .p Go.undef)] [] [] ?_
                refine WD_end (by kernel_rfl) (by kernel_rfl) (by kernel_rfl) ?_
                exact wK [8] [] ⟨false, h, rfl⟩
              replace h := ctrue hb h
              refine Ds 2 [(104, eArr4_i64 r6), (103, eArr4_i64 r1)] [] [(75, [9]), (76, [13])] ?_
              obtain ⟨r94, hr94, h⟩ := bsome h
              refine WD_pt' rfl (by kernel_rfl) (by kernel_rfl) [eArr4_i64 r1, eArr4_i64 r6] (vb r94) rfl (by kernel_rfl) en9 (by kernel_rfl) (clock_Below_ok hr94) (by kernel_rfl) ?_
              refine Ds 2 [(107, vb r94), (106, vb r94)] [] [] ?_
              cases hb : (r94 : Bool)
              · replace h := cfalse hb h
                refine Ds 24 [(8, vb false), (130, vb false), (129, .p Go.undef), (128, .p Go.undef), (127, .p Go.undef), (126, .p Go.undef), (125, .p Go.undef), (124, .p Go.undef), (123, .p Go.undef), (122, vb false), (121, vb false), (120, .p Go.undef), (119, .p Go.undef), (118, .p Go.undef), (117, .p Go.undef), (116, .p Go.undef), (115, .p Go.undef), (114, .p Go.undef), (113, vb false), (112, vb false), (111, .p Go.undef), (110, .p Go.undef), (109, .p Go.undef), (108, .p Go.undef)] [] [] ?_
                refine WD_end (by kernel_rfl) (by kernel_rfl) (by kernel_rfl) ?_
                exact wK [8] [] ⟨false, h, rfl⟩
              replace h := ctrue hb h
              refine Ds 2 [(109, eArr4_i64 r1), (108, eArr4_i64 r6)] [] [(80, [13]), (81, [9])] ?_
              obtain ⟨r95, hr95, h⟩ := bsome h
              refine WD_pt' rfl (by kernel_rfl) (by kernel_rfl) [eArr4_i64 r6, eArr4_i64 r1] (vb r95) rfl (by kernel_rfl) en9 (by kernel_rfl) (clock_Below_ok hr95) (by kernel_rfl) ?_
              refine Ds 3 [(113, vb (!r95)), (112, vb (!r95)), (111, vb (!r95))] [] [] ?_
              cases hb : (!r95 : Bool)
              · replace h := cfalse hb h
                refine Ds 18 [(8, vb false), (130, vb false), (129, .p Go.undef), (128, .p Go.undef), (127, .p Go.undef), (126, .p Go.undef), (125, .p Go.undef), (124, .p Go.undef), (123, .p Go.undef), (122, vb false), (121, vb false), (120, .p Go.undef), (119, .p Go.undef), (118, .p Go.undef), (117, .p Go.undef), (116, .p Go.undef), (115, .p Go.undef), (114, .p Go.undef)] [] [] ?_
                refine WD_end (by kernel_rfl) (by kernel_rfl) (by kernel_rfl) ?_
                exact wK [8] [] ⟨false, h, rfl⟩
              replace h := ctrue hb h
              refine Ds 2 [(115, eArr4_i64 r2), (114, eArr4_i64 r1)] [] [(86, [9]), (87, [10])] ?_
              obtain ⟨r96, hr96, h⟩ := bsome h
              refine WD_pt' rfl (by kernel_rfl) (by kernel_rfl) [eArr4_i64 r1, eArr4_i64 r2] (vb r96) rfl (by kernel_rfl) en10 (by kernel_rfl) (clock_Apart_ok hr96) (by kernel_rfl) ?_
              refine Ds 2 [(118, eArr4_i64 r1), (117, eArr4_i64 r2)] [] [(89, [10]), (90, [9])] ?_
              obtain ⟨r97, hr97, h⟩ := bsome h
              refine WD_pt' rfl (by kernel_rfl) (by kernel_rfl) [eArr4_i64 r2, eArr4_i64 r1] (vb r97) rfl (by kernel_rfl) en10 (by kernel_rfl) (clock_Apart_ok hr97) (by kernel_rfl) ?_
              refine Ds 3 [(122, vb (r96 == r97)), (121, vb (r96 == r97)), (120, vb (r96 == r97))] [] [] ?_
              cases hb : ((r96 == r97) : Bool)
              · replace h := cfalse hb h
                refine Ds 9 [(8, vb false), (130, vb false), (129, .p Go.undef), (128, .p Go.undef), (127, .p Go.undef), (126, .p Go.undef), (125, .p Go.undef), (124, .p Go.undef), (123, .p Go.undef)] [] [] ?_
                refine WD_end (by kernel_rfl) (by kernel_rfl) (by kernel_rfl) ?_
                exact wK [8] [] ⟨false, h, rfl⟩
              replace h := ctrue hb h
              refine Ds 2 [(124, eArr4_i64 r2), (123, eArr4_i64 r1)] [] [(95, [9]), (96, [10])] ?_
              obtain ⟨r98, hr98, h⟩ := bsome h
              refine WD_pt' rfl (by kernel_rfl) (by kernel_rfl) [eArr4_i64 r1, eArr4_i64 r2] (vb r98) rfl (by kernel_rfl) en9 (by kernel_rfl) (clock_Below_ok hr98) (by kernel_rfl) ?_
              refine Ds 2 [(127, eArr4_i64 r2), (126, eArr4_i64 r4)] [] [(98, [12]), (99, [10])] ?_
              refine WD_loc' rfl (by kernel_rfl) (by kernel_rfl) (by kernel_rfl) (ev_eqlA [.int .i64 r4.e0 r2.e0, .int .i64 r4.e1 r2.e1, .int .i64 r4.e2 r2.e2, .int .i64 r4.e3 r2.e3] (by kernel_rfl) (by kernel_rfl) (eqlArr [.int .i64 r4.e0 r2.e0, .int .i64 r4.e1 r2.e1, .int .i64 r4.e2 r2.e2, .int .i64 r4.e3 r2.e3] 3 (.int .i64) _ (by kernel_rfl) (by kernel_rfl) (by kernel_rfl) (by kernel_rfl) (by kernel_rfl)) (by kernel_rfl)) (by kernel_rfl) ?_
              refine Dt (vb (andL [r4.e0 == r2.e0, r4.e1 == r2.e1, r4.e2 == r2.e2, r4.e3 == r2.e3])) ?_
              refine Ds 3 [(8, vb (r98 == (andL [r4.e0 == r2.e0, r4.e1 == r2.e1, r4.e2 == r2.e2, r4.e3 == r2.e3]))), (130, vb (r98 == (andL [r4.e0 == r2.e0, r4.e1 == r2.e1, r4.e2 == r2.e2, r4.e3 == r2.e3]))), (129, vb (r98 == (andL [r4.e0 == r2.e0, r4.e1 == r2.e1, r4.e2 == r2.e2, r4.e3 == r2.e3])))] [] [] ?_
              refine WD_end (by kernel_rfl) (by kernel_rfl) (by kernel_rfl) ?_
              exact wK [8] [] ⟨(r98 == (andL [r4.e0 == r2.e0, r4.e1 == r2.e1, r4.e2 == r2.e2, r4.e3 == r2.e3])), h, rfl⟩
            replace h := ctrue hb h
            refine Ds 9 [(98, eArr4_i64 r1), (97, eArr4_i64 r2), (96, eArr4_i64 r4), (95, vb true), (94, vb true), (93, vb true), (92, .p Go.undef), (91, .p Go.undef), (90, .p Go.undef)] [] [(68, [12]), (69, [10]), (70, [9])] ?_
            obtain ⟨r99, hr99, h⟩ := bsome h
            refine WD_pt' rfl (by kernel_rfl) (by kernel_rfl) [eArr4_i64 r2, eArr4_i64 r1] (eArr4_i64 r99) rfl (by kernel_rfl) en13 (by kernel_rfl) (clock_Join_ok hr99) (by kernel_rfl) ?_
            refine WD_loc' rfl (by kernel_rfl) (by kernel_rfl) (by kernel_rfl) (ev_eqlA [.int .i64 r4.e0 r99.e0, .int .i64 r4.e1 r99.e1, .int .i64 r4.e2 r99.e2, .int .i64 r4.e3 r99.e3] (by kernel_rfl) (by kernel_rfl) (eqlArr [.int .i64 r4.e0 r99.e0, .int .i64 r4.e1 r99.e1, .int .i64 r4.e2 r99.e2, .int .i64 r4.e3 r99.e3] 3 (.int .i64) _ (by kernel_rfl) (by kernel_rfl) (by kernel_rfl) (by kernel_rfl) (by kernel_rfl)) (by kernel_rfl)) (by kernel_rfl) ?_
            refine Dt (vb (andL [r4.e0 == r99.e0, r4.e1 == r99.e1, r4.e2 == r99.e2, r4.e3 == r99.e3])) ?_
            refine Ds 2 [(102, vb (andL [r4.e0 == r99.e0, r4.e1 == r99.e1, r4.e2 == r99.e2, r4.e3 == r99.e3])), (101, vb (andL [r4.e0 == r99.e0, r4.e1 == r99.e1, r4.e2 == r99.e2, r4.e3 == r99.e3]))] [] [] ?_
            cases hb : (andL [r4.e0 == r99.e0, r4.e1 == r99.e1, r4.e2 == r99.e2, r4.e3 == r99.e3] : Bool)
            · replace h := cfalse hb h
              refine Ds 29 [(8, vb false), (130, vb false), (129, .p Go.undef), (128, .p Go.undef), (127, .p Go.undef), (126, .p Go.undef), (125, .p Go.undef), (124, .p Go.undef), (123, .p Go.undef), (122, vb false), (121, vb false), (120, .p Go.undef), (119, .p Go.undef), (118, .p Go.undef), (117, .p Go.undef), (116, .p Go.undef), (115, .p Go.undef), (114, .p Go.undef), (113, vb false), (112, vb false), (111, .p Go.undef), (110, .p Go.undef), (109, .p Go.undef), (108, .p Go.undef), (107, vb false), (106, vb false), (105, .p Go.undef), (104, .p Go.undef), (103, .p Go.undef)] [] [] ?_
              refine WD_end (by kernel_rfl) (by kernel_rfl) (by kernel_rfl) ?_
              exact wK [8] [] ⟨false, h, rfl⟩
            replace h := ctrue hb h
            refine Ds 2 [(104, eArr4_i64 r6), (103, eArr4_i64 r1)] [] [(75, [9]), (76, [13])] ?_
            obtain ⟨r100, hr100, h⟩ := bsome h
            refine WD_pt' rfl (by kernel_rfl) (by kernel_rfl) [eArr4_i64 r1, eArr4_i64 r6] (vb r100) rfl (by kernel_rfl) en9 (by kernel_rfl) (clock_Below_ok hr100) (by kernel_rfl) ?_
            refine Ds 2 [(107, vb r100), (106, vb r100)] [] [] ?_
            cases hb : (r100 : Bool)
            · replace h := cfalse hb h
              refine Ds 24 [(8, vb false), (130, vb false), (129, .p Go.undef), (128, .p Go.undef), (127, .p Go.undef), (126, .p Go.undef), (125, .p Go.undef), (124, .p Go.undef), (123, .p Go.undef), (122, vb false), (121, vb false), (120, .p Go.undef), (119, .p Go.undef), (118, .p Go.undef), (117, .p Go.undef), (116, .p Go.undef), (115, .p Go.undef), (114, .p Go.undef), (113, vb false), (112, vb false), (111, .p Go.undef), (110, .p Go.undef), (109, .p Go.undef), (108, .p Go.undef)] [] [] ?_
              refine WD_end (by kernel_rfl) (by kernel_rfl) (by kernel_rfl) ?_
              exact wK [8] [] ⟨false, h, rfl⟩
            replace h := ctrue hb h
            refine Ds 2 [(109, eArr4_i64 r1), (108, eArr4_i64 r6)] [] [(80, [13]), (81, [9])] ?_
            obtain ⟨r101, hr101, h⟩ := bsome h
            refine WD_pt' rfl (by kernel_rfl) (by kernel_rfl) [eArr4_i64 r6, eArr4_i64 r1] (vb r101) rfl (by kernel_rfl) en9 (by kernel_rfl) (clock_Below_ok hr101) (by kernel_rfl) ?_
            refine Ds 3 [(113, vb (!r101)), (112, vb (!r101)), (111, vb (!r101))] [] [] ?_
            cases hb : (!r101 : Bool)
            · replace h := cfalse hb h
              refine Ds 18 [(8, vb false), (130, vb false), (129, .p Go.undef), (128, .p Go.undef), (127, .p Go.undef), (126, .p Go.undef), (125, .p Go.undef), (124, .p Go.undef), (123, .p Go.undef), (122, vb false), (121, vb false), (120, .p Go.undef), (119, .p Go.undef), (118, .p Go.undef), (117, .p Go.undef), (116, .p Go.undef), (115, .p Go.undef), (114, .p Go.undef)] [] [] ?_
              refine WD_end (by kernel_rfl) (by kernel_rfl) (by kernel_rfl) ?_
              exact wK [8] [] ⟨false, h, rfl⟩
            replace h := ctrue hb h
            refine Ds 2 [(115, eArr4_i64 r2), (114, eArr4_i64 r1)] [] [(86, [9]), (87, [10])] ?_
            obtain ⟨r102, hr102, h⟩ := bsome h
            refine WD_pt' rfl (by kernel_rfl) (by kernel_rfl) [eArr4_i64 r1, eArr4_i64 r2] (vb r102) rfl (by kernel_rfl) en10 (by kernel_rfl) (clock_Apart_ok hr102) (by kernel_rfl) ?_
            refine Ds 2 [(118, eArr4_i64 r1), (117, eArr4_i64 r2)] [] [(89, [10]), (90, [9])] ?_
            obtain ⟨r103, hr103, h⟩ := bsome h
            refine WD_pt' rfl (by kernel_rfl) (by kernel_rfl) [eArr4_i64 r2, eArr4_i64 r1] (vb r103) rfl (by kernel_rfl) en10 (by kernel_rfl) (clock_Apart_ok hr103) (by kernel_rfl) ?_
            refine Ds 3 [(122, vb (r102 == r103)), (121, vb (r102 == r103)), (120, vb (r102 == r103))] [] [] ?_
            cases hb : ((r102 == r103) : Bool)
            · replace h := cfalse hb h
              refine Ds 9 [(8, vb false), (130, vb false), (129, .p Go.undef), (128, .p Go.undef), (127, .p Go.undef), (126, .p Go.undef), (125, .p Go.undef), (124, .p Go.undef), (123, .p Go.undef)] [] [] ?_
              refine WD_end (by kernel_rfl) (by kernel_rfl) (by kernel_rfl) ?_
              exact wK [8] [] ⟨false, h, rfl⟩
            replace h := ctrue hb h
            refine Ds 2 [(124, eArr4_i64 r2), (123, eArr4_i64 r1)] [] [(95, [9]), (96, [10])] ?_
            obtain ⟨r104, hr104, h⟩ := bsome h
            refine WD_pt' rfl (by kernel_rfl) (by kernel_rfl) [eArr4_i64 r1, eArr4_i64 r2] (vb r104) rfl (by kernel_rfl) en9 (by kernel_rfl) (clock_Below_ok hr104) (by kernel_rfl) ?_
            refine Ds 2 [(127, eArr4_i64 r2), (126, eArr4_i64 r4)] [] [(98, [12]), (99, [10])] ?_
            refine WD_loc' rfl (by kernel_rfl) (by kernel_rfl) (by kernel_rfl) (ev_eqlA [.int .i64 r4.e0 r2.e0, .int .i64 r4.e1 r2.e1, .int .i64 r4.e2 r2.e2, .int .i64 r4.e3 r2.e3] (by kernel_rfl) (by kernel_rfl) (eqlArr [.int .i64 r4.e0 r2.e0, .int .i64 r4.e1 r2.e1, .int .i64 r4.e2 r2.e2, .int .i64 r4.e3 r2.e3] 3 (.int .i64) _ (by kernel_rfl) (by kernel_rfl) (by kernel_rfl) (by kernel_rfl) (by kernel_rfl)) (by kernel_rfl)) (by kernel_rfl) ?_
            refine Dt (vb (andL [r4.e0 == r2.e0, r4.e1 == r2.e1, r4.e2 == r2.e2, r4.e3 == r2.e3])) ?_
            refine Ds 3 [(8, vb (r104 == (andL [r4.e0 == r2.e0, r4.e1 == r2.e1, r4.e2 == r2.e2, r4.e3 == r2.e3]))), (130, vb (r104 == (andL [r4.e0 == r2.e0, r4.e1 == r2.e1, r4.e2 == r2.e2, r4.e3 == r2.e3]))), (129, vb (r104 == (andL [r4.e0 == r2.e0, r4.e1 == r2.e1, r4.e2 == r2.e2, r4.e3 == r2.e3])))] [] [] ?_
            refine WD_end (by kernel_rfl) (by kernel_rfl) (by kernel_rfl) ?_
            exact wK [8] [] ⟨(r104 == (andL [r4.e0 == r2.e0, r4.e1 == r2.e1, r4.e2 == r2.e2, r4.e3 == r2.e3])), h, rfl⟩
          replace h := ctrue hb h
          refine Ds 15 [(98, eArr4_i64 r1), (97, eArr4_i64 r2), (96, eArr4_i64 r4), (95, vb true), (94, vb true), (93, vb true), (92, .p Go.undef), (91, .p Go.undef), (90, .p Go.undef), (89, vb true), (88, vb true), (87, .p Go.undef), (86, .p Go.undef), (85, .p Go.undef), (84, .p Go.undef)] [] [(68, [12]), (69, [10]), (70, [9])] ?_
          obtain ⟨r105, hr105, h⟩ := bsome h
          refine WD_pt' rfl (by kernel_rfl) (by kernel_rfl) [eArr4_i64 r2, eArr4_i64 r1] (eArr4_i64 r105) rfl (by kernel_rfl) en13 (by kernel_rfl) (clock_Join_ok hr105) (by kernel_rfl) ?_
          refine WD_loc' rfl (by kernel_rfl) (by kernel_rfl) (by kernel_rfl) (ev_eqlA [.int .i64 r4.e0 r105.e0, .int .i64 r4.e1 r105.e1, .int .i64 r4.e2 r105.e2, .int .i64 r4.e3 r105.e3] (by kernel_rfl) (by kernel_rfl) (eqlArr [.int .i64 r4.e0 r105.e0, .int .i64 r4.e1 r105.e1, .int .i64 r4.e2 r105.e2, .int .i64 r4.e3 r105.e3] 3 (.int .i64) _ (by kernel_rfl) (by kernel_rfl) (by kernel_rfl) (by kernel_rfl) (by kernel_rfl)) (by kernel_rfl)) (by kernel_rfl) ?_
          refine Dt (vb (andL [r4.e0 == r105.e0, r4.e1 == r105.e1, r4.e2 == r105.e2, r4.e3 == r105.e3])) ?_
          refine Ds 2 [(102, vb (andL [r4.e0 == r105.e0, r4.e1 == r105.e1, r4.e2 == r105.e2, r4.e3 == r105.e3])), (101, vb (andL [r4.e0 == r105.e0, r4.e1 == r105.e1, r4.e2 == r105.e2, r4.e3 == r105.e3]))] [] [] ?_
          cases hb : (andL [r4.e0 == r105.e0, r4.e1 == r105.e1, r4.e2 == r105.e2, r4.e3 == r105.e3] : Bool)
          · replace h := cfalse hb h
            refine Ds 29 [(8, vb false), (130, vb false), (129, .p Go.undef), (128, .p Go.undef), (127, .p Go.undef), (126, .p Go.undef), (125, .p Go.undef), (124, .p Go.undef), (123, .p Go.undef), (122, vb false), (121, vb false), (120, .p Go.undef), (119, .p Go.undef), (118, .p Go.undef), (117, .p Go.undef), (116, .p Go.undef), (115, .p Go.undef), (114, .p Go.undef), (113, vb false), (112, vb false), (111, .p Go.undef), (110, .p Go.undef), (109, .p Go.undef), (108, .p Go.undef), (107, vb false), (106, vb false), (105, .p Go.undef), (104, .p Go.undef), (103, .p Go.undef)] [] [] ?_
            refine WD_end (by kernel_rfl) (by kernel_rfl) (by kernel_rfl) ?_
            exact wK [8] [] ⟨false, h, rfl⟩
          replace h := ctrue hb h
          refine Ds 2 [(104, eArr4_i64 r6), (103, eArr4_i64 r1)] [] [(75, [9]), (76, [13])] ?_
          obtain ⟨r106, hr106, h⟩ := bsome h
          refine WD_pt' rfl (by kernel_rfl) (by kernel_rfl) [eArr4_i64 r1, eArr4_i64 r6] (vb r106) rfl (by kernel_rfl) en9 (by kernel_rfl) (clock_Below_ok hr106) (by kernel_rfl) ?_
          refine Ds 2 [(107, vb r106), (106, vb r106)] [] [] ?_
          cases hb : (r106 : Bool)
          · replace h := cfalse hb h
            refine Ds 24 [(8, vb false), (130, vb false), (129, .p Go.undef), (128, .p Go.undef), (127, .p Go.undef), (126, .p Go.undef), (125, .p Go.undef), (124, .p Go.undef), (123, .p Go.undef), (122, vb false), (121, vb false), (120, .p Go.undef), (119, .p Go.undef), (118, .p Go.undef), (117, .p Go.undef), (116, .p Go.undef), (115, .p Go.undef), (114, .p Go.undef), (113, vb false), (112, vb false), (111, .p Go.undef), (110, .p Go.undef), (109, .p Go.undef), (108, .p Go.undef)] [] [] ?_
            refine WD_end (by kernel_rfl) (by kernel_rfl) (by kernel_rfl) ?_
            exact wK [8] [] ⟨false, h, rfl⟩
          replace h := ctrue hb h
          refine Ds 2 [(109, eArr4_i64 r1), (108, eArr4_i64 r6)] [] [(80, [13]), (81, [9])] ?_
          obtain ⟨r107, hr107, h⟩ := bsome h
          refine WD_pt' rfl (by kernel_rfl) (by kernel_rfl) [eArr4_i64 r6, eArr4_i64 r1] (vb r107) rfl (by kernel_rfl) en9 (by kernel_rfl) (clock_Below_ok hr107) (by kernel_rfl) ?_
          refine Ds 3 [(113, vb (!r107)), (112, vb (!r107)), (111, vb (!r107))] [] [] ?_
          cases hb : (!r107 : Bool)
          · replace h := cfalse hb h
            refine Ds 18 [(8, vb false), (130, vb false), (129, .p Go.undef), (128, .p Go.undef), (127, .p Go.undef), (126, .p Go.undef), (125, .p Go.undef), (124, .p Go.undef), (123, .p Go.undef), (122, vb false), (121, vb false), (120, .p Go.undef), (119, .p Go.undef), (118, .p Go.undef), (117, .p Go.undef), (116, .p Go.undef), (115, .p Go.undef), (114, .p Go.undef)] [] [] ?_
            refine WD_end (by kernel_rfl) (by kernel_rfl) (by kernel_rfl) ?_
            exact wK [8] [] ⟨false, h, rfl⟩
          replace h := ctrue hb h
          refine Ds 2 [(115, eArr4_i64 r2), (114, eArr4_i64 r1)] [] [(86, [9]), (87, [10])] ?_
          obtain ⟨r108, hr108, h⟩ := bsome h
          refine WD_pt' rfl (by kernel_rfl) (by kernel_rfl) [eArr4_i64 r1, eArr4_i64 r2] (vb r108) rfl (by kernel_rfl) en10 (by kernel_rfl) (clock_Apart_ok hr108) (by kernel_rfl) ?_
          refine Ds 2 [(118, eArr4_i64 r1), (117, eArr4_i64 r2)] [] [(89, [10]), (90, [9])] ?_
          obtain ⟨r109, hr109, h⟩ := bsome h
          refine WD_pt' rfl (by kernel_rfl) (by kernel_rfl) [eArr4_i64 r2, eArr4_i64 r1] (vb r109) rfl (by kernel_rfl) en10 (by kernel_rfl) (clock_Apart_ok hr109) (by kernel_rfl) ?_
          refine Ds 3 [(122, vb (r108 == r109)), (121, vb (r108 == r109)), (120, vb (r108 == r109))] [] [] ?_
          cases hb : ((r108 == r109) : Bool)
          · replace h := cfalse hb h
            refine Ds 9 [(8, vb false), (130, vb false), (129, .p Go.undef), (128, .p Go.undef), (127, .p Go.undef), (126, .p Go.undef), (125, .p Go.undef), (124, .p Go.undef), (123, .p Go.undef)] [] [] ?_
            refine WD_end (by kernel_rfl) (by kernel_rfl) (by kernel_rfl) ?_
            exact wK [8] [] ⟨false, h, rfl⟩
          replace h := ctrue hb h
          refine Ds 2 [(124, eArr4_i64 r2), (123, eArr4_i64 r1)] [] [(95, [9]), (96, [10])] ?_
          obtain ⟨r110, hr110, h⟩ := bsome h
          refine WD_pt' rfl (by kernel_rfl) (by kernel_rfl) [eArr4_i64 r1, eArr4_i64 r2] (vb r110) rfl (by kernel_rfl) en9 (by kernel_rfl) (clock_Below_ok hr110) (by kernel_rfl) ?_
          refine Ds 2 [(127, eArr4_i64 r2), (126, eArr4_i64 r4)] [] [(98, [12]), (99, [10])] ?_
          refine WD_loc' rfl (by kernel_rfl) (by kernel_rfl) (by kernel_rfl) (ev_eqlA [.int .i64 r4.e0 r2.e0, .int .i64 r4.e1 r2.e1, .int .i64 r4.e2 r2.e2, .int .i64 r4.e3 r2.e3] (by kernel_rfl) (by kernel_rfl) (eqlArr [.int .i64 r4.e0 r2.e0, .int .i64 r4.e1 r2.e1, .int .i64 r4.e2 r2.e2, .int .i64 r4.e3 r2.e3] 3 (.int .i64) _ (by kernel_rfl) (by kernel_rfl) (by kernel_rfl) (by kernel_rfl) (by kernel_rfl)) (by kernel_rfl)) (by kernel_rfl) ?_
          refine Dt (vb (andL [r4.e0 == r2.e0, r4.e1 == r2.e1, r4.e2 == r2.e2, r4.e3 == r2.e3])) ?_
          refine Ds 3 [(8, vb (r110 == (andL [r4.e0 == r2.e0, r4.e1 == r2.e1, r4.e2 == r2.e2, r4.e3 == r2.e3]))), (130, vb (r110 == (andL [r4.e0 == r2.e0, r4.e1 == r2.e1, r4.e2 == r2.e2, r4.e3 == r2.e3]))), (129, vb (r110 == (andL [r4.e0 == r2.e0, r4.e1 == r2.e1, r4.e2 == r2.e2, r4.e3 == r2.e3])))] [] [] ?_
          refine WD_end (by kernel_rfl) (by kernel_rfl) (by kernel_rfl) ?_
          exact wK [8] [] ⟨(r110 == (andL [r4.e0 == r2.e0, r4.e1 == r2.e1, r4.e2 == r2.e2, r4.e3 == r2.e3])), h, rfl⟩
        replace h := ctrue hb h
        refine Ds 8 [(70, eArr4_i64 r4), (69, eArr4_i64 r1), (68, vb true), (67, vb true), (66, vb true), (65, .p Go.undef), (64, .p Go.undef), (63, .p Go.undef)] [] [(41, [9]), (42, [12])] ?_
        obtain ⟨r111, hr111, h⟩ := bsome h
        refine WD_pt' rfl (by kernel_rfl) (by kernel_rfl) [eArr4_i64 r1, eArr4_i64 r4] (vb r111) rfl (by kernel_rfl) en9 (by kernel_rfl) (clock_Below_ok hr111) (by kernel_rfl) ?_
        refine Ds 2 [(73, vb r111), (72, vb r111)] [] [] ?_
        cases hb : (r111 : Bool)
        · replace h := cfalse hb h
          refine Ds 58 [(8, vb false), (130, vb false), (129, .p Go.undef), (128, .p Go.undef), (127, .p Go.undef), (126, .p Go.undef), (125, .p Go.undef), (124, .p Go.undef), (123, .p Go.undef), (122, vb false), (121, vb false), (120, .p Go.undef), (119, .p Go.undef), (118, .p Go.undef), (117, .p Go.undef), (116, .p Go.undef), (115, .p Go.undef), (114, .p Go.undef), (113, vb false), (112, vb false), (111, .p Go.undef), (110, .p Go.undef), (109, .p Go.undef), (108, .p Go.undef), (107, vb false), (106, vb false), (105, .p Go.undef), (104, .p Go.undef), (103, .p Go.undef), (102, vb false), (101, vb false), (100, .p Go.undef), (99, .p Go.undef), (98, .p Go.undef), (97, .p Go.undef), (96, .p Go.undef), (95, vb false), (94, vb false), (93, .p Go.undef), (92, .p Go.undef), (91, .p Go.undef), (90, .p Go.undef), (89, .p Go.undef), (88, .p Go.undef), (87, .p Go.undef), (86, .p Go.undef), (85, .p Go.undef), (84, .p Go.undef), (83, .p Go.undef), (82, .p Go.undef), (81, .p Go.undef), (80, .p Go.undef), (79, .p Go.undef), (78, vb false), (77, vb false), (76, .p Go.undef), (75, .p Go.undef), (74, .p Go.undef)] [] [] ?_
          refine WD_end (by kernel_rfl) (by kernel_rfl) (by kernel_rfl) ?_
          exact wK [8] [] ⟨false, h, rfl⟩
        replace h := ctrue hb h
        refine Ds 2 [(75, eArr4_i64 r4), (74, eArr4_i64 r2)] [] [(46, [10]), (47, [12])] ?_
        obtain ⟨r112, hr112, h⟩ := bsome h
        refine WD_pt' rfl (by kernel_rfl) (by kernel_rfl) [eArr4_i64 r2, eArr4_i64 r4] (vb r112) rfl (by kernel_rfl) en9 (by kernel_rfl) (clock_Below_ok hr112) (by kernel_rfl) ?_
        refine Ds 2 [(78, vb r112), (77, vb r112)] [] [] ?_
        cases hb : (r112 : Bool)
        · replace h := cfalse hb h
          refine Ds 53 [(8, vb false), (130, vb false), (129, .p Go.undef), (128, .p Go.undef), (127, .p Go.undef), (126, .p Go.undef), (125, .p Go.undef), (124, .p Go.undef), (123, .p Go.undef), (122, vb false), (121, vb false), (120, .p Go.undef), (119, .p Go.undef), (118, .p Go.undef), (117, .p Go.undef), (116, .p Go.undef), (115, .p Go.undef), (114, .p Go.undef), (113, vb false), (112, vb false), (111, .p Go.undef), (110, .p Go.undef), (109, .p Go.undef), (108, .p Go.undef), (107, vb false), (106, vb false), (105, .p Go.undef), (104, .p Go.undef), (103, .p Go.undef), (102, vb false), (101, vb false), (100, .p Go.undef), (99, .p Go.undef), (98, .p Go.undef), (97, .p Go.undef), (96, .p Go.undef), (95, vb false), (94, vb false), (93, .p Go.undef), (92, .p Go.undef), (91, .p Go.undef), (90, .p Go.undef), (89, .p Go.undef), (88, .p Go.undef), (87, .p Go.undef), (86, .p Go.undef), (85, .p Go.undef), (84, .p Go.undef), (83, .p Go.undef), (82, .p Go.undef), (81, .p Go.undef), (80, .p Go.undef), (79, .p Go.undef)] [] [] ?_
          refine WD_end (by kernel_rfl) (by kernel_rfl) (by kernel_rfl) ?_
          exact wK [8] [] ⟨false, h, rfl⟩
        replace h := ctrue hb h
        refine Ds 2 [(80, eArr4_i64 r3), (79, eArr4_i64 r1)] [] [(51, [9]), (52, [11])] ?_
        obtain ⟨r113, hr113, h⟩ := bsome h
        refine WD_pt' rfl (by kernel_rfl) (by kernel_rfl) [eArr4_i64 r1, eArr4_i64 r3] (vb r113) rfl (by kernel_rfl) en9 (by kernel_rfl) (clock_Below_ok hr113) (by kernel_rfl) ?_
        refine Ds 2 [(83, vb (!r113)), (82, vb (!r113))] [] [] ?_
        cases hb : (!r113 : Bool)
        · replace h := cfalse hb h
          refine Ds 2 [(85, eArr4_i64 r3), (84, eArr4_i64 r2)] [] [(56, [10]), (57, [11])] ?_
          obtain ⟨r114, hr114, h⟩ := bsome h
          refine WD_pt' rfl (by kernel_rfl) (by kernel_rfl) [eArr4_i64 r2, eArr4_i64 r3] (vb r114) rfl (by kernel_rfl) en9 (by kernel_rfl) (clock_Below_ok hr114) (by kernel_rfl) ?_
          refine Ds 3 [(89, vb (!r114)), (88, vb (!r114)), (87, vb (!r114))] [] [] ?_
          cases hb : (!r114 : Bool)
          · replace h := cfalse hb h
            refine Ds 2 [(91, eArr4_i64 r3), (90, eArr4_i64 r4)] [] [(62, [12]), (63, [11])] ?_
            obtain ⟨r115, hr115, h⟩ := bsome h
            refine WD_pt' rfl (by kernel_rfl) (by kernel_rfl) [eArr4_i64 r4, eArr4_i64 r3] (vb r115) rfl (by kernel_rfl) en9 (by kernel_rfl) (clock_Below_ok hr115) (by kernel_rfl) ?_
            refine Ds 3 [(95, vb r115), (94, vb r115), (93, vb r115)] [] [] ?_
            cases hb : (r115 : Bool)
            · replace h := cfalse hb h
              refine Ds 36 [(8, vb false), (130, vb false), (129, .p Go.undef), (128, .p Go.undef), (127, .p Go.undef), (126, .p Go.undef), (125, .p Go.undef), (124, .p Go.undef), (123, .p Go.undef), (122, vb false), (121, vb false), (120, .p Go.undef), (119, .p Go.undef), (118, .p Go.undef), (117, .p Go.undef), (116, .p Go.undef), (115, .p Go.undef), (114, .p Go.undef), (113, vb false), (112, vb false), (111, .p Go.undef), (110, .p Go.undef), (109, .p Go.undef), (108, .p Go.undef), (107, vb false), (106, vb false), (105, .p Go.undef), (104, .p Go.undef), (103, .p Go.undef), (102, vb false), (101, vb false), (100, .p Go.undef), (99, .p Go.undef), (98, .p Go.undef), (97, .p Go.undef), (96, .p Go.undef)] [] [] ?_
              refine WD_end (by kernel_rfl) (by kernel_rfl) (by kernel_rfl) ?_
              exact wK [8] [] ⟨false, h, rfl⟩
            replace h := ctrue hb h
            refine Ds 3 [(98, eArr4_i64 r1), (97, eArr4_i64 r2), (96, eArr4_i64 r4)] [] [(68, [12]), (69, [10]), (70, [9])] ?_
            obtain ⟨r116, hr116, h⟩ := bsome h
            refine WD_pt' rfl (by kernel_rfl) (by kernel_rfl) [eArr4_i64 r2, eArr4_i64 r1] (eArr4_i64 r116) rfl (by kernel_rfl) en13 (by kernel_rfl) (clock_Join_ok hr116) (by kernel_rfl) ?_
            refine WD_loc' rfl (by kernel_rfl) (by kernel_rfl) (by kernel_rfl) (ev_eqlA [.int .i64 r4.e0 r116.e0, .int .i64 r4.e1 r116.e1, .int .i64 r4.e2 r116.e2, .int .i64 r4.e3 r116.e3] (by kernel_rfl) (by kernel_rfl) (eqlArr [.int .i64 r4.e0 r116.e0, .int .i64 r4.e1 r116.e1, .int .i64 r4.e2 r116.e2, .int .i64 r4.e3 r116.e3] 3 (.int .i64) _ (by kernel_rfl) (by kernel_rfl) (by kernel_rfl) (by kernel_rfl) (by kernel_rfl)) (by kernel_rfl)) (by kernel_rfl) ?_
            refine Dt (vb (andL [r4.e0 == r116.e0, r4.e1 == r116.e1, r4.e2 == r116.e2, r4.e3 == r116.e3])) ?_
            refine Ds 2 [(102, vb (andL [r4.e0 == r116.e0, r4.e1 == r116.e1, r4.e2 == r116.e2, r4.e3 == r116.e3])), (101, vb (andL [r4.e0 == r116.e0, r4.e1 == r116.e1, r4.e2 == r116.e2, r4.e3 == r116.e3]))] [] [] ?_
            cases hb : (andL [r4.e0 == r116.e0, r4.e1 == r116.e1, r4.e2 == r116.e2, r4.e3 == r116.e3] : Bool)
            · replace h := cfalse hb h
              refine Ds 29 [(8, vb false), (130, vb false), (129, .p Go.undef), (128, .p Go.undef), (127, .p Go.undef), (126, .p Go.undef), (125, .p Go.undef), (124, .p Go.undef), (123, .p Go.undef), (122, vb false), (121, vb false), (120, .p Go.undef), (119, .p Go.undef), (118, .p Go.undef), (117, .p Go.undef), (116, .p Go.undef), (115, .p Go.undef), (114, .p Go.undef), (113, vb false), (112, vb false), (111, .p Go.undef), (110, .p Go.undef), (109, .p Go.undef), (108, .p Go.undef), (107, vb false), (106, vb false), (105, .p Go.undef), (104, .p Go.undef), (103, .p Go.undef)] [] [] ?_
              refine WD_end (by kernel_rfl) (by kernel_rfl) (by kernel_rfl) ?_
              exact wK [8] [] ⟨false, h, rfl⟩
            replace h := ctrue hb h
            refine Ds 2 [(104, eArr4_i64 r6), (103, eArr4_i64 r1)] [] [(75, [9]), (76, [13])] ?_
            obtain ⟨r117, hr117, h⟩ := bsome h
            refine WD_pt' rfl (by kernel_rfl) (by kernel_rfl) [eArr4_i64 r1, eArr4_i64 r6] (vb r117) rfl (by kernel_rfl) en9 (by kernel_rfl) (clock_Below_ok hr117) (by kernel_rfl) ?_
            refine Ds 2 [(107, vb r117), (106, vb r117)] [] [] ?_
            cases hb : (r117 : Bool)
            · replace h := cfalse hb h
              refine Ds 24 [(8, vb false), (130, vb false), (129, .p Go.undef), (128, .p Go.undef), (127, .p Go.undef), (126, .p Go.undef), (125, .p Go.undef), (124, .p Go.undef), (123, .p Go.undef), (122, vb false), (121, vb false), (120, .p Go.undef), (119, .p Go.undef), (118, .p Go.undef), (117, .p Go.undef), (116, .p Go.undef), (115, .p Go.undef), (114, .p Go.undef), (113, vb false), (112, vb false), (111, .p Go.undef), (110, .p Go.undef), (109, .p Go.undef), (108, .p Go.undef)] [] [] ?_
              refine WD_end (by kernel_rfl) (by kernel_rfl) (by kernel_rfl) ?_
              exact wK [8] [] ⟨false, h, rfl⟩
            replace h := ctrue hb h
            refine Ds 2 [(109, eArr4_i64 r1), (108, eArr4_i64 r6)] [] [(80, [13]), (81, [9])] ?_
            obtain ⟨r118, hr118, h⟩ := bsome h
            refine WD_pt' rfl (by kernel_rfl) (by kernel_rfl) [eArr4_i64 r6, eArr4_i64 r1] (vb r118) rfl (by kernel_rfl) en9 (by kernel_rfl) (clock_Below_ok hr118) (by kernel_rfl) ?_
            refine Ds 3 [(113, vb (!r118)), (112, vb (!r118)), (111, vb (!r118))] [] [] ?_
            cases hb : (!r118 : Bool)
            · replace h := cfalse hb h
              refine Ds 18 [(8, vb false), (130, vb false), (129, .p Go.undef), (128, .p Go.undef), (127, .p Go.undef), (126, .p Go.undef), (125, .p Go.undef), (124, .p Go.undef), (123, .p Go.undef), (122, vb false), (121, vb false), (120, .p Go.undef), (119, .p Go.undef), (118, .p Go.undef), (117, .p Go.undef), (116, .p Go.undef), (115, .p Go.undef), (114, .p Go.undef)] [] [] ?_
              refine WD_end (by kernel_rfl) (by kernel_rfl) (by kernel_rfl) ?_
              exact wK [8] [] ⟨false, h, rfl⟩
            replace h := ctrue hb h
            refine Ds 2 [(115, eArr4_i64 r2), (114, eArr4_i64 r1)] [] [(86, [9]), (87, [10])] ?_
            obtain ⟨r119, hr119, h⟩ := bsome h
            refine WD_pt' rfl (by kernel_rfl) (by kernel_rfl) [eArr4_i64 r1, eArr4_i64 r2] (vb r119) rfl (by kernel_rfl) en10 (by kernel_rfl) (clock_Apart_ok hr119) (by kernel_rfl) ?_
            refine Ds 2 [(118, eArr4_i64 r1), (117, eArr4_i64 r2)] [] [(89, [10]), (90, [9])] ?_
            obtain ⟨r120, hr120, h⟩ := bsome h
            refine WD_pt' rfl (by kernel_rfl) (by kernel_rfl) [eArr4_i64 r2, eArr4_i64 r1] (vb r120) rfl (by kernel_rfl) en10 (by kernel_rfl) (clock_Apart_ok hr120) (by kernel_rfl) ?_
            refine Ds 3 [(122, vb (r119 == r120)), (121, vb (r119 == r120)), (120, vb (r119 == r120))] [] [] ?_
            cases hb : ((r119 == r120) : Bool)
            · replace h := cfalse hb h
              refine Ds 9 [(8, vb false), (130, vb false), (129, .p Go.undef), (128, .p Go.undef), (127, .p Go.undef), (126, .p Go.undef), (125, .p Go.undef), (124, .p Go.undef), (123, .p Go.undef)] [] [] ?_
              refine WD_end (by kernel_rfl) (by kernel_rfl) (by kernel_rfl) ?_
              exact wK [8] [] ⟨false, h, rfl⟩
            replace h := ctrue hb h
            refine Ds 2 [(124, eArr4_i64 r2), (123, eArr4_i64 r1)] [] [(95, [9]), (96, [10])] ?_
            obtain ⟨r121, hr121, h⟩ := bsome h
            refine WD_pt' rfl (by kernel_rfl) (by kernel_rfl) [eArr4_i64 r1, eArr4_i64 r2] (vb r121) rfl (by kernel_rfl) en9 (by kernel_rfl) (clock_Below_ok hr121) (by kernel_rfl) ?_
            refine Ds 2 [(127, eArr4_i64 r2), (126, eArr4_i64 r4)] [] [(98, [12]), (99, [10])] ?_
            refine WD_loc' rfl (by kernel_rfl) (by kernel_rfl) (by kernel_rfl) (ev_eqlA [.int .i64 r4.e0 r2.e0, .int .i64 r4.e1 r2.e1, .int .i64 r4.e2 r2.e2, .int .i64 r4.e3 r2.e3] (by kernel_rfl) (by kernel_rfl) (eqlArr [.int .i64 r4.e0 r2.e0, .int .i64 r4.e1 r2.e1, .int .i64 r4.e2 r2.e2, .int .i64 r4.e3 r2.e3] 3 (.int .i64) _ (by kernel_rfl) (by kernel_rfl) (by kernel_rfl) (by kernel_rfl) (by kernel_rfl)) (by kernel_rfl)) (by kernel_rfl) ?_
            refine Dt (vb (andL [r4.e0 == r2.e0, r4.e1 == r2.e1, r4.e2 == r2.e2, r4.e3 == r2.e3])) ?_
            refine Ds 3 [(8, vb (r121 == (andL [r4.e0 == r2.e0, r4.e1 == r2.e1, r4.e2 == r2.e2, r4.e3 == r2.e3]))), (130, vb (r121 == (andL [r4.e0 == r2.e0, r4.e1 == r2.e1, r4.e2 == r2.e2, r4.e3 == r2.e3]))), (129, vb (r121 == (andL [r4.e0 == r2.e0, r4.e1 == r2.e1, r4.e2 == r2.e2, r4.e3 == r2.e3])))] [] [] ?_
            refine WD_end (by kernel_rfl) (by kernel_rfl) (by kernel_rfl) ?_
            exact wK [8] [] ⟨(r121 == (andL [r4.e0 == r2.e0, r4.e1 == r2.e1, r4.e2 == r2.e2, r4.e3 == r2.e3])), h, rfl⟩
          replace h := ctrue hb h
          refine Ds 9 [(98, eArr4_i64 r1), (97, eArr4_i64 r2), (96, eArr4_i64 r4), (95, vb true), (94, vb true), (93, vb true), (92, .p Go.undef), (91, .p Go.undef), (90, .p Go.undef)] [] [(68, [12]), (69, [10]), (70, [9])] ?_
          obtain ⟨r122, hr122, h⟩ := bsome h
          refine WD_pt' rfl (by kernel_rfl) (by kernel_rfl) [eArr4_i64 r2, eArr4_i64 r1] (eArr4_i64 r122) rfl (by kernel_rfl) en13 (by kernel_rfl) (clock_Join_ok hr122) (by kernel_rfl) ?_
          refine WD_loc' rfl (by kernel_rfl) (by kernel_rfl) (by kernel_rfl) (ev_eqlA [.int .i64 r4.e0 r122.e0, .int .i64 r4.e1 r122.e1, .int .i64 r4.e2 r122.e2, .int .i64 r4.e3 r122.e3] (by kernel_rfl) (by kernel_rfl) (eqlArr [.int .i64 r4.e0 r122.e0, .int .i64 r4.e1 r122.e1, .int .i64 r4.e2 r122.e2, .int .i64 r4.e3 r122.e3] 3 (.int .i64) _ (by kernel_rfl) (by kernel_rfl) (by kernel_rfl) (by kernel_rfl) (by kernel_rfl)) (by kernel_rfl)) (by kernel_rfl) ?_
          refine Dt (vb (andL [r4.e0 == r122.e0, r4.e1 == r122.e1, r4.e2 == r122.e2, r4.e3 == r122.e3])) ?_
          refine Ds 2 [(102, vb (andL [r4.e0 == r122.e0, r4.e1 == r122.e1, r4.e2 == r122.e2, r4.e3 == r122.e3])), (101, vb (andL [r4.e0 == r122.e0, r4.e1 == r122.e1, r4.e2 == r122.e2, r4.e3 == r122.e3]))] [] [] ?_
          cases hb : (andL [r4.e0 == r122.e0, r4.e1 == r122.e1, r4.e2 == r122.e2, r4.e3 == r122.e3] : Bool)
          · replace h := cfalse hb h
            refine Ds 29 [(8, vb false), (130, vb false), (129, .p Go.undef), (128, .p Go.undef), (127, .p Go.undef), (126, .p Go.undef), (125, .p Go.undef), (124, .p Go.undef), (123, .p Go.undef), (122, vb false), (121, vb false), (120, .p Go.undef), (119, .p Go.undef), (118, .p Go.undef), (117, .p Go.undef), (116, .p Go.undef), (115, .p Go.undef), (114, .p Go.undef), (113, vb false), (112, vb false), (111, .p Go.undef), (110, .p Go.undef), (109, .p Go.undef), (108, .p Go.undef), (107, vb false), (106, vb false), (105, .p Go.undef), (104, .p Go.undef), (103, .p Go.undef)] [] [] ?_
            refine WD_end (by kernel_rfl) (by kernel_rfl) (by kernel_rfl) ?_
            exact wK [8] [] ⟨false, h, rfl⟩
          replace h := ctrue hb h
          refine Ds 2 [(104, eArr4_i64 r6), (103, eArr4_i64 r1)] [] [(75, [9]), (76, [13])] ?_
          obtain ⟨r123, hr123, h⟩ := bsome h
          refine WD_pt' rfl (by kernel_rfl) (by kernel_rfl) [eArr4_i64 r1, eArr4_i64 r6] (vb r123) rfl (by kernel_rfl) en9 (by kernel_rfl) (clock_Below_ok hr123) (by kernel_rfl) ?_
          refine Ds 2 [(107, vb r123), (106, vb r123)] [] [] ?_
          cases hb : (r123 : Bool)
          · replace h := cfalse hb h
            refine Ds 24 [(8, vb false), (130, vb false), (129, .p Go.undef), (128, .p Go.undef), (127, .p Go.undef), (126, .p Go.undef), (125, .p Go.undef), (124, .p Go.undef), (123, .p Go.undef), (122, vb false), (121, vb false), (120, .p Go.undef), (119, .p Go.undef), (118, .p Go.undef), (117, .p Go.undef), (116, .p Go.undef), (115, .p Go.undef), (114, .p Go.undef), (113, vb false), (112, vb false), (111, .p Go.undef), (110, .p Go.undef), (109, .p Go.undef), (108, .p Go.undef)] [] [] ?_
            refine WD_end (by kernel_rfl) (by kernel_rfl) (by kernel_rfl) ?_
            exact wK [8] [] ⟨false, h, rfl⟩
          replace h := ctrue hb h
          refine Ds 2 [(109, eArr4_i64 r1), (108, eArr4_i64 r6)] [] [(80, [13]), (81, [9])] ?_
          obtain ⟨r124, hr124, h⟩ := bsome h
          refine WD_pt' rfl (by kernel_rfl) (by kernel_rfl) [eArr4_i64 r6, eArr4_i64 r1] (vb r124) rfl (by kernel_rfl) en9 (by kernel_rfl) (clock_Below_ok hr124) (by kernel_rfl) ?_
          refine Ds 3 [(113, vb (!r124)), (112, vb (!r124)), (111, vb (!r124))] [] [] ?_
          cases hb : (!r124 : Bool)
          · replace h := cfalse hb h
            refine Ds 18 [(8, vb false), (130, vb false), (129, .p Go.undef), (128, .p Go.undef), (127, .p Go.undef), (126, .p Go.undef), (125, .p Go.undef), (124, .p Go.undef), (123, .p Go.undef), (122, vb false), (121, vb false), (120, .p Go.undef), (119, .p Go.undef), (118, .p Go.undef), (117, .p Go.undef), (116, .p Go.undef), (115, .p Go.undef), (114, .p Go.undef)] [] [] ?_
            refine WD_end (by kernel_rfl) (by kernel_rfl) (by kernel_rfl) ?_
            exact wK [8] [] ⟨false, h, rfl⟩
          replace h := ctrue hb h
          refine Ds 2 [(115, eArr4_i64 r2), (114, eArr4_i64 r1)] [] [(86, [9]), (87, [10])] ?_
          obtain ⟨r125, hr125, h⟩ := bsome h
          refine WD_pt' rfl (by kernel_rfl) (by kernel_rfl) [eArr4_i64 r1, eArr4_i64 r2] (vb r125) rfl (by kernel_rfl) en10 (by kernel_rfl) (clock_Apart_ok hr125) (by kernel_rfl) ?_
          refine Ds 2 [(118, eArr4_i64 r1), (117, eArr4_i64 r2)] [] [(89, [10]), (90, [9])] ?_
          obtain ⟨r126, hr126, h⟩ := bsome h
          refine WD_pt' rfl (by kernel_rfl) (by kernel_rfl) [eArr4_i64 r2, eArr4_i64 r1] (vb r126) rfl (by kernel_rfl) en10 (by kernel_rfl) (clock_Apart_ok hr126) (by kernel_rfl) ?_
          refine Ds 3 [(122, vb (r125 == r126)), (121, vb (r125 == r126)), (120, vb (r125 == r126))] [] [] ?_
          cases hb : ((r125 == r126) : Bool)
          · replace h := cfalse hb h
            refine Ds 9 [(8, vb false), (130, vb false), (129, .p Go.undef), (128, .p Go.undef), (127, .p Go.undef), (126, .p Go.undef), (125, .p Go.undef), (124, .p Go.undef), (123, .p Go.undef)] [] [] ?_
            refine WD_end (by kernel_rfl) (by kernel_rfl) (by kernel_rfl) ?_
            exact wK [8] [] ⟨false, h, rfl⟩
          replace h := ctrue hb h
          refine Ds 2 [(124, eArr4_i64 r2), (123, eArr4_i64 r1)] [] [(95, [9]), (96, [10])] ?_
          obtain ⟨r127, hr127, h⟩ := bsome h
          refine WD_pt' rfl (by kernel_rfl) (by kernel_rfl) [eArr4_i64 r1, eArr4_i64 r2] (vb r127) rfl (by kernel_rfl) en9 (by kernel_rfl) (clock_Below_ok hr127) (by kernel_rfl) ?_
          refine Ds 2 [(127, eArr4_i64 r2), (126, eArr4_i64 r4)] [] [(98, [12]), (99, [10])] ?_
          refine WD_loc' rfl (by kernel_rfl) (by kernel_rfl) (by kernel_rfl) (ev_eqlA [.int .i64 r4.e0 r2.e0, .int .i64 r4.e1 r2.e1, .int .i64 r4.e2 r2.e2, .int .i64 r4.e3 r2.e3] (by kernel_rfl) (by kernel_rfl) (eqlArr [.int .i64 r4.e0 r2.e0, .int .i64 r4.e1 r2.e1, .int .i64 r4.e2 r2.e2, .int .i64 r4.e3 r2.e3] 3 (.int .i64) _ (by kernel_rfl) (by kernel_rfl) (by kernel_rfl) (by kernel_rfl) (by kernel_rfl)) (by kernel_rfl)) (by kernel_rfl) ?_
          refine Dt (vb (andL [r4.e0 == r2.e0, r4.e1 == r2.e1, r4.e2 == r2.e2, r4.e3 == r2.e3])) ?_
          refine Ds 3 [(8, vb (r127 == (andL [r4.e0 == r2.e0, r4.e1 == r2.e1, r4.e2 == r2.e2, r4.e3 == r2.e3]))), (130, vb (r127 == (andL [r4.e0 == r2.e0, r4.e1 == r2.e1, r4.e2 == r2.e2, r4.e3 == r2.e3]))), (129, vb (r127 == (andL [r4.e0 == r2.e0, r4.e1 == r2.e1, r4.e2 == r2.e2, r4.e3 == r2.e3])))] [] [] ?_
          refine WD_end (by kernel_rfl) (by kernel_rfl) (by kernel_rfl) ?_
          exact wK [8] [] ⟨(r127 == (andL [r4.e0 == r2.e0, r4.e1 == r2.e1, r4.e2 == r2.e2, r4.e3 == r2.e3])), h, rfl⟩
        replace h := ctrue hb h
        refine Ds 15 [(98, eArr4_i64 r1), (97, eArr4_i64 r2), (96, eArr4_i64 r4), (95, vb true), (94, vb true), (93, vb true), (92, .p Go.undef), (91, .p Go.undef), (90, .p Go.undef), (89, vb true), (88, vb true), (87, .p Go.undef), (86, .p Go.undef), (85, .p Go.undef), (84, .p Go.undef)] [] [(68, [12]), (69, [10]), (70, [9])] ?_
        obtain ⟨r128, hr128, h⟩ := bsome h
        refine WD_pt' rfl (by kernel_rfl) (by kernel_rfl) [eArr4_i64 r2, eArr4_i64 r1] (eArr4_i64 r128) rfl (by kernel_rfl) en13 (by kernel_rfl) (clock_Join_ok hr128) (by kernel_rfl) ?_
        refine WD_loc' rfl (by kernel_rfl) (by kernel_rfl) (by kernel_rfl) (ev_eqlA [.int .i64 r4.e0 r128.e0, .int .i64 r4.e1 r128.e1, .int .i64 r4.e2 r128.e2, .int .i64 r4.e3 r128.e3] (by kernel_rfl) (by kernel_rfl) (eqlArr [.int .i64 r4.e0 r128.e0, .int .i64 r4.e1 r128.e1, .int .i64 r4.e2 r128.e2, .int .i64 r4.e3 r128.e3] 3 (.int .i64) _ (by kernel_rfl) (by kernel_rfl) (by kernel_rfl) (by kernel_rfl) (by kernel_rfl)) (by kernel_rfl)) (by kernel_rfl) ?_
        refine Dt (vb (andL [r4.e0 == r128.e0, r4.e1 == r128.e1, r4.e2 == r128.e2, r4.e3 == r128.e3])) ?_
        refine Ds 2 [(102, vb (andL [r4.e0 == r128.e0, r4.e1 == r128.e1, r4.e2 == r128.e2, r4.e3 == r128.e3])), (101, vb (andL [r4.e0 == r128.e0, r4.e1 == r128.e1, r4.e2 == r128.e2, r4.e3 == r128.e3]))] [] [] ?_
        cases hb : (andL [r4.e0 == r128.e0, r4.e1 == r128.e1, r4.e2 == r128.e2, r4.e3 == r128.e3] : Bool)
        · replace h := cfalse hb h
          refine Ds 29 [(8, vb false), (130, vb false), (129, .p Go.undef), (128, .p Go.undef), (127, .p Go.undef), (126, .p Go.undef), (125, .p Go.undef), (124, .p Go.undef), (123, .p Go.undef), (122, vb false), (121, vb false), (120, .p Go.undef), (119, .p Go.undef), (118, .p Go.undef), (117, .p Go.undef), (116, .p Go.undef), (115, .p Go.undef), (114, .p Go.undef), (113, vb false), (112, vb false), (111, .p Go.undef), (110, .p Go.undef), (109, .p Go.undef), (108, .p Go.undef), (107, vb false), (106, vb false), (105, .p Go.undef), (104, .p Go.undef), (103, .p Go.undef)] [] [] ?_
          refine WD_end (by kernel_rfl) (by kernel_rfl) (by kernel_rfl) ?_
          exact wK [8] [] ⟨false, h, rfl⟩
        replace h := ctrue hb h
        refine Ds 2 [(104, eArr4_i64 r6), (103, eArr4_i64 r1)] [] [(75, [9]), (76, [13])] ?_
        obtain ⟨r129, hr129, h⟩ := bsome h
        refine WD_pt' rfl (by kernel_rfl) (by kernel_rfl) [eArr4_i64 r1, eArr4_i64 r6] (vb r129) rfl (by kernel_rfl) en9 (by kernel_rfl) (clock_Below_ok hr129) (by kernel_rfl) ?_
        refine Ds 2 [(107, vb r129), (106, vb r129)] [] [] ?_
        cases hb : (r129 : Bool)
        · replace h := cfalse hb h
          refine Ds 24 [(8, vb false), (130, vb false), (129, .p Go.undef), (128, .p Go.undef), (127, .p Go.undef), (126, .p Go.undef), (125, .p Go.undef), (124, .p Go.undef), (123, .p Go.undef), (122, vb false), (121, vb false), (120, .p Go.undef), (119, .p Go.undef), (118, .p Go.undef), (117, .p Go.undef), (116, .p Go.undef), (115, .p Go.undef), (114, .p Go.undef), (113, vb false), (112, vb false), (111, .p Go.undef), (110, .p Go.undef), (109, .p Go.undef), (108, .p Go.undef)] [] [] ?_
          refine WD_end (by kernel_rfl) (by kernel_rfl) (by kernel_rfl) ?_
          exact wK [8] [] ⟨false, h, rfl⟩
        replace h := ctrue hb h
        refine Ds 2 [(109, eArr4_i64 r1), (108, eArr4_i64 r6)] [] [(80, [13]), (81, [9])] ?_
        obtain ⟨r130, hr130, h⟩ := bsome h
        refine WD_pt' rfl (by kernel_rfl) (by kernel_rfl) [eArr4_i64 r6, eArr4_i64 r1] (vb r130) rfl (by kernel_rfl) en9 (by kernel_rfl) (clock_Below_ok hr130) (by kernel_rfl) ?_
        refine Ds 3 [(113, vb (!r130)), (112, vb (!r130)), (111, vb (!r130))] [] [] ?_
        cases hb : (!r130 : Bool)
        · replace h := cfalse hb h
          refine Ds 18 [(8, vb false), (130, vb false), (129, .p Go.undef), (128, .p Go.undef), (127, .p Go.undef), (126, .p Go.undef), (125, .p Go.undef), (124, .p Go.undef), (123, .p Go.undef), (122, vb false), (121, vb false), (120, .p Go.undef), (119, .p Go.undef), (118, .p Go.undef), (117, .p Go.undef), (116, .p Go.undef), (115, .p Go.undef), (114, .p Go.undef)] [] [] ?_
          refine WD_end (by kernel_rfl) (by kernel_rfl) (by kernel_rfl) ?_
          exact wK [8] [] ⟨false, h, rfl⟩
        replace h := ctrue hb h
        refine Ds 2 [(115, eArr4_i64 r2), (114, eArr4_i64 r1)] [] [(86, [9]), (87, [10])] ?_
        obtain ⟨r131, hr131, h⟩ := bsome h
        refine WD_pt' rfl (by kernel_rfl) (by kernel_rfl) [eArr4_i64 r1, eArr4_i64 r2] (vb r131) rfl (by kernel_rfl) en10 (by kernel_rfl) (clock_Apart_ok hr131) (by kernel_rfl) ?_
        refine Ds 2 [(118, eArr4_i64 r1), (117, eArr4_i64 r2)] [] [(89, [10]), (90, [9])] ?_
        obtain ⟨r132, hr132, h⟩ := bsome h
        refine WD_pt' rfl (by kernel_rfl) (by kernel_rfl) [eArr4_i64 r2, eArr4_i64 r1] (vb r132) rfl (by kernel_rfl) en10 (by kernel_rfl) (clock_Apart_ok hr132) (by kernel_rfl) ?_
        refine Ds 3 [(122, vb (r131 == r132)), (121, vb (r131 == r132)), (120, vb (r131 == r132))] [] [] ?_
        cases hb : ((r131 == r132) : Bool)
        · replace h := cfalse hb h
          refine Ds 9 [(8, vb false), (130, vb false), (129, .p Go.undef), (128, .p Go.undef), (127, .p Go.undef), (126, .p Go.undef), (125, .p Go.undef), (124, .p Go.undef), (123, .p Go.undef)] [] [] ?_
          refine WD_end (by kernel_rfl) (by kernel_rfl) (by kernel_rfl) ?_
          exact wK [8] [] ⟨false, h, rfl⟩
        replace h := ctrue hb h
        refine Ds 2 [(124, eArr4_i64 r2), (123, eArr4_i64 r1)] [] [(95, [9]), (96, [10])] ?_
        obtain ⟨r133, hr133, h⟩ := bsome h
        refine WD_pt' rfl (by kernel_rfl) (by kernel_rfl) [eArr4_i64 r1, eArr4_i64 r2] (vb r133) rfl (by kernel_rfl) en9 (by kernel_rfl) (clock_Below_ok hr133) (by kernel_rfl) ?_
        refine Ds 2 [(127, eArr4_i64 r2), (126, eArr4_i64 r4)] [] [(98, [12]), (99, [10])] ?_
        refine WD_loc' rfl (by kernel_rfl) (by kernel_rfl) (by kernel_rfl) (ev_eqlA [.int .i64 r4.e0 r2.e0, .int .i64 r4.e1 r2.e1, .int .i64 r4.e2 r2.e2, .int .i64 r4.e3 r2.e3] (by kernel_rfl) (by kernel_rfl) (eqlArr [.int .i64 r4.e0 r2.e0, .int .i64 r4.e1 r2.e1, .int .i64 r4.e2 r2.e2, .int .i64 r4.e3 r2.e3] 3 (.int .i64) _ (by kernel_rfl) (by kernel_rfl) (by kernel_rfl) (by kernel_rfl) (by kernel_rfl)) (by kernel_rfl)) (by kernel_rfl) ?_
        refine Dt (vb (andL [r4.e0 == r2.e0, r4.e1 == r2.e1, r4.e2 == r2.e2, r4.e3 == r2.e3])) ?_
        refine Ds 3 [(8, vb (r133 == (andL [r4.e0 == r2.e0, r4.e1 == r2.e1, r4.e2 == r2.e2, r4.e3 == r2.e3]))), (130, vb (r133 == (andL [r4.e0 == r2.e0, r4.e1 == r2.e1, r4.e2 == r2.e2, r4.e3 == r2.e3]))), (129, vb (r133 == (andL [r4.e0 == r2.e0, r4.e1 == r2.e1, r4.e2 == r2.e2, r4.e3 == r2.e3])))] [] [] ?_
        refine WD_end (by kernel_rfl) (by kernel_rfl) (by kernel_rfl) ?_
        exact wK [8] [] ⟨(r133 == (andL [r4.e0 == r2.e0, r4.e1 == r2.e1, r4.e2 == r2.e2, r4.e3 == r2.e3])), h, rfl⟩
      replace h := ctrue hb h
      refine Ds 14 [(70, eArr4_i64 r4), (69, eArr4_i64 r1), (68, vb true), (67, vb true), (66, vb true), (65, .p Go.undef), (64, .p Go.undef), (63, .p Go.undef), (62, vb true), (61, vb true), (60, .p Go.undef), (59, .p Go.undef), (58, .p Go.undef), (57, .p Go.undef)] [] [(41, [9]), (42, [12])] ?_
      obtain ⟨r134, hr134, h⟩ := bsome h
      refine WD_pt' rfl (by kernel_rfl) (by kernel_rfl) [eArr4_i64 r1, eArr4_i64 r4] (vb r134) rfl (by kernel_rfl) en9 (by kernel_rfl) (clock_Below_ok hr134) (by kernel_rfl) ?_
      refine Ds 2 [(73, vb r134), (72, vb r134)] [] [] ?_
      cases hb : (r134 : Bool)
      · replace h := cfalse hb h
        refine Ds 58 [(8, vb false), (130, vb false), (129, .p Go.undef), (128, .p Go.undef), (127, .p Go.undef), (126, .p Go.undef), (125, .p Go.undef), (124, .p Go.undef), (123, .p Go.undef), (122, vb false), (121, vb false), (120, .p Go.undef), (119, .p Go.undef), (118, .p Go.undef), (117, .p Go.undef), (116, .p Go.undef), (115, .p Go.undef), (114, .p Go.undef), (113, vb false), (112, vb false), (111, .p Go.undef), (110, .p Go.undef), (109, .p Go.undef), (108, .p Go.undef), (107, vb false), (106, vb false), (105, .p Go.undef), (104, .p Go.undef), (103, .p Go.undef), (102, vb false), (101, vb false), (100, .p Go.undef), (99, .p Go.undef), (98, .p Go.undef), (97, .p Go.undef), (96, .p Go.undef), (95, vb false), (94, vb false), (93, .p Go.undef), (92, .p Go.undef), (91, .p Go.undef), (90, .p Go.undef), (89, .p Go.undef), (88, .p Go.undef), (87, .p Go.undef), (86, .p Go.undef), (85, .p Go.undef), (84, .p Go.undef), (83, .p Go.undef), (82, .p Go.undef), (81, .p Go.undef), (80, .p Go.undef), (79, .p Go.undef), (78, vb false), (77, vb false), (76, .p Go.undef), (75, .p Go.undef), (74, .p Go.undef)] [] [] ?_
        refine WD_end (by kernel_rfl) (by kernel_rfl) (by kernel_rfl) ?_
        exact wK [8] [] ⟨false, h, rfl⟩
      replace h := ctrue hb h
      refine Ds 2 [(75, eArr4_i64 r4), (74, eArr4_i64 r2)] [] [(46, [10]), (47, [12])] ?_
      obtain ⟨r135, hr135, h⟩ := bsome h
      refine WD_pt' rfl (by kernel_rfl) (by kernel_rfl) [eArr4_i64 r2, eArr4_i64 r4] (vb r135) rfl (by kernel_rfl) en9 (by kernel_rfl) (clock_Below_ok hr135) (by kernel_rfl) ?_
      refine Ds 2 [(78, vb r135), (77, vb r135)] [] [] ?_
      cases hb : (r135 : Bool)
      · replace h := cfalse hb h
        refine Ds 53 [(8, vb false), (130, vb false), (129, .p Go.undef), (128, .p Go.undef), (127, .p Go.undef), (126, .p Go.undef), (125, .p Go.undef), (124, .p Go.undef), (123, .p Go.undef), (122, vb false), (121, vb false), (120, .p Go.undef), (119, .p Go.undef), (118, .p Go.undef), (117, .p Go.undef), (116, .p Go.undef), (115, .p Go.undef), (114, .p Go.undef), (113, vb false), (112, vb false), (111, .p Go.undef), (110, .p Go.undef), (109, .p Go.undef), (108, .p Go.undef), (107, vb false), (106, vb false), (105, .p Go.undef), (104, .p Go.undef), (103, .p Go.undef), (102, vb false), (101, vb false), (100, .p Go.undef), (99, .p Go.undef), (98, .p Go.undef), (97, .p Go.undef), (96, .p Go.undef), (95, vb false), (94, vb false), (93, .p Go.undef), (92, .p Go.undef), (91, .p Go.undef), (90, .p Go.undef), (89, .p Go.undef), (88, .p Go.undef), (87, .p Go.undef), (86, .p Go.undef), (85, .p Go.undef), (84, .p Go.undef), (83, .p Go.undef), (82, .p Go.undef), (81, .p Go.undef), (80, .p Go.undef), (79, .p Go.undef)] [] [] ?_
        refine WD_end (by kernel_rfl) (by kernel_rfl) (by kernel_rfl) ?_
        exact wK [8] [] ⟨false, h, rfl⟩
      replace h := ctrue hb h
      refine Ds 2 [(80, eArr4_i64 r3), (79, eArr4_i64 r1)] [] [(51, [9]), (52, [11])] ?_
      obtain ⟨r136, hr136, h⟩ := bsome h
      refine WD_pt' rfl (by kernel_rfl) (by kernel_rfl) [eArr4_i64 r1, eArr4_i64 r3] (vb r136) rfl (by kernel_rfl) en9 (by kernel_rfl) (clock_Below_ok hr136) (by kernel_rfl) ?_
      refine Ds 2 [(83, vb (!r136)), (82, vb (!r136))] [] [] ?_
      cases hb : (!r136 : Bool)
      · replace h := cfalse hb h
        refine Ds 2 [(85, eArr4_i64 r3), (84, eArr4_i64 r2)] [] [(56, [10]), (57, [11])] ?_
        obtain ⟨r137, hr137, h⟩ := bsome h
        refine WD_pt' rfl (by kernel_rfl) (by kernel_rfl) [eArr4_i64 r2, eArr4_i64 r3] (vb r137) rfl (by kernel_rfl) en9 (by kernel_rfl) (clock_Below_ok hr137) (by kernel_rfl) ?_
        refine Ds 3 [(89, vb (!r137)), (88, vb (!r137)), (87, vb (!r137))] [] [] ?_
        cases hb : (!r137 : Bool)
        · replace h := cfalse hb h
          refine Ds 2 [(91, eArr4_i64 r3), (90, eArr4_i64 r4)] [] [(62, [12]), (63, [11])] ?_
          obtain ⟨r138, hr138, h⟩ := bsome h
          refine WD_pt' rfl (by kernel_rfl) (by kernel_rfl) [eArr4_i64 r4, eArr4_i64 r3] (vb r138) rfl (by kernel_rfl) en9 (by kernel_rfl) (clock_Below_ok hr138) (by kernel_rfl) ?_
          refine Ds 3 [(95, vb r138), (94, vb r138), (93, vb r138)] [] [] ?_
          cases hb : (r138 : Bool)
          · replace h := cfalse hb h
            refine Ds 36 [(8, vb false), (130, vb false), (129, .p Go.undef), (128, .p Go.undef), (127, .p Go.undef), (126, .p Go.undef), (125, .p Go.undef), (124, .p Go.undef), (123, .p Go.undef), (122, vb false), (121, vb false), (120, .p Go.undef), (119, .p Go.undef), (118, .p Go.undef), (117, .p Go.undef), (116, .p Go.undef), (115, .p Go.undef), (114, .p Go.undef), (113, vb false), (112, vb false), (111, .p Go.undef), (110, .p Go.undef), (109, .p Go.undef), (108, .p Go.undef), (107, vb false), (106, vb false), (105, .p Go.undef), (104, .p Go.undef), (103, .p Go.undef), (102, vb false), (101, vb false), (100, .p Go.undef), (99, .p Go.undef), (98, .p Go.undef), (97, .p Go.undef), (96, .p Go.undef)] [] [] ?_
            refine WD_end (by kernel_rfl) (by kernel_rfl) (by kernel_rfl) ?_
            exact wK [8] [] ⟨false, h, rfl⟩
          replace h := ctrue hb h
          refine Ds 3 [(98, eArr4_i64 r1), (97, eArr4_i64 r2), (96, eArr4_i64 r4)] [] [(68, [12]), (69, [10]), (70, [9])] ?_
          obtain ⟨r139, hr139, h⟩ := bsome h
          refine WD_pt' rfl (by kernel_rfl) (by kernel_rfl) [eArr4_i64 r2, eArr4_i64 r1] (eArr4_i64 r139) rfl (by kernel_rfl) en13 (by kernel_rfl) (clock_Join_ok hr139) (by kernel_rfl) ?_
          refine WD_loc' rfl (by kernel_rfl) (by kernel_rfl) (by kernel_rfl) (ev_eqlA [.int .i64 r4.e0 r139.e0, .int .i64 r4.e1 r139.e1, .int .i64 r4.e2 r139.e2, .int .i64 r4.e3 r139.e3] (by kernel_rfl) (by kernel_rfl) (eqlArr [.int .i64 r4.e0 r139.e0, .int .i64 r4.e1 r139.e1, .int .i64 r4.e2 r139.e2, .int .i64 r4.e3 r139.e3] 3 (.int .i64) _ (by kernel_rfl) (by kernel_rfl) (by kernel_rfl) (by kernel_rfl) (by kernel_rfl)) (by kernel_rfl)) (by kernel_rfl) ?_
          refine Dt (vb (andL [r4.e0 == r139.e0, r4.e1 == r139.e1, r4.e2 == r139.e2, r4.e3 == r139.e3])) ?_
          refine Ds 2 [(102, vb (andL [r4.e0 == r139.e0, r4.e1 == r139.e1, r4.e2 == r139.e2, r4.e3 == r139.e3])), (101, vb (andL [r4.e0 == r139.e0, r4.e1 == r139.e1, r4.e2 == r139.e2, r4.e3 == r139.e3]))] [] [] ?_
          cases hb : (andL [r4.e0 == r139.e0, r4.e1 == r139.e1, r4.e2 == r139.e2, r4.e3 == r139.e3] : Bool)
          · replace h := cfalse hb h
            refine Ds 29 [(8, vb false), (130, vb false), (129, .p Go.undef), (128, .p Go.undef), (127, .p Go.undef), (126, .p Go.undef), (125, .p Go.undef), (124, .p Go.undef), (123, .p Go.undef), (122, vb false), (121, vb false), (120, .p Go.undef), (119, .p Go.undef), (118, .p Go.undef), (117, .p Go.undef), (116, .p Go.undef), (115, .p Go.undef), (114, .p Go.undef), (113, vb false), (112, vb false), (111, .p Go.undef), (110, .p Go.undef), (109, .p Go.undef), (108, .p Go.undef), (107, vb false), (106, vb false), (105, .p Go.undef), (104, .p Go.undef), (103, .p Go.undef)] [] [] ?_
            refine WD_end (by kernel_rfl) (by kernel_rfl) (by kernel_rfl) ?_
            exact wK [8] [] ⟨false, h, rfl⟩
          replace h := ctrue hb h
          refine Ds 2 [(104, eArr4_i64 r6), (103, eArr4_i64 r1)] [] [(75, [9]), (76, [13])] ?_
          obtain ⟨r140, hr140, h⟩ := bsome h
          refine WD_pt' rfl (by kernel_rfl) (by kernel_rfl) [eArr4_i64 r1, eArr4_i64 r6] (vb r140) rfl (by kernel_rfl) en9 (by kernel_rfl) (clock_Below_ok hr140) (by kernel_rfl) ?_
          refine Ds 2 [(107, vb r140), (106, vb r140)] [] [] ?_
          cases hb : (r140 : Bool)
          · replace h := cfalse hb h
            refine Ds 24 [(8, vb false), (130, vb false), (129, .p Go.undef), (128, .p Go.undef), (127, .p Go.undef), (126, .p Go.undef), (125, .p Go.undef), (124, .p Go.undef), (123, .p Go.undef), (122, vb false), (121, vb false), (120, .p Go.undef), (119, .p Go.undef), (118, .p Go.undef), (117, .p Go.undef), (116, .p Go.undef), (115, .p Go.undef), (114, .p Go.undef), (113, vb false), (112, vb false), (111, .p Go.undef), (110, .p Go.undef), (109, .p Go.undef), (108, .p Go.undef)] [] [] ?_
            refine WD_end (by kernel_rfl) (by kernel_rfl) (by kernel_rfl) ?_
            exact wK [8] [] ⟨false, h, rfl⟩
          replace h := ctrue hb h
          refine Ds 2 [(109, eArr4_i64 r1), (108, eArr4_i64 r6)] [] [(80, [13]), (81, [9])] ?_
          obtain ⟨r141, hr141, h⟩ := bsome h
          refine WD_pt' rfl (by kernel_rfl) (by kernel_rfl) [eArr4_i64 r6, eArr4_i64 r1] (vb r141) rfl (by kernel_rfl) en9 (by kernel_rfl) (clock_Below_ok hr141) (by kernel_rfl) ?_
          refine Ds 3 [(113, vb (!r141)), (112, vb (!r141)), (111, vb (!r141))] [] [] ?_
          cases hb : (!r141 : Bool)
          · replace h := cfalse hb h
            refine Ds 18 [(8, vb false), (130, vb false), (129, .p Go.undef), (128, .p Go.undef), (127, .p Go.undef), (126, .p Go.undef), (125, .p Go.undef), (124, .p Go.undef), (123, .p Go.undef), (122, vb false), (121, vb false), (120, .p Go.undef), (119, .p Go.undef), (118, .p Go.undef), (117, .p Go.undef), (116, .p Go.undef), (115, .p Go.undef), (114, .p Go.undef)] [] [] ?_
            refine WD_end (by kernel_rfl) (by kernel_rfl) (by kernel_rfl) ?_
            exact wK [8] [] ⟨false, h, rfl⟩
          replace h := ctrue hb h
          refine Ds 2 [(115, eArr4_i64 r2), (114, eArr4_i64 r1)] [] [(86, [9]), (87, [10])] ?_
          obtain ⟨r142, hr142, h⟩ := bsome h
          refine WD_pt' rfl (by kernel_rfl) (by kernel_rfl) [eArr4_i64 r1, eArr4_i64 r2] (vb r142) rfl (by kernel_rfl) en10 (by kernel_rfl) (clock_Apart_ok hr142) (by kernel_rfl) ?_
          refine Ds 2 [(118, eArr4_i64 r1), (117, eArr4_i64 r2)] [] [(89, [10]), (90, [9])] ?_
          obtain ⟨r143, hr143, h⟩ := bsome h
          refine WD_pt' rfl (by kernel_rfl) (by kernel_rfl) [eArr4_i64 r2, eArr4_i64 r1] (vb r143) rfl (by kernel_rfl) en10 (by kernel_rfl) (clock_Apart_ok hr143) (by kernel_rfl) ?_
          refine Ds 3 [(122, vb (r142 == r143)), (121, vb (r142 == r143)), (120, vb (r142 == r143))] [] [] ?_
          cases hb : ((r142 == r143) : Bool)
          · replace h := cfalse hb h
            refine Ds 9 [(8, vb false), (130, vb false), (129, .p Go.undef), (128, .p Go.undef), (127, .p Go.undef), (126, .p Go.undef), (125, .p Go.undef), (124, .p Go.undef), (123, .p Go.undef)] [] [] ?_
            refine WD_end (by kernel_rfl) (by kernel_rfl) (by kernel_rfl) ?_
            exact wK [8] [] ⟨false, h, rfl⟩
          replace h := ctrue hb h
          refine Ds 2 [(124, eArr4_i64 r2), (123, eArr4_i64 r1)] [] [(95, [9]), (96, [10])] ?_
          obtain ⟨r144, hr144, h⟩ := bsome h
          refine WD_pt' rfl (by kernel_rfl) (by kernel_rfl) [eArr4_i64 r1, eArr4_i64 r2] (vb r144) rfl (by kernel_rfl) en9 (by kernel_rfl) (clock_Below_ok hr144) (by kernel_rfl) ?_
          refine Ds 2 [(127, eArr4_i64 r2), (126, eArr4_i64 r4)] [] [(98, [12]), (99, [10])] ?_
          refine WD_loc' rfl (by kernel_rfl) (by kernel_rfl) (by kernel_rfl) (ev_eqlA [.int .i64 r4.e0 r2.e0, .int .i64 r4.e1 r2.e1, .int .i64 r4.e2 r2.e2, .int .i64 r4.e3 r2.e3] (by kernel_rfl) (by kernel_rfl) (eqlArr [.int .i64 r4.e0 r2.e0, .int .i64 r4.e1 r2.e1, .int .i64 r4.e2 r2.e2, .int .i64 r4.e3 r2.e3] 3 (.int .i64) _ (by kernel_rfl) (by kernel_rfl) (by kernel_rfl) (by kernel_rfl) (by kernel_rfl)) (by kernel_rfl)) (by kernel_rfl) ?_
          refine Dt (vb (andL [r4.e0 == r2.e0, r4.e1 == r2.e1, r4.e2 == r2.e2, r4.e3 == r2.e3])) ?_
          refine Ds 3 [(8, vb (r144 == (andL [r4.e0 == r2.e0, r4.e1 == r2.e1, r4.e2 == r2.e2, r4.e3 == r2.e3]))), (130, vb (r144 == (andL [r4.e0 == r2.e0, r4.e1 == r2.e1, r4.e2 == r2.e2, r4.e3 == r2.e3]))), (129, vb (r144 == (andL [r4.e0 == r2.e0, r4.e1 == r2.e1, r4.e2 == r2.e2, r4.e3 == r2.e3])))] [] [] ?_
          refine WD_end (by kernel_rfl) (by kernel_rfl) (by kernel_rfl) ?_
          exact wK [8] [] ⟨(r144 == (andL [r4.e0 == r2.e0, r4.e1 == r2.e1, r4.e2 == r2.e2, r4.e3 == r2.e3])), h, rfl⟩
        replace h := ctrue hb h
        refine Ds 9 [(98, eArr4_i64 r1), (97, eArr4_i64 r2), (96, eArr4_i64 r4), (95, vb true), (94, vb true), (93, vb true), (92, .p Go.undef), (91, .p Go.undef), (90, .p Go.undef)] [] [(68, [12]), (69, [10]), (70, [9])] ?_
        obtain ⟨r145, hr145, h⟩ := bsome h
        refine WD_pt' rfl (by kernel_rfl) (by kernel_rfl) [eArr4_i64 r2, eArr4_i64 r1] (eArr4_i64 r145) rfl (by kernel_rfl) en13 (by kernel_rfl) (clock_Join_ok hr145) (by kernel_rfl) ?_
        refine WD_loc' rfl (by kernel_rfl) (by kernel_rfl) (by kernel_rfl) (ev_eqlA [.int .i64 r4.e0 r145.e0, .int .i64 r4.e1 r145.e1, .int .i64 r4.e2 r145.e2, .int .i64 r4.e3 r145.e3] (by kernel_rfl) (by kernel_rfl) (eqlArr [.int .i64 r4.e0 r145.e0, .int .i64 r4.e1 r145.e1, .int .i64 r4.e2 r145.e2, .int .i64 r4.e3 r145.e3] 3 (.int .i64) _ (by kernel_rfl) (by kernel_rfl) (by kernel_rfl) (by kernel_rfl) (by kernel_rfl)) (by kernel_rfl)) (by kernel_rfl) ?_
        refine Dt (vb (andL [r4.e0 == r145.e0, r4.e1 == r145.e1, r4.e2 == r145.e2, r4.e3 == r145.e3])) ?_
        refine Ds 2 [(102, vb (andL [r4.e0 == r145.e0, r4.e1 == r145.e1, r4.e2 == r145.e2, r4.e3 == r145.e3])), (101, vb (andL [r4.e0 == r145.e0, r4.e1 == r145.e1, r4.e2 == r145.e2, r4.e3 == r145.e3]))] [] [] ?_
        cases hb : (andL [r4.e0 == r145.e0, r4.e1 == r145.e1, r4.e2 == r145.e2, r4.e3 == r145.e3] : Bool)
        · replace h := cfalse hb h
          refine Ds 29 [(8, vb false), (130, vb false), (129, .p Go.undef), (128, .p Go.undef), (127, .p Go.undef), (126, .p Go.undef), (125, .p Go.undef), (124, .p Go.undef), (123, .p Go.undef), (122, vb false), (121, vb false), (120, .p Go.undef), (119, .p Go.undef), (118, .p Go.undef), (117, .p Go.undef), (116, .p Go.undef), (115, .p Go.undef), (114, .p Go.undef), (113, vb false), (112, vb false), (111, .p Go.undef), (110, .p Go.undef), (109, .p Go.undef), (108, .p Go.undef), (107, vb false), (106, vb false), (105, .p Go.undef), (104, .p Go.undef), (103, .p Go.undef)] [] [] ?_
          refine WD_end (by kernel_rfl) (by kernel_rfl) (by kernel_rfl) ?_
          exact wK [8] [] ⟨false, h, rfl⟩
        replace h := ctrue hb h
        refine Ds 2 [(104, eArr4_i64 r6), (103, eArr4_i64 r1)] [] [(75, [9]), (76, [13])] ?_
        obtain ⟨r146, hr146, h⟩ := bsome h
        refine WD_pt' rfl (by kernel_rfl) (by kernel_rfl) [eArr4_i64 r1, eArr4_i64 r6] (vb r146) rfl (by kernel_rfl) en9 (by kernel_rfl) (clock_Below_ok hr146) (by kernel_rfl) ?_
        refine Ds 2 [(107, vb r146), (106, vb r146)] [] [] ?_
        cases hb : (r146 : Bool)
        · replace h := cfalse hb h
          refine Ds 24 [(8, vb false), (130, vb false), (129, .p Go.undef), (128, .p Go.undef), (127, .p Go.undef), (126, .p Go.undef), (125, .p Go.undef), (124, .p Go.undef), (123, .p Go.undef), (122, vb false), (121, vb false), (120, .p Go.undef), (119, .p Go.undef), (118, .p Go.undef), (117, .p Go.undef), (116, .p Go.undef), (115, .p Go.undef), (114, .p Go.undef), (113, vb false), (112, vb false), (111, .p Go.undef), (110, .p Go.undef), (109, .p Go.undef), (108, .p Go.undef)] [] [] ?_
          refine WD_end (by kernel_rfl) (by kernel_rfl) (by kernel_rfl) ?_
          exact wK [8] [] ⟨false, h, rfl⟩
        replace h := ctrue hb h
        refine Ds 2 [(109, eArr4_i64 r1), (108, eArr4_i64 r6)] [] [(80, [13]), (81, [9])] ?_
        obtain ⟨r147, hr147, h⟩ := bsome h
        refine WD_pt' rfl (by kernel_rfl) (by kernel_rfl) [eArr4_i64 r6, eArr4_i64 r1] (vb r147) rfl (by kernel_rfl) en9 (by kernel_rfl) (clock_Below_ok hr147) (by kernel_rfl) ?_
        refine Ds 3 [(113, vb (!r147)), (112, vb (!r147)), (111, vb (!r147))] [] [] ?_
        cases hb : (!r147 : Bool)
        · replace h := cfalse hb h
          refine Ds 18 [(8, vb false), (130, vb false), (129, .p Go.undef), (128, .p Go.undef), (127, .p Go.undef), (126, .p Go.undef), (125, .p Go.undef), (124, .p Go.undef), (123, .p Go.undef), (122, vb false), (121, vb false), (120, .p Go.undef), (119, .p Go.undef), (118, .p Go.undef), (117, .p Go.undef), (116, .p Go.undef), (115, .p Go.undef), (114, .p Go.undef)] [] [] ?_
          refine WD_end (by kernel_rfl) (by kernel_rfl) (by kernel_rfl) ?_
          exact wK [8] [] ⟨false, h, rfl⟩
        replace h := ctrue hb h
        refine Ds 2 [(115, eArr4_i64 r2), (114, eArr4_i64 r1)] [] [(86, [9]), (87, [10])] ?_
        obtain ⟨r148, hr148, h⟩ := bsome h
        refine WD_pt' rfl (by kernel_rfl) (by kernel_rfl) [eArr4_i64 r1, eArr4_i64 r2] (vb r148) rfl (by kernel_rfl) en10 (by kernel_rfl) (clock_Apart_ok hr148) (by kernel_rfl) ?_
        refine Ds 2 [(118, eArr4_i64 r1), (117, eArr4_i64 r2)] [] [(89, [10]), (90, [9])] ?_
        obtain ⟨r149, hr149, h⟩ := bsome h
        refine WD_pt' rfl (by kernel_rfl) (by kernel_rfl) [eArr4_i64 r2, eArr4_i64 r1] (vb r149) rfl (by kernel_rfl) en10 (by kernel_rfl) (clock_Apart_ok hr149) (by kernel_rfl) ?_
        refine Ds 3 [(122, vb (r148 == r149)), (121, vb (r148 == r149)), (120, vb (r148 == r149))] [] [] ?_
        cases hb : ((r148 == r149) : Bool)
        · replace h := cfalse hb h
          refine Ds 9 [(8, vb false), (130, vb false), (129, .p Go.undef), (128, .p Go.undef), (127, .p Go.undef), (126, .p Go.undef), (125, .p Go.undef), (124, .p Go.undef), (123, .p Go.undef)] [] [] ?_
          refine WD_end (by kernel_rfl) (by kernel_rfl) (by kernel_rfl) ?_
          exact wK [8] [] ⟨false, h, rfl⟩
        replace h := ctrue hb h
        refine Ds 2 [(124, eArr4_i64 r2), (123, eArr4_i64 r1)] [] [(95, [9]), (96, [10])] ?_
        obtain ⟨r150, hr150, h⟩ := bsome h
        refine WD_pt' rfl (by kernel_rfl) (by kernel_rfl) [eArr4_i64 r1, eArr4_i64 r2] (vb r150) rfl (by kernel_rfl) en9 (by kernel_rfl) (clock_Below_ok hr150) (by kernel_rfl) ?_
        refine Ds 2 [(127, eArr4_i64 r2), (126, eArr4_i64 r4)] [] [(98, [12]), (99, [10])] ?_
        refine WD_loc' rfl (by kernel_rfl) (by kernel_rfl) (by kernel_rfl) (ev_eqlA [.int .i64 r4.e0 r2.e0, .int .i64 r4.e1 r2.e1, .int .i64 r4.e2 r2.e2, .int .i64 r4.e3 r2.e3] (by kernel_rfl) (by kernel_rfl) (eqlArr [.int .i64 r4.e0 r2.e0, .int .i64 r4.e1 r2.e1, .int .i64 r4.e2 r2.e2, .int .i64 r4.e3 r2.e3] 3 (.int .i64) _ (by kernel_rfl) (by kernel_rfl) (by kernel_rfl) (by kernel_rfl) (by kernel_rfl)) (by kernel_rfl)) (by kernel_rfl) ?_
        refine Dt (vb (andL [r4.e0 == r2.e0, r4.e1 == r2.e1, r4.e2 == r2.e2, r4.e3 == r2.e3])) ?_
        refine Ds 3 [(8, vb (r150 == (andL [r4.e0 == r2.e0, r4.e1 == r2.e1, r4.e2 == r2.e2, r4.e3 == r2.e3]))), (130, vb (r150 == (andL [r4.e0 == r2.e0, r4.e1 == r2.e1, r4.e2 == r2.e2, r4.e3 == r2.e3]))), (129, vb (r150 == (andL [r4.e0 == r2.e0, r4.e1 == r2.e1, r4.e2 == r2.e2, r4.e3 == r2.e3])))] [] [] ?_
        refine WD_end (by kernel_rfl) (by kernel_rfl) (by kernel_rfl) ?_
        exact wK [8] [] ⟨(r150 == (andL [r4.e0 == r2.e0, r4.e1 == r2.e1, r4.e2 == r2.e2, r4.e3 == r2.e3])), h, rfl⟩
      replace h := ctrue hb h
      refine Ds 15 [(98, eArr4_i64 r1), (97, eArr4_i64 r2), (96, eArr4_i64 r4), (95, vb true), (94, vb true), (93, vb true), (92, .p Go.undef), (91, .p Go.undef), (90, .p Go.undef), (89, vb true), (88, vb true), (87, .p Go.undef), (86, .p Go.undef), (85, .p Go.undef), (84, .p Go.undef)] [] [(68, [12]), (69, [10]), (70, [9])] ?_
      obtain ⟨r151, hr151, h⟩ := bsome h
      refine WD_pt' rfl (by kernel_rfl) (by kernel_rfl) [eArr4_i64 r2, eArr4_i64 r1] (eArr4_i64 r151) rfl (by kernel_rfl) en13 (by kernel_rfl) (clock_Join_ok hr151) (by kernel_rfl) ?_
      refine WD_loc' rfl (by kernel_rfl) (by kernel_rfl) (by kernel_rfl) (ev_eqlA [.int .i64 r4.e0 r151.e0, .int .i64 r4.e1 r151.e1, .int .i64 r4.e2 r151.e2, .int .i64 r4.e3 r151.e3] (by kernel_rfl) (by kernel_rfl) (eqlArr [.int .i64 r4.e0 r151.e0, .int .i64 r4.e1 r151.e1, .int .i64 r4.e2 r151.e2, .int .i64 r4.e3 r151.e3] 3 (.int .i64) _ (by kernel_rfl) (by kernel_rfl) (by kernel_rfl) (by kernel_rfl) (by kernel_rfl)) (by kernel_rfl)) (by kernel_rfl) ?_
      refine Dt (vb (andL [r4.e0 == r151.e0, r4.e1 == r151.e1, r4.e2 == r151.e2, r4.e3 == r151.e3])) ?_
      refine Ds 2 [(102, vb (andL [r4.e0 == r151.e0, r4.e1 == r151.e1, r4.e2 == r151.e2, r4.e3 == r151.e3])), (101, vb (andL [r4.e0 == r151.e0, r4.e1 == r151.e1, r4.e2 == r151.e2, r4.e3 == r151.e3]))] [] [] ?_
      cases hb : (andL [r4.e0 == r151.e0, r4.e1 == r151.e1, r4.e2 == r151.e2, r4.e3 == r151.e3] : Bool)
      · replace h := cfalse hb h
        refine Ds 29 [(8, vb false), (130, vb false), (129, .p Go.undef), (128, .p Go.undef), (127, .p Go.undef), (126, .p Go.undef), (125, .p Go.undef), (124, .p Go.undef), (123, .p Go.undef), (122, vb false), (121, vb false), (120, .p Go.undef), (119, .p Go.undef), (118, .p Go.undef), (117, .p Go.undef), (116, .p Go.undef), (115, .p Go.undef), (114, .p Go.undef), (113, vb false), (112, vb false), (111, .p Go.undef), (110, .p Go.undef), (109, .p Go.undef), (108, .p Go.undef), (107, vb false), (106, vb false), (105, .p Go.undef), (104, .p Go.undef), (103, .p Go.undef)] [] [] ?_
        refine WD_end (by kernel_rfl) (by kernel_rfl) (by kernel_rfl) ?_
        exact wK [8] [] ⟨false, h, rfl⟩
      replace h := ctrue hb h
      refine Ds 2 [(104, eArr4_i64 r6), (103, eArr4_i64 r1)] [] [(75, [9]), (76, [13])] ?_
      obtain ⟨r152, hr152, h⟩ := bsome h
      refine WD_pt' rfl (by kernel_rfl) (by kernel_rfl) [eArr4_i64 r1, eArr4_i64 r6] (vb r152) rfl (by kernel_rfl) en9 (by kernel_rfl) (clock_Below_ok hr152) (by kernel_rfl) ?_
      refine Ds 2 [(107, vb r152), (106, vb r152)] [] [] ?_
      cases hb : (r152 : Bool)
      · replace h := cfalse hb h
        refine Ds 24 [(8, vb false), (130, vb false), (129, .p Go.undef), (128, .p Go.undef), (127, .p Go.undef), (126, .p Go.undef), (125, .p Go.undef), (124, .p Go.undef), (123, .p Go.undef), (122, vb false), (121, vb false), (120, .p Go.undef), (119, .p Go.undef), (118, .p Go.undef), (117, .p Go.undef), (116, .p Go.undef), (115, .p Go.undef), (114, .p Go.undef), (113, vb false), (112, vb false), (111, .p Go.undef), (110, .p Go.undef), (109, .p Go.undef), (108, .p Go.undef)] [] [] ?_
        refine WD_end (by kernel_rfl) (by kernel_rfl) (by kernel_rfl) ?_
        exact wK [8] [] ⟨false, h, rfl⟩
      replace h := ctrue hb h
      refine Ds 2 [(109, eArr4_i64 r1), (108, eArr4_i64 r6)] [] [(80, [13]), (81, [9])] ?_
      obtain ⟨r153, hr153, h⟩ := bsome h
      refine WD_pt' rfl (by kernel_rfl) (by kernel_rfl) [eArr4_i64 r6, eArr4_i64 r1] (vb r153) rfl (by kernel_rfl) en9 (by kernel_rfl) (clock_Below_ok hr153) (by kernel_rfl) ?_
      refine Ds 3 [(113, vb (!r153)), (112, vb (!r153)), (111, vb (!r153))] [] [] ?_
      cases hb : (!r153 : Bool)
      · replace h := cfalse hb h
        refine Ds 18 [(8, vb false), (130, vb false), (129, .p Go.undef), (128, .p Go.undef), (127, .p Go.undef), (126, .p Go.undef), (125, .p Go.undef), (124, .p Go.undef), (123, .p Go.undef), (122, vb false), (121, vb false), (120, .p Go.undef), (119, .p Go.undef), (118, .p Go.undef), (117, .p Go.undef), (116, .p Go.undef), (115, .p Go.undef), (114, .p Go.undef)] [] [] ?_
        refine WD_end (by kernel_rfl) (by kernel_rfl) (by kernel_rfl) ?_
        exact wK [8] [] ⟨false, h, rfl⟩
      replace h := ctrue hb h
      refine Ds 2 [(115, eArr4_i64 r2), (114, eArr4_i64 r1)] [] [(86, [9]), (87, [10])] ?_
      obtain ⟨r154, hr154, h⟩ := bsome h
      refine WD_pt' rfl (by kernel_rfl) (by kernel_rfl) [eArr4_i64 r1, eArr4_i64 r2] (vb r154) rfl (by kernel_rfl) en10 (by kernel_rfl) (clock_Apart_ok hr154) (by kernel_rfl) ?_
      refine Ds 2 [(118, eArr4_i64 r1), (117, eArr4_i64 r2)] [] [(89, [10]), (90, [9])] ?_
      obtain ⟨r155, hr155, h⟩ := bsome h
      refine WD_pt' rfl (by kernel_rfl) (by kernel_rfl) [eArr4_i64 r2, eArr4_i64 r1] (vb r155) rfl (by kernel_rfl) en10 (by kernel_rfl) (clock_Apart_ok hr155) (by kernel_rfl) ?_
      refine Ds 3 [(122, vb (r154 == r155)), (121, vb (r154 == r155)), (120, vb (r154 == r155))] [] [] ?_
      cases hb : ((r154 == r155) : Bool)
      · replace h := cfalse hb h
        refine Ds 9 [(8, vb false), (130, vb false), (129, .p Go.undef), (128, .p Go.undef), (127, .p Go.undef), (126, .p Go.undef), (125, .p Go.undef), (124, .p Go.undef), (123, .p Go.undef)] [] [] ?_
        refine WD_end (by kernel_rfl) (by kernel_rfl) (by kernel_rfl) ?_
        exact wK [8] [] ⟨false, h, rfl⟩
      replace h := ctrue hb h
      refine Ds 2 [(124, eArr4_i64 r2), (123, eArr4_i64 r1)] [] [(95, [9]), (96, [10])] ?_
      obtain ⟨r156, hr156, h⟩ := bsome h
      refine WD_pt' rfl (by kernel_rfl) (by kernel_rfl) [eArr4_i64 r1, eArr4_i64 r2] (vb r156) rfl (by kernel_rfl) en9 (by kernel_rfl) (clock_Below_ok hr156) (by kernel_rfl) ?_
      refine Ds 2 [(127, eArr4_i64 r2), (126, eArr4_i64 r4)] [] [(98, [12]), (99, [10])] ?_
      refine WD_loc' rfl (by kernel_rfl) (by kernel_rfl) (by kernel_rfl) (ev_eqlA [.int .i64 r4.e0 r2.e0, .int .i64 r4.e1 r2.e1, .int .i64 r4.e2 r2.e2, .int .i64 r4.e3 r2.e3] (by kernel_rfl) (by kernel_rfl) (eqlArr [.int .i64 r4.e0 r2.e0, .int .i64 r4.e1 r2.e1, .int .i64 r4.e2 r2.e2, .int .i64 r4.e3 r2.e3] 3 (.int .i64) _ (by kernel_rfl) (by kernel_rfl) (by kernel_rfl) (by kernel_rfl) (by kernel_rfl)) (by kernel_rfl)) (by kernel_rfl) ?_
      refine Dt (vb (andL [r4.e0 == r2.e0, r4.e1 == r2.e1, r4.e2 == r2.e2, r4.e3 == r2.e3])) ?_
      refine Ds 3 [(8, vb (r156 == (andL [r4.e0 == r2.e0, r4.e1 == r2.e1, r4.e2 == r2.e2, r4.e3 == r2.e3]))), (130, vb (r156 == (andL [r4.e0 == r2.e0, r4.e1 == r2.e1, r4.e2 == r2.e2, r4.e3 == r2.e3]))), (129, vb (r156 == (andL [r4.e0 == r2.e0, r4.e1 == r2.e1, r4.e2 == r2.e2, r4.e3 == r2.e3])))] [] [] ?_
      refine WD_end (by kernel_rfl) (by kernel_rfl) (by kernel_rfl) ?_
      exact wK [8] [] ⟨(r156 == (andL [r4.e0 == r2.e0, r4.e1 == r2.e1, r4.e2 == r2.e2, r4.e3 == r2.e3])), h, rfl⟩
    replace h := ctrue hb h
    refine Ds 14 [(53, eArr4_i64 r2), (52, eArr4_i64 r1), (51, vb true), (50, vb true), (49, vb true), (48, .p Go.undef), (47, .p Go.undef), (46, .p Go.undef), (45, vb true), (44, vb true), (43, .p Go.undef), (42, .p Go.undef), (41, .p Go.undef), (40, .p Go.undef)] [] [(24, [9]), (25, [10])] ?_
    obtain ⟨r157, hr157, h⟩ := bsome h
    refine WD_pt' rfl (by kernel_rfl) (by kernel_rfl) [eArr4_i64 r1, eArr4_i64 r2] (vb r157) rfl (by kernel_rfl) en9 (by kernel_rfl) (clock_Below_ok hr157) (by kernel_rfl) ?_
    refine Ds 2 [(56, vb (!r157)), (55, vb (!r157))] [] [] ?_
    cases hb : (!r157 : Bool)
    · replace h := cfalse hb h
      refine Ds 2 [(58, eArr4_i64 r3), (57, eArr4_i64 r2)] [] [(29, [10]), (30, [11])] ?_
      obtain ⟨r158, hr158, h⟩ := bsome h
      refine WD_pt' rfl (by kernel_rfl) (by kernel_rfl) [eArr4_i64 r2, eArr4_i64 r3] (vb r158) rfl (by kernel_rfl) en9 (by kernel_rfl) (clock_Below_ok hr158) (by kernel_rfl) ?_
      refine Ds 3 [(62, vb (!r158)), (61, vb (!r158)), (60, vb (!r158))] [] [] ?_
      cases hb : (!r158 : Bool)
      · replace h := cfalse hb h
        refine Ds 2 [(64, eArr4_i64 r3), (63, eArr4_i64 r1)] [] [(35, [9]), (36, [11])] ?_
        obtain ⟨r159, hr159, h⟩ := bsome h
        refine WD_pt' rfl (by kernel_rfl) (by kernel_rfl) [eArr4_i64 r1, eArr4_i64 r3] (vb r159) rfl (by kernel_rfl) en9 (by kernel_rfl) (clock_Below_ok hr159) (by kernel_rfl) ?_
        refine Ds 3 [(68, vb r159), (67, vb r159), (66, vb r159)] [] [] ?_
        cases hb : (r159 : Bool)
        · replace h := cfalse hb h
          refine Ds 63 [(8, vb false), (130, vb false), (129, .p Go.undef), (128, .p Go.undef), (127, .p Go.undef), (126, .p Go.undef), (125, .p Go.undef), (124, .p Go.undef), (123, .p Go.undef), (122, vb false), (121, vb false), (120, .p Go.undef), (119, .p Go.undef), (118, .p Go.undef), (117, .p Go.undef), (116, .p Go.undef), (115, .p Go.undef), (114, .p Go.undef), (113, vb false), (112, vb false), (111, .p Go.undef), (110, .p Go.undef), (109, .p Go.undef), (108, .p Go.undef), (107, vb false), (106, vb false), (105, .p Go.undef), (104, .p Go.undef), (103, .p Go.undef), (102, vb false), (101, vb false), (100, .p Go.undef), (99, .p Go.undef), (98, .p Go.undef), (97, .p Go.undef), (96, .p Go.undef), (95, vb false), (94, vb false), (93, .p Go.undef), (92, .p Go.undef), (91, .p Go.undef), (90, .p Go.undef), (89, .p Go.undef), (88, .p Go.undef), (87, .p Go.undef), (86, .p Go.undef), (85, .p Go.undef), (84, .p Go.undef), (83, .p Go.undef), (82, .p Go.undef), (81, .p Go.undef), (80, .p Go.undef), (79, .p Go.undef), (78, vb false), (77, vb false), (76, .p Go.undef), (75, .p Go.undef), (74, .p Go.undef), (73, vb false), (72, vb false), (71, .p Go.undef), (70, .p Go.undef), (69, .p Go.undef)] [] [] ?_
          refine WD_end (by kernel_rfl) (by kernel_rfl) (by kernel_rfl) ?_
          exact wK [8] [] ⟨false, h, rfl⟩
        replace h := ctrue hb h
        refine Ds 2 [(70, eArr4_i64 r4), (69, eArr4_i64 r1)] [] [(41, [9]), (42, [12])] ?_
        obtain ⟨r160, hr160, h⟩ := bsome h
        refine WD_pt' rfl (by kernel_rfl) (by kernel_rfl) [eArr4_i64 r1, eArr4_i64 r4] (vb r160) rfl (by kernel_rfl) en9 (by kernel_rfl) (clock_Below_ok hr160) (by kernel_rfl) ?_
        refine Ds 2 [(73, vb r160), (72, vb r160)] [] [] ?_
        cases hb : (r160 : Bool)
        · replace h := cfalse hb h
          refine Ds 58 [(8, vb false), (130, vb false), (129, .p Go.undef), (128, .p Go.undef), (127, .p Go.undef), (126, .p Go.undef), (125, .p Go.undef), (124, .p Go.undef), (123, .p Go.undef), (122, vb false), (121, vb false), (120, .p Go.undef), (119, .p Go.undef), (118, .p Go.undef), (117, .p Go.undef), (116, .p Go.undef), (115, .p Go.undef), (114, .p Go.undef), (113, vb false), (112, vb false), (111, .p Go.undef), (110, .p Go.undef), (109, .p Go.undef), (108, .p Go.undef), (107, vb false), (106, vb false), (105, .p Go.undef), (104, .p Go.undef), (103, .p Go.undef), (102, vb false), (101, vb false), (100, .p Go.undef), (99, .p Go.undef), (98, .p Go.undef), (97, .p Go.undef), (96, .p Go.undef), (95, vb false), (94, vb false), (93, .p Go.undef), (92, .p Go.undef), (91, .p Go.undef), (90, .p Go.undef), (89, .p Go.undef), (88, .p Go.undef), (87, .p Go.undef), (86, .p Go.undef), (85, .p Go.undef), (84, .p Go.undef), (83, .p Go.undef), (82, .p Go.undef), (81, .p Go.undef), (80, .p Go.undef), (79, .p Go.undef), (78, vb false), (77, vb false), (76, .p Go.undef), (75, .p Go.undef), (74, .p Go.undef)] [] [] ?_
          refine WD_end (by kernel_rfl) (by kernel_rfl) (by kernel_rfl) ?_
          exact wK [8] [] ⟨false, h, rfl⟩
        replace h := ctrue hb h
        refine Ds 2 [(75, eArr4_i64 r4), (74, eArr4_i64 r2)] [] [(46, [10]), (47, [12])] ?_
        obtain ⟨r161, hr161, h⟩ := bsome h
        refine WD_pt' rfl (by kernel_rfl) (by kernel_rfl) [eArr4_i64 r2, eArr4_i64 r4] (vb r161) rfl (by kernel_rfl) en9 (by kernel_rfl) (clock_Below_ok hr161) (by kernel_rfl) ?_
        refine Ds 2 [(78, vb r161), (77, vb r161)] [] [] ?_
        cases hb : (r161 : Bool)
        · replace h := cfalse hb h
          refine Ds 53 [(8, vb false), (130, vb false), (129, .p Go.undef), (128, .p Go.undef), (127, .p Go.undef), (126, .p Go.undef), (125, .p Go.undef), (124, .p Go.undef), (123, .p Go.undef), (122, vb false), (121, vb false), (120, .p Go.undef), (119, .p Go.undef), (118, .p Go.undef), (117, .p Go.undef), (116, .p Go.undef), (115, .p Go.undef), (114, .p Go.undef), (113, vb false), (112, vb false), (111, .p Go.undef), (110, .p Go.undef), (109, .p Go.undef), (108, .p Go.undef), (107, vb false), (106, vb false), (105, .p Go.undef), (104, .p Go.undef), (103, .p Go.undef), (102, vb false), (101, vb false), (100, .p Go.undef), (99, .p Go.undef), (98, .p Go.undef), (97, .p Go.undef), (96, .p Go.undef), (95, vb false), (94, vb false), (93, .p Go.undef), (92, .p Go.undef), (91, .p Go.undef), (90, .p Go.undef), (89, .p Go.undef), (88, .p Go.undef), (87, .p Go.undef), (86, .p Go.undef), (85, .p Go.undef), (84, .p Go.undef), (83, .p Go.undef), (82, .p Go.undef), (81, .p Go.undef), (80, .p Go.undef), (79, .p Go.undef)] [] [] ?_
          refine WD_end (by kernel_rfl) (by kernel_rfl) (by kernel_rfl) ?_
          exact wK [8] [] ⟨false, h, rfl⟩
        replace h := ctrue hb h
        refine Ds 2 [(80, eArr4_i64 r3), (79, eArr4_i64 r1)] [] [(51, [9]), (52, [11])] ?_
        obtain ⟨r162, hr162, h⟩ := bsome h
        refine WD_pt' rfl (by kernel_rfl) (by kernel_rfl) [eArr4_i64 r1, eArr4_i64 r3] (vb r162) rfl (by kernel_rfl) en9 (by kernel_rfl) (clock_Below_ok hr162) (by kernel_rfl) ?_
        refine Ds 2 [(83, vb (!r162)), (82, vb (!r162))] [] [] ?_
        cases hb : (!r162 : Bool)
        · replace h := cfalse hb h
          refine Ds 2 [(85, eArr4_i64 r3), (84, eArr4_i64 r2)] [] [(56, [10]), (57, [11])] ?_
          obtain ⟨r163, hr163, h⟩ := bsome h
          refine WD_pt' rfl (by kernel_rfl) (by kernel_rfl) [eArr4_i64 r2, eArr4_i64 r3] (vb r163) rfl (by kernel_rfl) en9 (by kernel_rfl) (clock_Below_ok hr163) (by kernel_rfl) ?_
          refine Ds 3 [(89, vb (!r163)), (88, vb (!r163)), (87, vb (!r163))] [] [] ?_
          cases hb : (!r163 : Bool)
          · replace h := cfalse hb h
            refine Ds 2 [(91, eArr4_i64 r3), (90, eArr4_i64 r4)] [] [(62, [12]), (63, [11])] ?_
            obtain ⟨r164, hr164, h⟩ := bsome h
            refine WD_pt' rfl (by kernel_rfl) (by kernel_rfl) [eArr4_i64 r4, eArr4_i64 r3] (vb r164) rfl (by kernel_rfl) en9 (by kernel_rfl) (clock_Below_ok hr164) (by kernel_rfl) ?_
            refine Ds 3 [(95, vb r164), (94, vb r164), (93, vb r164)] [] [] ?_
            cases hb : (r164 : Bool)
            · replace h := cfalse hb h
              refine Ds 36 [(8, vb false), (130, vb false), (129, .p Go.undef), (128, .p Go.undef), (127, .p Go.undef), (126, .p Go.undef), (125, .p Go.undef), (124, .p Go.undef), (123, .p Go.undef), (122, vb false), (121, vb false), (120, .p Go.undef), (119, .p Go.undef), (118, .p Go.undef), (117, .p Go.undef), (116, .p Go.undef), (115, .p Go.undef), (114, .p Go.undef), (113, vb false), (112, vb false), (111, .p Go.undef), (110, .p Go.undef), (109, .p Go.undef), (108, .p Go.undef), (107, vb false), (106, vb false), (105, .p Go.undef), (104, .p Go.undef), (103, .p Go.undef), (102, vb false), (101, vb false), (100, .p Go.undef), (99, .p Go.undef), (98, .p Go.undef), (97, .p Go.undef), (96, .p Go.undef)] [] [] ?_
              refine WD_end (by kernel_rfl) (by kernel_rfl) (by kernel_rfl) ?_
              exact wK [8] [] ⟨false, h, rfl⟩
            replace h := ctrue hb h
            refine Ds 3 [(98, eArr4_i64 r1), (97, eArr4_i64 r2), (96, eArr4_i64 r4)] [] [(68, [12]), (69, [10]), (70, [9])] ?_
            obtain ⟨r165, hr165, h⟩ := bsome h
            refine WD_pt' rfl (by kernel_rfl) (by kernel_rfl) [eArr4_i64 r2, eArr4_i64 r1] (eArr4_i64 r165) rfl (by kernel_rfl) en13 (by kernel_rfl) (clock_Join_ok hr165) (by kernel_rfl) ?_
            refine WD_loc' rfl (by kernel_rfl) (by kernel_rfl) (by kernel_rfl) (ev_eqlA [.int .i64 r4.e0 r165.e0, .int .i64 r4.e1 r165.e1, .int .i64 r4.e2 r165.e2, .int .i64 r4.e3 r165.e3] (by kernel_rfl) (by kernel_rfl) (eqlArr [.int .i64 r4.e0 r165.e0, .int .i64 r4.e1 r165.e1, .int .i64 r4.e2 r165.e2, .int .i64 r4.e3 r165.e3] 3 (.int .i64) _ (by kernel_rfl) (by kernel_rfl) (by kernel_rfl) (by kernel_rfl) (by kernel_rfl)) (by kernel_rfl)) (by kernel_rfl) ?_
            refine Dt (vb (andL [r4.e0 == r165.e0, r4.e1 == r165.e1, r4.e2 == r165.e2, r4.e3 == r165.e3])) ?_
            refine Ds 2 [(102, vb (andL [r4.e0 == r165.e0, r4.e1 == r165.e1, r4.e2 == r165.e2, r4.e3 == r165.e3])), (101, vb (andL [r4.e0 == r165.e0, r4.e1 == r165.e1, r4.e2 == r165.e2, r4.e3 == r165.e3]))] [] [] ?_
            cases hb : (andL [r4.e0 == r165.e0, r4.e1 == r165.e1, r4.e2 == r165.e2, r4.e3 == r165.e3] : Bool)
            · replace h := cfalse hb h
              refine Ds 29 [(8, vb false), (130, vb false), (129, .p Go.undef), (128, .p Go.undef), (127, .p Go.undef), (126, .p Go.undef), (125, .p Go.undef), (124, .p Go.undef), (123, .p Go.undef), (122, vb false), (121, vb false), (120, .p Go.undef), (119, .p Go.undef), (118, .p Go.undef), (117, .p Go.undef), (116, .p Go.undef), (115, .p Go.undef), (114, .p Go.undef), (113, vb false), (112, vb false), (111, .p Go.undef), (110, .p Go.undef), (109, .p Go.undef), (108, .p Go.undef), (107, vb false), (106, vb false), (105, .p Go.undef), (104, .p Go.undef), (103, .p Go.undef)] [] [] ?_
              refine WD_end (by kernel_rfl) (by kernel_rfl) (by kernel_rfl) ?_
              exact wK [8] [] ⟨false, h, rfl⟩
            replace h := ctrue hb h
            refine Ds 2 [(104, eArr4_i64 r6), (103, eArr4_i64 r1)] [] [(75, [9]), (76, [13])] ?_
            obtain ⟨r166, hr166, h⟩ := bsome h
            refine WD_pt' rfl (by kernel_rfl) (by kernel_rfl) [eArr4_i64 r1, eArr4_i64 r6] (vb r166) rfl (by kernel_rfl) en9 (by kernel_rfl) (clock_Below_ok hr166) (by kernel_rfl) ?_
            refine Ds 2 [(107, vb r166), (106, vb r166)] [] [] ?_
            cases hb : (r166 : Bool)
            · replace h := cfalse hb h
              refine Ds 24 [(8, vb false), (130, vb false), (129, .p Go.undef), (128, .p Go.undef), (127, .p Go.undef), (126, .p Go.undef), (125, .p Go.undef), (124, .p Go.undef), (123, .p Go.undef), (122, vb false), (121, vb false), (120, .p Go.undef), (119, .p Go.undef), (118, .p Go.undef), (117, .p Go.undef), (116, .p Go.undef), (115, .p Go.undef), (114, .p Go.undef), (113, vb false), (112, vb false), (111, .p Go.undef), (110, .p Go.undef), (109, .p Go.undef), (108, .p Go.undef)] [] [] ?_
              refine WD_end (by kernel_rfl) (by kernel_rfl) (by kernel_rfl) ?_
              exact wK [8] [] ⟨false, h, rfl⟩
            replace h := ctrue hb h
            refine Ds 2 [(109, eArr4_i64 r1), (108, eArr4_i64 r6)] [] [(80, [13]), (81, [9])] ?_
            obtain ⟨r167, hr167, h⟩ := bsome h
            refine WD_pt' rfl (by kernel_rfl) (by kernel_rfl) [eArr4_i64 r6, eArr4_i64 r1] (vb r167) rfl (by kernel_rfl) en9 (by kernel_rfl) (clock_Below_ok hr167) (by kernel_rfl) ?_
            refine Ds 3 [(113, vb (!r167)), (112, vb (!r167)), (111, vb (!r167))] [] [] ?_
            cases hb : (!r167 : Bool)
            · replace h := cfalse hb h
              refine Ds 18 [(8, vb false), (130, vb false), (129, .p Go.undef), (128, .p Go.undef), (127, .p Go.undef), (126, .p Go.undef), (125, .p Go.undef), (124, .p Go.undef), (123, .p Go.undef), (122, vb false), (121, vb false), (120, .p Go.undef), (119, .p Go.undef), (118, .p Go.undef), (117, .p Go.undef), (116, .p Go.undef), (115, .p Go.undef), (114, .p Go.undef)] [] [] ?_
              refine WD_end (by kernel_rfl) (by kernel_rfl) (by kernel_rfl) ?_
              exact wK [8] [] ⟨false, h, rfl⟩
            replace h := ctrue hb h
            refine Ds 2 [(115, eArr4_i64 r2), (114, eArr4_i64 r1)] [] [(86, [9]), (87, [10])] ?_
            obtain ⟨r168, hr168, h⟩ := bsome h
            refine WD_pt' rfl (by kernel_rfl) (by kernel_rfl) [eArr4_i64 r1, eArr4_i64 r2] (vb r168) rfl (by kernel_rfl) en10 (by kernel_rfl) (clock_Apart_ok hr168) (by kernel_rfl) ?_
            refine Ds 2 [(118, eArr4_i64 r1), (117, eArr4_i64 r2)] [] [(89, [10]), (90, [9])] ?_
            obtain ⟨r169, hr169, h⟩ := bsome h
            refine WD_pt' rfl (by kernel_rfl) (by kernel_rfl) [eArr4_i64 r2, eArr4_i64 r1] (vb r169) rfl (by kernel_rfl) en10 (by kernel_rfl) (clock_Apart_ok hr169) (by kernel_rfl) ?_
            refine Ds 3 [(122, vb (r168 == r169)), (121, vb (r168 == r169)), (120, vb (r168 == r169))] [] [] ?_
            cases hb : ((r168 == r169) : Bool)
            · replace h := cfalse hb h
              refine Ds 9 [(8, vb false), (130, vb false), (129, .p Go.undef), (128, .p Go.undef), (127, .p Go.undef), (126, .p Go.undef), (125, .p Go.undef), (124, .p Go.undef), (123, .p Go.undef)] [] [] ?_
              refine WD_end (by kernel_rfl) (by kernel_rfl) (by kernel_rfl) ?_
              exact wK [8] [] ⟨false, h, rfl⟩
            replace h := ctrue hb h
            refine Ds 2 [(124, eArr4_i64 r2), (123, eArr4_i64 r1)] [] [(95, [9]), (96, [10])] ?_
            obtain ⟨r170, hr170, h⟩ := bsome h
            refine WD_pt' rfl (by kernel_rfl) (by kernel_rfl) [eArr4_i64 r1, eArr4_i64 r2] (vb r170) rfl (by kernel_rfl) en9 (by kernel_rfl) (clock_Below_ok hr170) (by kernel_rfl) ?_
            refine Ds 2 [(127, eArr4_i64 r2), (126, eArr4_i64 r4)] [] [(98, [12]), (99, [10])] ?_
            refine WD_loc' rfl (by kernel_rfl) (by kernel_rfl) (by kernel_rfl) (ev_eqlA [.int .i64 r4.e0 r2.e0, .int .i64 r4.e1 r2.e1, .int .i64 r4.e2 r2.e2, .int .i64 r4.e3 r2.e3] (by kernel_rfl) (by kernel_rfl) (eqlArr [.int .i64 r4.e0 r2.e0, .int .i64 r4.e1 r2.e1, .int .i64 r4.e2 r2.e2, .int .i64 r4.e3 r2.e3] 3 (.int .i64) _ (by kernel_rfl) (by kernel_rfl) (by kernel_rfl) (by kernel_rfl) (by kernel_rfl)) (by kernel_rfl)) (by kernel_rfl) ?_
            refine Dt (vb (andL [r4.e0 == r2.e0, r4.e1 == r2.e1, r4.e2 == r2.e2, r4.e3 == r2.e3])) ?_
            refine Ds 3 [(8, vb (r170 == (andL [r4.e0 == r2.e0, r4.e1 == r2.e1, r4.e2 == r2.e2, r4.e3 == r2.e3]))), (130, vb (r170 == (andL [r4.e0 == r2.e0, r4.e1 == r2.e1, r4.e2 == r2.e2, r4.e3 == r2.e3]))), (129, vb (r170 == (andL [r4.e0 == r2.e0, r4.e1 == r2.e1, r4.e2 == r2.e2, r4.e3 == r2.e3])))] [] [] ?_
            refine WD_end (by kernel_rfl) (by kernel_rfl) (by kernel_rfl) ?_
            exact wK [8] [] ⟨(r170 == (andL [r4.e0 == r2.e0, r4.e1 == r2.e1, r4.e2 == r2.e2, r4.e3 == r2.e3])), h, rfl⟩
          replace h := ctrue hb h
          refine Ds 9 [(98, eArr4_i64 r1), (97, eArr4_i64 r2), (96, eArr4_i64 r4), (95, vb true), (94, vb true), (93, vb true), (92, .p Go.undef), (91, .p Go.undef), (90, .p Go.undef)] [] [(68, [12]), (69, [10]), (70, [9])] ?_
          obtain ⟨r171, hr171, h⟩ := bsome h
          refine WD_pt' rfl (by kernel_rfl) (by kernel_rfl) [eArr4_i64 r2, eArr4_i64 r1] (eArr4_i64 r171) rfl (by kernel_rfl) en13 (by kernel_rfl) (clock_Join_ok hr171) (by kernel_rfl) ?_
          refine WD_loc' rfl (by kernel_rfl) (by kernel_rfl) (by kernel_rfl) (ev_eqlA [.int .i64 r4.e0 r171.e0, .int .i64 r4.e1 r171.e1, .int .i64 r4.e2 r171.e2, .int .i64 r4.e3 r171.e3] (by kernel_rfl) (by kernel_rfl) (eqlArr [.int .i64 r4.e0 r171.e0, .int .i64 r4.e1 r171.e1, .int .i64 r4.e2 r171.e2, .int .i64 r4.e3 r171.e3] 3 (.int .i64) _ (by kernel_rfl) (by kernel_rfl) (by kernel_rfl) (by kernel_rfl) (by kernel_rfl)) (by kernel_rfl)) (by kernel_rfl) ?_
          refine Dt (vb (andL [r4.e0 == r171.e0, r4.e1 == r171.e1, r4.e2 == r171.e2, r4.e3 == r171.e3])) ?_
          refine Ds 2 [(102, vb (andL [r4.e0 == r171.e0, r4.e1 == r171.e1, r4.e2 == r171.e2, r4.e3 == r171.e3])), (101, vb (andL [r4.e0 == r171.e0, r4.e1 == r171.e1, r4.e2 == r171.e2, r4.e3 == r171.e3]))] [] [] ?_
          cases hb : (andL [r4.e0 == r171.e0, r4.e1 == r171.e1, r4.e2 == r171.e2, r4.e3 == r171.e3] : Bool)
          · replace h := cfalse hb h
            refine Ds 29 [(8, vb false), (130, vb false), (129, .p Go.undef), (128, .p Go.undef), (127, .p Go.undef), (126, .p Go.undef), (125, .p Go.undef), (124, .p Go.undef), (123, .p Go.undef), (122, vb false), (121, vb false), (120, .p Go.undef), (119, .p Go.undef), (118, .p Go.undef), (117, .p Go.undef), (116, .p Go.undef), (115, .p Go.undef), (114, .p Go.undef), (113, vb false), (112, vb false), (111, .p Go.undef), (110, .p Go.undef), (109, .p Go.undef), (108, .p Go.undef), (107, vb false), (106, vb false), (105, .p Go.undef), (104, .p Go.undef), (103, .p Go.undef)] [] [] ?_
            refine WD_end (by kernel_rfl) (by kernel_rfl) (by kernel_rfl) ?_
            exact wK [8] [] ⟨false, h, rfl⟩
          replace h := ctrue hb h
          refine Ds 2 [(104, eArr4_i64 r6), (103, eArr4_i64 r1)] [] [(75, [9]), (76, [13])] ?_
          obtain ⟨r172, hr172, h⟩ := bsome h
          refine WD_pt' rfl (by kernel_rfl) (by kernel_rfl) [eArr4_i64 r1, eArr4_i64 r6] (vb r172) rfl (by kernel_rfl) en9 (by kernel_rfl) (clock_Below_ok hr172) (by kernel_rfl) ?_
          refine Ds 2 [(107, vb r172), (106, vb r172)] [] [] ?_
          cases hb : (r172 : Bool)
          · replace h := cfalse hb h
            refine Ds 24 [(8, vb false), (130, vb false), (129, .p Go.undef), (128, .p Go.undef), (127, .p Go.undef), (126, .p Go.undef), (125, .p Go.undef), (124, .p Go.undef), (123, .p Go.undef), (122, vb false), (121, vb false), (120, .p Go.undef), (119, .p Go.undef), (118, .p Go.undef), (117, .p Go.undef), (116, .p Go.undef), (115, .p Go.undef), (114, .p Go.undef), (113, vb false), (112, vb false), (111, .p Go.undef), (110, .p Go.undef), (109, .p Go.undef), (108, .p Go.undef)] [] [] ?_
            refine WD_end (by kernel_rfl) (by kernel_rfl) (by kernel_rfl) ?_
            exact wK [8] [] ⟨false, h, rfl⟩
          replace h := ctrue hb h
          refine Ds 2 [(109, eArr4_i64 r1), (108, eArr4_i64 r6)] [] [(80, [13]), (81, [9])] ?_
          obtain ⟨r173, hr173, h⟩ := bsome h
          refine WD_pt' rfl (by kernel_rfl) (by kernel_rfl) [eArr4_i64 r6, eArr4_i64 r1] (vb r173) rfl (by kernel_rfl) en9 (by kernel_rfl) (clock_Below_ok hr173) (by kernel_rfl) ?_
          refine Ds 3 [(113, vb (!r173)), (112, vb (!r173)), (111, vb (!r173))] [] [] ?_
          cases hb : (!r173 : Bool)
          · replace h := cfalse hb h
            refine Ds 18 [(8, vb false), (130, vb false), (129, .p Go.undef), (128, .p Go.undef), (127, .p Go.undef), (126, .p Go.undef), (125, .p Go.undef), (124, .p Go.undef), (123, .p Go.undef), (122, vb false), (121, vb false), (120, .p Go.undef), (119, .p Go.undef), (118, .p Go.undef), (117, .p Go.undef), (116, .p Go.undef), (115, .p Go.undef), (114, .p Go.undef)] [] [] ?_
            refine WD_end (by kernel_rfl) (by kernel_rfl) (by kernel_rfl) ?_
            exact wK [8] [] ⟨false, h, rfl⟩
          replace h := ctrue hb h
          refine Ds 2 [(115, eArr4_i64 r2), (114, eArr4_i64 r1)] [] [(86, [9]), (87, [10])] ?_
          obtain ⟨r174, hr174, h⟩ := bsome h
          refine WD_pt' rfl (by kernel_rfl) (by kernel_rfl) [eArr4_i64 r1, eArr4_i64 r2] (vb r174) rfl (by kernel_rfl) en10 (by kernel_rfl) (clock_Apart_ok hr174) (by kernel_rfl) ?_
          refine Ds 2 [(118, eArr4_i64 r1), (117, eArr4_i64 r2)] [] [(89, [10]), (90, [9])] ?_
          obtain ⟨r175, hr175, h⟩ := bsome h
          refine WD_pt' rfl (by kernel_rfl) (by kernel_rfl) [eArr4_i64 r2, eArr4_i64 r1] (vb r175) rfl (by kernel_rfl) en10 (by kernel_rfl) (clock_Apart_ok hr175) (by kernel_rfl) ?_
          refine Ds 3 [(122, vb (r174 == r175)), (121, vb (r174 == r175)), (120, vb (r174 == r175))] [] [] ?_
          cases hb : ((r174 == r175) : Bool)
          · replace h := cfalse hb h
            refine Ds 9 [(8, vb false), (130, vb false), (129, .p Go.undef), (128, .p Go.undef), (127, .p Go.undef), (126, .p Go.undef), (125, .p Go.undef), (124, .p Go.undef), (123, .p Go.undef)] [] [] ?_
            refine WD_end (by kernel_rfl) (by kernel_rfl) (by kernel_rfl) ?_
            exact wK [8] [] ⟨false, h, rfl⟩
          replace h := ctrue hb h
          refine Ds 2 [(124, eArr4_i64 r2), (123, eArr4_i64 r1)] [] [(95, [9]), (96, [10])] ?_
          obtain ⟨r176, hr176, h⟩ := bsome h
          refine WD_pt' rfl (by kernel_rfl) (by kernel_rfl) [eArr4_i64 r1, eArr4_i64 r2] (vb r176) rfl (by kernel_rfl) en9 (by kernel_rfl) (clock_Below_ok hr176) (by kernel_rfl) ?_
          refine Ds 2 [(127, eArr4_i64 r2), (126, eArr4_i64 r4)] [] [(98, [12]), (99, [10])] ?_
          refine WD_loc' rfl (by kernel_rfl) (by kernel_rfl) (by kernel_rfl) (ev_eqlA [.int .i64 r4.e0 r2.e0, .int .i64 r4.e1 r2.e1, .int .i64 r4.e2 r2.e2, .int .i64 r4.e3 r2.e3] (by kernel_rfl) (by kernel_rfl) (eqlArr [.int .i64 r4.e0 r2.e0, .int .i64 r4.e1 r2.e1, .int .i64 r4.e2 r2.e2, .int .i64 r4.e3 r2.e3] 3 (.int .i64) _ (by kernel_rfl) (by kernel_rfl) (by kernel_rfl) (by kernel_rfl) (by kernel_rfl)) (by kernel_rfl)) (by kernel_rfl) ?_
          refine Dt (vb (andL [r4.e0 == r2.e0, r4.e1 == r2.e1, r4.e2 == r2.e2, r4.e3 == r2.e3])) ?_
          refine Ds 3 [(8, vb (r176 == (andL [r4.e0 == r2.e0, r4.e1 == r2.e1, r4.e2 == r2.e2, r4.e3 == r2.e3]))), (130, vb (r176 == (andL [r4.e0 == r2.e0, r4.e1 == r2.e1, r4.e2 == r2.e2, r4.e3 == r2.e3]))), (129, vb (r176 == (andL [r4.e0 == r2.e0, r4.e1 == r2.e1, r4.e2 == r2.e2, r4.e3 == r2.e3])))] [] [] ?_
          refine WD_end (by kernel_rfl) (by kernel_rfl) (by kernel_rfl) ?_
          exact wK [8] [] ⟨(r176 == (andL [r4.e0 == r2.e0, r4.e1 == r2.e1, r4.e2 == r2.e2, r4.e3 == r2.e3])), h, rfl⟩
        replace h := ctrue hb h
        refine Ds 15 [(98, eArr4_i64 r1), (97, eArr4_i64 r2), (96, eArr4_i64 r4), (95, vb true), (94, vb true), (93, vb true), (92, .p Go.undef), (91, .p Go.undef), (90, .p Go.undef), (89, vb true), (88, vb true), (87, .p Go.undef), (86, .p Go.undef), (85, .p Go.undef), (84, .p Go.undef)] [] [(68, [12]), (69, [10]), (70, [9])] ?_
        obtain ⟨r177, hr177, h⟩ := bsome h
        refine WD_pt' rfl (by kernel_rfl) (by kernel_rfl) [eArr4_i64 r2, eArr4_i64 r1] (eArr4_i64 r177) rfl (by kernel_rfl) en13 (by kernel_rfl) (clock_Join_ok hr177) (by kernel_rfl) ?_
        refine WD_loc' rfl (by kernel_rfl) (by kernel_rfl) (by kernel_rfl) (ev_eqlA [.int .i64 r4.e0 r177.e0, .int .i64 r4.e1 r177.e1, .int .i64 r4.e2 r177.e2, .int .i64 r4.e3 r177.e3] (by kernel_rfl) (by kernel_rfl) (eqlArr [.int .i64 r4.e0 r177.e0, .int .i64 r4.e1 r177.e1, .int .i64 r4.e2 r177.e2, .int .i64 r4.e3 r177.e3] 3 (.int .i64) _ (by kernel_rfl) (by kernel_rfl) (by kernel_rfl) (by kernel_rfl) (by kernel_rfl)) (by kernel_rfl)) (by kernel_rfl) ?_
        refine Dt (vb (andL [r4.e0 == r177.e0, r4.e1 == r177.e1, r4.e2 == r177.e2, r4.e3 == r177.e3])) ?_
        refine Ds 2 [(102, vb (andL [r4.e0 == r177.e0, r4.e1 == r177.e1, r4.e2 == r177.e2, r4.e3 == r177.e3])), (101, vb (andL [r4.e0 == r177.e0, r4.e1 == r177.e1, r4.e2 == r177.e2, r4.e3 == r177.e3]))] [] [] ?_
        cases hb : (andL [r4.e0 == r177.e0, r4.e1 == r177.e1, r4.e2 == r177.e2, r4.e3 == r177.e3] : Bool)
        · replace h := cfalse hb h
          refine Ds 29 [(8, vb false), (130, vb false), (129, .p Go.undef), (128, .p Go.undef), (127, .p Go.undef), (126, .p Go.undef), (125, .p Go.undef), (124, .p Go.undef), (123, .p Go.undef), (122, vb false), (121, vb false), (120, .p Go.undef), (119, .p Go.undef), (118, .p Go.undef), (117, .p Go.undef), (116, .p Go.undef), (115, .p Go.undef), (114, .p Go.undef), (113, vb false), (112, vb false), (111, .p Go.undef), (110, .p Go.undef), (109, .p Go.undef), (108, .p Go.undef), (107, vb false), (106, vb false), (105, .p Go.undef), (104, .p Go.undef), (103, .p Go.undef)] [] [] ?_
          refine WD_end (by kernel_rfl) (by kernel_rfl) (by kernel_rfl) ?_
          exact wK [8] [] ⟨false, h, rfl⟩
        replace h := ctrue hb h
        refine Ds 2 [(104, eArr4_i64 r6), (103, eArr4_i64 r1)] [] [(75, [9]), (76, [13])] ?_
        obtain ⟨r178, hr178, h⟩ := bsome h
        refine WD_pt' rfl (by kernel_rfl) (by kernel_rfl) [eArr4_i64 r1, eArr4_i64 r6] (vb r178) rfl (by kernel_rfl) en9 (by kernel_rfl) (clock_Below_ok hr178) (by kernel_rfl) ?_
        refine Ds 2 [(107, vb r178), (106, vb r178)] [] [] ?_
        cases hb : (r178 : Bool)
        · replace h := cfalse hb h
          refine Ds 24 [(8, vb false), (130, vb false), (129, .p Go.undef), (128, .p Go.undef), (127, .p Go.undef), (126, .p Go.undef), (125, .p Go.undef), (124, .p Go.undef), (123, .p Go.undef), (122, vb false), (121, vb false), (120, .p Go.undef), (119, .p Go.undef), (118, .p Go.undef), (117, .p Go.undef), (116, .p Go.undef), (115, .p Go.undef), (114, .p Go.undef), (113, vb false), (112, vb false), (111, .p Go.undef), (110, .p Go.undef), (109, .p Go.undef), (108, .p Go.undef)] [] [] ?_
          refine WD_end (by kernel_rfl) (by kernel_rfl) (by kernel_rfl) ?_
          exact wK [8] [] ⟨false, h, rfl⟩
        replace h := ctrue hb h
        refine Ds 2 [(109, eArr4_i64 r1), (108, eArr4_i64 r6)] [] [(80, [13]), (81, [9])] ?_
        obtain ⟨r179, hr179, h⟩ := bsome h
        refine WD_pt' rfl (by kernel_rfl) (by kernel_rfl) [eArr4_i64 r6, eArr4_i64 r1] (vb r179) rfl (by kernel_rfl) en9 (by kernel_rfl) (clock_Below_ok hr179) (by kernel_rfl) ?_
        refine Ds 3 [(113, vb (!r179)), (112, vb (!r179)), (111, vb (!r179))] [] [] ?_
        cases hb : (!r179 : Bool)
        · replace h := cfalse hb h
          refine Ds 18 [(8, vb false), (130, vb false), (129, .p Go.undef), (128, .p Go.undef), (127, .p Go.undef), (126, .p Go.undef), (125, .p Go.undef), (124, .p Go.undef), (123, .p Go.undef), (122, vb false), (121, vb false), (120, .p Go.undef), (119, .p Go.undef), (118, .p Go.undef), (117, .p Go.undef), (116, .p Go.undef), (115, .p Go.undef), (114, .p Go.undef)] [] [] ?_
          refine WD_end (by kernel_rfl) (by kernel_rfl) (by kernel_rfl) ?_
          exact wK [8] [] ⟨false, h, rfl⟩
        replace h := ctrue hb h
        refine Ds 2 [(115, eArr4_i64 r2), (114, eArr4_i64 r1)] [] [(86, [9]), (87, [10])] ?_
        obtain ⟨r180, hr180, h⟩ := bsome h
        refine WD_pt' rfl (by kernel_rfl) (by kernel_rfl) [eArr4_i64 r1, eArr4_i64 r2] (vb r180) rfl (by kernel_rfl) en10 (by kernel_rfl) (clock_Apart_ok hr180) (by kernel_rfl) ?_
        refine Ds 2 [(118, eArr4_i64 r1), (117, eArr4_i64 r2)] [] [(89, [10]), (90, [9])] ?_
        obtain ⟨r181, hr181, h⟩ := bsome h
        refine WD_pt' rfl (by kernel_rfl) (by kernel_rfl) [eArr4_i64 r2, eArr4_i64 r1] (vb r181) rfl (by kernel_rfl) en10 (by kernel_rfl) (clock_Apart_ok hr181) (by kernel_rfl) ?_
        refine Ds 3 [(122, vb (r180 == r181)), (121, vb (r180 == r181)), (120, vb (r180 == r181))] [] [] ?_
        cases hb : ((r180 == r181) : Bool)
        · replace h := cfalse hb h
          refine Ds 9 [(8, vb false), (130, vb false), (129, .p Go.undef), (128, .p Go.undef), (127, .p Go.undef), (126, .p Go.undef), (125, .p Go.undef), (124, .p Go.undef), (123, .p Go.undef)] [] [] ?_
          refine WD_end (by kernel_rfl) (by kernel_rfl) (by kernel_rfl) ?_
          exact wK [8] [] ⟨false, h, rfl⟩
        replace h := ctrue hb h
        refine Ds 2 [(124, eArr4_i64 r2), (123, eArr4_i64 r1)] [] [(95, [9]), (96, [10])] ?_
        obtain ⟨r182, hr182, h⟩ := bsome h
        refine WD_pt' rfl (by kernel_rfl) (by kernel_rfl) [eArr4_i64 r1, eArr4_i64 r2] (vb r182) rfl (by kernel_rfl) en9 (by kernel_rfl) (clock_Below_ok hr182) (by kernel_rfl) ?_
        refine Ds 2 [(127, eArr4_i64 r2), (126, eArr4_i64 r4)] [] [(98, [12]), (99, [10])] ?_
        refine WD_loc' rfl (by kernel_rfl) (by kernel_rfl) (by kernel_rfl) (ev_eqlA [.int .i64 r4.e0 r2.e0, .int .i64 r4.e1 r2.e1, .int .i64 r4.e2 r2.e2, .int .i64 r4.e3 r2.e3] (by kernel_rfl) (by kernel_rfl) (eqlArr [.int .i64 r4.e0 r2.e0, .int .i64 r4.e1 r2.e1, .int .i64 r4.e2 r2.e2, .int .i64 r4.e3 r2.e3] 3 (.int .i64) _ (by kernel_rfl) (by kernel_rfl) (by kernel_rfl) (by kernel_rfl) (by kernel_rfl)) (by kernel_rfl)) (by kernel_rfl) ?_
        refine Dt (vb (andL [r4.e0 == r2.e0, r4.e1 == r2.e1, r4.e2 == r2.e2, r4.e3 == r2.e3])) ?_
        refine Ds 3 [(8, vb (r182 == (andL [r4.e0 == r2.e0, r4.e1 == r2.e1, r4.e2 == r2.e2, r4.e3 == r2.e3]))), (130, vb (r182 == (andL [r4.e0 == r2.e0, r4.e1 == r2.e1, r4.e2 == r2.e2, r4.e3 == r2.e3]))), (129, vb (r182 == (andL [r4.e0 == r2.e0, r4.e1 == r2.e1, r4.e2 == r2.e2, r4.e3 == r2.e3])))] [] [] ?_
        refine WD_end (by kernel_rfl) (by kernel_rfl) (by kernel_rfl) ?_
        exact wK [8] [] ⟨(r182 == (andL [r4.e0 == r2.e0, r4.e1 == r2.e1, r4.e2 == r2.e2, r4.e3 == r2.e3])), h, rfl⟩
      replace h := ctrue hb h
      refine Ds 8 [(70, eArr4_i64 r4), (69, eArr4_i64 r1), (68, vb true), (67, vb true), (66, vb true), (65, .p Go.undef), (64, .p Go.undef), (63, .p Go.undef)] [] [(41, [9]), (42, [12])] ?_
      obtain ⟨r183, hr183, h⟩ := bsome h
      refine WD_pt' rfl (by kernel_rfl) (by kernel_rfl) [eArr4_i64 r1, eArr4_i64 r4] (vb r183) rfl (by kernel_rfl) en9 (by kernel_rfl) (clock_Below_ok hr183) (by kernel_rfl) ?_
      refine Ds 2 [(73, vb r183), (72, vb r183)] [] [] ?_
      cases hb : (r183 : Bool)
      · replace h := cfalse hb h
        refine Ds 58 [(8, vb false), (130, vb false), (129, .p Go.undef), (128, .p Go.undef), (127, .p Go.undef), (126, .p Go.undef), (125, .p Go.undef), (124, .p Go.undef), (123, .p Go.undef), (122, vb false), (121, vb false), (120, .p Go.undef), (119, .p Go.undef), (118, .p Go.undef), (117, .p Go.undef), (116, .p Go.undef), (115, .p Go.undef), (114, .p Go.undef), (113, vb false), (112, vb false), (111, .p Go.undef), (110, .p Go.undef), (109, .p Go.undef), (108, .p Go.undef), (107, vb false), (106, vb false), (105, .p Go.undef), (104, .p Go.undef), (103, .p Go.undef), (102, vb false), (101, vb false), (100, .p Go.undef), (99, .p Go.undef), (98, .p Go.undef), (97, .p Go.undef), (96, .p Go.undef), (95, vb false), (94, vb false), (93, .p Go.undef), (92, .p Go.undef), (91, .p Go.undef), (90, .p Go.undef), (89, .p Go.undef), (88, .p Go.undef), (87, .p Go.undef), (86, .p Go.undef), (85, .p Go.undef), (84, .p Go.undef), (83, .p Go.undef), (82, .p Go.undef), (81, .p Go.undef), (80, .p Go.undef), (79, .p Go.undef), (78, vb false), (77, vb false), (76, .p Go.undef), (75, .p Go.undef), (74, .p Go.undef)] [] [] ?_
        refine WD_end (by kernel_rfl) (by kernel_rfl) (by kernel_rfl) ?_
        exact wK [8] [] ⟨false, h, rfl⟩
      replace h := ctrue hb h
      refine Ds 2 [(75, eArr4_i64 r4), (74, eArr4_i64 r2)] [] [(46, [10]), (47, [12])] ?_
      obtain ⟨r184, hr184, h⟩ := bsome h
      refine WD_pt' rfl (by kernel_rfl) (by kernel_rfl) [eArr4_i64 r2, eArr4_i64 r4] (vb r184) rfl (by kernel_rfl) en9 (by kernel_rfl) (clock_Below_ok hr184) (by kernel_rfl) ?_
      refine Ds 2 [(78, vb r184), (77, vb r184)] [] [] ?_
      cases hb : (r184 : Bool)
      · replace h := cfalse hb h
        refine Ds 53 [(8, vb false), (130, vb false), (129, .p Go.undef), (128, .p Go.undef), (127, .p Go.undef), (126, .p Go.undef), (125, .p Go.undef), (124, .p Go.undef), (123, .p Go.undef), (122, vb false), (121, vb false), (120, .p Go.undef), (119, .p Go.undef), (118, .p Go.undef), (117, .p Go.undef), (116, .p Go.undef), (115, .p Go.undef), (114, .p Go.undef), (113, vb false), (112, vb false), (111, .p Go.undef), (110, .p Go.undef), (109, .p Go.undef), (108, .p Go.undef), (107, vb false), (106, vb false), (105, .p Go.undef), (104, .p Go.undef), (103, .p Go.undef), (102, vb false), (101, vb false), (100, .p Go.undef), (99, .p Go.undef), (98, .p Go.undef), (97, .p Go.undef), (96, .p Go.undef), (95, vb false), (94, vb false), (93, .p Go.undef), (92, .p Go.undef), (91, .p Go.undef), (90, .p Go.undef), (89, .p Go.undef), (88, .p Go.undef), (87, .p Go.undef), (86, .p Go.undef), (85, .p Go.undef), (84, .p Go.undef), (83, .p Go.undef), (82, .p Go.undef), (81, .p Go.undef), (80, .p Go.undef), (79, .p Go.undef)] [] [] ?_
        refine WD_end (by kernel_rfl) (by kernel_rfl) (by kernel_rfl) ?_
        exact wK [8] [] ⟨false, h, rfl⟩
      replace h := ctrue hb h
      refine Ds 2 [(80, eArr4_i64 r3), (79, eArr4_i64 r1)] [] [(51, [9]), (52, [11])] ?_
      obtain ⟨r185, hr185, h⟩ := bsome h
      refine WD_pt' rfl (by kernel_rfl) (by kernel_rfl) [eArr4_i64 r1, eArr4_i64 r3] (vb r185) rfl (by kernel_rfl) en9 (by kernel_rfl) (clock_Below_ok hr185) (by kernel_rfl) ?_
      refine Ds 2 [(83, vb (!r185)), (82, vb (!r185))] [] [] ?_
      cases hb : (!r185 : Bool)
      · replace h := cfalse hb h
        refine Ds 2 [(85, eArr4_i64 r3), (84, eArr4_i64 r2)] [] [(56, [10]), (57, [11])] ?_
        obtain ⟨r186, hr186, h⟩ := bsome h
        refine WD_pt' rfl (by kernel_rfl) (by kernel_rfl) [eArr4_i64 r2, eArr4_i64 r3] (vb r186) rfl (by kernel_rfl) en9 (by kernel_rfl) (clock_Below_ok hr186) (by kernel_rfl) ?_
        refine Ds 3 [(89, vb (!r186)), (88, vb (!r186)), (87, vb (!r186))] [] [] ?_
        cases hb : (!r186 : Bool)
        · replace h := cfalse hb h
          refine Ds 2 [(91, eArr4_i64 r3), (90, eArr4_i64 r4)] [] [(62, [12]), (63, [11])] ?_
          obtain ⟨r187, hr187, h⟩ := bsome h
          refine WD_pt' rfl (by kernel_rfl) (by kernel_rfl) [eArr4_i64 r4, eArr4_i64 r3] (vb r187) rfl (by kernel_rfl) en9 (by kernel_rfl) (clock_Below_ok hr187) (by kernel_rfl) ?_
          refine Ds 3 [(95, vb r187), (94, vb r187), (93, vb r187)] [] [] ?_
          cases hb : (r187 : Bool)
          · replace h := cfalse hb h
            refine Ds 36 [(8, vb false), (130, vb false), (129, .p Go.undef), (128, .p Go.undef), (127, .p Go.undef), (126, .p Go.undef), (125, .p Go.undef), (124, .p Go.undef), (123, .p Go.undef), (122, vb false), (121, vb false), (120, .p Go.undef), (119, .p Go.undef), (118, .p Go.undef), (117, .p Go.undef), (116, .p Go.undef), (115, .p Go.undef), (114, .p Go.undef), (113, vb false), (112, vb false), (111, .p Go.undef), (110, .p Go.undef), (109, .p Go.undef), (108, .p Go.undef), (107, vb false), (106, vb false), (105, .p Go.undef), (104, .p Go.undef), (103, .p Go.undef), (102, vb false), (101, vb false), (100, .p Go.undef), (99, .p Go.undef), (98, .p Go.undef), (97, .p Go.undef), (96, .p Go.undef)] [] [] ?_
            refine WD_end (by kernel_rfl) (by kernel_rfl) (by kernel_rfl) ?_
            exact wK [8] [] ⟨false, h, rfl⟩
          replace h := ctrue hb h
          refine Ds 3 [(98, eArr4_i64 r1), (97, eArr4_i64 r2), (96, eArr4_i64 r4)] [] [(68, [12]), (69, [10]), (70, [9])] ?_
          obtain ⟨r188, hr188, h⟩ := bsome h
          refine WD_pt' rfl (by kernel_rfl) (by kernel_rfl) [eArr4_i64 r2, eArr4_i64 r1] (eArr4_i64 r188) rfl (by kernel_rfl) en13 (by kernel_rfl) (clock_Join_ok hr188) (by kernel_rfl) ?_
          refine WD_loc' rfl (by kernel_rfl) (by kernel_rfl) (by kernel_rfl) (ev_eqlA [.int .i64 r4.e0 r188.e0, .int .i64 r4.e1 r188.e1, .int .i64 r4.e2 r188.e2, .int .i64 r4.e3 r188.e3] (by kernel_rfl) (by kernel_rfl) (eqlArr [.int .i64 r4.e0 r188.e0, .int .i64 r4.e1 r188.e1, .int .i64 r4.e2 r188.e2, .int .i64 r4.e3 r188.e3] 3 (.int .i64) _ (by kernel_rfl) (by kernel_rfl) (by kernel_rfl) (by kernel_rfl) (by kernel_rfl)) (by kernel_rfl)) (by kernel_rfl) ?_
          refine Dt (vb (andL [r4.e0 == r188.e0, r4.e1 == r188.e1, r4.e2 == r188.e2, r4.e3 == r188.e3])) ?_
          refine Ds 2 [(102, vb (andL [r4.e0 == r188.e0, r4.e1 == r188.e1, r4.e2 == r188.e2, r4.e3 == r188.e3])), (101, vb (andL [r4.e0 == r188.e0, r4.e1 == r188.e1, r4.e2 == r188.e2, r4.e3 == r188.e3]))] [] [] ?_
          cases hb : (andL [r4.e0 == r188.e0, r4.e1 == r188.e1, r4.e2 == r188.e2, r4.e3 == r188.e3] : Bool)
          · replace h := cfalse hb h
            refine Ds 29 [(8, vb false), (130, vb false), (129, .p Go.undef), (128, .p Go.undef), (127, .p Go.undef), (126, .p Go.undef), (125, .p Go.undef), (124, .p Go.undef), (123, .p Go.undef), (122, vb false), (121, vb false), (120, .p Go.undef), (119, .p Go.undef), (118, .p Go.undef), (117, .p Go.undef), (116, .p Go.undef), (115, .p Go.undef), (114, .p Go.undef), (113, vb false), (112, vb false), (111, .p Go.undef), (110, .p Go.undef), (109, .p Go.undef), (108, .p Go.undef), (107, vb false), (106, vb false), (105, .p Go.undef), (104, .p Go.undef), (103, .p Go.undef)] [] [] ?_
            refine WD_end (by kernel_rfl) (by kernel_rfl) (by kernel_rfl) ?_
            exact wK [8] [] ⟨false, h, rfl⟩
          replace h := ctrue hb h
          refine Ds 2 [(104, eArr4_i64 r6), (103, eArr4_i64 r1)] [] [(75, [9]), (76, [13])] ?_
          obtain ⟨r189, hr189, h⟩ := bsome h
          refine WD_pt' rfl (by kernel_rfl) (by kernel_rfl) [eArr4_i64 r1, eArr4_i64 r6] (vb r189) rfl (by kernel_rfl) en9 (by kernel_rfl) (clock_Below_ok hr189) (by kernel_rfl) ?_
          refine Ds 2 [(107, vb r189), (106, vb r189)] [] [] ?_
          cases hb : (r189 : Bool)
          · replace h := cfalse hb h
            refine Ds 24 [(8, vb false), (130, vb false), (129, .p Go.undef), (128, .p Go.undef), (127, .p Go.undef), (126, .p Go.undef), (125, .p Go.undef), (124, .p Go.undef), (123, .p Go.undef), (122, vb false), (121, vb false), (120, .p Go.undef), (119, .p Go.undef), (118, .p Go.undef), (117, .p Go.undef), (116, .p Go.undef), (115, .p Go.undef), (114, .p Go.undef), (113, vb false), (112, vb false), (111, .p Go.undef), (110, .p Go.undef), (109, .p Go.undef), (108, .p Go.undef)] [] [] ?_
            refine WD_end (by kernel_rfl) (by kernel_rfl) (by kernel_rfl) ?_
            exact wK [8] [] ⟨false, h, rfl⟩
          replace h := ctrue hb h
          refine Ds 2 [(109, eArr4_i64 r1), (108, eArr4_i64 r6)] [] [(80, [13]), (81, [9])] ?_
          obtain ⟨r190, hr190, h⟩ := bsome h
          refine WD_pt' rfl (by kernel_rfl) (by kernel_rfl) [eArr4_i64 r6, eArr4_i64 r1] (vb r190) rfl (by kernel_rfl) en9 (by kernel_rfl) (clock_Below_ok hr190) (by kernel_rfl) ?_
          refine Ds 3 [(113, vb (!r190)), (112, vb (!r190)), (111, vb (!r190))] [] [] ?_
          cases hb : (!r190 : Bool)
          · replace h := cfalse hb h
            refine Ds 18 [(8, vb false), (130, vb false), (129, .p Go.undef), (128, .p Go.undef), (127, .p Go.undef), (126, .p Go.undef), (125, .p Go.undef), (124, .p Go.undef), (123, .p Go.undef), (122, vb false), (121, vb false), (120, .p Go.undef), (119, .p Go.undef), (118, .p Go.undef), (117, .p Go.undef), (116, .p Go.undef), (115, .p Go.undef), (114, .p Go.undef)] [] [] ?_
            refine WD_end (by kernel_rfl) (by kernel_rfl) (by kernel_rfl) ?_
            exact wK [8] [] ⟨false, h, rfl⟩
          replace h := ctrue hb h
          refine Ds 2 [(115, eArr4_i64 r2), (114, eArr4_i64 r1)] [] [(86, [9]), (87, [10])] ?_
          obtain ⟨r191, hr191, h⟩ := bsome h
          refine WD_pt' rfl (by kernel_rfl) (by kernel_rfl) [eArr4_i64 r1, eArr4_i64 r2] (vb r191) rfl (by kernel_rfl) en10 (by kernel_rfl) (clock_Apart_ok hr191) (by kernel_rfl) ?_
          refine Ds 2 [(118, eArr4_i64 r1), (117, eArr4_i64 r2)] [] [(89, [10]), (90, [9])] ?_
          obtain ⟨r192, hr192, h⟩ := bsome h
          refine WD_pt' rfl (by kernel_rfl) (by kernel_rfl) [eArr4_i64 r2, eArr4_i64 r1] (vb r192) rfl (by kernel_rfl) en10 (by kernel_rfl) (clock_Apart_ok hr192) (by kernel_rfl) ?_
          refine Ds 3 [(122, vb (r191 == r192)), (121, vb (r191 == r192)), (120, vb (r191 == r192))] [] [] ?_
          cases hb : ((r191 == r192) : Bool)
          · replace h := cfalse hb h
            refine Ds 9 [(8, vb false), (130, vb false), (129, .p Go.undef), (128, .p Go.undef), (127, .p Go.undef), (126, .p Go.undef), (125, .p Go.undef), (124, .p Go.undef), (123, .p Go.undef)] [] [] ?_
            refine WD_end (by kernel_rfl) (by kernel_rfl) (by kernel_rfl) ?_
            exact wK [8] [] ⟨false, h, rfl⟩
          replace h := ctrue hb h
          refine Ds 2 [(124, eArr4_i64 r2), (123, eArr4_i64 r1)] [] [(95, [9]), (96, [10])] ?_
          obtain ⟨r193, hr193, h⟩ := bsome h
          refine WD_pt' rfl (by kernel_rfl) (by kernel_rfl) [eArr4_i64 r1, eArr4_i64 r2] (vb r193) rfl (by kernel_rfl) en9 (by kernel_rfl) (clock_Below_ok hr193) (by kernel_rfl) ?_
          refine Ds 2 [(127, eArr4_i64 r2), (126, eArr4_i64 r4)] [] [(98, [12]), (99, [10])] ?_
          refine WD_loc' rfl (by kernel_rfl) (by kernel_rfl) (by kernel_rfl) (ev_eqlA [.int .i64 r4.e0 r2.e0, .int .i64 r4.e1 r2.e1, .int .i64 r4.e2 r2.e2, .int .i64 r4.e3 r2.e3] (by kernel_rfl) (by kernel_rfl) (eqlArr [.int .i64 r4.e0 r2.e0, .int .i64 r4.e1 r2.e1, .int .i64 r4.e2 r2.e2, .int .i64 r4.e3 r2.e3] 3 (.int .i64) _ (by kernel_rfl) (by kernel_rfl) (by kernel_rfl) (by kernel_rfl) (by kernel_rfl)) (by kernel_rfl)) (by kernel_rfl) ?_
          refine Dt (vb (andL [r4.e0 == r2.e0, r4.e1 == r2.e1, r4.e2 == r2.e2, r4.e3 == r2.e3])) ?_
          refine Ds 3 [(8, vb (r193 == (andL [r4.e0 == r2.e0, r4.e1 == r2.e1, r4.e2 == r2.e2, r4.e3 == r2.e3]))), (130, vb (r193 == (andL [r4.e0 == r2.e0, r4.e1 == r2.e1, r4.e2 == r2.e2, r4.e3 == r2.e3]))), (129, vb (r193 == (andL [r4.e0 == r2.e0, r4.e1 == r2.e1, r4.e2 == r2.e2, r4.e3 == r2.e3])))] [] [] ?_
          refine WD_end (by kernel_rfl) (by kernel_rfl) (by kernel_rfl) ?_
          exact wK [8] [] ⟨(r193 == (andL [r4.e0 == r2.e0, r4.e1 == r2.e1, r4.e2 == r2.e2, r4.e3 == r2.e3])), h, rfl⟩
        replace h := ctrue hb h
        refine Ds 9 [(98, eArr4_i64 r1), (97, eArr4_i64 r2), (96, eArr4_i64 r4), (95, vb true), (94, vb true), (93, vb true), (92, .p Go.undef), (91, .p Go.undef), (90, .p Go.undef)] [] [(68, [12]), (69, [10]), (70, [9])] ?_
        obtain ⟨r194, hr194, h⟩ := bsome h
        refine WD_pt' rfl (by kernel_rfl) (by kernel_rfl) [eArr4_i64 r2, eArr4_i64 r1] (eArr4_i64 r194) rfl (by kernel_rfl) en13 (by kernel_rfl) (clock_Join_ok hr194) (by kernel_rfl) ?_
        refine WD_loc' rfl (by kernel_rfl) (by kernel_rfl) (by kernel_rfl) (ev_eqlA [.int .i64 r4.e0 r194.e0, .int .i64 r4.e1 r194.e1, .int .i64 r4.e2 r194.e2, .int .i64 r4.e3 r194.e3] (by kernel_rfl) (by kernel_rfl) (eqlArr [.int .i64 r4.e0 r194.e0, .int .i64 r4.e1 r194.e1, .int .i64 r4.e2 r194.e2, .int .i64 r4.e3 r194.e3] 3 (.int .i64) _ (by kernel_rfl) (by kernel_rfl) (by kernel_rfl) (by kernel_rfl) (by kernel_rfl)) (by kernel_rfl)) (by kernel_rfl) ?_
        refine Dt (vb (andL [r4.e0 == r194.e0, r4.e1 == r194.e1, r4.e2 == r194.e2, r4.e3 == r194.e3])) ?_
        refine Ds 2 [(102, vb (andL [r4.e0 == r194.e0, r4.e1 == r194.e1, r4.e2 == r194.e2, r4.e3 == r194.e3])), (101, vb (andL [r4.e0 == r194.e0, r4.e1 == r194.e1, r4.e2 == r194.e2, r4.e3 == r194.e3]))] [] [] ?_
        cases hb : (andL [r4.e0 == r194.e0, r4.e1 == r194.e1, r4.e2 == r194.e2, r4.e3 == r194.e3] : Bool)
        · replace h := cfalse hb h
          refine Ds 29 [(8, vb false), (130, vb false), (129, .p Go.undef), (128, .p Go.undef), (127, .p Go.undef), (126, .p Go.undef), (125, .p Go.undef), (124, .p Go.undef), (123, .p Go.undef), (122, vb false), (121, vb false), (120, .p Go.undef), (119, .p Go.undef), (118, .p Go.undef), (117, .p Go.undef), (116, .p Go.undef), (115, .p Go.undef), (114, .p Go.undef), (113, vb false), (112, vb false), (111, .p Go.undef), (110, .p Go.undef), (109, .p Go.undef), (108, .p Go.undef), (107, vb false), (106, vb false), (105, .p Go.undef), (104, .p Go.undef), (103, .p Go.undef)] [] [] ?_
          refine WD_end (by kernel_rfl) (by kernel_rfl) (by kernel_rfl) ?_
          exact wK [8] [] ⟨false, h, rfl⟩
        replace h := ctrue hb h
        refine Ds 2 [(104, eArr4_i64 r6), (103, eArr4_i64 r1)] [] [(75, [9]), (76, [13])] ?_
        obtain ⟨r195, hr195, h⟩ := bsome h
        refine WD_pt' rfl (by kernel_rfl) (by kernel_rfl) [eArr4_i64 r1, eArr4_i64 r6] (vb r195) rfl (by kernel_rfl) en9 (by kernel_rfl) (clock_Below_ok hr195) (by kernel_rfl) ?_
        refine Ds 2 [(107, vb r195), (106, vb r195)] [] [] ?_
        cases hb : (r195 : Bool)
        · replace h := cfalse hb h
          refine Ds 24 [(8, vb false), (130, vb false), (129, .p Go.undef), (128, .p Go.undef), (127, .p Go.undef), (126, .p Go.undef), (125, .p Go.undef), (124, .p Go.undef), (123, .p Go.undef), (122, vb false), (121, vb false), (120, .p Go.undef), (119, .p Go.undef), (118, .p Go.undef), (117, .p Go.undef), (116, .p Go.undef), (115, .p Go.undef), (114, .p Go.undef), (113, vb false), (112, vb false), (111, .p Go.undef), (110, .p Go.undef), (109, .p Go.undef), (108, .p Go.undef)] [] [] ?_
          refine WD_end (by kernel_rfl) (by kernel_rfl) (by kernel_rfl) ?_
          exact wK [8] [] ⟨false, h, rfl⟩
        replace h := ctrue hb h
        refine Ds 2 [(109, eArr4_i64 r1), (108, eArr4_i64 r6)] [] [(80, [13]), (81, [9])] ?_
        obtain ⟨r196, hr196, h⟩ := bsome h
        refine WD_pt' rfl (by kernel_rfl) (by kernel_rfl) [eArr4_i64 r6, eArr4_i64 r1] (vb r196) rfl (by kernel_rfl) en9 (by kernel_rfl) (clock_Below_ok hr196) (by kernel_rfl) ?_
        refine Ds 3 [(113, vb (!r196)), (112, vb (!r196)), (111, vb (!r196))] [] [] ?_
        cases hb : (!r196 : Bool)
        · replace h := cfalse hb h
          refine Ds 18 [(8, vb false), (130, vb false), (129, .p Go.undef), (128, .p Go.undef), (127, .p Go.undef), (126, .p Go.undef), (125, .p Go.undef), (124, .p Go.undef), (123, .p Go.undef), (122, vb false), (121, vb false), (120, .p Go.undef), (119, .p Go.undef), (118, .p Go.undef), (117, .p Go.undef), (116, .p Go.undef), (115, .p Go.undef), (114, .p Go.undef)] [] [] ?_
          refine WD_end (by kernel_rfl) (by kernel_rfl) (by kernel_rfl) ?_
          exact wK [8] [] ⟨false, h, rfl⟩
        replace h := ctrue hb h
        refine Ds 2 [(115, eArr4_i64 r2), (114, eArr4_i64 r1)] [] [(86, [9]), (87, [10])] ?_
        obtain ⟨r197, hr197, h⟩ := bsome h
        refine WD_pt' rfl (by kernel_rfl) (by kernel_rfl) [eArr4_i64 r1, eArr4_i64 r2] (vb r197) rfl (by kernel_rfl) en10 (by kernel_rfl) (clock_Apart_ok hr197) (by kernel_rfl) ?_
        refine Ds 2 [(118, eArr4_i64 r1), (117, eArr4_i64 r2)] [] [(89, [10]), (90, [9])] ?_
        obtain ⟨r198, hr198, h⟩ := bsome h
        refine WD_pt' rfl (by kernel_rfl) (by kernel_rfl) [eArr4_i64 r2, eArr4_i64 r1] (vb r198) rfl (by kernel_rfl) en10 (by kernel_rfl) (clock_Apart_ok hr198) (by kernel_rfl) ?_
        refine Ds 3 [(122, vb (r197 == r198)), (121, vb (r197 == r198)), (120, vb (r197 == r198))] [] [] ?_
        cases hb : ((r197 == r198) : Bool)
        · replace h := cfalse hb h
          refine Ds 9 [(8, vb false), (130, vb false), (129, .p Go.undef), (128, .p Go.undef), (127, .p Go.undef), (126, .p Go.undef), (125, .p Go.undef), (124, .p Go.undef), (123, .p Go.undef)] [] [] ?_
          refine WD_end (by kernel_rfl) (by kernel_rfl) (by kernel_rfl) ?_
          exact wK [8] [] ⟨false, h, rfl⟩
        replace h := ctrue hb h
        refine Ds 2 [(124, eArr4_i64 r2), (123, eArr4_i64 r1)] [] [(95, [9]), (96, [10])] ?_
        obtain ⟨r199, hr199, h⟩ := bsome h
        refine WD_pt' rfl (by kernel_rfl) (by kernel_rfl) [eArr4_i64 r1, eArr4_i64 r2] (vb r199) rfl (by kernel_rfl) en9 (by kernel_rfl) (clock_Below_ok hr199) (by kernel_rfl) ?_
        refine Ds 2 [(127, eArr4_i64 r2), (126, eArr4_i64 r4)] [] [(98, [12]), (99, [10])] ?_
        refine WD_loc' rfl (by kernel_rfl) (by kernel_rfl) (by kernel_rfl) (ev_eqlA [.int .i64 r4.e0 r2.e0, .int .i64 r4.e1 r2.e1, .int .i64 r4.e2 r2.e2, .int .i64 r4.e3 r2.e3] (by kernel_rfl) (by kernel_rfl) (eqlArr [.int .i64 r4.e0 r2.e0, .int .i64 r4.e1 r2.e1, .int .i64 r4.e2 r2.e2, .int .i64 r4.e3 r2.e3] 3 (.int .i64) _ (by kernel_rfl) (by kernel_rfl) (by kernel_rfl) (by kernel_rfl) (by kernel_rfl)) (by kernel_rfl)) (by kernel_rfl) ?_
        refine Dt (vb (andL [r4.e0 == r2.e0, r4.e1 == r2.e1, r4.e2 == r2.e2, r4.e3 == r2.e3])) ?_
        refine Ds 3 [(8, vb (r199 == (andL [r4.e0 == r2.e0, r4.e1 == r2.e1, r4.e2 == r2.e2, r4.e3 == r2.e3]))), (130, vb (r199 == (andL [r4.e0 == r2.e0, r4.e1 == r2.e1, r4.e2 == r2.e2, r4.e3 == r2.e3]))), (129, vb (r199 == (andL [r4.e0 == r2.e0, r4.e1 == r2.e1, r4.e2 == r2.e2, r4.e3 == r2.e3])))] [] [] ?_
        refine WD_end (by kernel_rfl) (by kernel_rfl) (by kernel_rfl) ?_
        exact wK [8] [] ⟨(r199 == (andL [r4.e0 == r2.e0, r4.e1 == r2.e1, r4.e2 == r2.e2, r4.e3 == r2.e3])), h, rfl⟩
      replace h := ctrue hb h
      refine Ds 15 [(98, eArr4_i64 r1), (97, eArr4_i64 r2), (96, eArr4_i64 r4), (95, vb true), (94, vb true), (93, vb true), (92, .p Go.undef), (91, .p Go.undef), (90, .p Go.undef), (89, vb true), (88, vb true), (87, .p Go.undef), (86, .p Go.undef), (85, .p Go.undef), (84, .p Go.undef)] [] [(68, [12]), (69, [10]), (70, [9])] ?_
      obtain ⟨r200, hr200, h⟩ := bsome h
      refine WD_pt' rfl (by kernel_rfl) (by kernel_rfl) [eArr4_i64 r2, eArr4_i64 r1] (eArr4_i64 r200) rfl (by kernel_rfl) en13 (by kernel_rfl) (clock_Join_ok hr200) (by kernel_rfl) ?_
      refine WD_loc' rfl (by kernel_rfl) (by kernel_rfl) (by kernel_rfl) (ev_eqlA [.int .i64 r4.e0 r200.e0, .int .i64 r4.e1 r200.e1, .int .i64 r4.e2 r200.e2, .int .i64 r4.e3 r200.e3] (by kernel_rfl) (by kernel_rfl) (eqlArr [.int .i64 r4.e0 r200.e0, .int .i64 r4.e1 r200.e1, .int .i64 r4.e2 r200.e2, .int .i64 r4.e3 r200.e3] 3 (.int .i64) _ (by kernel_rfl) (by kernel_rfl) (by kernel_rfl) (by kernel_rfl) (by kernel_rfl)) (by kernel_rfl)) (by kernel_rfl) ?_
      refine Dt (vb (andL [r4.e0 == r200.e0, r4.e1 == r200.e1, r4.e2 == r200.e2, r4.e3 == r200.e3])) ?_
      refine Ds 2 [(102, vb (andL [r4.e0 == r200.e0, r4.e1 == r200.e1, r4.e2 == r200.e2, r4.e3 == r200.e3])), (101, vb (andL [r4.e0 == r200.e0, r4.e1 == r200.e1, r4.e2 == r200.e2, r4.e3 == r200.e3]))] [] [] ?_
      cases hb : (andL [r4.e0 == r200.e0, r4.e1 == r200.e1, r4.e2 == r200.e2, r4.e3 == r200.e3] : Bool)
      · replace h := cfalse hb h
        refine Ds 29 [(8, vb false), (130, vb false), (129, .p Go.undef), (128, .p Go.undef), (127, .p Go.undef), (126, .p Go.undef), (125, .p Go.undef), (124, .p Go.undef), (123, .p Go.undef), (122, vb false), (121, vb false), (120, .p Go.undef), (119, .p Go.undef), (118, .p Go.undef), (117, .p Go.undef), (116, .p Go.undef), (115, .p Go.undef), (114, .p Go.undef), (113, vb false), (112, vb false), (111, .p Go.undef), (110, .p Go.undef), (109, .p Go.undef), (108, .p Go.undef), (107, vb false), (106, vb false), (105, .p Go.undef), (104, .p Go.undef), (103, .p Go.undef)] [] [] ?_
        refine WD_end (by kernel_rfl) (by kernel_rfl) (by kernel_rfl) ?_
        exact wK [8] [] ⟨false, h, rfl⟩
      replace h := ctrue hb h
      refine Ds 2 [(104, eArr4_i64 r6), (103, eArr4_i64 r1)] [] [(75, [9]), (76, [13])] ?_
      obtain ⟨r201, hr201, h⟩ := bsome h
      refine WD_pt' rfl (by kernel_rfl) (by kernel_rfl) [eArr4_i64 r1, eArr4_i64 r6] (vb r201) rfl (by kernel_rfl) en9 (by kernel_rfl) (clock_Below_ok hr201) (by kernel_rfl) ?_
      refine Ds 2 [(107, vb r201), (106, vb r201)] [] [] ?_
      cases hb : (r201 : Bool)
      · replace h := cfalse hb h
        refine Ds 24 [(8, vb false), (130, vb false), (129, .p Go.undef), (128, .p Go.undef), (127, .p Go.undef), (126, .p Go.undef), (125, .p Go.undef), (124, .p Go.undef), (123, .p Go.undef), (122, vb false), (121, vb false), (120, .p Go.undef), (119, .p Go.undef), (118, .p Go.undef), (117, .p Go.undef), (116, .p Go.undef), (115, .p Go.undef), (114, .p Go.undef), (113, vb false), (112, vb false), (111, .p Go.undef), (110, .p Go.undef), (109, .p Go.undef), (108, .p Go.undef)] [] [] ?_
        refine WD_end (by kernel_rfl) (by kernel_rfl) (by kernel_rfl) ?_
        exact wK [8] [] ⟨false, h, rfl⟩
      replace h := ctrue hb h
      refine Ds 2 [(109, eArr4_i64 r1), (108, eArr4_i64 r6)] [] [(80, [13]), (81, [9])] ?_
      obtain ⟨r202, hr202, h⟩ := bsome h
      refine WD_pt' rfl (by kernel_rfl) (by kernel_rfl) [eArr4_i64 r6, eArr4_i64 r1] (vb r202) rfl (by kernel_rfl) en9 (by kernel_rfl) (clock_Below_ok hr202) (by kernel_rfl) ?_
      refine Ds 3 [(113, vb (!r202)), (112, vb (!r202)), (111, vb (!r202))] [] [] ?_
      cases hb : (!r202 : Bool)
      · replace h := cfalse hb h
        refine Ds 18 [(8, vb false), (130, vb false), (129, .p Go.undef), (128, .p Go.undef), (127, .p Go.undef), (126, .p Go.undef), (125, .p Go.undef), (124, .p Go.undef), (123, .p Go.undef), (122, vb false), (121, vb false), (120, .p Go.undef), (119, .p Go.undef), (118, .p Go.undef), (117, .p Go.undef), (116, .p Go.undef), (115, .p Go.undef), (114, .p Go.undef)] [] [] ?_
        refine WD_end (by kernel_rfl) (by kernel_rfl) (by kernel_rfl) ?_
        exact wK [8] [] ⟨false, h, rfl⟩
      replace h := ctrue hb h
      refine Ds 2 [(115, eArr4_i64 r2), (114, eArr4_i64 r1)] [] [(86, [9]), (87, [10])] ?_
      obtain ⟨r203, hr203, h⟩ := bsome h
      refine WD_pt' rfl (by kernel_rfl) (by kernel_rfl) [eArr4_i64 r1, eArr4_i64 r2] (vb r203) rfl (by kernel_rfl) en10 (by kernel_rfl) (clock_Apart_ok hr203) (by kernel_rfl) ?_
      refine Ds 2 [(118, eArr4_i64 r1), (117, eArr4_i64 r2)] [] [(89, [10]), (90, [9])] ?_
      obtain ⟨r204, hr204, h⟩ := bsome h
      refine WD_pt' rfl (by kernel_rfl) (by kernel_rfl) [eArr4_i64 r2, eArr4_i64 r1] (vb r204) rfl (by kernel_rfl) en10 (by kernel_rfl) (clock_Apart_ok hr204) (by kernel_rfl) ?_
      refine Ds 3 [(122, vb (r203 == r204)), (121, vb (r203 == r204)), (120, vb (r203 == r204))] [] [] ?_
      cases hb : ((r203 == r204) : Bool)
      · replace h := cfalse hb h
        refine Ds 9 [(8, vb false), (130, vb false), (129, .p Go.undef), (128, .p Go.undef), (127, .p Go.undef), (126, .p Go.undef), (125, .p Go.undef), (124, .p Go.undef), (123, .p Go.undef)] [] [] ?_
        refine WD_end (by kernel_rfl) (by kernel_rfl) (by kernel_rfl) ?_
        exact wK [8] [] ⟨false, h, rfl⟩
      replace h := ctrue hb h
      refine Ds 2 [(124, eArr4_i64 r2), (123, eArr4_i64 r1)] [] [(95, [9]), (96, [10])] ?_
      obtain ⟨r205, hr205, h⟩ := bsome h
      refine WD_pt' rfl (by kernel_rfl) (by kernel_rfl) [eArr4_i64 r1, eArr4_i64 r2] (vb r205) rfl (by kernel_rfl) en9 (by kernel_rfl) (clock_Below_ok hr205) (by kernel_rfl) ?_
      refine Ds 2 [(127, eArr4_i64 r2), (126, eArr4_i64 r4)] [] [(98, [12]), (99, [10])] ?_
      refine WD_loc' rfl (by kernel_rfl) (by kernel_rfl) (by kernel_rfl) (ev_eqlA [.int .i64 r4.e0 r2.e0, .int .i64 r4.e1 r2.e1, .int .i64 r4.e2 r2.e2, .int .i64 r4.e3 r2.e3] (by kernel_rfl) (by kernel_rfl) (eqlArr [.int .i64 r4.e0 r2.e0, .int .i64 r4.e1 r2.e1, .int .i64 r4.e2 r2.e2, .int .i64 r4.e3 r2.e3] 3 (.int .i64) _ (by kernel_rfl) (by kernel_rfl) (by kernel_rfl) (by kernel_rfl) (by kernel_rfl)) (by kernel_rfl)) (by kernel_rfl) ?_
      refine Dt (vb (andL [r4.e0 == r2.e0, r4.e1 == r2.e1, r4.e2 == r2.e2, r4.e3 == r2.e3])) ?_
      refine Ds 3 [(8, vb (r205 == (andL [r4.e0 == r2.e0, r4.e1 == r2.e1, r4.e2 == r2.e2, r4.e3 == r2.e3]))), (130, vb (r205 == (andL [r4.e0 == r2.e0, r4.e1 == r2.e1, r4.e2 == r2.e2, r4.e3 == r2.e3]))), (129, vb (r205 == (andL [r4.e0 == r2.e0, r4.e1 == r2.e1, r4.e2 == r2.e2, r4.e3 == r2.e3])))] [] [] ?_
      refine WD_end (by kernel_rfl) (by kernel_rfl) (by kernel_rfl) ?_
      exact wK [8] [] ⟨(r205 == (andL [r4.e0 == r2.e0, r4.e1 == r2.e1, r4.e2 == r2.e2, r4.e3 == r2.e3])), h, rfl⟩
    replace h := ctrue hb h
    refine Ds 14 [(70, eArr4_i64 r4), (69, eArr4_i64 r1), (68, vb true), (67, vb true), (66, vb true), (65, .p Go.undef), (64, .p Go.undef), (63, .p Go.undef), (62, vb true), (61, vb true), (60, .p Go.undef), (59, .p Go.undef), (58, .p Go.undef), (57, .p Go.undef)] [] [(41, [9]), (42, [12])] ?_
    obtain ⟨r206, hr206, h⟩ := bsome h
    refine WD_pt' rfl (by kernel_rfl) (by kernel_rfl) [eArr4_i64 r1, eArr4_i64 r4] (vb r206) rfl (by kernel_rfl) en9 (by kernel_rfl) (clock_Below_ok hr206) (by kernel_rfl) ?_
    refine Ds 2 [(73, vb r206), (72, vb r206)] [] [] ?_
    cases hb : (r206 : Bool)
    · replace h := cfalse hb h
      refine Ds 58 [(8, vb false), (130, vb false), (129, .p Go.undef), (128, .p Go.undef), (127, .p Go.undef), (126, .p Go.undef), (125, .p Go.undef), (124, .p Go.undef), (123, .p Go.undef), (122, vb false), (121, vb false), (120, .p Go.undef), (119, .p Go.undef), (118, .p Go.undef), (117, .p Go.undef), (116, .p Go.undef), (115, .p Go.undef), (114, .p Go.undef), (113, vb false), (112, vb false), (111, .p Go.undef), (110, .p Go.undef), (109, .p Go.undef), (108, .p Go.undef), (107, vb false), (106, vb false), (105, .p Go.undef), (104, .p Go.undef), (103, .p Go.undef), (102, vb false), (101, vb false), (100, .p Go.undef), (99, .p Go.undef), (98, .p Go.undef), (97, .p Go.undef), (96, .p Go.undef), (95, vb false), (94, vb false), (93, .p Go.undef), (92, .p Go.undef), (91, .p Go.undef), (90, .p Go.undef), (89, .p Go.undef), (88, .p Go.undef), (87, .p Go.undef), (86, .p Go.undef), (85, .p Go.undef), (84, .p Go.undef), (83, .p Go.undef), (82, .p Go.undef), (81, .p Go.undef), (80, .p Go.undef), (79, .p Go.undef), (78, vb false), (77, vb false), (76, .p Go.undef), (75, .p Go.undef), (74, .p Go.undef)] [] [] ?_
      refine WD_end (by kernel_rfl) (by kernel_rfl) (by kernel_rfl) ?_
      exact wK [8] [] ⟨false, h, rfl⟩
    replace h := ctrue hb h
    refine Ds 2 [(75, eArr4_i64 r4), (74, eArr4_i64 r2)] [] [(46, [10]), (47, [12])] ?_
    obtain ⟨r207, hr207, h⟩ := bsome h
    refine WD_pt' rfl (by kernel_rfl) (by kernel_rfl) [eArr4_i64 r2, eArr4_i64 r4] (vb r207) rfl (by kernel_rfl) en9 (by kernel_rfl) (clock_Below_ok hr207) (by kernel_rfl) ?_
    refine Ds 2 [(78, vb r207), (77, vb r207)] [] [] ?_
    cases hb : (r207 : Bool)
    · replace h := cfalse hb h
      refine Ds 53 [(8, vb false), (130, vb false), (129, .p Go.undef), (128, .p Go.undef), (127, .p Go.undef), (126, .p Go.undef), (125, .p Go.undef), (124, .p Go.undef), (123, .p Go.undef), (122, vb false), (121, vb false), (120, .p Go.undef), (119, .p Go.undef), (118, .p Go.undef), (117, .p Go.undef), (116, .p Go.undef), (115, .p Go.undef), (114, .p Go.undef), (113, vb false), (112, vb false), (111, .p Go.undef), (110, .p Go.undef), (109, .p Go.undef), (108, .p Go.undef), (107, vb false), (106, vb false), (105, .p Go.undef), (104, .p Go.undef), (103, .p Go.undef), (102, vb false), (101, vb false), (100, .p Go.undef), (99, .p Go.undef), (98, .p Go.undef), (97, .p Go.undef), (96, .p Go.undef), (95, vb false), (94, vb false), (93, .p Go.undef), (92, .p Go.undef), (91, .p Go.undef), (90, .p Go.undef), (89, .p Go.undef), (88, .p Go.undef), (87, .p Go.undef), (86, .p Go.undef), (85, .p Go.undef), (84, .p Go.undef), (83, .p Go.undef), (82, .p Go.undef), (81, .p Go.undef), (80, .p Go.undef), (79, .p Go.undef)] [] [] ?_
      refine WD_end (by kernel_rfl) (by kernel_rfl) (by kernel_rfl) ?_
      exact wK [8] [] ⟨false, h, rfl⟩
    replace h := ctrue hb h
    refine Ds 2 [(80, eArr4_i64 r3), (79, eArr4_i64 r1)] [] [(51, [9]), (52, [11])] ?_
    obtain ⟨r208, hr208, h⟩ := bsome h
    refine WD_pt' rfl (by kernel_rfl) (by kernel_rfl) [eArr4_i64 r1, eArr4_i64 r3] (vb r208) rfl (by kernel_rfl) en9 (by kernel_rfl) (clock_Below_ok hr208) (by kernel_rfl) ?_
    refine Ds 2 [(83, vb (!r208)), (82, vb (!r208))] [] [] ?_
    cases hb : (!r208 : Bool)
    · replace h := cfalse hb h
      refine Ds 2 [(85, eArr4_i64 r3), (84, eArr4_i64 r2)] [] [(56, [10]), (57, [11])] ?_
      obtain ⟨r209, hr209, h⟩ := bsome h
      refine WD_pt' rfl (by kernel_rfl) (by kernel_rfl) [eArr4_i64 r2, eArr4_i64 r3] (vb r209) rfl (by kernel_rfl) en9 (by kernel_rfl) (clock_Below_ok hr209) (by kernel_rfl) ?_
      refine Ds 3 [(89, vb (!r209)), (88, vb (!r209)), (87, vb (!r209))] [] [] ?_
      cases hb : (!r209 : Bool)
      · replace h := cfalse hb h
        refine Ds 2 [(91, eArr4_i64 r3), (90, eArr4_i64 r4)] [] [(62, [12]), (63, [11])] ?_
        obtain ⟨r210, hr210, h⟩ := bsome h
        refine WD_pt' rfl (by kernel_rfl) (by kernel_rfl) [eArr4_i64 r4, eArr4_i64 r3] (vb r210) rfl (by kernel_rfl) en9 (by kernel_rfl) (clock_Below_ok hr210) (by kernel_rfl) ?_
        refine Ds 3 [(95, vb r210), (94, vb r210), (93, vb r210)] [] [] ?_
        cases hb : (r210 : Bool)
        · replace h := cfalse hb h
          refine Ds 36 [(8, vb false), (130, vb false), (129, .p Go.undef), (128, .p Go.undef), (127, .p Go.undef), (126, .p Go.undef), (125, .p Go.undef), (124, .p Go.undef), (123, .p Go.undef), (122, vb false), (121, vb false), (120, .p Go.undef), (119, .p Go.undef), (118, .p Go.undef), (117, .p Go.undef), (116, .p Go.undef), (115, .p Go.undef), (114, .p Go.undef), (113, vb false), (112, vb false), (111, .p Go.undef), (110, .p Go.undef), (109, .p Go.undef), (108, .p Go.undef), (107, vb false), (106, vb false), (105, .p Go.undef), (104, .p Go.undef), (103, .p Go.undef), (102, vb false), (101, vb false), (100, .p Go.undef), (99, .p Go.undef), (98, .p Go.undef), (97, .p Go.undef), (96, .p Go.undef)] [] [] ?_
          refine WD_end (by kernel_rfl) (by kernel_rfl) (by kernel_rfl) ?_
          exact wK [8] [] ⟨false, h, rfl⟩
        replace h := ctrue hb h
        refine Ds 3 [(98, eArr4_i64 r1), (97, eArr4_i64 r2), (96, eArr4_i64 r4)] [] [(68, [12]), (69, [10]), (70, [9])] ?_
        obtain ⟨r211, hr211, h⟩ := bsome h
        refine WD_pt' rfl (by kernel_rfl) (by kernel_rfl) [eArr4_i64 r2, eArr4_i64 r1] (eArr4_i64 r211) rfl (by kernel_rfl) en13 (by kernel_rfl) (clock_Join_ok hr211) (by kernel_rfl) ?_
        refine WD_loc' rfl (by kernel_rfl) (by kernel_rfl) (by kernel_rfl) (ev_eqlA [.int .i64 r4.e0 r211.e0, .int .i64 r4.e1 r211.e1, .int .i64 r4.e2 r211.e2, .int .i64 r4.e3 r211.e3] (by kernel_rfl) (by kernel_rfl) (eqlArr [.int .i64 r4.e0 r211.e0, .int .i64 r4.e1 r211.e1, .int .i64 r4.e2 r211.e2, .int .i64 r4.e3 r211.e3] 3 (.int .i64) _ (by kernel_rfl) (by kernel_rfl) (by kernel_rfl) (by kernel_rfl) (by kernel_rfl)) (by kernel_rfl)) (by kernel_rfl) ?_
        refine Dt (vb (andL [r4.e0 == r211.e0, r4.e1 == r211.e1, r4.e2 == r211.e2, r4.e3 == r211.e3])) ?_
        refine Ds 2 [(102, vb (andL [r4.e0 == r211.e0, r4.e1 == r211.e1, r4.e2 == r211.e2, r4.e3 == r211.e3])), (101, vb (andL [r4.e0 == r211.e0, r4.e1 == r211.e1, r4.e2 == r211.e2, r4.e3 == r211.e3]))] [] [] ?_
        cases hb : (andL [r4.e0 == r211.e0, r4.e1 == r211.e1, r4.e2 == r211.e2, r4.e3 == r211.e3] : Bool)
        · replace h := cfalse hb h
          refine Ds 29 [(8, vb false), (130, vb false), (129, .p Go.undef), (128, .p Go.undef), (127, .p Go.undef), (126, .p Go.undef), (125, .p Go.undef), (124, .p Go.undef), (123, .p Go.undef), (122, vb false), (121, vb false), (120, .p Go.undef), (119, .p Go.undef), (118, .p Go.undef), (117, .p Go.undef), (116, .p Go.undef), (115, .p Go.undef), (114, .p Go.undef), (113, vb false), (112, vb false), (111, .p Go.undef), (110, .p Go.undef), (109, .p Go.undef), (108, .p Go.undef), (107, vb false), (106, vb false), (105, .p Go.undef), (104, .p Go.undef), (103, .p Go.undef)] [] [] ?_
          refine WD_end (by kernel_rfl) (by kernel_rfl) (by kernel_rfl) ?_
          exact wK [8] [] ⟨false, h, rfl⟩
        replace h := ctrue hb h
        refine Ds 2 [(104, eArr4_i64 r6), (103, eArr4_i64 r1)] [] [(75, [9]), (76, [13])] ?_
        obtain ⟨r212, hr212, h⟩ := bsome h
        refine WD_pt' rfl (by kernel_rfl) (by kernel_rfl) [eArr4_i64 r1, eArr4_i64 r6] (vb r212) rfl (by kernel_rfl) en9 (by kernel_rfl) (clock_Below_ok hr212) (by kernel_rfl) ?_
        refine Ds 2 [(107, vb r212), (106, vb r212)] [] [] ?_
        cases hb : (r212 : Bool)
        · replace h := cfalse hb h
          refine Ds 24 [(8, vb false), (130, vb false), (129, .p Go.undef), (128, .p Go.undef), (127, .p Go.undef), (126, .p Go.undef), (125, .p Go.undef), (124, .p Go.undef), (123, .p Go.undef), (122, vb false), (121, vb false), (120, .p Go.undef), (119, .p Go.undef), (118, .p Go.undef), (117, .p Go.undef), (116, .p Go.undef), (115, .p Go.undef), (114, .p Go.undef), (113, vb false), (112, vb false), (111, .p Go.undef), (110, .p Go.undef), (109, .p Go.undef), (108, .p Go.undef)] [] [] ?_
          refine WD_end (by kernel_rfl) (by kernel_rfl) (by kernel_rfl) ?_
          exact wK [8] [] ⟨false, h, rfl⟩
        replace h := ctrue hb h
        refine Ds 2 [(109, eArr4_i64 r1), (108, eArr4_i64 r6)] [] [(80, [13]), (81, [9])] ?_
        obtain ⟨r213, hr213, h⟩ := bsome h
        refine WD_pt' rfl (by kernel_rfl) (by kernel_rfl) [eArr4_i64 r6, eArr4_i64 r1] (vb r213) rfl (by kernel_rfl) en9 (by kernel_rfl) (clock_Below_ok hr213) (by kernel_rfl) ?_
        refine Ds 3 [(113, vb (!r213)), (112, vb (!r213)), (111, vb (!r213))] [] [] ?_
        cases hb : (!r213 : Bool)
        · replace h := cfalse hb h
          refine Ds 18 [(8, vb false), (130, vb false), (129, .p Go.undef), (128, .p Go.undef), (127, .p Go.undef), (126, .p Go.undef), (125, .p Go.undef), (124, .p Go.undef), (123, .p Go.undef), (122, vb false), (121, vb false), (120, .p Go.undef), (119, .p Go.undef), (118, .p Go.undef), (117, .p Go.undef), (116, .p Go.undef), (115, .p Go.undef), (114, .p Go.undef)] [] [] ?_
          refine WD_end (by kernel_rfl) (by kernel_rfl) (by kernel_rfl) ?_
          exact wK [8] [] ⟨false, h, rfl⟩
        replace h := ctrue hb h
        refine Ds 2 [(115, eArr4_i64 r2), (114, eArr4_i64 r1)] [] [(86, [9]), (87, [10])] ?_
        obtain ⟨r214, hr214, h⟩ := bsome h
        refine WD_pt' rfl (by kernel_rfl) (by kernel_rfl) [eArr4_i64 r1, eArr4_i64 r2] (vb r214) rfl (by kernel_rfl) en10 (by kernel_rfl) (clock_Apart_ok hr214) (by kernel_rfl) ?_
        refine Ds 2 [(118, eArr4_i64 r1), (117, eArr4_i64 r2)] [] [(89, [10]), (90, [9])] ?_
        obtain ⟨r215, hr215, h⟩ := bsome h
        refine WD_pt' rfl (by kernel_rfl) (by kernel_rfl) [eArr4_i64 r2, eArr4_i64 r1] (vb r215) rfl (by kernel_rfl) en10 (by kernel_rfl) (clock_Apart_ok hr215) (by kernel_rfl) ?_
        refine Ds 3 [(122, vb (r214 == r215)), (121, vb (r214 == r215)), (120, vb (r214 == r215))] [] [] ?_
        cases hb : ((r214 == r215) : Bool)
        · replace h := cfalse hb h
          refine Ds 9 [(8, vb false), (130, vb false), (129, .p Go.undef), (128, .p Go.undef), (127, .p Go.undef), (126, .p Go.undef), (125, .p Go.undef), (124, .p Go.undef), (123, .p Go.undef)] [] [] ?_
          refine WD_end (by kernel_rfl) (by kernel_rfl) (by kernel_rfl) ?_
          exact wK [8] [] ⟨false, h, rfl⟩
        replace h := ctrue hb h
        refine Ds 2 [(124, eArr4_i64 r2), (123, eArr4_i64 r1)] [] [(95, [9]), (96, [10])] ?_
        obtain ⟨r216, hr216, h⟩ := bsome h
        refine WD_pt' rfl (by kernel_rfl) (by kernel_rfl) [eArr4_i64 r1, eArr4_i64 r2] (vb r216) rfl (by kernel_rfl) en9 (by kernel_rfl) (clock_Below_ok hr216) (by kernel_rfl) ?_
        refine Ds 2 [(127, eArr4_i64 r2), (126, eArr4_i64 r4)] [] [(98, [12]), (99, [10])] ?_
        refine WD_loc' rfl (by kernel_rfl) (by kernel_rfl) (by kernel_rfl) (ev_eqlA [.int .i64 r4.e0 r2.e0, .int .i64 r4.e1 r2.e1, .int .i64 r4.e2 r2.e2, .int .i64 r4.e3 r2.e3] (by kernel_rfl) (by kernel_rfl) (eqlArr [.int .i64 r4.e0 r2.e0, .int .i64 r4.e1 r2.e1, .int .i64 r4.e2 r2.e2, .int .i64 r4.e3 r2.e3] 3 (.int .i64) _ (by kernel_rfl) (by kernel_rfl) (by kernel_rfl) (by kernel_rfl) (by kernel_rfl)) (by kernel_rfl)) (by kernel_rfl) ?_
        refine Dt (vb (andL [r4.e0 == r2.e0, r4.e1 == r2.e1, r4.e2 == r2.e2, r4.e3 == r2.e3])) ?_
        refine Ds 3 [(8, vb (r216 == (andL [r4.e0 == r2.e0, r4.e1 == r2.e1, r4.e2 == r2.e2, r4.e3 == r2.e3]))), (130, vb (r216 == (andL [r4.e0 == r2.e0, r4.e1 == r2.e1, r4.e2 == r2.e2, r4.e3 == r2.e3]))), (129, vb (r216 == (andL [r4.e0 == r2.e0, r4.e1 == r2.e1, r4.e2 == r2.e2, r4.e3 == r2.e3])))] [] [] ?_
        refine WD_end (by kernel_rfl) (by kernel_rfl) (by kernel_rfl) ?_
        exact wK [8] [] ⟨(r216 == (andL [r4.e0 == r2.e0, r4.e1 == r2.e1, r4.e2 == r2.e2, r4.e3 == r2.e3])), h, rfl⟩
      replace h := ctrue hb h
      refine Ds 9 [(98, eArr4_i64 r1), (97, eArr4_i64 r2), (96, eArr4_i64 r4), (95, vb true), (94, vb true), (93, vb true), (92, .p Go.undef), (91, .p Go.undef), (90, .p Go.undef)] [] [(68, [12]), (69, [10]), (70, [9])] ?_
      obtain ⟨r217, hr217, h⟩ := bsome h
      refine WD_pt' rfl (by kernel_rfl) (by kernel_rfl) [eArr4_i64 r2, eArr4_i64 r1] (eArr4_i64 r217) rfl (by kernel_rfl) en13 (by kernel_rfl) (clock_Join_ok hr217) (by kernel_rfl) ?_
      refine WD_loc' rfl (by kernel_rfl) (by kernel_rfl) (by kernel_rfl) (ev_eqlA [.int .i64 r4.e0 r217.e0, .int .i64 r4.e1 r217.e1, .int .i64 r4.e2 r217.e2, .int .i64 r4.e3 r217.e3] (by kernel_rfl) (by kernel_rfl) (eqlArr [.int .i64 r4.e0 r217.e0, .int .i64 r4.e1 r217.e1, .int .i64 r4.e2 r217.e2, .int .i64 r4.e3 r217.e3] 3 (.int .i64) _ (by kernel_rfl) (by kernel_rfl) (by kernel_rfl) (by kernel_rfl) (by kernel_rfl)) (by kernel_rfl)) (by kernel_rfl) ?_
      refine Dt (vb (andL [r4.e0 == r217.e0, r4.e1 == r217.e1, r4.e2 == r217.e2, r4.e3 == r217.e3])) ?_
      refine Ds 2 [(102, vb (andL [r4.e0 == r217.e0, r4.e1 == r217.e1, r4.e2 == r217.e2, r4.e3 == r217.e3])), (101, vb (andL [r4.e0 == r217.e0, r4.e1 == r217.e1, r4.e2 == r217.e2, r4.e3 == r217.e3]))] [] [] ?_
      cases hb : (andL [r4.e0 == r217.e0, r4.e1 == r217.e1, r4.e2 == r217.e2, r4.e3 == r217.e3] : Bool)
      · replace h := cfalse hb h
        refine Ds 29 [(8, vb false), (130, vb false), (129, .p Go.undef), (128, .p Go.undef), (127, .p Go.undef), (126, .p Go.undef), (125, .p Go.undef), (124, .p Go.undef), (123, .p Go.undef), (122, vb false), (121, vb false), (120, .p Go.undef), (119, .p Go.undef), (118, .p Go.undef), (117, .p Go.undef), (116, .p Go.undef), (115, .p Go.undef), (114, .p Go.undef), (113, vb false), (112, vb false), (111, .p Go.undef), (110, .p Go.undef), (109, .p Go.undef), (108, .p Go.undef), (107, vb false), (106, vb false), (105, .p Go.undef), (104, .p Go.undef), (103, .p Go.undef)] [] [] ?_
        refine WD_end (by kernel_rfl) (by kernel_rfl) (by kernel_rfl) ?_
        exact wK [8] [] ⟨false, h, rfl⟩
      replace h := ctrue hb h
      refine Ds 2 [(104, eArr4_i64 r6), (103, eArr4_i64 r1)] [] [(75, [9]), (76, [13])] ?_
      obtain ⟨r218, hr218, h⟩ := bsome h
      refine WD_pt' rfl (by kernel_rfl) (by kernel_rfl) [eArr4_i64 r1, eArr4_i64 r6] (vb r218) rfl (by kernel_rfl) en9 (by kernel_rfl) (clock_Below_ok hr218) (by kernel_rfl) ?_
      refine Ds 2 [(107, vb r218), (106, vb r218)] [] [] ?_
      cases hb : (r218 : Bool)
      · replace h := cfalse hb h
        refine Ds 24 [(8, vb false), (130, vb false), (129, .p Go.undef), (128, .p Go.undef), (127, .p Go.undef), (126, .p Go.undef), (125, .p Go.undef), (124, .p Go.undef), (123, .p Go.undef), (122, vb false), (121, vb false), (120, .p Go.undef), (119, .p Go.undef), (118, .p Go.undef), (117, .p Go.undef), (116, .p Go.undef), (115, .p Go.undef), (114, .p Go.undef), (113, vb false), (112, vb false), (111, .p Go.undef), (110, .p Go.undef), (109, .p Go.undef), (108, .p Go.undef)] [] [] ?_
        refine WD_end (by kernel_rfl) (by kernel_rfl) (by kernel_rfl) ?_
        exact wK [8] [] ⟨false, h, rfl⟩
      replace h := ctrue hb h
      refine Ds 2 [(109, eArr4_i64 r1), (108, eArr4_i64 r6)] [] [(80, [13]), (81, [9])] ?_
      obtain ⟨r219, hr219, h⟩ := bsome h
      refine WD_pt' rfl (by kernel_rfl) (by kernel_rfl) [eArr4_i64 r6, eArr4_i64 r1] (vb r219) rfl (by kernel_rfl) en9 (by kernel_rfl) (clock_Below_ok hr219) (by kernel_rfl) ?_
      refine Ds 3 [(113, vb (!r219)), (112, vb (!r219)), (111, vb (!r219))] [] [] ?_
      cases hb : (!r219 : Bool)
      · replace h := cfalse hb h
        refine Ds 18 [(8, vb false), (130, vb false), (129, .p Go.undef), (128, .p Go.undef), (127, .p Go.undef), (126, .p Go.undef), (125, .p Go.undef), (124, .p Go.undef), (123, .p Go.undef), (122, vb false), (121, vb false), (120, .p Go.undef), (119, .p Go.undef), (118, .p Go.undef), (117, .p Go.undef), (116, .p Go.undef), (115, .p Go.undef), (114, .p Go.undef)] [] [] ?_
        refine WD_end (by kernel_rfl) (by kernel_rfl) (by kernel_rfl) ?_
        exact wK [8] [] ⟨false, h, rfl⟩
      replace h := ctrue hb h
      refine Ds 2 [(115, eArr4_i64 r2), (114, eArr4_i64 r1)] [] [(86, [9]), (87, [10])] ?_
      obtain ⟨r220, hr220, h⟩ := bsome h
      refine WD_pt' rfl (by kernel_rfl) (by kernel_rfl) [eArr4_i64 r1, eArr4_i64 r2] (vb r220) rfl (by kernel_rfl) en10 (by kernel_rfl) (clock_Apart_ok hr220) (by kernel_rfl) ?_
      refine Ds 2 [(118, eArr4_i64 r1), (117, eArr4_i64 r2)] [] [(89, [10]), (90, [9])] ?_
      obtain ⟨r221, hr221, h⟩ := bsome h
      refine WD_pt' rfl (by kernel_rfl) (by kernel_rfl) [eArr4_i64 r2, eArr4_i64 r1] (vb r221) rfl (by kernel_rfl) en10 (by kernel_rfl) (clock_Apart_ok hr221) (by kernel_rfl) ?_
      refine Ds 3 [(122, vb (r220 == r221)), (121, vb (r220 == r221)), (120, vb (r220 == r221))] [] [] ?_
      cases hb : ((r220 == r221) : Bool)
      · replace h := cfalse hb h
        refine Ds 9 [(8, vb false), (130, vb false), (129, .p Go.undef), (128, .p Go.undef), (127, .p Go.undef), (126, .p Go.undef), (125, .p Go.undef), (124, .p Go.undef), (123, .p Go.undef)] [] [] ?_
        refine WD_end (by kernel_rfl) (by kernel_rfl) (by kernel_rfl) ?_
        exact wK [8] [] ⟨false, h, rfl⟩
      replace h := ctrue hb h
      refine Ds 2 [(124, eArr4_i64 r2), (123, eArr4_i64 r1)] [] [(95, [9]), (96, [10])] ?_
      obtain ⟨r222, hr222, h⟩ := bsome h
      refine WD_pt' rfl (by kernel_rfl) (by kernel_rfl) [eArr4_i64 r1, eArr4_i64 r2] (vb r222) rfl (by kernel_rfl) en9 (by kernel_rfl) (clock_Below_ok hr222) (by kernel_rfl) ?_
      refine Ds 2 [(127, eArr4_i64 r2), (126, eArr4_i64 r4)] [] [(98, [12]), (99, [10])] ?_
      refine WD_loc' rfl (by kernel_rfl) (by kernel_rfl) (by kernel_rfl) (ev_eqlA [.int .i64 r4.e0 r2.e0, .int .i64 r4.e1 r2.e1, .int .i64 r4.e2 r2.e2, .int .i64 r4.e3 r2.e3] (by kernel_rfl) (by kernel_rfl) (eqlArr [.int .i64 r4.e0 r2.e0, .int .i64 r4.e1 r2.e1, .int .i64 r4.e2 r2.e2, .int .i64 r4.e3 r2.e3] 3 (.int .i64) _ (by kernel_rfl) (by kernel_rfl) (by kernel_rfl) (by kernel_rfl) (by kernel_rfl)) (by kernel_rfl)) (by kernel_rfl) ?_
      refine Dt (vb (andL [r4.e0 == r2.e0, r4.e1 == r2.e1, r4.e2 == r2.e2, r4.e3 == r2.e3])) ?_
      refine Ds 3 [(8, vb (r222 == (andL [r4.e0 == r2.e0, r4.e1 == r2.e1, r4.e2 == r2.e2, r4.e3 == r2.e3]))), (130, vb (r222 == (andL [r4.e0 == r2.e0, r4.e1 == r2.e1, r4.e2 == r2.e2, r4.e3 == r2.e3]))), (129, vb (r222 == (andL [r4.e0 == r2.e0, r4.e1 == r2.e1, r4.e2 == r2.e2, r4.e3 == r2.e3])))] [] [] ?_
      refine WD_end (by kernel_rfl) (by kernel_rfl) (by kernel_rfl) ?_
      exact wK [8] [] ⟨(r222 == (andL [r4.e0 == r2.e0, r4.e1 == r2.e1, r4.e2 == r2.e2, r4.e3 == r2.e3])), h, rfl⟩
    replace h := ctrue hb h
    refine Ds 15 [(98, eArr4_i64 r1), (97, eArr4_i64 r2), (96, eArr4_i64 r4), (95, vb true), (94, vb true), (93, vb true), (92, .p Go.undef), (91, .p Go.undef), (90, .p Go.undef), (89, vb true), (88, vb true), (87, .p Go.undef), (86, .p Go.undef), (85, .p Go.undef), (84, .p Go.undef)] [] [(68, [12]), (69, [10]), (70, [9])] ?_
    obtain ⟨r223, hr223, h⟩ := bsome h
    refine WD_pt' rfl (by kernel_rfl) (by kernel_rfl) [eArr4_i64 r2, eArr4_i64 r1] (eArr4_i64 r223) rfl (by kernel_rfl) en13 (by kernel_rfl) (clock_Join_ok hr223) (by kernel_rfl) ?_
    refine WD_loc' rfl (by kernel_rfl) (by kernel_rfl) (by kernel_rfl) (ev_eqlA [.int .i64 r4.e0 r223.e0, .int .i64 r4.e1 r223.e1, .int .i64 r4.e2 r223.e2, .int .i64 r4.e3 r223.e3] (by kernel_rfl) (by kernel_rfl) (eqlArr [.int .i64 r4.e0 r223.e0, .int .i64 r4.e1 r223.e1, .int .i64 r4.e2 r223.e2, .int .i64 r4.e3 r223.e3] 3 (.int .i64) _ (by kernel_rfl) (by kernel_rfl) (by kernel_rfl) (by kernel_rfl) (by kernel_rfl)) (by kernel_rfl)) (by kernel_rfl) ?_
    refine Dt (vb (andL [r4.e0 == r223.e0, r4.e1 == r223.e1, r4.e2 == r223.e2, r4.e3 == r223.e3])) ?_
    refine Ds 2 [(102, vb (andL [r4.e0 == r223.e0, r4.e1 == r223.e1, r4.e2 == r223.e2, r4.e3 == r223.e3])), (101, vb (andL [r4.e0 == r223.e0, r4.e1 == r223.e1, r4.e2 == r223.e2, r4.e3 == r223.e3]))] [] [] ?_
    cases hb : (andL [r4.e0 == r223.e0, r4.e1 == r223.e1, r4.e2 == r223.e2, r4.e3 == r223.e3] : Bool)
    · replace h := cfalse hb h
      refine Ds 29 [(8, vb false), (130, vb false), (129, .p Go.undef), (128, .p Go.undef), (127, .p Go.undef), (126, .p Go.undef), (125, .p Go.undef), (124, .p Go.undef), (123, .p Go.undef), (122, vb false), (121, vb false), (120, .p Go.undef), (119, .p Go.undef), (118, .p Go.undef), (117, .p Go.undef), (116, .p Go.undef), (115, .p Go.undef), (114, .p Go.undef), (113, vb false), (112, vb false), (111, .p Go.undef), (110, .p Go.undef), (109, .p Go.undef), (108, .p Go.undef), (107, vb false), (106, vb false), (105, .p Go.undef), (104, .p Go.undef), (103, .p Go.undef)] [] [] ?_
      refine WD_end (by kernel_rfl) (by kernel_rfl) (by kernel_rfl) ?_
      exact wK [8] [] ⟨false, h, rfl⟩
    replace h := ctrue hb h
    refine Ds 2 [(104, eArr4_i64 r6), (103, eArr4_i64 r1)] [] [(75, [9]), (76, [13])] ?_
    obtain ⟨r224, hr224, h⟩ := bsome h
    refine WD_pt' rfl (by kernel_rfl) (by kernel_rfl) [eArr4_i64 r1, eArr4_i64 r6] (vb r224) rfl (by kernel_rfl) en9 (by kernel_rfl) (clock_Below_ok hr224) (by kernel_rfl) ?_
    refine Ds 2 [(107, vb r224), (106, vb r224)] [] [] ?_
    cases hb : (r224 : Bool)
    · replace h := cfalse hb h
      refine Ds 24 [(8, vb false), (130, vb false), (129, .p Go.undef), (128, .p Go.undef), (127, .p Go.undef), (126, .p Go.undef), (125, .p Go.undef), (124, .p Go.undef), (123, .p Go.undef), (122, vb false), (121, vb false), (120, .p Go.undef), (119, .p Go.undef), (118, .p Go.undef), (117, .p Go.undef), (116, .p Go.undef), (115, .p Go.undef), (114, .p Go.undef), (113, vb false), (112, vb false), (111, .p Go.undef), (110, .p Go.undef), (109, .p Go.undef), (108, .p Go.undef)] [] [] ?_
      refine WD_end (by kernel_rfl) (by kernel_rfl) (by kernel_rfl) ?_
      exact wK [8] [] ⟨false, h, rfl⟩
    replace h := ctrue hb h
    refine Ds 2 [(109, eArr4_i64 r1), (108, eArr4_i64 r6)] [] [(80, [13]), (81, [9])] ?_
    obtain ⟨r225, hr225, h⟩ := bsome h
    refine WD_pt' rfl (by kernel_rfl) (by kernel_rfl) [eArr4_i64 r6, eArr4_i64 r1] (vb r225) rfl (by kernel_rfl) en9 (by kernel_rfl) (clock_Below_ok hr225) (by kernel_rfl) ?_
    refine Ds 3 [(113, vb (!r225)), (112, vb (!r225)), (111, vb (!r225))] [] [] ?_
    cases hb : (!r225 : Bool)
    · replace h := cfalse hb h
      refine Ds 18 [(8, vb false), (130, vb false), (129, .p Go.undef), (128, .p Go.undef), (127, .p Go.undef), (126, .p Go.undef), (125, .p Go.undef), (124, .p Go.undef), (123, .p Go.undef), (122, vb false), (121, vb false), (120, .p Go.undef), (119, .p Go.undef), (118, .p Go.undef), (117, .p Go.undef), (116, .p Go.undef), (115, .p Go.undef), (114, .p Go.undef)] [] [] ?_
      refine WD_end (by kernel_rfl) (by kernel_rfl) (by kernel_rfl) ?_
      exact wK [8] [] ⟨false, h, rfl⟩
    replace h := ctrue hb h
    refine Ds 2 [(115, eArr4_i64 r2), (114, eArr4_i64 r1)] [] [(86, [9]), (87, [10])] ?_
    obtain ⟨r226, hr226, h⟩ := bsome h
    refine WD_pt' rfl (by kernel_rfl) (by kernel_rfl) [eArr4_i64 r1, eArr4_i64 r2] (vb r226) rfl (by kernel_rfl) en10 (by kernel_rfl) (clock_Apart_ok hr226) (by kernel_rfl) ?_
    refine Ds 2 [(118, eArr4_i64 r1), (117, eArr4_i64 r2)] [] [(89, [10]), (90, [9])] ?_
    obtain ⟨r227, hr227, h⟩ := bsome h
    refine WD_pt' rfl (by kernel_rfl) (by kernel_rfl) [eArr4_i64 r2, eArr4_i64 r1] (vb r227) rfl (by kernel_rfl) en10 (by kernel_rfl) (clock_Apart_ok hr227) (by kernel_rfl) ?_
    refine Ds 3 [(122, vb (r226 == r227)), (121, vb (r226 == r227)), (120, vb (r226 == r227))] [] [] ?_
    cases hb : ((r226 == r227) : Bool)
    · replace h := cfalse hb h
      refine Ds 9 [(8, vb false), (130, vb false), (129, .p Go.undef), (128, .p Go.undef), (127, .p Go.undef), (126, .p Go.undef), (125, .p Go.undef), (124, .p Go.undef), (123, .p Go.undef)] [] [] ?_
      refine WD_end (by kernel_rfl) (by kernel_rfl) (by kernel_rfl) ?_
      exact wK [8] [] ⟨false, h, rfl⟩
    replace h := ctrue hb h
    refine Ds 2 [(124, eArr4_i64 r2), (123, eArr4_i64 r1)] [] [(95, [9]), (96, [10])] ?_
    obtain ⟨r228, hr228, h⟩ := bsome h
    refine WD_pt' rfl (by kernel_rfl) (by kernel_rfl) [eArr4_i64 r1, eArr4_i64 r2] (vb r228) rfl (by kernel_rfl) en9 (by kernel_rfl) (clock_Below_ok hr228) (by kernel_rfl) ?_
    refine Ds 2 [(127, eArr4_i64 r2), (126, eArr4_i64 r4)] [] [(98, [12]), (99, [10])] ?_
    refine WD_loc' rfl (by kernel_rfl) (by kernel_rfl) (by kernel_rfl) (ev_eqlA [.int .i64 r4.e0 r2.e0, .int .i64 r4.e1 r2.e1, .int .i64 r4.e2 r2.e2, .int .i64 r4.e3 r2.e3] (by kernel_rfl) (by kernel_rfl) (eqlArr [.int .i64 r4.e0 r2.e0, .int .i64 r4.e1 r2.e1, .int .i64 r4.e2 r2.e2, .int .i64 r4.e3 r2.e3] 3 (.int .i64) _ (by kernel_rfl) (by kernel_rfl) (by kernel_rfl) (by kernel_rfl) (by kernel_rfl)) (by kernel_rfl)) (by kernel_rfl) ?_
    refine Dt (vb (andL [r4.e0 == r2.e0, r4.e1 == r2.e1, r4.e2 == r2.e2, r4.e3 == r2.e3])) ?_
    refine Ds 3 [(8, vb (r228 == (andL [r4.e0 == r2.e0, r4.e1 == r2.e1, r4.e2 == r2.e2, r4.e3 == r2.e3]))), (130, vb (r228 == (andL [r4.e0 == r2.e0, r4.e1 == r2.e1, r4.e2 == r2.e2, r4.e3 == r2.e3]))), (129, vb (r228 == (andL [r4.e0 == r2.e0, r4.e1 == r2.e1, r4.e2 == r2.e2, r4.e3 == r2.e3])))] [] [] ?_
    refine WD_end (by kernel_rfl) (by kernel_rfl) (by kernel_rfl) ?_
    exact wK [8] [] ⟨(r228 == (andL [r4.e0 == r2.e0, r4.e1 == r2.e1, r4.e2 == r2.e2, r4.e3 == r2.e3])), h, rfl⟩
  subst hJ8
  rintro s ⟨b7, h, rfl⟩
  obtain rfl := Option.some.inj h
  exact rK [8] [] ⟨[(8, vb b7)], [], 1⟩ ⟨by kernel_rfl, rfl⟩

end Go.Su.Ytacknokheanpbaa
