/-
  The functions of the program compute that.
-/
import Derived.Test.YtfmgnboplbgniaaNFPb
namespace Go.Su.Ytfmgnboplbgniaa
open Go.Mx Go.Proofs
set_option maxRecDepth 100000
set_option maxHeartbeats 20000000
set_option linter.unusedVariables false
set_option linter.unusedSimpArgs false

theorem law8_NamesFirst_ok {n : Nat} {a0 : Int} {a1 : List Int} {a2 : Int} {r : Bool} (h : law8_NamesFirst n a0 a1 a2 = some r) : PT Try.prog 9 [vi a0, .ps .opt (s_int.F a1), vi a2] (vb r) := by
  unfold law8_NamesFirst at h
  refine PT_bodyA hT Try.func9 rfl (by kernel_rfl) fun bad w => ?_
  refine Qzd hT 1 [0, 1, 2] [] ?_
  refine Qgd hT 1 [1, 2, 13] [(13, vi a0)] ?_
  obtain ⟨r1, hr1, h⟩ := bsome h
  refine WO_go' rfl (by kernel_rfl) [] [(100, ⟨1, 32, 1, false, true, s_LStmt.F r1.Threads⟩)] [vi a0, .ps .nil [], .ps .nil [], .ps .nil [], vi 1] [vi a0, .ps .nil [], .ps .nil [], .ps .nil [], vi 1] [] [(100, 14, 0)] [(14, ⟨0, 32, 1, false, true, s_LStmt.F r1.Threads⟩)] (.agg [.ps .opt (s_Decl.F r1.Decls), vo 100 1 (s_LStmt.F r1.Threads)]) (.agg [.ps .opt (s_Decl.F r1.Decls), vo 14 0 (s_LStmt.F r1.Threads)]) 1 rfl (by kernel_rfl) en15 (by kernel_rfl) (by kernel_rfl) (by kernel_rfl) (GO_args ((hand_Prog_ok hr1)) ⟨(VLe.f (VLe.refl _) rfl), (VLe.f (VLe.nil_opt) rfl), (VLe.f (VLe.nil_opt) rfl), (VLe.f (VLe.nil_opt) rfl), (VLe.f (VLe.refl _) rfl), trivial⟩) (by kernel_rfl) (by kernel_rfl) (by kernel_rfl) (by kernel_rfl) ?_
  refine Sgh hT 0 [1, 2, 14] [(14, .agg [.ps .opt (s_Decl.F r1.Decls), vo 14 0 (s_LStmt.F r1.Threads)])] [(14, ⟨0, 32, 1, false, true, s_LStmt.F r1.Threads⟩)] 1 ?_
  refine WO_weak (Weak_frz 14 0 ⟨0, 32, 1, false, true, s_LStmt.F r1.Threads⟩ (by kernel_rfl) rfl rfl [(1, .ps .opt (s_int.F a1)), (2, vi a2), (14, eProg r1)] [] ⟨rfl, .keep _, rfl, .keep _, rfl, .aggs ⟨.keep _, .hit true, trivial⟩, trivial⟩ trivial) ?_
  obtain ⟨r2, hr2, h⟩ := bsome h
  refine Pt' en33 (ref1_Show_ok hr2) ?_
  refine Sgd hT 0 [1, 2, 15] [(15, vw r2)] ?_
  obtain ⟨r3, hr3, h⟩ := bsome h
  refine Pt' en27 (law8_read_ok hr3) ?_
  refine Sg hT 1 [2, 16, 17] ⟨[(2, vi a2), (16, eProg r3), (17, .ps .opt (s_int.F a1))], [], 1⟩ ?_
  obtain ⟨r4, hr4, h⟩ := bsome h
  refine Pt' en32 (law8_turned_ok hr4) ?_
  refine Sz hT 2 [2, 7] ⟨[(2, vi a2), (7, .box 7 1 0 0)], [(7, ⟨1, 26, 2, true, false, [eProg r4]⟩)], 2⟩ ?_
  refine WA_seq ?_
  refine Qgd hT 2 [2, 7, 20] [(20, .ps .opt (s_Decl.F r4.Decls))] ?_
  refine One' hT rfl (ev_len s_Decl .opt r4.Decls (by kernel_rfl)) ?_
  refine Szd hT 1 [2, 7, 22] [(22, vb ((ln r4.Decls) == 0))] ?_
  refine Cd ((ln r4.Decls) == 0) ?_ ?_
  · intro hb; replace h := ctrue hb h
    refine Qzd hT 1 [6] [(6, vb false)] ?_
    obtain rfl := Option.some.inj h
    exact rK [6] [] ⟨[(6, vb false)], [], 1⟩ ⟨by kernel_rfl, rfl⟩
  intro hb; replace h := cfalse hb h
  refine WA_skip ?_
  refine WA_seq ?_
  refine Qgd hT 2 [2, 7, 24] [(24, .ps .opt (s_Decl.F r4.Decls))] ?_
  refine One' hT rfl (ev_len s_Decl .opt r4.Decls (by kernel_rfl)) ?_
  refine Szd hT 1 [2, 7, 24, 25, 26] [(25, vi (ln r4.Decls)), (26, vi 0)] ?_
  refine WA_block ?_
  refine lK [2, 7, 24, 25, 26] [(7, 7, 0)] (fun k s => ∃ q, q ≤ k ∧ q ≤ n ∧ ∃ (i5 : Int), law8_NamesFirst_L0 q a0 a1 a2 r1 r2 r3 r4 i5 = some r ∧ s = ⟨[(2, vi a2), (7, .box 7 0 0 0), (24, .ps .opt (s_Decl.F r4.Decls)), (25, vi (ln r4.Decls)), (26, vi i5)], [(7, ⟨0, 26, 2, true, false, [eProg r4]⟩)], 1⟩) n ⟨n, Nat.le_refl _, Nat.le_refl _, 0, h, rfl⟩ (by rintro s ⟨q, hq, _, i5, h, _⟩; obtain rfl := Nat.le_zero.1 hq; rw [law8_NamesFirst_L0] at h; cases h) ?_
  clear h
  rintro k1 s ⟨q1, hk1, hn1, i5, h, rfl⟩
  rcases q1 with _ | q1
  · rw [law8_NamesFirst_L0] at h; cases h
  rw [law8_NamesFirst_L0] at h
  refine Qzd hT 1 [2, 7, 24, 25, 26, 27] [(27, vb (decide (i5 < (ln r4.Decls))))] ?_
  refine WA_seq ?_
  refine Cd (decide (i5 < (ln r4.Decls))) ?_ ?_
  · intro hb; replace h := ctrue hb h
    refine WA_skip ?_
    refine WA_seq ?_
    refine WA_block ?_
    refine Qgd hT 1 [2, 7, 24, 25, 26, 28] [(28, vi i5)] ?_
    obtain ⟨x6, hx6, h⟩ := bsome h
    refine One' hT rfl (ev_index s_Decl .opt r4.Decls .i64 i5 hx6 (by decide) (by kernel_rfl) (by kernel_rfl)) ?_
    refine Szh hT 4 [2, 7, 8, 9, 24, 25, 26] [(8, vi i5), (9, .box 9 1 0 0)] [(9, ⟨1, 58, 4, true, false, [eDecl x6]⟩), (7, ⟨0, 26, 2, true, false, [eProg r4]⟩)] 2 ?_
    refine Qgd hT 3 [2, 7, 8, 9, 24, 25, 26, 31, 33] [(31, eProg r4), (33, vw x6.Name)] ?_
    obtain ⟨r7, hr7, h⟩ := bsome h
    refine Pt' en30 (names_Find_ok hr7) ?_
    refine Szd hT 1 [2, 7, 8, 9, 10, 24, 25, 26] [(10, vi r7)] ?_
    refine WA_seq ?_
    refine WA_seq ?_
    obtain ⟨J9, hJ9, h⟩ := jsome h
    refine WA_join (fun s => ∃ (b8 : Bool), J9 b8 = some r ∧ s = ⟨[(2, vi a2), (7, .box 7 0 0 0), (9, .box 9 0 0 0), (10, vi r7), (24, .ps .opt (s_Decl.F r4.Decls)), (25, vi (ln r4.Decls)), (26, vi i5), (52, vb b8)], [(7, ⟨0, 26, 2, true, false, [eProg r4]⟩), (9, ⟨0, 58, 4, true, false, [eDecl x6]⟩)], 1⟩) ?_ ?_
    · refine WA_drawW hT hM (by kernel_rfl) ?_
      refine Ds 3 [(37, vb (decide (r7 < 0))), (36, vb (decide (r7 < 0))), (35, vi r7)] [] [] ?_
      cases hb : (decide (r7 < 0) : Bool)
      · replace h := cfalse hb h
        refine Ds 5 [(42, vb (decide (r7 > i5))), (41, vb (decide (r7 > i5))), (40, vb (decide (r7 > i5))), (39, vi i5), (38, vi r7)] [] [] ?_
        cases hb : (decide (r7 > i5) : Bool)
        · replace h := cfalse hb h
          refine Ds 3 [(45, vi r7), (44, .ps .opt (s_Decl.F r4.Decls)), (43, .box 7 0 0 0)] [] [(8, [7]), (9, [7])] ?_
          obtain ⟨x10, hx10, h⟩ := bsome h
          refine WD_loc' rfl (by kernel_rfl) (by kernel_rfl) (by kernel_rfl) (ev_index s_Decl .opt r4.Decls .i64 r7 hx10 (by decide) (by kernel_rfl) (by kernel_rfl)) (by kernel_rfl) ?_
          refine Dt (.ref (eDecl x10) 0) ?_
          refine Ds 6 [(52, vb (!bytesEq x10.Name x6.Name)), (51, vb (!bytesEq x10.Name x6.Name)), (50, vw x6.Name), (49, .box 9 1 0 1), (48, vw x10.Name), (47, .ref (eDecl x10) 1)] [] [(14, [9]), (15, [9])] ?_
          refine WD_end (by kernel_rfl) (by kernel_rfl) (by kernel_rfl) ?_
          exact wK [2, 7, 9, 10, 24, 25, 26, 52] [(7, 7, 0), (9, 9, 0)] ⟨!bytesEq x10.Name x6.Name, h, rfl⟩
        replace h := ctrue hb h
        refine Ds 10 [(52, vb true), (51, .p Go.undef), (50, .p Go.undef), (49, .p Go.undef), (48, .p Go.undef), (47, .p Go.undef), (46, .p Go.undef), (45, .p Go.undef), (44, .p Go.undef), (43, .p Go.undef)] [] [] ?_
        refine WD_end (by kernel_rfl) (by kernel_rfl) (by kernel_rfl) ?_
        exact wK [2, 7, 9, 10, 24, 25, 26, 52] [(7, 7, 0), (9, 9, 0)] ⟨true, h, rfl⟩
      replace h := ctrue hb h
      refine Ds 15 [(52, vb true), (51, .p Go.undef), (50, .p Go.undef), (49, .p Go.undef), (48, .p Go.undef), (47, .p Go.undef), (46, .p Go.undef), (45, .p Go.undef), (44, .p Go.undef), (43, .p Go.undef), (42, vb true), (41, vb true), (40, .p Go.undef), (39, .p Go.undef), (38, .p Go.undef)] [] [] ?_
      refine WD_end (by kernel_rfl) (by kernel_rfl) (by kernel_rfl) ?_
      exact wK [2, 7, 9, 10, 24, 25, 26, 52] [(7, 7, 0), (9, 9, 0)] ⟨true, h, rfl⟩
    subst hJ9
    rintro s ⟨b8, h, rfl⟩
    skip
    refine Cd b8 ?_ ?_
    · intro hb; replace h := ctrue hb h
      refine Qz hT 1 [6] ⟨[(6, vb false)], [(7, ⟨0, 26, 2, true, false, [eProg r4]⟩), (9, ⟨0, 58, 4, true, false, [eDecl x6]⟩)], 1⟩ ?_
      obtain rfl := Option.some.inj h
      exact rK [6] [] ⟨[(6, vb false)], [], 1⟩ ⟨by kernel_rfl, rfl⟩
    intro hb; replace h := cfalse hb h
    refine WA_skip ?_
    refine Qzd hT 1 [2, 7, 9, 10, 11, 24, 25, 26] [(11, vi 0)] ?_
    refine WA_block ?_
    refine lK [2, 7, 9, 10, 11, 24, 25, 26] [(7, 7, 0), (9, 9, 0)] (fun k s => ∃ q, q ≤ k ∧ q ≤ q1 ∧ ∃ (i11 : Int), law8_NamesFirst_L1 q a0 a1 a2 r1 r2 r3 r4 i5 x6 r7 b8 i11 = some r ∧ s = ⟨[(2, vi a2), (7, .box 7 0 0 0), (9, .box 9 0 0 0), (10, vi r7), (11, vi i11), (24, .ps .opt (s_Decl.F r4.Decls)), (25, vi (ln r4.Decls)), (26, vi i5)], [(7, ⟨0, 26, 2, true, false, [eProg r4]⟩), (9, ⟨0, 58, 4, true, false, [eDecl x6]⟩)], 1⟩) q1 ⟨q1, Nat.le_refl _, Nat.le_refl _, 0, h, rfl⟩ (by rintro s ⟨q, hq, _, i11, h, _⟩; obtain rfl := Nat.le_zero.1 hq; rw [law8_NamesFirst_L1] at h; cases h) ?_
    clear h
    rintro k2 s ⟨q2, hk2, hn2, i11, h, rfl⟩
    rcases q2 with _ | q2
    · rw [law8_NamesFirst_L1] at h; cases h
    rw [law8_NamesFirst_L1] at h
    refine WA_seq ?_
    refine Qzd hT 3 [2, 7, 9, 10, 11, 24, 25, 26, 55] [(55, vb (decide (i11 < r7)))] ?_
    refine Cd (decide (i11 < r7)) ?_ ?_
    · intro hb; replace h := ctrue hb h
      refine WA_skip ?_
      refine WA_seq ?_
      refine WA_block ?_
      refine WA_seq ?_
      refine WA_drawW hT hM (by kernel_rfl) ?_
      refine Ds 3 [(60, vi i11), (59, .ps .opt (s_Decl.F r4.Decls)), (58, .box 7 0 0 0)] [] [(0, [7]), (1, [7])] ?_
      obtain ⟨x12, hx12, h⟩ := bsome h
      refine WD_loc' rfl (by kernel_rfl) (by kernel_rfl) (by kernel_rfl) (ev_index s_Decl .opt r4.Decls .i64 i11 hx12 (by decide) (by kernel_rfl) (by kernel_rfl)) (by kernel_rfl) ?_
      refine Dt (.ref (eDecl x12) 0) ?_
      refine Ds 5 [(66, vb (bytesEq x12.Name x6.Name)), (65, vw x6.Name), (64, .box 9 0 0 1), (63, vw x12.Name), (62, .ref (eDecl x12) 1)] [] [(6, [9]), (7, [9])] ?_
      refine WD_end (by kernel_rfl) (by kernel_rfl) (by kernel_rfl) ?_
      refine Wk_done ?_
      refine Cd (bytesEq x12.Name x6.Name) ?_ ?_
      · intro hb; replace h := ctrue hb h
        refine Qz hT 1 [6] ⟨[(6, vb false)], [(7, ⟨0, 26, 2, true, false, [eProg r4]⟩), (9, ⟨0, 58, 4, true, false, [eDecl x6]⟩)], 1⟩ ?_
        obtain rfl := Option.some.inj h
        exact rK [6] [] ⟨[(6, vb false)], [], 1⟩ ⟨by kernel_rfl, rfl⟩
      intro hb; replace h := cfalse hb h
      refine WA_skip ?_
      refine Rgd hT 3 [2, 7, 9, 10, 11, 24, 25, 26] [(11, vi (wr (i11 + 1)))] ?_
      exact oK [2, 7, 9, 10, 11, 24, 25, 26] [(7, 7, 0), (9, 9, 0)] ⟨_, by omega, by omega, wr (i11 + 1), h, rfl⟩
    intro hb; replace h := cfalse hb h
    refine WA_exit ?_
    refine Rgd hT 2 [2, 7, 24, 25, 26] [(26, vi (wr (i5 + 1)))] ?_
    exact oK [2, 7, 24, 25, 26] [(7, 7, 0)] ⟨_, by omega, by omega, wr (i5 + 1), h, rfl⟩
  intro hb; replace h := cfalse hb h
  refine WA_exit ?_
  refine Qzh hT 3 [2, 7, 12] [(12, .box 12 1 0 0)] [(12, ⟨1, 26, 2, true, false, [eProg r4]⟩), (7, ⟨0, 26, 2, true, false, [eProg r4]⟩)] 2 ?_
  refine WA_seq ?_
  refine WA_drawW hT hM (by kernel_rfl) ?_
  refine Ds 5 [(73, .ps .opt (s_Decl.F r4.Decls)), (72, .box 7 0 0 0), (71, vi a2), (70, .ps .opt (s_Decl.F r4.Decls)), (69, .box 7 0 0 0)] [] [(0, [7]), (1, [7]), (3, [7]), (4, [7])] ?_
  refine WD_loc' rfl (by kernel_rfl) (by kernel_rfl) (by kernel_rfl) (ev_len s_Decl .opt r4.Decls (by kernel_rfl)) (by kernel_rfl) ?_
  refine Dt (vi (ln r4.Decls)) ?_
  obtain ⟨r13, hr13, h⟩ := bsome h
  refine WD_pt' rfl (by kernel_rfl) (by kernel_rfl) [vi a2, vi (ln r4.Decls)] (vi r13) rfl (by kernel_rfl) en17 (by kernel_rfl) (hand_Pick_ok hr13) (by kernel_rfl) ?_
  obtain ⟨l14, hl14, h⟩ := bsome h
  refine WD_loc' rfl (by kernel_rfl) (by kernel_rfl) (by kernel_rfl) (ev_slice s_Decl .opt r4.Decls r13 (ln r4.Decls) none l14 .opt hl14 (by kernel_rfl) (by kernel_rfl) (by kernel_rfl) (by kernel_rfl) (by intro y hy; cases hy) rfl rfl (by decide)) (by kernel_rfl) ?_
  refine Dt (.ps .opt (s_Decl.F l14)) ?_
  refine Dh 2 [(77, .box 12 1 0 0)] [(12, ⟨1, 26, 2, true, false, [.agg [.ps .opt (s_Decl.F l14), .ps .opt (s_LStmt.F r4.Threads)]]⟩), (7, ⟨0, 26, 2, true, false, [eProg r4]⟩)] 2 [(9, [12])] [(8, [12])] ?_
  refine WD_end (by kernel_rfl) (by kernel_rfl) (by kernel_rfl) ?_
  refine Wk_done ?_
  refine WA_seq ?_
  obtain ⟨J16, hJ16, h⟩ := jsome h
  refine WA_join (fun s => ∃ (b15 : Bool), J16 b15 = some r ∧ s = ⟨[(6, vb b15)], [], 1⟩) ?_ ?_
  · refine WA_drawW hT hM (by kernel_rfl) ?_
    obtain ⟨r17, hr17, h⟩ := bsome h
    refine WD_pt' rfl (by kernel_rfl) (by kernel_rfl) [] (vb r17) rfl (by kernel_rfl) en29 (by kernel_rfl) (law8_known_ok hr17) (by kernel_rfl) ?_
    refine Ds 1 [(79, vb r17)] [] [] ?_
    cases hb : (r17 : Bool)
    · replace h := cfalse hb h
      refine Ds 15 [(6, vb false), (93, vb false), (92, .p Go.undef), (91, .p Go.undef), (90, .p Go.undef), (89, .p Go.undef), (88, .p Go.undef), (87, .p Go.undef), (86, .p Go.undef), (85, .p Go.undef), (84, vb false), (83, vb false), (82, .p Go.undef), (81, .p Go.undef), (80, .p Go.undef)] [] [] ?_
      refine WD_end (by kernel_rfl) (by kernel_rfl) (by kernel_rfl) ?_
      exact wK [6] [] ⟨false, h, rfl⟩
    replace h := ctrue hb h
    refine Ds 1 [(80, .agg [.ps .nil [], .ps .nil []])] [] [] ?_
    obtain ⟨r18, hr18, h⟩ := bsome h
    refine WD_pt' rfl (by kernel_rfl) (by kernel_rfl) [.agg [.ps .nil [], .ps .nil []], vw k_x] (vi r18) rfl (by kernel_rfl) en30 (by kernel_rfl) (PT_args ((names_Find_ok hr18)) ⟨VLe.agg ⟨VLe.nil_opt, VLe.nil_opt, trivial⟩, VLe.refl _, trivial⟩) (by kernel_rfl) ?_
    refine Ds 3 [(84, vb (r18 == (-1))), (83, vb (r18 == (-1))), (82, vb (r18 == (-1)))] [] [] ?_
    cases hb : ((r18 == (-1)) : Bool)
    · replace h := cfalse hb h
      refine Ds 10 [(6, vb false), (93, vb false), (92, .p Go.undef), (91, .p Go.undef), (90, .p Go.undef), (89, .p Go.undef), (88, .p Go.undef), (87, .p Go.undef), (86, .p Go.undef), (85, .p Go.undef)] [] [] ?_
      refine WD_end (by kernel_rfl) (by kernel_rfl) (by kernel_rfl) ?_
      exact wK [6] [] ⟨false, h, rfl⟩
    replace h := ctrue hb h
    refine Ds 3 [(87, .ps .opt (s_Decl.F l14)), (86, .box 12 1 0 0), (85, .agg [.ps .opt (s_Decl.F l14), .ps .opt (s_LStmt.F r4.Threads)])] [] [(7, [12]), (8, [12]), (9, [12])] ?_
    obtain ⟨x19, hx19, h⟩ := bsome h
    refine WD_loc' rfl (by kernel_rfl) (by kernel_rfl) (by kernel_rfl) (ev_index s_Decl .opt l14 .i64 0 hx19 (by decide) (by kernel_rfl) (by kernel_rfl)) (by kernel_rfl) ?_
    refine Dt (.ref (eDecl x19) 0) ?_
    refine Ds 2 [(90, vw x19.Name), (89, .ref (eDecl x19) 1)] [] [] ?_
    obtain ⟨r20, hr20, h⟩ := bsome h
    refine WD_pt' rfl (by kernel_rfl) (by kernel_rfl) [.agg [.ps .opt (s_Decl.F l14), .ps .opt (s_LStmt.F r4.Threads)], vw x19.Name] (vi r20) rfl (by kernel_rfl) en30 (by kernel_rfl) (PT_args ((names_Find_ok hr20)) ⟨VLe.agg ⟨VLe.refl _, VLe.refl _, trivial⟩, VLe.refl _, trivial⟩) (by kernel_rfl) ?_
    refine Ds 3 [(6, vb (r20 == 0)), (93, vb (r20 == 0)), (92, vb (r20 == 0))] [] [] ?_
    refine WD_end (by kernel_rfl) (by kernel_rfl) (by kernel_rfl) ?_
    exact wK [6] [] ⟨(r20 == 0), h, rfl⟩
  subst hJ16
  rintro s ⟨b15, h, rfl⟩
  obtain rfl := Option.some.inj h
  exact rK [6] [] ⟨[(6, vb b15)], [], 1⟩ ⟨by kernel_rfl, rfl⟩

end Go.Su.Ytfmgnboplbgniaa
