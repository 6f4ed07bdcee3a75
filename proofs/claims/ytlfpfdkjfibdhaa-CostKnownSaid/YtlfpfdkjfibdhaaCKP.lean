/-
  The functions of the program compute that.
-/
import Derived.Test.YtlfpfdkjfibdhaaCKPa
namespace Go.Su.Ytlfpfdkjfibdhaa
open Go.Mx Go.Proofs
set_option maxRecDepth 100000
set_option maxHeartbeats 4000000
set_option linter.unusedVariables false
set_option linter.unusedSimpArgs false

theorem ref1_Parse_ok {n : Nat} {a0 : ByteArray} {r : Prog × Int × Int} (h : ref1_Parse n a0 = some r) : PT Try.prog 65 [vw a0] (.tup [eProg r.1, vi r.2.1, vi r.2.2]) := by
  unfold ref1_Parse at h
  refine PT_bodyA hT Try.func65 rfl (by kernel_rfl) fun bad w => ?_
  refine Qz hT 3 [0, 2] ⟨[(0, vw a0), (2, .box 2 0 0 0)], [(2, ⟨0, 26, 2, true, false, [.agg [.ps .nil [], .ps .nil []]]⟩)], 1⟩ ?_
  refine Qg hT 1 [0, 2, 12] ⟨[(0, vw a0), (2, .box 2 0 0 0), (12, vw a0)], [(2, ⟨0, 26, 2, true, false, [.agg [.ps .nil [], .ps .nil []]]⟩)], 1⟩ ?_
  obtain ⟨r1, hr1, h⟩ := bsome h
  refine WO_go rfl (by kernel_rfl) [] [(100, ⟨1, 124, 4, false, true, s117.F r1.1⟩)] [vw a0] [vw a0] [] [(100, 13, 1)] [(13, ⟨1, 124, 4, false, true, s117.F r1.1⟩)] (.tup [vo 100 1 (s117.F r1.1), vi r1.2.1, vi r1.2.2]) (.tup [vo 13 1 (s117.F r1.1), vi r1.2.1, vi r1.2.2]) 2 rfl (by kernel_rfl) en101 (by kernel_rfl) (by kernel_rfl) (by kernel_rfl) (ref1_Tokens_ok hr1) (by kernel_rfl) (by kernel_rfl) (by kernel_rfl) (by kernel_rfl) ?_
  refine Sz hT 7 [0, 2, 5, 6, 7] ⟨[(0, vw a0), (2, .box 2 0 0 0), (5, vo 13 1 (s117.F r1.1)), (6, vi r1.2.1), (7, vi r1.2.2)], [(13, ⟨1, 124, 4, false, true, s117.F r1.1⟩), (2, ⟨0, 26, 2, true, false, [.agg [.ps .nil [], .ps .nil []]]⟩)], 2⟩ ?_
  refine WA_seq ?_
  refine Qz hT 2 [0, 2, 5, 6, 7, 18] ⟨[(0, vw a0), (2, .box 2 0 0 0), (5, vo 13 1 (s117.F r1.1)), (6, vi r1.2.1), (7, vi r1.2.2), (18, vb (r1.2.2 != 0))], [(13, ⟨1, 124, 4, false, true, s117.F r1.1⟩), (2, ⟨0, 26, 2, true, false, [.agg [.ps .nil [], .ps .nil []]]⟩)], 2⟩ ?_
  refine Cd (r1.2.2 != 0) ?_ ?_
  · intro hb; replace h := ctrue hb h
    refine Qz hT 6 [2, 3, 4] ⟨[(2, .box 2 0 0 0), (3, vi r1.2.1), (4, vi r1.2.2)], [(2, ⟨0, 26, 2, true, false, [.agg [.ps .nil [], .ps .nil []]]⟩), (13, ⟨1, 124, 4, false, true, s117.F r1.1⟩)], 2⟩ ?_
    refine aW [2, 3, 4] ⟨[(2, .box 2 0 0 0), (3, vi r1.2.1), (4, vi r1.2.2)], [(2, ⟨0, 26, 2, true, false, [.agg [.ps .nil [], .ps .nil []]]⟩), (13, ⟨1, 124, 4, false, true, s117.F r1.1⟩)], 2⟩ ?_
    refine WA_weak (Weak_leH [(2, .box 2 0 0 0), (3, vi r1.2.1), (4, vi r1.2.2)] [(2, ⟨0, 26, 2, true, false, [eProg (Prog.mk [] [])]⟩), (13, ⟨1, 124, 4, false, true, s117.F r1.1⟩)] (by kernel_rfl) ⟨VLf.refl _, VLf.refl _, VLf.refl _, trivial⟩ ⟨rfl, .inr (.inl ⟨rfl, rfl, CLe.agg ⟨(VLe.f VLe.nil_opt rfl), (VLe.f VLe.nil_opt rfl), trivial⟩, trivial⟩), rfl, .inl rfl, trivial⟩) ?_
    obtain rfl := Option.some.inj h
    exact rR [(2, 1000, 0)] ⟨[(2, .box 1000 0 0 0), (3, vi r1.2.1), (4, vi r1.2.2)], [(1000, ⟨0, 26, 2, true, false, [eProg (Prog.mk [] [])]⟩)], 1⟩ ⟨by kernel_rfl, rfl⟩
  intro hb; replace h := cfalse hb h
  refine WA_skip ?_
  refine Qg hT 1 [0, 2, 5, 22] ⟨[(0, vw a0), (2, .box 2 0 0 0), (5, vo 13 1 (s117.F r1.1)), (22, vo 13 1 (s117.F r1.1))], [(13, ⟨1, 124, 4, false, true, s117.F r1.1⟩), (2, ⟨0, 26, 2, true, false, [.agg [.ps .nil [], .ps .nil []]]⟩)], 2⟩ ?_
  refine WO_weak (Weak_frz 13 1 ⟨1, 124, 4, false, true, s117.F r1.1⟩ (by kernel_rfl) rfl rfl [(0, vw a0), (2, .box 2 0 0 0), (5, .ps .opt (s117.F r1.1)), (22, .ps .opt (s117.F r1.1))] [(2, ⟨0, 26, 2, true, false, [.agg [.ps .nil [], .ps .nil []]]⟩)] ⟨rfl, .keep _, rfl, .keep _, rfl, .hit true, rfl, .hit true, trivial⟩ ⟨rfl, .inl rfl, trivial⟩) ?_
  refine Sz hT 3 [0, 2, 5, 8] ⟨[(0, vw a0), (2, .box 2 0 0 0), (5, .ps .opt (s117.F r1.1)), (8, .box 24 2 0 0)], [(24, ⟨2, 122, 4, true, false, [.agg [.ps .opt (s117.F r1.1), vi 0, vb false, vi 0]]⟩), (2, ⟨0, 26, 2, true, false, [.agg [.ps .nil [], .ps .nil []]]⟩)], 3⟩ ?_
  refine Qz hT 3 [0, 2, 5, 8, 9] ⟨[(0, vw a0), (2, .box 2 0 0 0), (5, .ps .opt (s117.F r1.1)), (8, .box 24 2 0 0), (9, .box 9 3 0 0)], [(9, ⟨3, 26, 2, true, false, [.agg [.ps .nil [], .ps .nil []]]⟩), (24, ⟨2, 122, 4, true, false, [.agg [.ps .opt (s117.F r1.1), vi 0, vb false, vi 0]]⟩), (2, ⟨0, 26, 2, true, false, [.agg [.ps .nil [], .ps .nil []]]⟩)], 4⟩ ?_
  refine WA_seq ?_
  obtain ⟨J7, hJ7, h⟩ := jsome h
  refine WA_join (fun s => ∃ (l2 : List Token), ∃ (i3 : Int), ∃ (b4 : Bool), ∃ (i5 : Int), ∃ (l6 : List Decl), J7 l2 i3 b4 i5 l6 = some r ∧ s = ⟨[(0, vw a0), (2, .box 2 0 0 0), (5, .ps .opt (s117.F r1.1)), (8, .box 24 0 0 0), (9, .box 9 0 0 0)], [(2, ⟨0, 26, 2, true, false, [.agg [.ps .nil [], .ps .nil []]]⟩), (9, ⟨0, 26, 2, true, false, [.agg [vo 11509 0 (s23.F l6), .ps .nil []]]⟩), (24, ⟨0, 122, 4, true, false, [.agg [.ps .opt (s117.F l2), vi i3, vb b4, vi i5]]⟩), (11509, ⟨0, 58, 4, false, true, s23.F l6⟩)], 1⟩) ?_ ?_
  · refine WA_block ?_
    refine aW [0, 2, 5, 8, 9] ⟨[(0, vw a0), (2, .box 2 0 0 0), (5, .ps .opt (s117.F r1.1)), (8, .box 24 2 0 0), (9, .box 9 3 0 0)], [(9, ⟨3, 26, 2, true, false, [.agg [.ps .nil [], .ps .nil []]]⟩), (24, ⟨2, 122, 4, true, false, [.agg [.ps .opt (s117.F r1.1), vi 0, vb false, vi 0]]⟩), (2, ⟨0, 26, 2, true, false, [.agg [.ps .nil [], .ps .nil []]]⟩)], 4⟩ ?_
    refine WA_weak (Weak_ownH 9 5000 0 ⟨3, 26, 2, true, false, [.agg [.ps .nil [], .ps .nil []]]⟩ (.agg [.ps .nil [], .ps .nil []]) (.agg [vo 5000 4 (s23.F ([] : List Decl)), .ps .nil []]) 58 4 (by kernel_rfl) (by kernel_rfl) (by kernel_rfl) (by kernel_rfl) (by kernel_rfl) (by kernel_rfl) (by kernel_rfl)) ?_
    refine lR [(2, 2, 0), (9, 9, 0), (24, 24, 0), (5000, 11509, 0)] (fun k s => ∃ q, q ≤ k ∧ q ≤ n ∧ ∃ (l8 : List Token), ∃ (i9 : Int), ∃ (b10 : Bool), ∃ (i11 : Int), ∃ (l12 : List Decl), ref1_Parse_L0 q a0 r1 J7 l8 i9 b10 i11 l12 = some r ∧ s = ⟨[(0, vw a0), (2, .box 2 0 0 0), (5, .ps .opt (s117.F r1.1)), (8, .box 24 0 0 0), (9, .box 9 0 0 0)], [(2, ⟨0, 26, 2, true, false, [.agg [.ps .nil [], .ps .nil []]]⟩), (9, ⟨0, 26, 2, true, false, [.agg [vo 11509 0 (s23.F l12), .ps .nil []]]⟩), (24, ⟨0, 122, 4, true, false, [.agg [.ps .opt (s117.F l8), vi i9, vb b10, vi i11]]⟩), (11509, ⟨0, 58, 4, false, true, s23.F l12⟩)], 1⟩) n ⟨n, Nat.le_refl _, Nat.le_refl _, r1.1, 0, false, 0, ([] : List Decl), h, rfl⟩ (by rintro s ⟨q, hq, _, l8, i9, b10, i11, l12, h, _⟩; obtain rfl := Nat.le_zero.1 hq; rw [ref1_Parse_L0] at h; cases h) ?_
    clear h
    rintro k1 s ⟨q1, hk1, hn1, l8, i9, b10, i11, l12, h, rfl⟩
    rcases q1 with _ | q1
    · rw [ref1_Parse_L0] at h; cases h
    rw [ref1_Parse_L0] at h
    refine WA_seq ?_
    refine WA_seq ?_
    obtain ⟨J14, hJ14, h⟩ := jsome h
    refine WA_join (fun s => ∃ (b13 : Bool), J14 b13 = some r ∧ s = ⟨[(0, vw a0), (2, .box 2 0 0 0), (5, .ps .opt (s117.F r1.1)), (8, .box 24 0 0 0), (9, .box 9 0 0 0), (59, vb b13)], [(2, ⟨0, 26, 2, true, false, [.agg [.ps .nil [], .ps .nil []]]⟩), (9, ⟨0, 26, 2, true, false, [.agg [vo 11509 0 (s23.F l12), .ps .nil []]]⟩), (24, ⟨0, 122, 4, true, false, [.agg [.ps .opt (s117.F l8), vi i9, vb b10, vi i11]]⟩), (11509, ⟨0, 58, 4, false, true, s23.F l12⟩)], 1⟩) ?_ ?_
    · refine WA_drawW hT hM (by kernel_rfl) ?_
      refine WD_seg 6 ⟨[(31, vb (!b10)), (30, vb (!b10)), (29, vb b10), (28, .box 24 0 0 2), (27, .box 24 0 0 0), (26, .box 24 0 0 0), (0, vw a0), (2, .box 2 0 0 0), (5, .ps .opt (s117.F r1.1)), (8, .box 24 0 0 0), (9, .box 9 0 0 0)], [(2, ⟨0, 26, 2, true, false, [.agg [.ps .nil [], .ps .nil []]]⟩), (9, ⟨0, 26, 2, true, false, [.agg [vo 11509 0 (s23.F l12), .ps .nil []]]⟩), (24, ⟨0, 122, 4, true, false, [.agg [.ps .opt (s117.F l8), vi i9, vb b10, vi i11]]⟩), (11509, ⟨0, 58, 4, false, true, s23.F l12⟩)], 1⟩ [] [(1, [24]), (2, [24]), (3, [24])] (by kernel_rfl) (by kernel_rfl) ?_
      cases hb : (!b10 : Bool)
      · replace h := cfalse hb h
        refine WD_seg 28 ⟨[(59, vb false), (58, .p Go.undef), (57, .p Go.undef), (56, .p Go.undef), (55, .p Go.undef), (54, .p Go.undef), (53, .p Go.undef), (52, .p Go.undef), (51, .p Go.undef), (50, .p Go.undef), (49, .p Go.undef), (48, .p Go.undef), (47, .p Go.undef), (46, .p Go.undef), (45, vb false), (44, vb false), (43, .p Go.undef), (42, .p Go.undef), (41, .p Go.undef), (40, .p Go.undef), (39, .p Go.undef), (38, .p Go.undef), (37, .p Go.undef), (36, .p Go.undef), (35, .p Go.undef), (34, .p Go.undef), (33, .p Go.undef), (32, .p Go.undef), (31, vb false), (30, vb false), (29, vb b10), (28, .box 24 0 0 2), (27, .box 24 0 0 0), (26, .box 24 0 0 0), (0, vw a0), (2, .box 2 0 0 0), (5, .ps .opt (s117.F r1.1)), (8, .box 24 0 0 0), (9, .box 9 0 0 0)], [(2, ⟨0, 26, 2, true, false, [.agg [.ps .nil [], .ps .nil []]]⟩), (9, ⟨0, 26, 2, true, false, [.agg [vo 11509 0 (s23.F l12), .ps .nil []]]⟩), (24, ⟨0, 122, 4, true, false, [.agg [.ps .opt (s117.F l8), vi i9, vb b10, vi i11]]⟩), (11509, ⟨0, 58, 4, false, true, s23.F l12⟩)], 1⟩ [] [(1, [24]), (2, [24]), (3, [24])] (by kernel_rfl) (by kernel_rfl) ?_
        refine WD_end (by kernel_rfl) (by kernel_rfl) (by kernel_rfl) ?_
        exact wK [0, 2, 5, 8, 9, 59] [(2, 2, 0), (9, 9, 0), (24, 24, 0), (11509, 11509, 0)] ⟨false, h, rfl⟩
      replace h := ctrue hb h
      refine WD_seg 8 ⟨[(39, vi i9), (38, .box 24 0 0 1), (37, .box 24 0 0 0), (36, .box 24 0 0 0), (35, .ps .opt (s117.F l8)), (34, .box 24 0 0 0), (33, .box 24 0 0 0), (32, .box 24 0 0 0), (31, vb true), (30, vb true), (29, vb b10), (28, .box 24 0 0 2), (27, .box 24 0 0 0), (26, .box 24 0 0 0), (0, vw a0), (2, .box 2 0 0 0), (5, .ps .opt (s117.F r1.1)), (8, .box 24 0 0 0), (9, .box 9 0 0 0)], [(2, ⟨0, 26, 2, true, false, [.agg [.ps .nil [], .ps .nil []]]⟩), (9, ⟨0, 26, 2, true, false, [.agg [vo 11509 0 (s23.F l12), .ps .nil []]]⟩), (24, ⟨0, 122, 4, true, false, [.agg [.ps .opt (s117.F l8), vi i9, vb b10, vi i11]]⟩), (11509, ⟨0, 58, 4, false, true, s23.F l12⟩)], 1⟩ [] [(1, [24]), (2, [24]), (3, [24]), (7, [24]), (8, [24]), (9, [24]), (11, [24]), (12, [24]), (13, [24])] (by kernel_rfl) (by kernel_rfl) ?_
      obtain ⟨x15, hx15, h⟩ := bsome h
      refine WD_loc rfl (by kernel_rfl) (by kernel_rfl) (by kernel_rfl) (ev_index s117 .opt l8 .i64 i9 hx15 (by decide) (by kernel_rfl) (by kernel_rfl)) (by kernel_rfl) ?_
      refine WD_seg 5 ⟨[(45, vb (x15.Kind == 1)), (44, vb (x15.Kind == 1)), (43, vb (x15.Kind == 1)), (42, vi x15.Kind), (41, .ref (eToken x15) 0), (40, .ref (eToken x15) 0), (39, vi i9), (38, .box 24 0 0 1), (37, .box 24 0 0 0), (36, .box 24 0 0 0), (35, .ps .opt (s117.F l8)), (34, .box 24 0 0 0), (33, .box 24 0 0 0), (32, .box 24 0 0 0), (31, vb true), (30, vb true), (29, vb b10), (28, .box 24 0 0 2), (27, .box 24 0 0 0), (26, .box 24 0 0 0), (0, vw a0), (2, .box 2 0 0 0), (5, .ps .opt (s117.F r1.1)), (8, .box 24 0 0 0), (9, .box 9 0 0 0)], [(2, ⟨0, 26, 2, true, false, [.agg [.ps .nil [], .ps .nil []]]⟩), (9, ⟨0, 26, 2, true, false, [.agg [vo 11509 0 (s23.F l12), .ps .nil []]]⟩), (24, ⟨0, 122, 4, true, false, [.agg [.ps .opt (s117.F l8), vi i9, vb b10, vi i11]]⟩), (11509, ⟨0, 58, 4, false, true, s23.F l12⟩)], 1⟩ [] [(1, [24]), (2, [24]), (3, [24]), (7, [24]), (8, [24]), (9, [24]), (11, [24]), (12, [24]), (13, [24])] (by kernel_rfl) (by kernel_rfl) ?_
      cases hb : ((x15.Kind == 1) : Bool)
      · replace h := cfalse hb h
        refine WD_seg 14 ⟨[(59, vb false), (58, .p Go.undef), (57, .p Go.undef), (56, .p Go.undef), (55, .p Go.undef), (54, .p Go.undef), (53, .p Go.undef), (52, .p Go.undef), (51, .p Go.undef), (50, .p Go.undef), (49, .p Go.undef), (48, .p Go.undef), (47, .p Go.undef), (46, .p Go.undef), (45, vb false), (44, vb false), (43, vb false), (42, vi x15.Kind), (41, .ref (eToken x15) 0), (40, .ref (eToken x15) 0), (39, vi i9), (38, .box 24 0 0 1), (37, .box 24 0 0 0), (36, .box 24 0 0 0), (35, .ps .opt (s117.F l8)), (34, .box 24 0 0 0), (33, .box 24 0 0 0), (32, .box 24 0 0 0), (31, vb true), (30, vb true), (29, vb b10), (28, .box 24 0 0 2), (27, .box 24 0 0 0), (26, .box 24 0 0 0), (0, vw a0), (2, .box 2 0 0 0), (5, .ps .opt (s117.F r1.1)), (8, .box 24 0 0 0), (9, .box 9 0 0 0)], [(2, ⟨0, 26, 2, true, false, [.agg [.ps .nil [], .ps .nil []]]⟩), (9, ⟨0, 26, 2, true, false, [.agg [vo 11509 0 (s23.F l12), .ps .nil []]]⟩), (24, ⟨0, 122, 4, true, false, [.agg [.ps .opt (s117.F l8), vi i9, vb b10, vi i11]]⟩), (11509, ⟨0, 58, 4, false, true, s23.F l12⟩)], 1⟩ [] [(1, [24]), (2, [24]), (3, [24]), (7, [24]), (8, [24]), (9, [24]), (11, [24]), (12, [24]), (13, [24])] (by kernel_rfl) (by kernel_rfl) ?_
        refine WD_end (by kernel_rfl) (by kernel_rfl) (by kernel_rfl) ?_
        exact wK [0, 2, 5, 8, 9, 59] [(2, 2, 0), (9, 9, 0), (24, 24, 0), (11509, 11509, 0)] ⟨false, h, rfl⟩
      replace h := ctrue hb h
      refine WD_seg 8 ⟨[(53, vi i9), (52, .box 24 0 0 1), (51, .box 24 0 0 0), (50, .box 24 0 0 0), (49, .ps .opt (s117.F l8)), (48, .box 24 0 0 0), (47, .box 24 0 0 0), (46, .box 24 0 0 0), (45, vb true), (44, vb true), (43, vb true), (42, vi x15.Kind), (41, .ref (eToken x15) 0), (40, .ref (eToken x15) 0), (39, vi i9), (38, .box 24 0 0 1), (37, .box 24 0 0 0), (36, .box 24 0 0 0), (35, .ps .opt (s117.F l8)), (34, .box 24 0 0 0), (33, .box 24 0 0 0), (32, .box 24 0 0 0), (31, vb true), (30, vb true), (29, vb b10), (28, .box 24 0 0 2), (27, .box 24 0 0 0), (26, .box 24 0 0 0), (0, vw a0), (2, .box 2 0 0 0), (5, .ps .opt (s117.F r1.1)), (8, .box 24 0 0 0), (9, .box 9 0 0 0)], [(2, ⟨0, 26, 2, true, false, [.agg [.ps .nil [], .ps .nil []]]⟩), (9, ⟨0, 26, 2, true, false, [.agg [vo 11509 0 (s23.F l12), .ps .nil []]]⟩), (24, ⟨0, 122, 4, true, false, [.agg [.ps .opt (s117.F l8), vi i9, vb b10, vi i11]]⟩), (11509, ⟨0, 58, 4, false, true, s23.F l12⟩)], 1⟩ [] [(1, [24]), (2, [24]), (3, [24]), (7, [24]), (8, [24]), (9, [24]), (11, [24]), (12, [24]), (13, [24]), (21, [24]), (22, [24]), (23, [24]), (25, [24]), (26, [24]), (27, [24])] (by kernel_rfl) (by kernel_rfl) ?_
      obtain ⟨x16, hx16, h⟩ := bsome h
      refine WD_loc rfl (by kernel_rfl) (by kernel_rfl) (by kernel_rfl) (ev_index s117 .opt l8 .i64 i9 hx16 (by decide) (by kernel_rfl) (by kernel_rfl)) (by kernel_rfl) ?_
      refine WD_seg 2 ⟨[(56, vw x16.Text), (55, .ref (eToken x16) 1), (54, .ref (eToken x16) 0), (53, vi i9), (52, .box 24 0 0 1), (51, .box 24 0 0 0), (50, .box 24 0 0 0), (49, .ps .opt (s117.F l8)), (48, .box 24 0 0 0), (47, .box 24 0 0 0), (46, .box 24 0 0 0), (45, vb true), (44, vb true), (43, vb true), (42, vi x15.Kind), (41, .ref (eToken x15) 0), (40, .ref (eToken x15) 0), (39, vi i9), (38, .box 24 0 0 1), (37, .box 24 0 0 0), (36, .box 24 0 0 0), (35, .ps .opt (s117.F l8)), (34, .box 24 0 0 0), (33, .box 24 0 0 0), (32, .box 24 0 0 0), (31, vb true), (30, vb true), (29, vb b10), (28, .box 24 0 0 2), (27, .box 24 0 0 0), (26, .box 24 0 0 0), (0, vw a0), (2, .box 2 0 0 0), (5, .ps .opt (s117.F r1.1)), (8, .box 24 0 0 0), (9, .box 9 0 0 0)], [(2, ⟨0, 26, 2, true, false, [.agg [.ps .nil [], .ps .nil []]]⟩), (9, ⟨0, 26, 2, true, false, [.agg [vo 11509 0 (s23.F l12), .ps .nil []]]⟩), (24, ⟨0, 122, 4, true, false, [.agg [.ps .opt (s117.F l8), vi i9, vb b10, vi i11]]⟩), (11509, ⟨0, 58, 4, false, true, s23.F l12⟩)], 1⟩ [] [(1, [24]), (2, [24]), (3, [24]), (7, [24]), (8, [24]), (9, [24]), (11, [24]), (12, [24]), (13, [24]), (21, [24]), (22, [24]), (23, [24]), (25, [24]), (26, [24]), (27, [24])] (by kernel_rfl) (by kernel_rfl) ?_
      obtain ⟨r17, hr17, h⟩ := bsome h
      refine WD_pt rfl (by kernel_rfl) (by kernel_rfl) [vw x16.Text] (vi r17) rfl (by kernel_rfl) en102 (by kernel_rfl) (ref1_declKind_ok hr17) (by kernel_rfl) ?_
      refine WD_seg 2 ⟨[(59, vb (decide (r17 > 0))), (58, vb (decide (r17 > 0))), (57, vi r17), (56, vw x16.Text), (55, .ref (eToken x16) 1), (54, .ref (eToken x16) 0), (53, vi i9), (52, .box 24 0 0 1), (51, .box 24 0 0 0), (50, .box 24 0 0 0), (49, .ps .opt (s117.F l8)), (48, .box 24 0 0 0), (47, .box 24 0 0 0), (46, .box 24 0 0 0), (45, vb true), (44, vb true), (43, vb true), (42, vi x15.Kind), (41, .ref (eToken x15) 0), (40, .ref (eToken x15) 0), (39, vi i9), (38, .box 24 0 0 1), (37, .box 24 0 0 0), (36, .box 24 0 0 0), (35, .ps .opt (s117.F l8)), (34, .box 24 0 0 0), (33, .box 24 0 0 0), (32, .box 24 0 0 0), (31, vb true), (30, vb true), (29, vb b10), (28, .box 24 0 0 2), (27, .box 24 0 0 0), (26, .box 24 0 0 0), (0, vw a0), (2, .box 2 0 0 0), (5, .ps .opt (s117.F r1.1)), (8, .box 24 0 0 0), (9, .box 9 0 0 0)], [(2, ⟨0, 26, 2, true, false, [.agg [.ps .nil [], .ps .nil []]]⟩), (9, ⟨0, 26, 2, true, false, [.agg [vo 11509 0 (s23.F l12), .ps .nil []]]⟩), (24, ⟨0, 122, 4, true, false, [.agg [.ps .opt (s117.F l8), vi i9, vb b10, vi i11]]⟩), (11509, ⟨0, 58, 4, false, true, s23.F l12⟩)], 1⟩ [] [(1, [24]), (2, [24]), (3, [24]), (7, [24]), (8, [24]), (9, [24]), (11, [24]), (12, [24]), (13, [24]), (21, [24]), (22, [24]), (23, [24]), (25, [24]), (26, [24]), (27, [24])] (by kernel_rfl) (by kernel_rfl) ?_
      refine WD_end (by kernel_rfl) (by kernel_rfl) (by kernel_rfl) ?_
      exact wK [0, 2, 5, 8, 9, 59] [(2, 2, 0), (9, 9, 0), (24, 24, 0), (11509, 11509, 0)] ⟨decide (r17 > 0), h, rfl⟩
    subst hJ14
    rintro s ⟨b13, h, rfl⟩
    skip
    refine Cd b13 ?_ ?_
    · intro hb; replace h := ctrue hb h
      refine WA_skip ?_
      refine WA_block ?_
      refine WA_seq ?_
      refine Qg hT 2 [0, 2, 5, 8, 9, 61] ⟨[(0, vw a0), (2, .box 2 0 0 0), (5, .ps .opt (s117.F r1.1)), (8, .box 24 0 0 0), (9, .box 9 0 0 0), (61, vo 11509 0 (s23.F l12))], [(2, ⟨0, 26, 2, true, false, [.agg [.ps .nil [], .ps .nil []]]⟩), (9, ⟨0, 26, 2, true, false, [.agg [vo 11509 0 (s23.F l12), .ps .nil []]]⟩), (24, ⟨0, 122, 4, true, false, [.agg [.ps .opt (s117.F l8), vi i9, vb b10, vi i11]]⟩), (11509, ⟨0, 58, 4, false, true, s23.F l12⟩)], 1⟩ ?_
      refine One hT rfl (ev_len_own s23 11509 0 true ⟨0, 58, 4, false, true, s23.F l12⟩ l12 (by kernel_rfl) rfl rfl) ?_
      refine Sz hT 1 [0, 2, 5, 8, 9, 63] ⟨[(0, vw a0), (2, .box 2 0 0 0), (5, .ps .opt (s117.F r1.1)), (8, .box 24 0 0 0), (9, .box 9 0 0 0), (63, vb ((ln l12) == 24))], [(2, ⟨0, 26, 2, true, false, [.agg [.ps .nil [], .ps .nil []]]⟩), (9, ⟨0, 26, 2, true, false, [.agg [vo 11509 0 (s23.F l12), .ps .nil []]]⟩), (24, ⟨0, 122, 4, true, false, [.agg [.ps .opt (s117.F l8), vi i9, vb b10, vi i11]]⟩), (11509, ⟨0, 58, 4, false, true, s23.F l12⟩)], 1⟩ ?_
      refine Cd ((ln l12) == 24) ?_ ?_
      · intro hb; replace h := ctrue hb h
        refine Qg hT 1 [0, 2, 5, 8, 9, 64] ⟨[(0, vw a0), (2, .box 2 0 0 0), (5, .ps .opt (s117.F r1.1)), (8, .box 24 0 0 0), (9, .box 9 0 0 0), (64, .box 24 0 0 0)], [(2, ⟨0, 26, 2, true, false, [.agg [.ps .nil [], .ps .nil []]]⟩), (9, ⟨0, 26, 2, true, false, [.agg [vo 11509 0 (s23.F l12), .ps .nil []]]⟩), (24, ⟨0, 122, 4, true, false, [.agg [.ps .opt (s117.F l8), vi i9, vb b10, vi i11]]⟩), (11509, ⟨0, 58, 4, false, true, s23.F l12⟩)], 1⟩ ?_
        obtain ⟨r18, hr18, h⟩ := bsome h
        refine WO_go rfl (by kernel_rfl) [(0, ⟨0, 122, 4, true, false, [eReader (Reader.mk l8 i9 b10 i11)]⟩)] [(0, ⟨0, 122, 4, true, false, [eReader r18]⟩)] [.box 24 0 0 0] [.box 0 0 0 0] [(24, 0, 0)] [(0, 24, 0)] [(24, ⟨0, 122, 4, true, false, [eReader r18]⟩)] (.tup []) (.tup []) 2 rfl (by kernel_rfl) en103 (by kernel_rfl) (by kernel_rfl) (by kernel_rfl) (ref1_Reader_fail_ok hr18) (by kernel_rfl) (by kernel_rfl) (by kernel_rfl) (by kernel_rfl) ?_
        refine Sz hT 0 [0, 2, 5, 8, 9] ⟨[(0, vw a0), (2, .box 2 0 0 0), (5, .ps .opt (s117.F r1.1)), (8, .box 24 0 0 0), (9, .box 9 0 0 0)], [(24, ⟨0, 122, 4, true, false, [eReader r18]⟩), (2, ⟨0, 26, 2, true, false, [.agg [.ps .nil [], .ps .nil []]]⟩), (9, ⟨0, 26, 2, true, false, [.agg [vo 11509 0 (s23.F l12), .ps .nil []]]⟩), (11509, ⟨0, 58, 4, false, true, s23.F l12⟩)], 2⟩ ?_
        exact eK [0, 2, 5, 8, 9] [(2, 2, 0), (9, 9, 0), (24, 24, 0), (11509, 11509, 0)] ⟨r18.T, r18.At, r18.Fail, r18.Bad, l12, h, rfl⟩
      intro hb; replace h := cfalse hb h
      refine WA_skip ?_
      refine WA_seq ?_
      refine WA_drawW hT hM (by kernel_rfl) ?_
      refine WD_seg 8 ⟨[(73, vi i9), (72, .box 24 0 0 1), (71, .box 24 0 0 0), (70, .box 24 0 0 0), (69, .ps .opt (s117.F l8)), (68, .box 24 0 0 0), (67, .box 24 0 0 0), (66, .box 24 0 0 0), (0, vw a0), (2, .box 2 0 0 0), (5, .ps .opt (s117.F r1.1)), (8, .box 24 0 0 0), (9, .box 9 0 0 0), (63, vb ((ln l12) == 24))], [(2, ⟨0, 26, 2, true, false, [.agg [.ps .nil [], .ps .nil []]]⟩), (9, ⟨0, 26, 2, true, false, [.agg [vo 11509 0 (s23.F l12), .ps .nil []]]⟩), (24, ⟨0, 122, 4, true, false, [.agg [.ps .opt (s117.F l8), vi i9, vb b10, vi i11]]⟩), (11509, ⟨0, 58, 4, false, true, s23.F l12⟩)], 1⟩ [] [(1, [24]), (2, [24]), (3, [24]), (5, [24]), (6, [24]), (7, [24])] (by kernel_rfl) (by kernel_rfl) ?_
      obtain ⟨x19, hx19, h⟩ := bsome h
      refine WD_loc rfl (by kernel_rfl) (by kernel_rfl) (by kernel_rfl) (ev_index s117 .opt l8 .i64 i9 hx19 (by decide) (by kernel_rfl) (by kernel_rfl)) (by kernel_rfl) ?_
      refine WD_seg 2 ⟨[(76, vw x19.Text), (75, .ref (eToken x19) 1), (74, .ref (eToken x19) 0), (73, vi i9), (72, .box 24 0 0 1), (71, .box 24 0 0 0), (70, .box 24 0 0 0), (69, .ps .opt (s117.F l8)), (68, .box 24 0 0 0), (67, .box 24 0 0 0), (66, .box 24 0 0 0), (0, vw a0), (2, .box 2 0 0 0), (5, .ps .opt (s117.F r1.1)), (8, .box 24 0 0 0), (9, .box 9 0 0 0), (63, vb ((ln l12) == 24))], [(2, ⟨0, 26, 2, true, false, [.agg [.ps .nil [], .ps .nil []]]⟩), (9, ⟨0, 26, 2, true, false, [.agg [vo 11509 0 (s23.F l12), .ps .nil []]]⟩), (24, ⟨0, 122, 4, true, false, [.agg [.ps .opt (s117.F l8), vi i9, vb b10, vi i11]]⟩), (11509, ⟨0, 58, 4, false, true, s23.F l12⟩)], 1⟩ [] [(1, [24]), (2, [24]), (3, [24]), (5, [24]), (6, [24]), (7, [24])] (by kernel_rfl) (by kernel_rfl) ?_
      obtain ⟨r20, hr20, h⟩ := bsome h
      refine WD_pt rfl (by kernel_rfl) (by kernel_rfl) [vw x19.Text] (vi r20) rfl (by kernel_rfl) en102 (by kernel_rfl) (ref1_declKind_ok hr20) (by kernel_rfl) ?_
      refine WD_seg 9 ⟨[(86, vi i9), (85, .box 24 0 0 1), (84, .box 24 0 0 0), (83, .box 24 0 0 0), (82, .ps .opt (s117.F l8)), (81, .box 24 0 0 0), (80, .box 24 0 0 0), (79, .box 24 0 0 0), (78, vw a0), (77, vi r20), (76, vw x19.Text), (75, .ref (eToken x19) 1), (74, .ref (eToken x19) 0), (73, vi i9), (72, .box 24 0 0 1), (71, .box 24 0 0 0), (70, .box 24 0 0 0), (69, .ps .opt (s117.F l8)), (68, .box 24 0 0 0), (67, .box 24 0 0 0), (66, .box 24 0 0 0), (0, vw a0), (2, .box 2 0 0 0), (5, .ps .opt (s117.F r1.1)), (8, .box 24 0 0 0), (9, .box 9 0 0 0), (63, vb ((ln l12) == 24))], [(2, ⟨0, 26, 2, true, false, [.agg [.ps .nil [], .ps .nil []]]⟩), (9, ⟨0, 26, 2, true, false, [.agg [vo 11509 0 (s23.F l12), .ps .nil []]]⟩), (24, ⟨0, 122, 4, true, false, [.agg [.ps .opt (s117.F l8), vi i9, vb b10, vi i11]]⟩), (11509, ⟨0, 58, 4, false, true, s23.F l12⟩)], 1⟩ [] [(1, [24]), (2, [24]), (3, [24]), (5, [24]), (6, [24]), (7, [24]), (14, [24]), (15, [24]), (16, [24]), (18, [24]), (19, [24]), (20, [24])] (by kernel_rfl) (by kernel_rfl) ?_
      obtain ⟨x21, hx21, h⟩ := bsome h
      refine WD_loc rfl (by kernel_rfl) (by kernel_rfl) (by kernel_rfl) (ev_index s117 .opt l8 .i64 i9 hx21 (by decide) (by kernel_rfl) (by kernel_rfl)) (by kernel_rfl) ?_
      refine WD_seg 2 ⟨[(89, vi x21.At), (88, .ref (eToken x21) 3), (87, .ref (eToken x21) 0), (86, vi i9), (85, .box 24 0 0 1), (84, .box 24 0 0 0), (83, .box 24 0 0 0), (82, .ps .opt (s117.F l8)), (81, .box 24 0 0 0), (80, .box 24 0 0 0), (79, .box 24 0 0 0), (78, vw a0), (77, vi r20), (76, vw x19.Text), (75, .ref (eToken x19) 1), (74, .ref (eToken x19) 0), (73, vi i9), (72, .box 24 0 0 1), (71, .box 24 0 0 0), (70, .box 24 0 0 0), (69, .ps .opt (s117.F l8)), (68, .box 24 0 0 0), (67, .box 24 0 0 0), (66, .box 24 0 0 0), (0, vw a0), (2, .box 2 0 0 0), (5, .ps .opt (s117.F r1.1)), (8, .box 24 0 0 0), (9, .box 9 0 0 0), (63, vb ((ln l12) == 24))], [(2, ⟨0, 26, 2, true, false, [.agg [.ps .nil [], .ps .nil []]]⟩), (9, ⟨0, 26, 2, true, false, [.agg [vo 11509 0 (s23.F l12), .ps .nil []]]⟩), (24, ⟨0, 122, 4, true, false, [.agg [.ps .opt (s117.F l8), vi i9, vb b10, vi i11]]⟩), (11509, ⟨0, 58, 4, false, true, s23.F l12⟩)], 1⟩ [] [(1, [24]), (2, [24]), (3, [24]), (5, [24]), (6, [24]), (7, [24]), (14, [24]), (15, [24]), (16, [24]), (18, [24]), (19, [24]), (20, [24])] (by kernel_rfl) (by kernel_rfl) ?_
      obtain ⟨r22, hr22, h⟩ := bsome h
      refine WD_pt rfl (by kernel_rfl) (by kernel_rfl) [vw a0, vi x21.At] (vz r22) rfl (by kernel_rfl) en28 (by kernel_rfl) (ref1_Place_ok hr22) (by kernel_rfl) ?_
      refine WD_seg 3 ⟨[(10, .box 10 1 0 0), (91, .agg [vi r20, vw b0, vi 0, vz r22]), (90, vz r22), (89, vi x21.At), (88, .ref (eToken x21) 3), (87, .ref (eToken x21) 0), (86, vi i9), (85, .box 24 0 0 1), (84, .box 24 0 0 0), (83, .box 24 0 0 0), (82, .ps .opt (s117.F l8)), (81, .box 24 0 0 0), (80, .box 24 0 0 0), (79, .box 24 0 0 0), (78, vw a0), (77, vi r20), (76, vw x19.Text), (75, .ref (eToken x19) 1), (74, .ref (eToken x19) 0), (73, vi i9), (72, .box 24 0 0 1), (71, .box 24 0 0 0), (70, .box 24 0 0 0), (69, .ps .opt (s117.F l8)), (68, .box 24 0 0 0), (67, .box 24 0 0 0), (66, .box 24 0 0 0), (0, vw a0), (2, .box 2 0 0 0), (5, .ps .opt (s117.F r1.1)), (8, .box 24 0 0 0), (9, .box 9 0 0 0), (63, vb ((ln l12) == 24))], [(10, ⟨1, 58, 4, true, false, [.agg [vi r20, vw b0, vi 0, vz r22]]⟩), (2, ⟨0, 26, 2, true, false, [.agg [.ps .nil [], .ps .nil []]]⟩), (9, ⟨0, 26, 2, true, false, [.agg [vo 11509 0 (s23.F l12), .ps .nil []]]⟩), (24, ⟨0, 122, 4, true, false, [.agg [.ps .opt (s117.F l8), vi i9, vb b10, vi i11]]⟩), (11509, ⟨0, 58, 4, false, true, s23.F l12⟩)], 2⟩ [(26, [10]), (27, [10])] [(1, [24]), (2, [24]), (3, [24]), (5, [24]), (6, [24]), (7, [24]), (14, [24]), (15, [24]), (16, [24]), (18, [24]), (19, [24]), (20, [24])] (by kernel_rfl) (by kernel_rfl) ?_
      refine WD_end (by kernel_rfl) (by kernel_rfl) (by kernel_rfl) ?_
      refine Wk_done ?_
      refine Qz hT 8 [0, 2, 5, 8, 9, 10] ⟨[(0, vw a0), (2, .box 2 0 0 0), (5, .ps .opt (s117.F r1.1)), (8, .box 24 0 0 0), (9, .box 9 0 0 0), (10, .box 10 1 0 0)], [(24, ⟨0, 122, 4, true, false, [.agg [.ps .opt (s117.F l8), vi (wr (i9 + 1)), vb b10, vi i11]]⟩), (10, ⟨1, 58, 4, true, false, [.agg [vi r20, vw b0, vi 0, vz r22]]⟩), (2, ⟨0, 26, 2, true, false, [.agg [.ps .nil [], .ps .nil []]]⟩), (9, ⟨0, 26, 2, true, false, [.agg [vo 11509 0 (s23.F l12), .ps .nil []]]⟩), (11509, ⟨0, 58, 4, false, true, s23.F l12⟩)], 2⟩ ?_
      refine Qg hT 1 [0, 2, 5, 8, 9, 10, 99] ⟨[(0, vw a0), (2, .box 2 0 0 0), (5, .ps .opt (s117.F r1.1)), (8, .box 24 0 0 0), (9, .box 9 0 0 0), (10, .box 10 1 0 0), (99, .box 24 0 0 0)], [(24, ⟨0, 122, 4, true, false, [.agg [.ps .opt (s117.F l8), vi (wr (i9 + 1)), vb b10, vi i11]]⟩), (10, ⟨1, 58, 4, true, false, [.agg [vi r20, vw b0, vi 0, vz r22]]⟩), (2, ⟨0, 26, 2, true, false, [.agg [.ps .nil [], .ps .nil []]]⟩), (9, ⟨0, 26, 2, true, false, [.agg [vo 11509 0 (s23.F l12), .ps .nil []]]⟩), (11509, ⟨0, 58, 4, false, true, s23.F l12⟩)], 2⟩ ?_
      obtain ⟨r23, hr23, h⟩ := bsome h
      refine WO_go rfl (by kernel_rfl) [(0, ⟨0, 122, 4, true, false, [eReader (Reader.mk l8 (wr (i9 + 1)) b10 i11)]⟩)] [(0, ⟨0, 122, 4, true, false, [eReader r23.2]⟩)] [.box 24 0 0 0] [.box 0 0 0 0] [(24, 0, 0)] [(0, 24, 0)] [(24, ⟨0, 122, 4, true, false, [eReader r23.2]⟩)] (vw r23.1) (vw r23.1) 3 rfl (by kernel_rfl) en104 (by kernel_rfl) (by kernel_rfl) (by kernel_rfl) (ref1_Reader_name_ok hr23) (by kernel_rfl) (by kernel_rfl) (by kernel_rfl) (by kernel_rfl) ?_
      refine Sz hT 2 [0, 2, 5, 8, 9, 10] ⟨[(0, vw a0), (2, .box 2 0 0 0), (5, .ps .opt (s117.F r1.1)), (8, .box 24 0 0 0), (9, .box 9 0 0 0), (10, .box 10 1 0 0)], [(10, ⟨1, 58, 4, true, false, [.agg [vi r20, vw r23.1, vi 0, vz r22]]⟩), (24, ⟨0, 122, 4, true, false, [eReader r23.2]⟩), (2, ⟨0, 26, 2, true, false, [.agg [.ps .nil [], .ps .nil []]]⟩), (9, ⟨0, 26, 2, true, false, [.agg [vo 11509 0 (s23.F l12), .ps .nil []]]⟩), (11509, ⟨0, 58, 4, false, true, s23.F l12⟩)], 3⟩ ?_
      refine WA_seq ?_
      refine Qz hT 3 [0, 2, 5, 8, 9, 10, 104] ⟨[(0, vw a0), (2, .box 2 0 0 0), (5, .ps .opt (s117.F r1.1)), (8, .box 24 0 0 0), (9, .box 9 0 0 0), (10, .box 10 1 0 0), (104, vb (r20 == 6))], [(10, ⟨1, 58, 4, true, false, [.agg [vi r20, vw r23.1, vi 0, vz r22]]⟩), (24, ⟨0, 122, 4, true, false, [eReader r23.2]⟩), (2, ⟨0, 26, 2, true, false, [.agg [.ps .nil [], .ps .nil []]]⟩), (9, ⟨0, 26, 2, true, false, [.agg [vo 11509 0 (s23.F l12), .ps .nil []]]⟩), (11509, ⟨0, 58, 4, false, true, s23.F l12⟩)], 3⟩ ?_
      obtain ⟨J26, hJ26, h⟩ := jsome h
      refine WA_join (fun s => ∃ (v24 : Reader), ∃ (i25 : Int), J26 v24 i25 = some r ∧ s = ⟨[(0, vw a0), (2, .box 2 0 0 0), (5, .ps .opt (s117.F r1.1)), (8, .box 24 0 0 0), (9, .box 9 0 0 0), (10, .box 10 0 0 0)], [(2, ⟨0, 26, 2, true, false, [.agg [.ps .nil [], .ps .nil []]]⟩), (9, ⟨0, 26, 2, true, false, [.agg [vo 11509 0 (s23.F l12), .ps .nil []]]⟩), (10, ⟨0, 58, 4, true, false, [.agg [vi r20, vw r23.1, vi i25, vz r22]]⟩), (24, ⟨0, 122, 4, true, false, [eReader v24]⟩), (11509, ⟨0, 58, 4, false, true, s23.F l12⟩)], 1⟩) ?_ ?_
      · refine Cd (r20 == 6) ?_ ?_
        · intro hb; replace h := ctrue hb h
          refine Rg hT 1 [0, 2, 5, 8, 9, 10, 105] ⟨[(0, vw a0), (2, .box 2 0 0 0), (5, .ps .opt (s117.F r1.1)), (8, .box 24 0 0 0), (9, .box 9 0 0 0), (10, .box 10 1 0 0), (105, .box 24 0 0 0)], [(10, ⟨1, 58, 4, true, false, [.agg [vi r20, vw r23.1, vi 0, vz r22]]⟩), (24, ⟨0, 122, 4, true, false, [eReader r23.2]⟩), (2, ⟨0, 26, 2, true, false, [.agg [.ps .nil [], .ps .nil []]]⟩), (9, ⟨0, 26, 2, true, false, [.agg [vo 11509 0 (s23.F l12), .ps .nil []]]⟩), (11509, ⟨0, 58, 4, false, true, s23.F l12⟩)], 3⟩ ?_
          obtain ⟨r27, hr27, h⟩ := bsome h
          refine WO_go rfl (by kernel_rfl) [(0, ⟨0, 122, 4, true, false, [eReader r23.2]⟩)] [(0, ⟨0, 122, 4, true, false, [eReader r27.2]⟩)] [.box 24 0 0 0, vi 3] [.box 0 0 0 0, vi 3] [(24, 0, 0)] [(0, 24, 0)] [(24, ⟨0, 122, 4, true, false, [eReader r27.2]⟩)] (vi r27.1) (vi r27.1) 4 rfl (by kernel_rfl) en105 (by kernel_rfl) (by kernel_rfl) (by kernel_rfl) (ref1_Reader_number_ok hr27) (by kernel_rfl) (by kernel_rfl) (by kernel_rfl) (by kernel_rfl) ?_
          refine Sg hT 2 [0, 2, 5, 8, 9, 10] ⟨[(0, vw a0), (2, .box 2 0 0 0), (5, .ps .opt (s117.F r1.1)), (8, .box 24 0 0 0), (9, .box 9 0 0 0), (10, .box 10 1 0 0)], [(10, ⟨1, 58, 4, true, false, [.agg [vi r20, vw r23.1, vi r27.1, vz r22]]⟩), (24, ⟨0, 122, 4, true, false, [eReader r27.2]⟩), (2, ⟨0, 26, 2, true, false, [.agg [.ps .nil [], .ps .nil []]]⟩), (9, ⟨0, 26, 2, true, false, [.agg [vo 11509 0 (s23.F l12), .ps .nil []]]⟩), (11509, ⟨0, 58, 4, false, true, s23.F l12⟩)], 4⟩ ?_
          exact oK [0, 2, 5, 8, 9, 10] [(2, 2, 0), (9, 9, 0), (10, 10, 0), (24, 24, 0), (11509, 11509, 0)] ⟨r27.2, r27.1, h, rfl⟩
        intro hb; replace h := cfalse hb h
        exact sK [0, 2, 5, 8, 9, 10] [(2, 2, 0), (9, 9, 0), (10, 10, 0), (24, 24, 0), (11509, 11509, 0)] ⟨r23.2, 0, h, rfl⟩
      subst hJ26
      rintro s ⟨v24, i25, h, rfl⟩
      skip
      refine Rg hT 4 [0, 2, 5, 8, 9, 109, 111] ⟨[(0, vw a0), (2, .box 2 0 0 0), (5, .ps .opt (s117.F r1.1)), (8, .box 24 0 0 0), (9, .box 9 0 0 0), (109, vo 11509 0 (s23.F l12)), (111, vo 111 1 (s23.F [(Decl.mk r20 r23.1 i25 r22)]))], [(111, ⟨1, 58, 4, false, false, s23.F [(Decl.mk r20 r23.1 i25 r22)]⟩), (2, ⟨0, 26, 2, true, false, [.agg [.ps .nil [], .ps .nil []]]⟩), (9, ⟨0, 26, 2, true, false, [.agg [vo 11509 0 (s23.F l12), .ps .nil []]]⟩), (10, ⟨0, 58, 4, true, false, [.agg [vi r20, vw r23.1, vi i25, vz r22]]⟩), (24, ⟨0, 122, 4, true, false, [eReader v24]⟩), (11509, ⟨0, 58, 4, false, true, s23.F l12⟩)], 2⟩ ?_
      obtain ⟨g28, h⟩ := gsome h
      refine WO_append hT s23 rfl (by kernel_rfl) 11509 0 true l12 [(Decl.mk r20 r23.1 i25 r22)] rfl (by kernel_rfl) (by kernel_rfl) (elems_own s23 111 1 true ⟨1, 58, 4, false, false, s23.F [(Decl.mk r20 r23.1 i25 r22)]⟩ [(Decl.mk r20 r23.1 i25 r22)] (by kernel_rfl) (by kernel_rfl) rfl rfl rfl) g28 (by kernel_rfl) ?_
      refine Sg hT 2 [0, 2, 5, 8, 9] ⟨[(0, vw a0), (2, .box 2 0 0 0), (5, .ps .opt (s117.F r1.1)), (8, .box 24 0 0 0), (9, .box 9 0 0 0)], [(9, ⟨0, 26, 2, true, false, [.agg [vo 112 2 (s23.F (l12 ++ [(Decl.mk r20 r23.1 i25 r22)])), .ps .nil []]]⟩), (112, ⟨2, 58, 4, false, true, s23.F (l12 ++ [(Decl.mk r20 r23.1 i25 r22)])⟩), (111, ⟨1, 58, 4, false, false, s23.F [(Decl.mk r20 r23.1 i25 r22)]⟩), (2, ⟨0, 26, 2, true, false, [.agg [.ps .nil [], .ps .nil []]]⟩), (10, ⟨0, 58, 4, true, false, [.agg [vi r20, vw r23.1, vi i25, vz r22]]⟩), (24, ⟨0, 122, 4, true, false, [eReader v24]⟩)], 3⟩ ?_
      exact oK [0, 2, 5, 8, 9] [(2, 2, 0), (9, 9, 0), (24, 24, 0), (112, 11509, 0)] ⟨_, by omega, by omega, v24.T, v24.At, v24.Fail, v24.Bad, l12 ++ [(Decl.mk r20 r23.1 i25 r22)], h, rfl⟩
    intro hb; replace h := cfalse hb h
    exact eK [0, 2, 5, 8, 9] [(2, 2, 0), (9, 9, 0), (24, 24, 0), (11509, 11509, 0)] ⟨l8, i9, b10, i11, l12, h, rfl⟩
  subst hJ7
  rintro s ⟨l2, i3, b4, i5, l6, h, rfl⟩
  refine WA_seq ?_
  obtain ⟨J34, hJ34, h⟩ := jsome h
  refine WA_join (fun s => ∃ (l29 : List Token), ∃ (i30 : Int), ∃ (b31 : Bool), ∃ (i32 : Int), ∃ (l33 : List (List Stmt)), J34 l29 i30 b31 i32 l33 = some r ∧ s = ⟨[(2, .box 2 0 0 0), (5, .ps .opt (s117.F r1.1)), (8, .box 24 0 0 0), (9, .box 9 0 0 0)], [(2, ⟨0, 26, 2, true, false, [.agg [.ps .nil [], .ps .nil []]]⟩), (9, ⟨0, 26, 2, true, false, [.agg [vo 11509 0 (s23.F l6), vo 12509 0 (s24.F l33)]]⟩), (24, ⟨0, 122, 4, true, false, [.agg [.ps .opt (s117.F l29), vi i30, vb b31, vi i32]]⟩), (11509, ⟨0, 58, 4, false, true, s23.F l6⟩), (12509, ⟨0, 32, 1, false, true, s24.F l33⟩)], 1⟩) ?_ ?_
  · refine WA_block ?_
    refine aW [0, 2, 5, 8, 9] ⟨[(0, vw a0), (2, .box 2 0 0 0), (5, .ps .opt (s117.F r1.1)), (8, .box 24 0 0 0), (9, .box 9 0 0 0)], [(2, ⟨0, 26, 2, true, false, [.agg [.ps .nil [], .ps .nil []]]⟩), (9, ⟨0, 26, 2, true, false, [.agg [vo 11509 0 (s23.F l6), .ps .nil []]]⟩), (24, ⟨0, 122, 4, true, false, [.agg [.ps .opt (s117.F l2), vi i3, vb b4, vi i5]]⟩), (11509, ⟨0, 58, 4, false, true, s23.F l6⟩)], 1⟩ ?_
    refine WA_weak (Weak_ownH 9 5000 1 ⟨0, 26, 2, true, false, [.agg [vo 11509 0 (s23.F l6), .ps .nil []]]⟩ (.agg [vo 11509 0 (s23.F l6), .ps .nil []]) (.agg [vo 11509 0 (s23.F l6), vo 5000 1 (s24.F ([] : List (List Stmt)))]) 32 1 (by kernel_rfl) (by kernel_rfl) (by kernel_rfl) (by kernel_rfl) (by kernel_rfl) (by kernel_rfl) (by kernel_rfl)) ?_
    refine lR [(2, 2, 0), (9, 9, 0), (24, 24, 0), (11509, 11509, 0), (5000, 12509, 0)] (fun k s => ∃ q, q ≤ k ∧ q ≤ n ∧ ∃ (l35 : List Token), ∃ (i36 : Int), ∃ (b37 : Bool), ∃ (i38 : Int), ∃ (l39 : List (List Stmt)), ref1_Parse_L1 q a0 r1 l2 i3 b4 i5 l6 J34 l35 i36 b37 i38 l39 = some r ∧ s = ⟨[(0, vw a0), (2, .box 2 0 0 0), (5, .ps .opt (s117.F r1.1)), (8, .box 24 0 0 0), (9, .box 9 0 0 0)], [(2, ⟨0, 26, 2, true, false, [.agg [.ps .nil [], .ps .nil []]]⟩), (9, ⟨0, 26, 2, true, false, [.agg [vo 11509 0 (s23.F l6), vo 12509 0 (s24.F l39)]]⟩), (24, ⟨0, 122, 4, true, false, [.agg [.ps .opt (s117.F l35), vi i36, vb b37, vi i38]]⟩), (11509, ⟨0, 58, 4, false, true, s23.F l6⟩), (12509, ⟨0, 32, 1, false, true, s24.F l39⟩)], 1⟩) n ⟨n, Nat.le_refl _, Nat.le_refl _, l2, i3, b4, i5, ([] : List (List Stmt)), h, rfl⟩ (by rintro s ⟨q, hq, _, l35, i36, b37, i38, l39, h, _⟩; obtain rfl := Nat.le_zero.1 hq; rw [ref1_Parse_L1] at h; cases h) ?_
    clear h
    rintro k1 s ⟨q1, hk1, hn1, l35, i36, b37, i38, l39, h, rfl⟩
    rcases q1 with _ | q1
    · rw [ref1_Parse_L1] at h; cases h
    rw [ref1_Parse_L1] at h
    refine WA_seq ?_
    refine WA_seq ?_
    obtain ⟨J41, hJ41, h⟩ := jsome h
    refine WA_join (fun s => ∃ (b40 : Bool), J41 b40 = some r ∧ s = ⟨[(0, vw a0), (2, .box 2 0 0 0), (5, .ps .opt (s117.F r1.1)), (8, .box 24 0 0 0), (9, .box 9 0 0 0), (138, vb b40)], [(2, ⟨0, 26, 2, true, false, [.agg [.ps .nil [], .ps .nil []]]⟩), (9, ⟨0, 26, 2, true, false, [.agg [vo 11509 0 (s23.F l6), vo 12509 0 (s24.F l39)]]⟩), (24, ⟨0, 122, 4, true, false, [.agg [.ps .opt (s117.F l35), vi i36, vb b37, vi i38]]⟩), (11509, ⟨0, 58, 4, false, true, s23.F l6⟩), (12509, ⟨0, 32, 1, false, true, s24.F l39⟩)], 1⟩) ?_ ?_
    · refine WA_drawW hT hM (by kernel_rfl) ?_
      refine WD_seg 6 ⟨[(119, vb (!b37)), (118, vb (!b37)), (117, vb b37), (116, .box 24 0 0 2), (115, .box 24 0 0 0), (114, .box 24 0 0 0), (0, vw a0), (2, .box 2 0 0 0), (5, .ps .opt (s117.F r1.1)), (8, .box 24 0 0 0), (9, .box 9 0 0 0)], [(2, ⟨0, 26, 2, true, false, [.agg [.ps .nil [], .ps .nil []]]⟩), (9, ⟨0, 26, 2, true, false, [.agg [vo 11509 0 (s23.F l6), vo 12509 0 (s24.F l39)]]⟩), (24, ⟨0, 122, 4, true, false, [.agg [.ps .opt (s117.F l35), vi i36, vb b37, vi i38]]⟩), (11509, ⟨0, 58, 4, false, true, s23.F l6⟩), (12509, ⟨0, 32, 1, false, true, s24.F l39⟩)], 1⟩ [] [(1, [24]), (2, [24]), (3, [24])] (by kernel_rfl) (by kernel_rfl) ?_
      cases hb : (!b37 : Bool)
      · replace h := cfalse hb h
        refine WD_seg 19 ⟨[(138, vb false), (137, .p Go.undef), (136, .p Go.undef), (135, .p Go.undef), (134, .p Go.undef), (133, .p Go.undef), (132, .p Go.undef), (131, .p Go.undef), (130, .p Go.undef), (129, .p Go.undef), (128, .p Go.undef), (127, .p Go.undef), (126, .p Go.undef), (125, .p Go.undef), (124, .p Go.undef), (123, .p Go.undef), (122, .p Go.undef), (121, .p Go.undef), (120, .p Go.undef), (119, vb false), (118, vb false), (117, vb b37), (116, .box 24 0 0 2), (115, .box 24 0 0 0), (114, .box 24 0 0 0), (0, vw a0), (2, .box 2 0 0 0), (5, .ps .opt (s117.F r1.1)), (8, .box 24 0 0 0), (9, .box 9 0 0 0)], [(2, ⟨0, 26, 2, true, false, [.agg [.ps .nil [], .ps .nil []]]⟩), (9, ⟨0, 26, 2, true, false, [.agg [vo 11509 0 (s23.F l6), vo 12509 0 (s24.F l39)]]⟩), (24, ⟨0, 122, 4, true, false, [.agg [.ps .opt (s117.F l35), vi i36, vb b37, vi i38]]⟩), (11509, ⟨0, 58, 4, false, true, s23.F l6⟩), (12509, ⟨0, 32, 1, false, true, s24.F l39⟩)], 1⟩ [] [(1, [24]), (2, [24]), (3, [24])] (by kernel_rfl) (by kernel_rfl) ?_
        refine WD_end (by kernel_rfl) (by kernel_rfl) (by kernel_rfl) ?_
        exact wK [0, 2, 5, 8, 9, 138] [(2, 2, 0), (9, 9, 0), (24, 24, 0), (11509, 11509, 0), (12509, 12509, 0)] ⟨false, h, rfl⟩
      replace h := ctrue hb h
      refine WD_seg 8 ⟨[(127, vi i36), (126, .box 24 0 0 1), (125, .box 24 0 0 0), (124, .box 24 0 0 0), (123, .ps .opt (s117.F l35)), (122, .box 24 0 0 0), (121, .box 24 0 0 0), (120, .box 24 0 0 0), (119, vb true), (118, vb true), (117, vb b37), (116, .box 24 0 0 2), (115, .box 24 0 0 0), (114, .box 24 0 0 0), (0, vw a0), (2, .box 2 0 0 0), (5, .ps .opt (s117.F r1.1)), (8, .box 24 0 0 0), (9, .box 9 0 0 0)], [(2, ⟨0, 26, 2, true, false, [.agg [.ps .nil [], .ps .nil []]]⟩), (9, ⟨0, 26, 2, true, false, [.agg [vo 11509 0 (s23.F l6), vo 12509 0 (s24.F l39)]]⟩), (24, ⟨0, 122, 4, true, false, [.agg [.ps .opt (s117.F l35), vi i36, vb b37, vi i38]]⟩), (11509, ⟨0, 58, 4, false, true, s23.F l6⟩), (12509, ⟨0, 32, 1, false, true, s24.F l39⟩)], 1⟩ [] [(1, [24]), (2, [24]), (3, [24]), (7, [24]), (8, [24]), (9, [24]), (11, [24]), (12, [24]), (13, [24])] (by kernel_rfl) (by kernel_rfl) ?_
      obtain ⟨x42, hx42, h⟩ := bsome h
      refine WD_loc rfl (by kernel_rfl) (by kernel_rfl) (by kernel_rfl) (ev_index s117 .opt l35 .i64 i36 hx42 (by decide) (by kernel_rfl) (by kernel_rfl)) (by kernel_rfl) ?_
      refine WD_seg 4 ⟨[(132, vb (x42.Kind != 4)), (131, vb (x42.Kind != 4)), (130, vi x42.Kind), (129, .ref (eToken x42) 0), (128, .ref (eToken x42) 0), (127, vi i36), (126, .box 24 0 0 1), (125, .box 24 0 0 0), (124, .box 24 0 0 0), (123, .ps .opt (s117.F l35)), (122, .box 24 0 0 0), (121, .box 24 0 0 0), (120, .box 24 0 0 0), (119, vb true), (118, vb true), (117, vb b37), (116, .box 24 0 0 2), (115, .box 24 0 0 0), (114, .box 24 0 0 0), (0, vw a0), (2, .box 2 0 0 0), (5, .ps .opt (s117.F r1.1)), (8, .box 24 0 0 0), (9, .box 9 0 0 0)], [(2, ⟨0, 26, 2, true, false, [.agg [.ps .nil [], .ps .nil []]]⟩), (9, ⟨0, 26, 2, true, false, [.agg [vo 11509 0 (s23.F l6), vo 12509 0 (s24.F l39)]]⟩), (24, ⟨0, 122, 4, true, false, [.agg [.ps .opt (s117.F l35), vi i36, vb b37, vi i38]]⟩), (11509, ⟨0, 58, 4, false, true, s23.F l6⟩), (12509, ⟨0, 32, 1, false, true, s24.F l39⟩)], 1⟩ [] [(1, [24]), (2, [24]), (3, [24]), (7, [24]), (8, [24]), (9, [24]), (11, [24]), (12, [24]), (13, [24])] (by kernel_rfl) (by kernel_rfl) ?_
      cases hb : ((x42.Kind != 4) : Bool)
      · replace h := cfalse hb h
        refine WD_seg 2 ⟨[(134, vo 12509 0 (s24.F l39)), (133, .box 9 0 0 1), (132, vb false), (131, vb false), (130, vi x42.Kind), (129, .ref (eToken x42) 0), (128, .ref (eToken x42) 0), (127, vi i36), (126, .box 24 0 0 1), (125, .box 24 0 0 0), (124, .box 24 0 0 0), (123, .ps .opt (s117.F l35)), (122, .box 24 0 0 0), (121, .box 24 0 0 0), (120, .box 24 0 0 0), (119, vb true), (118, vb true), (117, vb b37), (116, .box 24 0 0 2), (115, .box 24 0 0 0), (114, .box 24 0 0 0), (0, vw a0), (2, .box 2 0 0 0), (5, .ps .opt (s117.F r1.1)), (8, .box 24 0 0 0), (9, .box 9 0 0 0)], [(2, ⟨0, 26, 2, true, false, [.agg [.ps .nil [], .ps .nil []]]⟩), (9, ⟨0, 26, 2, true, false, [.agg [vo 11509 0 (s23.F l6), vo 12509 0 (s24.F l39)]]⟩), (24, ⟨0, 122, 4, true, false, [.agg [.ps .opt (s117.F l35), vi i36, vb b37, vi i38]]⟩), (11509, ⟨0, 58, 4, false, true, s23.F l6⟩), (12509, ⟨0, 32, 1, false, true, s24.F l39⟩)], 1⟩ [] [(1, [24]), (2, [24]), (3, [24]), (7, [24]), (8, [24]), (9, [24]), (11, [24]), (12, [24]), (13, [24]), (19, [9]), (20, [9])] (by kernel_rfl) (by kernel_rfl) ?_
        refine WD_loc rfl (by kernel_rfl) (by kernel_rfl) (by kernel_rfl) (ev_len_own s24 12509 0 true ⟨0, 32, 1, false, true, s24.F l39⟩ l39 (by kernel_rfl) rfl rfl) (by kernel_rfl) ?_
        refine WD_seg 3 ⟨[(138, vb ((ln l39) == 0)), (137, vb ((ln l39) == 0)), (136, vb ((ln l39) == 0)), (135, vi (ln l39)), (134, vo 12509 0 (s24.F l39)), (133, .box 9 0 0 1), (132, vb false), (131, vb false), (130, vi x42.Kind), (129, .ref (eToken x42) 0), (128, .ref (eToken x42) 0), (127, vi i36), (126, .box 24 0 0 1), (125, .box 24 0 0 0), (124, .box 24 0 0 0), (123, .ps .opt (s117.F l35)), (122, .box 24 0 0 0), (121, .box 24 0 0 0), (120, .box 24 0 0 0), (119, vb true), (118, vb true), (117, vb b37), (116, .box 24 0 0 2), (115, .box 24 0 0 0), (114, .box 24 0 0 0), (0, vw a0), (2, .box 2 0 0 0), (5, .ps .opt (s117.F r1.1)), (8, .box 24 0 0 0), (9, .box 9 0 0 0)], [(2, ⟨0, 26, 2, true, false, [.agg [.ps .nil [], .ps .nil []]]⟩), (9, ⟨0, 26, 2, true, false, [.agg [vo 11509 0 (s23.F l6), vo 12509 0 (s24.F l39)]]⟩), (24, ⟨0, 122, 4, true, false, [.agg [.ps .opt (s117.F l35), vi i36, vb b37, vi i38]]⟩), (11509, ⟨0, 58, 4, false, true, s23.F l6⟩), (12509, ⟨0, 32, 1, false, true, s24.F l39⟩)], 1⟩ [] [(1, [24]), (2, [24]), (3, [24]), (7, [24]), (8, [24]), (9, [24]), (11, [24]), (12, [24]), (13, [24]), (19, [9]), (20, [9]), (21, [12509])] (by kernel_rfl) (by kernel_rfl) ?_
        refine WD_end (by kernel_rfl) (by kernel_rfl) (by kernel_rfl) ?_
        exact wK [0, 2, 5, 8, 9, 138] [(2, 2, 0), (9, 9, 0), (24, 24, 0), (11509, 11509, 0), (12509, 12509, 0)] ⟨((ln l39) == 0), h, rfl⟩
      replace h := ctrue hb h
      refine WD_seg 6 ⟨[(138, vb true), (137, vb true), (136, .p Go.undef), (135, .p Go.undef), (134, .p Go.undef), (133, .p Go.undef), (132, vb true), (131, vb true), (130, vi x42.Kind), (129, .ref (eToken x42) 0), (128, .ref (eToken x42) 0), (127, vi i36), (126, .box 24 0 0 1), (125, .box 24 0 0 0), (124, .box 24 0 0 0), (123, .ps .opt (s117.F l35)), (122, .box 24 0 0 0), (121, .box 24 0 0 0), (120, .box 24 0 0 0), (119, vb true), (118, vb true), (117, vb b37), (116, .box 24 0 0 2), (115, .box 24 0 0 0), (114, .box 24 0 0 0), (0, vw a0), (2, .box 2 0 0 0), (5, .ps .opt (s117.F r1.1)), (8, .box 24 0 0 0), (9, .box 9 0 0 0)], [(2, ⟨0, 26, 2, true, false, [.agg [.ps .nil [], .ps .nil []]]⟩), (9, ⟨0, 26, 2, true, false, [.agg [vo 11509 0 (s23.F l6), vo 12509 0 (s24.F l39)]]⟩), (24, ⟨0, 122, 4, true, false, [.agg [.ps .opt (s117.F l35), vi i36, vb b37, vi i38]]⟩), (11509, ⟨0, 58, 4, false, true, s23.F l6⟩), (12509, ⟨0, 32, 1, false, true, s24.F l39⟩)], 1⟩ [] [(1, [24]), (2, [24]), (3, [24]), (7, [24]), (8, [24]), (9, [24]), (11, [24]), (12, [24]), (13, [24])] (by kernel_rfl) (by kernel_rfl) ?_
      refine WD_end (by kernel_rfl) (by kernel_rfl) (by kernel_rfl) ?_
      exact wK [0, 2, 5, 8, 9, 138] [(2, 2, 0), (9, 9, 0), (24, 24, 0), (11509, 11509, 0), (12509, 12509, 0)] ⟨true, h, rfl⟩
    subst hJ41
    rintro s ⟨b40, h, rfl⟩
    skip
    refine Cd b40 ?_ ?_
    · intro hb; replace h := ctrue hb h
      refine WA_skip ?_
      refine WA_block ?_
      refine WA_seq ?_
      refine WA_seq ?_
      obtain ⟨J44, hJ44, h⟩ := jsome h
      refine WA_join (fun s => ∃ (b43 : Bool), J44 b43 = some r ∧ s = ⟨[(0, vw a0), (2, .box 2 0 0 0), (5, .ps .opt (s117.F r1.1)), (8, .box 24 0 0 0), (9, .box 9 0 0 0), (147, vb b43)], [(2, ⟨0, 26, 2, true, false, [.agg [.ps .nil [], .ps .nil []]]⟩), (9, ⟨0, 26, 2, true, false, [.agg [vo 11509 0 (s23.F l6), vo 12509 0 (s24.F l39)]]⟩), (24, ⟨0, 122, 4, true, false, [.agg [.ps .opt (s117.F l35), vi i36, vb b37, vi i38]]⟩), (11509, ⟨0, 58, 4, false, true, s23.F l6⟩), (12509, ⟨0, 32, 1, false, true, s24.F l39⟩)], 1⟩) ?_ ?_
      · refine Rg hT 1 [0, 2, 5, 8, 9, 139] ⟨[(0, vw a0), (2, .box 2 0 0 0), (5, .ps .opt (s117.F r1.1)), (8, .box 24 0 0 0), (9, .box 9 0 0 0), (139, .box 24 0 0 0)], [(2, ⟨0, 26, 2, true, false, [.agg [.ps .nil [], .ps .nil []]]⟩), (9, ⟨0, 26, 2, true, false, [.agg [vo 11509 0 (s23.F l6), vo 12509 0 (s24.F l39)]]⟩), (24, ⟨0, 122, 4, true, false, [.agg [.ps .opt (s117.F l35), vi i36, vb b37, vi i38]]⟩), (11509, ⟨0, 58, 4, false, true, s23.F l6⟩), (12509, ⟨0, 32, 1, false, true, s24.F l39⟩)], 1⟩ ?_
        obtain ⟨r45, hr45, h⟩ := bsome h
        refine WO_ptb rfl (by kernel_rfl) [24] [.box 24 0 0 0, vw k_go] [.ref (eReader (Reader.mk l35 i36 b37 i38)) 0, vw k_go] (vb r45) rfl (by kernel_rfl) en106 (by kernel_rfl) (by kernel_rfl) (by kernel_rfl) (ref1_Reader_word_ok hr45) (by kernel_rfl) ?_
        refine Sg hT 2 [0, 2, 5, 8, 9, 142] ⟨[(0, vw a0), (2, .box 2 0 0 0), (5, .ps .opt (s117.F r1.1)), (8, .box 24 0 0 0), (9, .box 9 0 0 0), (142, vb (!r45))], [(2, ⟨0, 26, 2, true, false, [.agg [.ps .nil [], .ps .nil []]]⟩), (9, ⟨0, 26, 2, true, false, [.agg [vo 11509 0 (s23.F l6), vo 12509 0 (s24.F l39)]]⟩), (24, ⟨0, 122, 4, true, false, [.agg [.ps .opt (s117.F l35), vi i36, vb b37, vi i38]]⟩), (11509, ⟨0, 58, 4, false, true, s23.F l6⟩), (12509, ⟨0, 32, 1, false, true, s24.F l39⟩)], 1⟩ ?_
        cases hb : (!r45 : Bool)
        · replace h := cfalse hb h
          refine Sg hT 2 [0, 2, 5, 8, 9, 142, 144] ⟨[(0, vw a0), (2, .box 2 0 0 0), (5, .ps .opt (s117.F r1.1)), (8, .box 24 0 0 0), (9, .box 9 0 0 0), (142, vb false), (144, vo 12509 0 (s24.F l39))], [(2, ⟨0, 26, 2, true, false, [.agg [.ps .nil [], .ps .nil []]]⟩), (9, ⟨0, 26, 2, true, false, [.agg [vo 11509 0 (s23.F l6), vo 12509 0 (s24.F l39)]]⟩), (24, ⟨0, 122, 4, true, false, [.agg [.ps .opt (s117.F l35), vi i36, vb b37, vi i38]]⟩), (11509, ⟨0, 58, 4, false, true, s23.F l6⟩), (12509, ⟨0, 32, 1, false, true, s24.F l39⟩)], 1⟩ ?_
          refine One hT rfl (ev_len_own s24 12509 0 true ⟨0, 32, 1, false, true, s24.F l39⟩ l39 (by kernel_rfl) rfl rfl) ?_
          refine Sg hT 2 [0, 2, 5, 8, 9, 147] ⟨[(0, vw a0), (2, .box 2 0 0 0), (5, .ps .opt (s117.F r1.1)), (8, .box 24 0 0 0), (9, .box 9 0 0 0), (147, vb ((ln l39) == 4))], [(2, ⟨0, 26, 2, true, false, [.agg [.ps .nil [], .ps .nil []]]⟩), (9, ⟨0, 26, 2, true, false, [.agg [vo 11509 0 (s23.F l6), vo 12509 0 (s24.F l39)]]⟩), (24, ⟨0, 122, 4, true, false, [.agg [.ps .opt (s117.F l35), vi i36, vb b37, vi i38]]⟩), (11509, ⟨0, 58, 4, false, true, s23.F l6⟩), (12509, ⟨0, 32, 1, false, true, s24.F l39⟩)], 1⟩ ?_
          exact oK [0, 2, 5, 8, 9, 147] [(2, 2, 0), (9, 9, 0), (24, 24, 0), (11509, 11509, 0), (12509, 12509, 0)] ⟨((ln l39) == 4), h, rfl⟩
        replace h := ctrue hb h
        refine Sg hT 5 [0, 2, 5, 8, 9, 147] ⟨[(0, vw a0), (2, .box 2 0 0 0), (5, .ps .opt (s117.F r1.1)), (8, .box 24 0 0 0), (9, .box 9 0 0 0), (147, vb true)], [(2, ⟨0, 26, 2, true, false, [.agg [.ps .nil [], .ps .nil []]]⟩), (9, ⟨0, 26, 2, true, false, [.agg [vo 11509 0 (s23.F l6), vo 12509 0 (s24.F l39)]]⟩), (24, ⟨0, 122, 4, true, false, [.agg [.ps .opt (s117.F l35), vi i36, vb b37, vi i38]]⟩), (11509, ⟨0, 58, 4, false, true, s23.F l6⟩), (12509, ⟨0, 32, 1, false, true, s24.F l39⟩)], 1⟩ ?_
        exact oK [0, 2, 5, 8, 9, 147] [(2, 2, 0), (9, 9, 0), (24, 24, 0), (11509, 11509, 0), (12509, 12509, 0)] ⟨true, h, rfl⟩
      subst hJ44
      rintro s ⟨b43, h, rfl⟩
      skip
      refine Cd b43 ?_ ?_
      · intro hb; replace h := ctrue hb h
        refine Qg hT 1 [2, 5, 8, 9, 148] ⟨[(2, .box 2 0 0 0), (5, .ps .opt (s117.F r1.1)), (8, .box 24 0 0 0), (9, .box 9 0 0 0), (148, .box 24 0 0 0)], [(2, ⟨0, 26, 2, true, false, [.agg [.ps .nil [], .ps .nil []]]⟩), (9, ⟨0, 26, 2, true, false, [.agg [vo 11509 0 (s23.F l6), vo 12509 0 (s24.F l39)]]⟩), (24, ⟨0, 122, 4, true, false, [.agg [.ps .opt (s117.F l35), vi i36, vb b37, vi i38]]⟩), (11509, ⟨0, 58, 4, false, true, s23.F l6⟩), (12509, ⟨0, 32, 1, false, true, s24.F l39⟩)], 1⟩ ?_
        obtain ⟨r46, hr46, h⟩ := bsome h
        refine WO_go rfl (by kernel_rfl) [(0, ⟨0, 122, 4, true, false, [eReader (Reader.mk l35 i36 b37 i38)]⟩)] [(0, ⟨0, 122, 4, true, false, [eReader r46]⟩)] [.box 24 0 0 0] [.box 0 0 0 0] [(24, 0, 0)] [(0, 24, 0)] [(24, ⟨0, 122, 4, true, false, [eReader r46]⟩)] (.tup []) (.tup []) 2 rfl (by kernel_rfl) en103 (by kernel_rfl) (by kernel_rfl) (by kernel_rfl) (ref1_Reader_fail_ok hr46) (by kernel_rfl) (by kernel_rfl) (by kernel_rfl) (by kernel_rfl) ?_
        refine Sz hT 0 [2, 5, 8, 9] ⟨[(2, .box 2 0 0 0), (5, .ps .opt (s117.F r1.1)), (8, .box 24 0 0 0), (9, .box 9 0 0 0)], [(24, ⟨0, 122, 4, true, false, [eReader r46]⟩), (2, ⟨0, 26, 2, true, false, [.agg [.ps .nil [], .ps .nil []]]⟩), (9, ⟨0, 26, 2, true, false, [.agg [vo 11509 0 (s23.F l6), vo 12509 0 (s24.F l39)]]⟩), (11509, ⟨0, 58, 4, false, true, s23.F l6⟩), (12509, ⟨0, 32, 1, false, true, s24.F l39⟩)], 2⟩ ?_
        exact eK [2, 5, 8, 9] [(2, 2, 0), (9, 9, 0), (24, 24, 0), (11509, 11509, 0), (12509, 12509, 0)] ⟨r46.T, r46.At, r46.Fail, r46.Bad, l39, h, rfl⟩
      intro hb; replace h := cfalse hb h
      refine WA_skip ?_
      refine Qz hT 8 [0, 2, 5, 8, 9] ⟨[(0, vw a0), (2, .box 2 0 0 0), (5, .ps .opt (s117.F r1.1)), (8, .box 24 0 0 0), (9, .box 9 0 0 0)], [(24, ⟨0, 122, 4, true, false, [.agg [.ps .opt (s117.F l35), vi (wr (i36 + 1)), vb b37, vi i38]]⟩), (2, ⟨0, 26, 2, true, false, [.agg [.ps .nil [], .ps .nil []]]⟩), (9, ⟨0, 26, 2, true, false, [.agg [vo 11509 0 (s23.F l6), vo 12509 0 (s24.F l39)]]⟩), (11509, ⟨0, 58, 4, false, true, s23.F l6⟩), (12509, ⟨0, 32, 1, false, true, s24.F l39⟩)], 1⟩ ?_
      refine WA_drawW hT hM (by kernel_rfl) ?_
      refine WD_seg 4 ⟨[(160, vw a0), (159, .box 24 0 0 0), (158, vo 12509 0 (s24.F l39)), (157, .box 9 0 0 1), (0, vw a0), (2, .box 2 0 0 0), (5, .ps .opt (s117.F r1.1)), (8, .box 24 0 0 0), (9, .box 9 0 0 0)], [(24, ⟨0, 122, 4, true, false, [.agg [.ps .opt (s117.F l35), vi (wr (i36 + 1)), vb b37, vi i38]]⟩), (2, ⟨0, 26, 2, true, false, [.agg [.ps .nil [], .ps .nil []]]⟩), (9, ⟨0, 26, 2, true, false, [.agg [vo 11509 0 (s23.F l6), vo 12509 0 (s24.F l39)]]⟩), (11509, ⟨0, 58, 4, false, true, s23.F l6⟩), (12509, ⟨0, 32, 1, false, true, s24.F l39⟩)], 1⟩ [] [(0, [9]), (1, [9])] (by kernel_rfl) (by kernel_rfl) ?_
      obtain ⟨r47, hr47, h⟩ := bsome h
      refine WD_go rfl (by kernel_rfl) (by kernel_rfl) [(0, ⟨0, 122, 4, true, false, [eReader (Reader.mk l35 (wr (i36 + 1)) b37 i38)]⟩)] [(0, ⟨0, 122, 4, true, false, [eReader r47.2]⟩)] [.box 24 0 0 0, vw a0, vi 1] [.box 0 0 0 0, vw a0, vi 1] [(24, 0, 0)] [(0, 24, 0)] [(24, ⟨0, 122, 4, true, false, [eReader r47.2]⟩)] (.ps .opt (s32.F r47.1)) (.ps .opt (s32.F r47.1)) 2 rfl (by kernel_rfl) en107 (by kernel_rfl) (by kernel_rfl) (by kernel_rfl) (GO_frz 100 ⟨1, 38, 11, false, true, s32.F r47.1⟩ (ref1_Reader_block_ok hr47) (by kernel_rfl) rfl rfl) (by kernel_rfl) (by kernel_rfl) (by kernel_rfl) (by kernel_rfl) ?_
      refine WD_seg 1 ⟨[(162, .ps .full (s24.F [r47.1])), (161, .ps .opt (s32.F r47.1)), (160, vw a0), (159, .box 24 0 0 0), (158, vo 12509 0 (s24.F l39)), (157, .box 9 0 0 1), (0, vw a0), (2, .box 2 0 0 0), (5, .ps .opt (s117.F r1.1)), (8, .box 24 0 0 0), (9, .box 9 0 0 0)], [(24, ⟨0, 122, 4, true, false, [eReader r47.2]⟩), (2, ⟨0, 26, 2, true, false, [.agg [.ps .nil [], .ps .nil []]]⟩), (9, ⟨0, 26, 2, true, false, [.agg [vo 11509 0 (s23.F l6), vo 12509 0 (s24.F l39)]]⟩), (11509, ⟨0, 58, 4, false, true, s23.F l6⟩), (12509, ⟨0, 32, 1, false, true, s24.F l39⟩)], 2⟩ [(4, [24, 24])] [(0, [9]), (1, [9])] (by kernel_rfl) (by kernel_rfl) ?_
      obtain ⟨g48, h⟩ := gsome h
      refine WD_wr rfl (by kernel_rfl) (by kernel_rfl) (by kernel_rfl) (ev_append s24 12509 0 true l39 [r47.1] (by kernel_rfl) (by kernel_rfl) (by kernel_rfl) (by simp) g48) (by kernel_rfl) ?_
      refine WD_seg 2 ⟨[(164, .box 9 0 0 1), (163, vo 163 2 (s24.F (l39 ++ [r47.1]))), (162, .ps .full (s24.F [r47.1])), (161, .ps .opt (s32.F r47.1)), (160, vw a0), (159, .box 24 0 0 0), (158, vo 12509 0 (s24.F l39)), (157, .box 9 0 0 1), (0, vw a0), (2, .box 2 0 0 0), (5, .ps .opt (s117.F r1.1)), (8, .box 24 0 0 0), (9, .box 9 0 0 0)], [(9, ⟨0, 26, 2, true, false, [.agg [vo 11509 0 (s23.F l6), vo 163 2 (s24.F (l39 ++ [r47.1]))]]⟩), (163, ⟨2, 32, 1, false, false, s24.F (l39 ++ [r47.1])⟩), (24, ⟨0, 122, 4, true, false, [eReader r47.2]⟩), (2, ⟨0, 26, 2, true, false, [.agg [.ps .nil [], .ps .nil []]]⟩), (11509, ⟨0, 58, 4, false, true, s23.F l6⟩)], 3⟩ [(4, [24, 24]), (6, [163, 12509]), (8, [9])] [(0, [9]), (1, [9]), (7, [9])] (by kernel_rfl) (by kernel_rfl) ?_
      refine WD_end (by kernel_rfl) (by kernel_rfl) (by kernel_rfl) ?_
      refine kW [0, 2, 5, 8, 9] ⟨[(0, vw a0), (2, .box 2 0 0 0), (5, .ps .opt (s117.F r1.1)), (8, .box 24 0 0 0), (9, .box 9 0 0 0)], [(9, ⟨0, 26, 2, true, false, [.agg [vo 11509 0 (s23.F l6), vo 163 2 (s24.F (l39 ++ [r47.1]))]]⟩), (163, ⟨2, 32, 1, false, false, s24.F (l39 ++ [r47.1])⟩), (24, ⟨0, 122, 4, true, false, [eReader r47.2]⟩), (2, ⟨0, 26, 2, true, false, [.agg [.ps .nil [], .ps .nil []]]⟩), (11509, ⟨0, 58, 4, false, true, s23.F l6⟩)], 3⟩ ?_
      refine Wk_step (Weak_leH [(0, vw a0), (2, .box 2 0 0 0), (5, .ps .opt (s117.F r1.1)), (8, .box 24 0 0 0), (9, .box 9 0 0 0)] [(9, ⟨0, 26, 2, true, false, [.agg [vo 11509 0 (s23.F l6), vo 163 2 (s24.F (l39 ++ [r47.1]))]]⟩), (163, ⟨2, 32, 1, false, true, s24.F (l39 ++ [r47.1])⟩), (24, ⟨0, 122, 4, true, false, [eReader r47.2]⟩), (2, ⟨0, 26, 2, true, false, [.agg [.ps .nil [], .ps .nil []]]⟩), (11509, ⟨0, 58, 4, false, true, s23.F l6⟩)] (by kernel_rfl) ⟨VLf.refl _, VLf.refl _, VLf.refl _, VLf.refl _, VLf.refl _, trivial⟩ ⟨rfl, .inl rfl, rfl, .inr (.inr rfl), rfl, .inl rfl, rfl, .inl rfl, rfl, .inl rfl, trivial⟩) ?_
      exact wR [(2, 2, 0), (9, 9, 0), (24, 24, 0), (11509, 11509, 0), (163, 12509, 0)] ⟨_, by omega, by omega, r47.2.T, r47.2.At, r47.2.Fail, r47.2.Bad, l39 ++ [r47.1], h, rfl⟩
    intro hb; replace h := cfalse hb h
    exact eK [2, 5, 8, 9] [(2, 2, 0), (9, 9, 0), (24, 24, 0), (11509, 11509, 0), (12509, 12509, 0)] ⟨l35, i36, b37, i38, l39, h, rfl⟩
  subst hJ34
  rintro s ⟨l29, i30, b31, i32, l33, h, rfl⟩
  refine WA_seq ?_
  refine Qz hT 4 [2, 5, 8, 9, 168] ⟨[(2, .box 2 0 0 0), (5, .ps .opt (s117.F r1.1)), (8, .box 24 0 0 0), (9, .box 9 0 0 0), (168, vb b31)], [(2, ⟨0, 26, 2, true, false, [.agg [.ps .nil [], .ps .nil []]]⟩), (9, ⟨0, 26, 2, true, false, [.agg [vo 11509 0 (s23.F l6), vo 12509 0 (s24.F l33)]]⟩), (24, ⟨0, 122, 4, true, false, [.agg [.ps .opt (s117.F l29), vi i30, vb b31, vi i32]]⟩), (11509, ⟨0, 58, 4, false, true, s23.F l6⟩), (12509, ⟨0, 32, 1, false, true, s24.F l33⟩)], 1⟩ ?_
  refine Cd b31 ?_ ?_
  · intro hb; replace h := ctrue hb h
    refine WA_seq ?_
    refine WA_drawW hT hM (by kernel_rfl) ?_
    refine WD_seg 6 ⟨[(174, vi i32), (173, .box 24 0 0 3), (172, .box 24 0 0 0), (171, .box 24 0 0 0), (170, .ps .opt (s117.F r1.1)), (169, .agg [.ps .nil [], .ps .nil []]), (2, .box 2 0 0 0), (5, .ps .opt (s117.F r1.1)), (8, .box 24 0 0 0), (9, .box 9 0 0 0), (168, vb b31)], [(2, ⟨0, 26, 2, true, false, [.agg [.ps .nil [], .ps .nil []]]⟩), (9, ⟨0, 26, 2, true, false, [.agg [vo 11509 0 (s23.F l6), vo 12509 0 (s24.F l33)]]⟩), (24, ⟨0, 122, 4, true, false, [.agg [.ps .opt (s117.F l29), vi i30, vb b31, vi i32]]⟩), (11509, ⟨0, 58, 4, false, true, s23.F l6⟩), (12509, ⟨0, 32, 1, false, true, s24.F l33⟩)], 1⟩ [] [(3, [24]), (4, [24]), (5, [24])] (by kernel_rfl) (by kernel_rfl) ?_
    obtain ⟨x49, hx49, h⟩ := bsome h
    refine WD_loc rfl (by kernel_rfl) (by kernel_rfl) (by kernel_rfl) (ev_index s117 .opt r1.1 .i64 i32 hx49 (by decide) (by kernel_rfl) (by kernel_rfl)) (by kernel_rfl) ?_
    refine WD_seg 5 ⟨[(4, vi 2), (3, vi x49.At), (177, vi x49.At), (176, .ref (eToken x49) 3), (175, .ref (eToken x49) 0), (174, vi i32), (173, .box 24 0 0 3), (172, .box 24 0 0 0), (171, .box 24 0 0 0), (170, .ps .opt (s117.F r1.1)), (169, .agg [.ps .nil [], .ps .nil []]), (2, .box 2 0 0 0), (5, .ps .opt (s117.F r1.1)), (8, .box 24 0 0 0), (9, .box 9 0 0 0), (168, vb b31)], [(2, ⟨0, 26, 2, true, false, [.agg [.ps .nil [], .ps .nil []]]⟩), (9, ⟨0, 26, 2, true, false, [.agg [vo 11509 0 (s23.F l6), vo 12509 0 (s24.F l33)]]⟩), (24, ⟨0, 122, 4, true, false, [.agg [.ps .opt (s117.F l29), vi i30, vb b31, vi i32]]⟩), (11509, ⟨0, 58, 4, false, true, s23.F l6⟩), (12509, ⟨0, 32, 1, false, true, s24.F l33⟩)], 1⟩ [(9, [2])] [(3, [24]), (4, [24]), (5, [24])] (by kernel_rfl) (by kernel_rfl) ?_
    refine WD_end (by kernel_rfl) (by kernel_rfl) (by kernel_rfl) ?_
    refine Wk_done ?_
    refine aW [2, 3, 4] ⟨[(2, .box 2 0 0 0), (3, vi x49.At), (4, vi 2)], [(2, ⟨0, 26, 2, true, false, [.agg [.ps .nil [], .ps .nil []]]⟩), (9, ⟨0, 26, 2, true, false, [.agg [vo 11509 0 (s23.F l6), vo 12509 0 (s24.F l33)]]⟩), (24, ⟨0, 122, 4, true, false, [.agg [.ps .opt (s117.F l29), vi i30, vb b31, vi i32]]⟩), (11509, ⟨0, 58, 4, false, true, s23.F l6⟩), (12509, ⟨0, 32, 1, false, true, s24.F l33⟩)], 1⟩ ?_
    refine WA_weak (Weak_leH [(2, .box 2 0 0 0), (3, vi x49.At), (4, vi 2)] [(2, ⟨0, 26, 2, true, false, [eProg (Prog.mk [] [])]⟩), (9, ⟨0, 26, 2, true, false, [.agg [vo 11509 0 (s23.F l6), vo 12509 0 (s24.F l33)]]⟩), (24, ⟨0, 122, 4, true, false, [.agg [.ps .opt (s117.F l29), vi i30, vb b31, vi i32]]⟩), (11509, ⟨0, 58, 4, false, true, s23.F l6⟩), (12509, ⟨0, 32, 1, false, true, s24.F l33⟩)] (by kernel_rfl) ⟨VLf.refl _, VLf.refl _, VLf.refl _, trivial⟩ ⟨rfl, .inr (.inl ⟨rfl, rfl, CLe.agg ⟨(VLe.f VLe.nil_opt rfl), (VLe.f VLe.nil_opt rfl), trivial⟩, trivial⟩), rfl, .inl rfl, rfl, .inl rfl, rfl, .inl rfl, rfl, .inl rfl, trivial⟩) ?_
    obtain rfl := Option.some.inj h
    exact rR [(2, 1000, 0)] ⟨[(2, .box 1000 0 0 0), (3, vi x49.At), (4, vi 2)], [(1000, ⟨0, 26, 2, true, false, [eProg (Prog.mk [] [])]⟩)], 1⟩ ⟨by kernel_rfl, rfl⟩
  intro hb; replace h := cfalse hb h
  refine WA_skip ?_
  refine Qz hT 4 [2, 3, 4] ⟨[(2, .box 2 0 0 0), (3, vi 0), (4, vi 0)], [(2, ⟨0, 26, 2, true, false, [.agg [vo 11509 0 (s23.F l6), vo 12509 0 (s24.F l33)]]⟩), (9, ⟨0, 26, 2, true, false, [.agg [vo 11509 0 (s23.F l6), vo 12509 0 (s24.F l33)]]⟩), (24, ⟨0, 122, 4, true, false, [.agg [.ps .opt (s117.F l29), vi i30, vb b31, vi i32]]⟩), (11509, ⟨0, 58, 4, false, true, s23.F l6⟩), (12509, ⟨0, 32, 1, false, true, s24.F l33⟩)], 1⟩ ?_
  refine aW [2, 3, 4] ⟨[(2, .box 2 0 0 0), (3, vi 0), (4, vi 0)], [(2, ⟨0, 26, 2, true, false, [.agg [vo 11509 0 (s23.F l6), vo 12509 0 (s24.F l33)]]⟩), (9, ⟨0, 26, 2, true, false, [.agg [vo 11509 0 (s23.F l6), vo 12509 0 (s24.F l33)]]⟩), (24, ⟨0, 122, 4, true, false, [.agg [.ps .opt (s117.F l29), vi i30, vb b31, vi i32]]⟩), (11509, ⟨0, 58, 4, false, true, s23.F l6⟩), (12509, ⟨0, 32, 1, false, true, s24.F l33⟩)], 1⟩ ?_
  refine WA_weak (Weak_frz 11509 0 ⟨0, 58, 4, false, true, s23.F l6⟩ (by kernel_rfl) rfl rfl [(2, .box 2 0 0 0), (3, vi 0), (4, vi 0)] [(2, ⟨0, 26, 2, true, false, [.agg [.ps .opt (s23.F l6), vo 12509 0 (s24.F l33)]]⟩), (9, ⟨0, 26, 2, true, false, [.agg [.ps .opt (s23.F l6), vo 12509 0 (s24.F l33)]]⟩), (24, ⟨0, 122, 4, true, false, [.agg [.ps .opt (s117.F l29), vi i30, vb b31, vi i32]]⟩), (12509, ⟨0, 32, 1, false, true, s24.F l33⟩)] ⟨rfl, .keep _, rfl, .keep _, rfl, .keep _, trivial⟩ ⟨rfl, .inr ⟨rfl, rfl, .aggs ⟨.hit true, .keep _, trivial⟩, trivial⟩, rfl, .inr ⟨rfl, rfl, .aggs ⟨.hit true, .keep _, trivial⟩, trivial⟩, rfl, .inl rfl, rfl, .inl rfl, trivial⟩) ?_
  refine WA_weak (Weak_frz 12509 0 ⟨0, 32, 1, false, true, s24.F l33⟩ (by kernel_rfl) rfl rfl [(2, .box 2 0 0 0), (3, vi 0), (4, vi 0)] [(2, ⟨0, 26, 2, true, false, [.agg [.ps .opt (s23.F l6), .ps .opt (s24.F l33)]]⟩), (9, ⟨0, 26, 2, true, false, [.agg [.ps .opt (s23.F l6), .ps .opt (s24.F l33)]]⟩), (24, ⟨0, 122, 4, true, false, [.agg [.ps .opt (s117.F l29), vi i30, vb b31, vi i32]]⟩)] ⟨rfl, .keep _, rfl, .keep _, rfl, .keep _, trivial⟩ ⟨rfl, .inr ⟨rfl, rfl, .aggs ⟨.keep _, .hit true, trivial⟩, trivial⟩, rfl, .inr ⟨rfl, rfl, .aggs ⟨.keep _, .hit true, trivial⟩, trivial⟩, rfl, .inl rfl, trivial⟩) ?_
  refine WA_weak (Weak_leH [(2, .box 2 0 0 0), (3, vi 0), (4, vi 0)] [(2, ⟨0, 26, 2, true, false, [eProg (Prog.mk l6 l33)]⟩), (9, ⟨0, 26, 2, true, false, [.agg [.ps .opt (s23.F l6), .ps .opt (s24.F l33)]]⟩), (24, ⟨0, 122, 4, true, false, [.agg [.ps .opt (s117.F l29), vi i30, vb b31, vi i32]]⟩)] (by kernel_rfl) ⟨VLf.refl _, VLf.refl _, VLf.refl _, trivial⟩ ⟨rfl, .inr (.inl ⟨rfl, rfl, CLe.agg ⟨VLf.refl _, VLf.refl _, trivial⟩, trivial⟩), rfl, .inl rfl, rfl, .inl rfl, trivial⟩) ?_
  obtain rfl := Option.some.inj h
  exact rR [(2, 1000, 0)] ⟨[(2, .box 1000 0 0 0), (3, vi 0), (4, vi 0)], [(1000, ⟨0, 26, 2, true, false, [eProg (Prog.mk l6 l33)]⟩)], 1⟩ ⟨by kernel_rfl, rfl⟩

theorem law22_read_ok {n : Nat} {a0 : ByteArray} {r : Prog} (h : law22_read n a0 = some r) : PT Try.prog 43 [vw a0] (eProg r) := by
  unfold law22_read at h
  refine PT_bodyA hT Try.func43 rfl (by kernel_rfl) fun bad w => ?_
  refine Qz hT 1 [0, 2] ⟨[(0, vw a0), (2, .box 2 0 0 0)], [(2, ⟨0, 26, 2, true, false, [.agg [.ps .nil [], .ps .nil []]]⟩)], 1⟩ ?_
  refine Qg hT 1 [2, 7] ⟨[(2, .box 2 0 0 0), (7, vw a0)], [(2, ⟨0, 26, 2, true, false, [.agg [.ps .nil [], .ps .nil []]]⟩)], 1⟩ ?_
  obtain ⟨r1, hr1, h⟩ := bsome h
  refine Pt en65 (ref1_Parse_ok hr1) ?_
  refine Sz hT 8 [2, 3] ⟨[(2, .box 2 0 0 0), (3, .box 3 1 0 0)], [(3, ⟨1, 26, 2, true, false, [eProg r1.1]⟩), (2, ⟨0, 26, 2, true, false, [.agg [.ps .nil [], .ps .nil []]]⟩)], 2⟩ ?_
  refine Qz hT 2 [2] ⟨[(2, .box 2 0 0 0)], [(2, ⟨0, 26, 2, true, false, [eProg r1.1]⟩), (3, ⟨1, 26, 2, true, false, [eProg r1.1]⟩)], 2⟩ ?_
  obtain rfl := Option.some.inj h
  exact rK [2] [(2, 1000, 0)] ⟨[(2, .box 1000 0 0 0)], [(1000, ⟨0, 26, 2, true, false, [eProg r1.1]⟩)], 1⟩ ⟨by kernel_rfl, rfl⟩

def cost_weigh_94_o_spec (n : Nat) : Prop := (∀ {a0 : List Int} {a1 : List Stmt} {a2 : Int} {r : List Int}, cost_weigh_94_o n a0 a1 a2 = some r → GO Try.prog 94 [(0, ⟨0, 3, 1, false, true, s30.F a0⟩)] [vo 0 0 (s30.F a0), .ps .opt (s32.F a1), vi a2] (vo 100 1 (s30.F r)) [(100, ⟨1, 3, 1, false, true, s30.F r⟩)])
theorem cost_weigh_94_o_step (n : Nat) (ih : ∀ m, m < n → cost_weigh_94_o_spec m) : ∀ {a0 : List Int} {a1 : List Stmt} {a2 : Int} {r : List Int}, cost_weigh_94_o n a0 a1 a2 = some r → GO Try.prog 94 [(0, ⟨0, 3, 1, false, true, s30.F a0⟩)] [vo 0 0 (s30.F a0), .ps .opt (s32.F a1), vi a2] (vo 100 1 (s30.F r)) [(100, ⟨1, 3, 1, false, true, s30.F r⟩)] := by
  intro a0 a1 a2 r h
  rcases n with _ | n
  · rw [cost_weigh_94_o] at h; cases h
  rw [cost_weigh_94_o] at h
  refine GO_bodyA hT Try.func94 rfl [] (by kernel_rfl) fun bad w m => ?_
  refine Qz hT 1 [0, 1, 2] ⟨[(0, vo 0 0 (s30.F a0)), (1, .ps .opt (s32.F a1)), (2, vi a2)], [(0, ⟨0, 3, 1, false, true, s30.F a0⟩)], 1⟩ ?_
  refine WA_seq ?_
  refine Qg hT 1 [0, 2, 10] ⟨[(0, vo 0 0 (s30.F a0)), (2, vi a2), (10, .ps .opt (s32.F a1))], [(0, ⟨0, 3, 1, false, true, s30.F a0⟩)], 1⟩ ?_
  refine One hT rfl (ev_len s32 .opt a1 (by kernel_rfl)) ?_
  refine Sz hT 1 [0, 2, 10, 11, 12] ⟨[(0, vo 0 0 (s30.F a0)), (2, vi a2), (10, .ps .opt (s32.F a1)), (11, vi (ln a1)), (12, vi 0)], [(0, ⟨0, 3, 1, false, true, s30.F a0⟩)], 1⟩ ?_
  refine WA_block ?_
  refine lK [0, 2, 10, 11, 12] [(0, 10000, 1)] (fun k s => ∃ q, q ≤ k ∧ q ≤ n ∧ ∃ (l1 : List Int), ∃ (i2 : Int), cost_weigh_94_o_L0 q a0 a1 a2 l1 i2 = some r ∧ s = ⟨[(0, vo 10000 1 (s30.F l1)), (2, vi a2), (10, .ps .opt (s32.F a1)), (11, vi (ln a1)), (12, vi i2)], [(10000, ⟨1, 3, 1, false, true, s30.F l1⟩)], 2⟩) n ⟨n, Nat.le_refl _, Nat.le_refl _, a0, 0, h, rfl⟩ (by rintro s ⟨q, hq, _, l1, i2, h, _⟩; obtain rfl := Nat.le_zero.1 hq; rw [cost_weigh_94_o_L0] at h; cases h) ?_
  clear h
  rintro k1 s ⟨q1, hk1, hn1, l1, i2, h, rfl⟩
  rcases q1 with _ | q1
  · rw [cost_weigh_94_o_L0] at h; cases h
  rw [cost_weigh_94_o_L0] at h
  refine Qz hT 1 [0, 2, 10, 11, 12, 13] ⟨[(0, vo 10000 1 (s30.F l1)), (2, vi a2), (10, .ps .opt (s32.F a1)), (11, vi (ln a1)), (12, vi i2), (13, vb (decide (i2 < (ln a1))))], [(10000, ⟨1, 3, 1, false, true, s30.F l1⟩)], 2⟩ ?_
  refine WA_seq ?_
  refine Cd (decide (i2 < (ln a1))) ?_ ?_
  · intro hb; replace h := ctrue hb h
    refine WA_skip ?_
    refine WA_seq ?_
    refine WA_block ?_
    refine Qg hT 0 [0, 2, 10, 11, 12] ⟨[(0, vo 10000 1 (s30.F l1)), (2, vi a2), (10, .ps .opt (s32.F a1)), (11, vi (ln a1)), (12, vi i2)], [(10000, ⟨1, 3, 1, false, true, s30.F l1⟩)], 2⟩ ?_
    obtain ⟨x3, hx3, h⟩ := bsome h
    refine One hT rfl (ev_index s32 .opt a1 .i64 i2 hx3 (by decide) (by kernel_rfl) (by kernel_rfl)) ?_
    refine Sz hT 3 [0, 2, 8, 10, 11, 12] ⟨[(0, vo 10000 1 (s30.F l1)), (2, vi a2), (8, .box 8 2 0 0), (10, .ps .opt (s32.F a1)), (11, vi (ln a1)), (12, vi i2)], [(8, ⟨2, 38, 11, true, false, [eStmt x3]⟩), (10000, ⟨1, 3, 1, false, true, s30.F l1⟩)], 3⟩ ?_
    refine Qg hT 3 [2, 8, 10, 11, 12, 16, 18] ⟨[(2, vi a2), (8, .box 8 2 0 0), (10, .ps .opt (s32.F a1)), (11, vi (ln a1)), (12, vi i2), (16, vo 10000 1 (s30.F l1)), (18, vo 18 3 (s30.F [a2]))], [(18, ⟨3, 3, 1, false, false, s30.F [a2]⟩), (8, ⟨2, 38, 11, true, false, [eStmt x3]⟩), (10000, ⟨1, 3, 1, false, true, s30.F l1⟩)], 4⟩ ?_
    obtain ⟨g4, h⟩ := gsome h
    refine WO_append hT s30 rfl (by kernel_rfl) 10000 1 true l1 [a2] rfl (by kernel_rfl) (by kernel_rfl) (elems_own s30 18 3 true ⟨3, 3, 1, false, false, s30.F [a2]⟩ [a2] (by kernel_rfl) (by kernel_rfl) rfl rfl rfl) g4 (by kernel_rfl) ?_
    refine Sz hT 1 [0, 2, 8, 10, 11, 12] ⟨[(0, vo 19 4 (s30.F (l1 ++ [a2]))), (2, vi a2), (8, .box 8 2 0 0), (10, .ps .opt (s32.F a1)), (11, vi (ln a1)), (12, vi i2)], [(19, ⟨4, 3, 1, false, true, s30.F (l1 ++ [a2])⟩), (18, ⟨3, 3, 1, false, false, s30.F [a2]⟩), (8, ⟨2, 38, 11, true, false, [eStmt x3]⟩)], 5⟩ ?_
    refine Qz hT 2 [0, 2, 8, 9, 10, 11, 12] ⟨[(0, vo 19 4 (s30.F (l1 ++ [a2]))), (2, vi a2), (8, .box 8 2 0 0), (9, vi a2), (10, .ps .opt (s32.F a1)), (11, vi (ln a1)), (12, vi i2)], [(19, ⟨4, 3, 1, false, true, s30.F (l1 ++ [a2])⟩), (18, ⟨3, 3, 1, false, false, s30.F [a2]⟩), (8, ⟨2, 38, 11, true, false, [eStmt x3]⟩)], 5⟩ ?_
    refine WA_seq ?_
    refine Qz hT 3 [0, 2, 8, 9, 10, 11, 12, 23] ⟨[(0, vo 19 4 (s30.F (l1 ++ [a2]))), (2, vi a2), (8, .box 8 2 0 0), (9, vi a2), (10, .ps .opt (s32.F a1)), (11, vi (ln a1)), (12, vi i2), (23, vb (x3.Kind == 8))], [(19, ⟨4, 3, 1, false, true, s30.F (l1 ++ [a2])⟩), (18, ⟨3, 3, 1, false, false, s30.F [a2]⟩), (8, ⟨2, 38, 11, true, false, [eStmt x3]⟩)], 5⟩ ?_
    obtain ⟨J6, hJ6, h⟩ := jsome h
    refine WA_join (fun s => ∃ (i5 : Int), J6 i5 = some r ∧ s = ⟨[(0, vo 19 1 (s30.F (l1 ++ [a2]))), (2, vi a2), (8, .box 8 1 0 0), (9, vi i5), (10, .ps .opt (s32.F a1)), (11, vi (ln a1)), (12, vi i2)], [(8, ⟨1, 38, 11, true, false, [eStmt x3]⟩), (19, ⟨1, 3, 1, false, true, s30.F (l1 ++ [a2])⟩)], 2⟩) ?_ ?_
    · refine Cd (x3.Kind == 8) ?_ ?_
      · intro hb; replace h := ctrue hb h
        refine Rg hT 5 [0, 2, 8, 9, 10, 11, 12] ⟨[(0, vo 19 4 (s30.F (l1 ++ [a2]))), (2, vi a2), (8, .box 8 2 0 0), (9, vi (wr (a2 * x3.N))), (10, .ps .opt (s32.F a1)), (11, vi (ln a1)), (12, vi i2)], [(19, ⟨4, 3, 1, false, true, s30.F (l1 ++ [a2])⟩), (18, ⟨3, 3, 1, false, false, s30.F [a2]⟩), (8, ⟨2, 38, 11, true, false, [eStmt x3]⟩)], 5⟩ ?_
        exact oK [0, 2, 8, 9, 10, 11, 12] [(8, 8, 1), (19, 19, 1)] ⟨wr (a2 * x3.N), h, rfl⟩
      intro hb; replace h := cfalse hb h
      exact sK [0, 2, 8, 9, 10, 11, 12] [(8, 8, 1), (19, 19, 1)] ⟨a2, h, rfl⟩
    subst hJ6
    rintro s ⟨i5, h, rfl⟩
    skip
    refine WA_drawW hT hM (by kernel_rfl) ?_
    refine WD_seg 4 ⟨[(31, vi i5), (30, .ps .opt (s32.F x3.Body)), (29, .box 8 1 0 8), (28, vo 19 1 (s30.F (l1 ++ [a2]))), (0, vo 19 1 (s30.F (l1 ++ [a2]))), (2, vi a2), (8, .box 8 1 0 0), (9, vi i5), (10, .ps .opt (s32.F a1)), (11, vi (ln a1)), (12, vi i2)], [(8, ⟨1, 38, 11, true, false, [eStmt x3]⟩), (19, ⟨1, 3, 1, false, true, s30.F (l1 ++ [a2])⟩)], 2⟩ [] [(1, [8]), (2, [8])] (by kernel_rfl) (by kernel_rfl) ?_
    obtain ⟨r7, hr7, h⟩ := bsome h
    refine WD_go rfl (by kernel_rfl) (by kernel_rfl) [(0, ⟨0, 3, 1, false, true, s30.F (l1 ++ [a2])⟩)] [(100, ⟨1, 3, 1, false, true, s30.F r7⟩)] [vo 19 1 (s30.F (l1 ++ [a2])), .ps .opt (s32.F x3.Body), vi i5] [vo 0 0 (s30.F (l1 ++ [a2])), .ps .opt (s32.F x3.Body), vi i5] [(19, 0, 0)] [(100, 32, 2)] [(32, ⟨2, 3, 1, false, true, s30.F r7⟩)] (vo 100 1 (s30.F r7)) (vo 32 2 (s30.F r7)) 3 rfl (by kernel_rfl) en94 (by kernel_rfl) (by kernel_rfl) (by kernel_rfl) ((ih _ (by omega)) hr7) (by kernel_rfl) (by kernel_rfl) (by kernel_rfl) (by kernel_rfl) ?_
    refine WD_seg 3 ⟨[(35, vi i5), (34, .ps .opt (s32.F x3.Else)), (33, .box 8 1 0 9), (32, vo 32 2 (s30.F r7)), (31, vi i5), (30, .ps .opt (s32.F x3.Body)), (29, .box 8 1 0 8), (28, vo 19 1 (s30.F (l1 ++ [a2]))), (0, vo 19 1 (s30.F (l1 ++ [a2]))), (2, vi a2), (8, .box 8 1 0 0), (9, vi i5), (10, .ps .opt (s32.F a1)), (11, vi (ln a1)), (12, vi i2)], [(32, ⟨2, 3, 1, false, true, s30.F r7⟩), (8, ⟨1, 38, 11, true, false, [eStmt x3]⟩)], 3⟩ [(4, [32, 19])] [(1, [8]), (2, [8]), (5, [8]), (6, [8])] (by kernel_rfl) (by kernel_rfl) ?_
    obtain ⟨r8, hr8, h⟩ := bsome h
    refine WD_go rfl (by kernel_rfl) (by kernel_rfl) [(0, ⟨0, 3, 1, false, true, s30.F r7⟩)] [(100, ⟨1, 3, 1, false, true, s30.F r8⟩)] [vo 32 2 (s30.F r7), .ps .opt (s32.F x3.Else), vi i5] [vo 0 0 (s30.F r7), .ps .opt (s32.F x3.Else), vi i5] [(32, 0, 0)] [(100, 36, 3)] [(36, ⟨3, 3, 1, false, true, s30.F r8⟩)] (vo 100 1 (s30.F r8)) (vo 36 3 (s30.F r8)) 4 rfl (by kernel_rfl) en94 (by kernel_rfl) (by kernel_rfl) (by kernel_rfl) ((ih _ (by omega)) hr8) (by kernel_rfl) (by kernel_rfl) (by kernel_rfl) (by kernel_rfl) ?_
    refine WD_seg 1 ⟨[(0, vo 36 3 (s30.F r8)), (36, vo 36 3 (s30.F r8)), (35, vi i5), (34, .ps .opt (s32.F x3.Else)), (33, .box 8 1 0 9), (32, vo 32 2 (s30.F r7)), (31, vi i5), (30, .ps .opt (s32.F x3.Body)), (29, .box 8 1 0 8), (28, vo 19 1 (s30.F (l1 ++ [a2]))), (0, vo 19 1 (s30.F (l1 ++ [a2]))), (2, vi a2), (8, .box 8 1 0 0), (9, vi i5), (10, .ps .opt (s32.F a1)), (11, vi (ln a1)), (12, vi i2)], [(36, ⟨3, 3, 1, false, true, s30.F r8⟩), (8, ⟨1, 38, 11, true, false, [eStmt x3]⟩)], 4⟩ [(4, [32, 19]), (8, [36, 32])] [(1, [8]), (2, [8]), (5, [8]), (6, [8])] (by kernel_rfl) (by kernel_rfl) ?_
    refine WD_end (by kernel_rfl) (by kernel_rfl) (by kernel_rfl) ?_
    refine Wk_done ?_
    refine Rg hT 2 [0, 2, 10, 11, 12] ⟨[(0, vo 36 3 (s30.F r8)), (2, vi a2), (10, .ps .opt (s32.F a1)), (11, vi (ln a1)), (12, vi (wr (i2 + 1)))], [(36, ⟨3, 3, 1, false, true, s30.F r8⟩), (8, ⟨1, 38, 11, true, false, [eStmt x3]⟩)], 4⟩ ?_
    exact oK [0, 2, 10, 11, 12] [(36, 10000, 1)] ⟨_, by omega, by omega, r8, wr (i2 + 1), h, rfl⟩
  intro hb; replace h := cfalse hb h
  refine WA_exit ?_
  refine Qz hT 2 [6] ⟨[(6, vo 10000 1 (s30.F l1))], [(10000, ⟨1, 3, 1, false, true, s30.F l1⟩)], 2⟩ ?_
  obtain rfl := Option.some.inj h
  exact rK [6] [(10000, 100, 1)] ⟨[(6, vo 100 1 (s30.F l1))], [(100, ⟨1, 3, 1, false, true, s30.F l1⟩)], 2⟩ ⟨by kernel_rfl, by kernel_rfl, rfl⟩
theorem cost_weigh_94_o_all (n : Nat) : cost_weigh_94_o_spec n := by
  induction n using Nat.strongRecOn with
  | _ n ih => exact cost_weigh_94_o_step n ih
theorem cost_weigh_94_o_ok {n : Nat} {a0 : List Int} {a1 : List Stmt} {a2 : Int} {r : List Int} (h : cost_weigh_94_o n a0 a1 a2 = some r) : GO Try.prog 94 [(0, ⟨0, 3, 1, false, true, s30.F a0⟩)] [vo 0 0 (s30.F a0), .ps .opt (s32.F a1), vi a2] (vo 100 1 (s30.F r)) [(100, ⟨1, 3, 1, false, true, s30.F r⟩)] := (cost_weigh_94_o_all n) h

theorem cost_weigh_94_n_ok {n : Nat} {a1 : List Stmt} {a2 : Int} {r : List Int} (h : cost_weigh_94_n n a1 a2 = some r) : GO Try.prog 94 [] [.ps .nil [], .ps .opt (s32.F a1), vi a2] (vo 100 1 (s30.F r)) [(100, ⟨1, 3, 1, false, true, s30.F r⟩)] := by
  unfold cost_weigh_94_n at h
  refine GO_bodyA hT Try.func94 rfl [] (by kernel_rfl) fun bad w m => ?_
  refine Qz hT 1 [0, 1, 2] ⟨[(0, .ps .nil []), (1, .ps .opt (s32.F a1)), (2, vi a2)], [], 1⟩ ?_
  refine WA_seq ?_
  refine Qg hT 1 [0, 2, 10] ⟨[(0, .ps .nil []), (2, vi a2), (10, .ps .opt (s32.F a1))], [], 1⟩ ?_
  refine One hT rfl (ev_len s32 .opt a1 (by kernel_rfl)) ?_
  refine Sz hT 1 [0, 2, 10, 11, 12] ⟨[(0, .ps .nil []), (2, vi a2), (10, .ps .opt (s32.F a1)), (11, vi (ln a1)), (12, vi 0)], [], 1⟩ ?_
  refine WA_block ?_
  refine aW [0, 2, 10, 11, 12] ⟨[(0, .ps .nil []), (2, vi a2), (10, .ps .opt (s32.F a1)), (11, vi (ln a1)), (12, vi 0)], [], 1⟩ ?_
  refine WA_weak (Weak_own 0 5000 3 1 (by kernel_rfl) (by kernel_rfl) (by kernel_rfl) (by kernel_rfl)) ?_
  refine lK [0, 2, 10, 11, 12] [(5000, 10000, 1)] (fun k s => ∃ q, q ≤ k ∧ q ≤ n ∧ ∃ (l1 : List Int), ∃ (i2 : Int), cost_weigh_94_n_L0 q a1 a2 l1 i2 = some r ∧ s = ⟨[(0, vo 10000 1 (s30.F l1)), (2, vi a2), (10, .ps .opt (s32.F a1)), (11, vi (ln a1)), (12, vi i2)], [(10000, ⟨1, 3, 1, false, true, s30.F l1⟩)], 2⟩) n ⟨n, Nat.le_refl _, Nat.le_refl _, ([] : List Int), 0, h, rfl⟩ (by rintro s ⟨q, hq, _, l1, i2, h, _⟩; obtain rfl := Nat.le_zero.1 hq; rw [cost_weigh_94_n_L0] at h; cases h) ?_
  clear h
  rintro k1 s ⟨q1, hk1, hn1, l1, i2, h, rfl⟩
  rcases q1 with _ | q1
  · rw [cost_weigh_94_n_L0] at h; cases h
  rw [cost_weigh_94_n_L0] at h
  refine Qz hT 1 [0, 2, 10, 11, 12, 13] ⟨[(0, vo 10000 1 (s30.F l1)), (2, vi a2), (10, .ps .opt (s32.F a1)), (11, vi (ln a1)), (12, vi i2), (13, vb (decide (i2 < (ln a1))))], [(10000, ⟨1, 3, 1, false, true, s30.F l1⟩)], 2⟩ ?_
  refine WA_seq ?_
  refine Cd (decide (i2 < (ln a1))) ?_ ?_
  · intro hb; replace h := ctrue hb h
    refine WA_skip ?_
    refine WA_seq ?_
    refine WA_block ?_
    refine Qg hT 0 [0, 2, 10, 11, 12] ⟨[(0, vo 10000 1 (s30.F l1)), (2, vi a2), (10, .ps .opt (s32.F a1)), (11, vi (ln a1)), (12, vi i2)], [(10000, ⟨1, 3, 1, false, true, s30.F l1⟩)], 2⟩ ?_
    obtain ⟨x3, hx3, h⟩ := bsome h
    refine One hT rfl (ev_index s32 .opt a1 .i64 i2 hx3 (by decide) (by kernel_rfl) (by kernel_rfl)) ?_
    refine Sz hT 3 [0, 2, 8, 10, 11, 12] ⟨[(0, vo 10000 1 (s30.F l1)), (2, vi a2), (8, .box 8 2 0 0), (10, .ps .opt (s32.F a1)), (11, vi (ln a1)), (12, vi i2)], [(8, ⟨2, 38, 11, true, false, [eStmt x3]⟩), (10000, ⟨1, 3, 1, false, true, s30.F l1⟩)], 3⟩ ?_
    refine Qg hT 3 [2, 8, 10, 11, 12, 16, 18] ⟨[(2, vi a2), (8, .box 8 2 0 0), (10, .ps .opt (s32.F a1)), (11, vi (ln a1)), (12, vi i2), (16, vo 10000 1 (s30.F l1)), (18, vo 18 3 (s30.F [a2]))], [(18, ⟨3, 3, 1, false, false, s30.F [a2]⟩), (8, ⟨2, 38, 11, true, false, [eStmt x3]⟩), (10000, ⟨1, 3, 1, false, true, s30.F l1⟩)], 4⟩ ?_
    obtain ⟨g4, h⟩ := gsome h
    refine WO_append hT s30 rfl (by kernel_rfl) 10000 1 true l1 [a2] rfl (by kernel_rfl) (by kernel_rfl) (elems_own s30 18 3 true ⟨3, 3, 1, false, false, s30.F [a2]⟩ [a2] (by kernel_rfl) (by kernel_rfl) rfl rfl rfl) g4 (by kernel_rfl) ?_
    refine Sz hT 1 [0, 2, 8, 10, 11, 12] ⟨[(0, vo 19 4 (s30.F (l1 ++ [a2]))), (2, vi a2), (8, .box 8 2 0 0), (10, .ps .opt (s32.F a1)), (11, vi (ln a1)), (12, vi i2)], [(19, ⟨4, 3, 1, false, true, s30.F (l1 ++ [a2])⟩), (18, ⟨3, 3, 1, false, false, s30.F [a2]⟩), (8, ⟨2, 38, 11, true, false, [eStmt x3]⟩)], 5⟩ ?_
    refine Qz hT 2 [0, 2, 8, 9, 10, 11, 12] ⟨[(0, vo 19 4 (s30.F (l1 ++ [a2]))), (2, vi a2), (8, .box 8 2 0 0), (9, vi a2), (10, .ps .opt (s32.F a1)), (11, vi (ln a1)), (12, vi i2)], [(19, ⟨4, 3, 1, false, true, s30.F (l1 ++ [a2])⟩), (18, ⟨3, 3, 1, false, false, s30.F [a2]⟩), (8, ⟨2, 38, 11, true, false, [eStmt x3]⟩)], 5⟩ ?_
    refine WA_seq ?_
    refine Qz hT 3 [0, 2, 8, 9, 10, 11, 12, 23] ⟨[(0, vo 19 4 (s30.F (l1 ++ [a2]))), (2, vi a2), (8, .box 8 2 0 0), (9, vi a2), (10, .ps .opt (s32.F a1)), (11, vi (ln a1)), (12, vi i2), (23, vb (x3.Kind == 8))], [(19, ⟨4, 3, 1, false, true, s30.F (l1 ++ [a2])⟩), (18, ⟨3, 3, 1, false, false, s30.F [a2]⟩), (8, ⟨2, 38, 11, true, false, [eStmt x3]⟩)], 5⟩ ?_
    obtain ⟨J6, hJ6, h⟩ := jsome h
    refine WA_join (fun s => ∃ (i5 : Int), J6 i5 = some r ∧ s = ⟨[(0, vo 19 1 (s30.F (l1 ++ [a2]))), (2, vi a2), (8, .box 8 1 0 0), (9, vi i5), (10, .ps .opt (s32.F a1)), (11, vi (ln a1)), (12, vi i2)], [(8, ⟨1, 38, 11, true, false, [eStmt x3]⟩), (19, ⟨1, 3, 1, false, true, s30.F (l1 ++ [a2])⟩)], 2⟩) ?_ ?_
    · refine Cd (x3.Kind == 8) ?_ ?_
      · intro hb; replace h := ctrue hb h
        refine Rg hT 5 [0, 2, 8, 9, 10, 11, 12] ⟨[(0, vo 19 4 (s30.F (l1 ++ [a2]))), (2, vi a2), (8, .box 8 2 0 0), (9, vi (wr (a2 * x3.N))), (10, .ps .opt (s32.F a1)), (11, vi (ln a1)), (12, vi i2)], [(19, ⟨4, 3, 1, false, true, s30.F (l1 ++ [a2])⟩), (18, ⟨3, 3, 1, false, false, s30.F [a2]⟩), (8, ⟨2, 38, 11, true, false, [eStmt x3]⟩)], 5⟩ ?_
        exact oK [0, 2, 8, 9, 10, 11, 12] [(8, 8, 1), (19, 19, 1)] ⟨wr (a2 * x3.N), h, rfl⟩
      intro hb; replace h := cfalse hb h
      exact sK [0, 2, 8, 9, 10, 11, 12] [(8, 8, 1), (19, 19, 1)] ⟨a2, h, rfl⟩
    subst hJ6
    rintro s ⟨i5, h, rfl⟩
    skip
    refine WA_drawW hT hM (by kernel_rfl) ?_
    refine WD_seg 4 ⟨[(31, vi i5), (30, .ps .opt (s32.F x3.Body)), (29, .box 8 1 0 8), (28, vo 19 1 (s30.F (l1 ++ [a2]))), (0, vo 19 1 (s30.F (l1 ++ [a2]))), (2, vi a2), (8, .box 8 1 0 0), (9, vi i5), (10, .ps .opt (s32.F a1)), (11, vi (ln a1)), (12, vi i2)], [(8, ⟨1, 38, 11, true, false, [eStmt x3]⟩), (19, ⟨1, 3, 1, false, true, s30.F (l1 ++ [a2])⟩)], 2⟩ [] [(1, [8]), (2, [8])] (by kernel_rfl) (by kernel_rfl) ?_
    obtain ⟨r7, hr7, h⟩ := bsome h
    refine WD_go rfl (by kernel_rfl) (by kernel_rfl) [(0, ⟨0, 3, 1, false, true, s30.F (l1 ++ [a2])⟩)] [(100, ⟨1, 3, 1, false, true, s30.F r7⟩)] [vo 19 1 (s30.F (l1 ++ [a2])), .ps .opt (s32.F x3.Body), vi i5] [vo 0 0 (s30.F (l1 ++ [a2])), .ps .opt (s32.F x3.Body), vi i5] [(19, 0, 0)] [(100, 32, 2)] [(32, ⟨2, 3, 1, false, true, s30.F r7⟩)] (vo 100 1 (s30.F r7)) (vo 32 2 (s30.F r7)) 3 rfl (by kernel_rfl) en94 (by kernel_rfl) (by kernel_rfl) (by kernel_rfl) (cost_weigh_94_o_ok hr7) (by kernel_rfl) (by kernel_rfl) (by kernel_rfl) (by kernel_rfl) ?_
    refine WD_seg 3 ⟨[(35, vi i5), (34, .ps .opt (s32.F x3.Else)), (33, .box 8 1 0 9), (32, vo 32 2 (s30.F r7)), (31, vi i5), (30, .ps .opt (s32.F x3.Body)), (29, .box 8 1 0 8), (28, vo 19 1 (s30.F (l1 ++ [a2]))), (0, vo 19 1 (s30.F (l1 ++ [a2]))), (2, vi a2), (8, .box 8 1 0 0), (9, vi i5), (10, .ps .opt (s32.F a1)), (11, vi (ln a1)), (12, vi i2)], [(32, ⟨2, 3, 1, false, true, s30.F r7⟩), (8, ⟨1, 38, 11, true, false, [eStmt x3]⟩)], 3⟩ [(4, [32, 19])] [(1, [8]), (2, [8]), (5, [8]), (6, [8])] (by kernel_rfl) (by kernel_rfl) ?_
    obtain ⟨r8, hr8, h⟩ := bsome h
    refine WD_go rfl (by kernel_rfl) (by kernel_rfl) [(0, ⟨0, 3, 1, false, true, s30.F r7⟩)] [(100, ⟨1, 3, 1, false, true, s30.F r8⟩)] [vo 32 2 (s30.F r7), .ps .opt (s32.F x3.Else), vi i5] [vo 0 0 (s30.F r7), .ps .opt (s32.F x3.Else), vi i5] [(32, 0, 0)] [(100, 36, 3)] [(36, ⟨3, 3, 1, false, true, s30.F r8⟩)] (vo 100 1 (s30.F r8)) (vo 36 3 (s30.F r8)) 4 rfl (by kernel_rfl) en94 (by kernel_rfl) (by kernel_rfl) (by kernel_rfl) (cost_weigh_94_o_ok hr8) (by kernel_rfl) (by kernel_rfl) (by kernel_rfl) (by kernel_rfl) ?_
    refine WD_seg 1 ⟨[(0, vo 36 3 (s30.F r8)), (36, vo 36 3 (s30.F r8)), (35, vi i5), (34, .ps .opt (s32.F x3.Else)), (33, .box 8 1 0 9), (32, vo 32 2 (s30.F r7)), (31, vi i5), (30, .ps .opt (s32.F x3.Body)), (29, .box 8 1 0 8), (28, vo 19 1 (s30.F (l1 ++ [a2]))), (0, vo 19 1 (s30.F (l1 ++ [a2]))), (2, vi a2), (8, .box 8 1 0 0), (9, vi i5), (10, .ps .opt (s32.F a1)), (11, vi (ln a1)), (12, vi i2)], [(36, ⟨3, 3, 1, false, true, s30.F r8⟩), (8, ⟨1, 38, 11, true, false, [eStmt x3]⟩)], 4⟩ [(4, [32, 19]), (8, [36, 32])] [(1, [8]), (2, [8]), (5, [8]), (6, [8])] (by kernel_rfl) (by kernel_rfl) ?_
    refine WD_end (by kernel_rfl) (by kernel_rfl) (by kernel_rfl) ?_
    refine Wk_done ?_
    refine Rg hT 2 [0, 2, 10, 11, 12] ⟨[(0, vo 36 3 (s30.F r8)), (2, vi a2), (10, .ps .opt (s32.F a1)), (11, vi (ln a1)), (12, vi (wr (i2 + 1)))], [(36, ⟨3, 3, 1, false, true, s30.F r8⟩), (8, ⟨1, 38, 11, true, false, [eStmt x3]⟩)], 4⟩ ?_
    exact oK [0, 2, 10, 11, 12] [(36, 10000, 1)] ⟨_, by omega, by omega, r8, wr (i2 + 1), h, rfl⟩
  intro hb; replace h := cfalse hb h
  refine WA_exit ?_
  refine Qz hT 2 [6] ⟨[(6, vo 10000 1 (s30.F l1))], [(10000, ⟨1, 3, 1, false, true, s30.F l1⟩)], 2⟩ ?_
  obtain rfl := Option.some.inj h
  exact rK [6] [(10000, 100, 1)] ⟨[(6, vo 100 1 (s30.F l1))], [(100, ⟨1, 3, 1, false, true, s30.F l1⟩)], 2⟩ ⟨by kernel_rfl, by kernel_rfl, rfl⟩

theorem Clip_64_ok {n : Nat} {a0 : List Int} {r : List Int} (h : Clip_64 n a0 = some r) : PT Try.prog 64 [.ps .opt (s30.F a0)] (.ps .fopt (s30.F r)) := by
  unfold Clip_64 at h
  refine PT_bodyA hT Try.func64 rfl (by kernel_rfl) fun bad w => ?_
  refine Qz hT 1 [0] ⟨[(0, .ps .opt (s30.F a0))], [], 0⟩ ?_
  refine Qg hT 2 [0, 3, 4] ⟨[(0, .ps .opt (s30.F a0)), (3, .ps .opt (s30.F a0)), (4, .ps .opt (s30.F a0))], [], 0⟩ ?_
  refine One hT rfl (ev_len s30 .opt a0 (by kernel_rfl)) ?_
  refine Sg hT 1 [3, 5, 6] ⟨[(3, .ps .opt (s30.F a0)), (5, vi (ln a0)), (6, .ps .opt (s30.F a0))], [], 0⟩ ?_
  refine One hT rfl (ev_len s30 .opt a0 (by kernel_rfl)) ?_
  refine Sg hT 0 [3, 5, 7] ⟨[(3, .ps .opt (s30.F a0)), (5, vi (ln a0)), (7, vi (ln a0))], [], 0⟩ ?_
  obtain ⟨l1, hl1, h⟩ := bsome h
  refine One hT rfl (ev_slice s30 .opt a0 0 (ln a0) (some (ln a0)) l1 .fopt hl1 (by kernel_rfl) (by kernel_rfl) (by kernel_rfl) (by kernel_rfl) (by intro y hy; cases hy; rfl) rfl rfl (by decide)) ?_
  refine Sz hT 1 [2] ⟨[(2, .ps .fopt (s30.F l1))], [], 0⟩ ?_
  obtain rfl := Option.some.inj h
  exact rK [2] [] ⟨[(2, .ps .fopt (s30.F l1))], [], 1⟩ ⟨by kernel_rfl, rfl⟩

theorem cost_Weights_ok {n : Nat} {a0 : Prog} {r : List Int} (h : cost_Weights n a0 = some r) : PT Try.prog 51 [eProg a0] (.ps .fopt (s30.F r)) := by
  unfold cost_Weights at h
  refine PT_bodyA hT Try.func51 rfl (by kernel_rfl) fun bad w => ?_
  refine Qz hT 2 [1] ⟨[(1, .box 1 0 0 0)], [(1, ⟨0, 26, 2, true, false, [eProg a0]⟩)], 1⟩ ?_
  refine Qz hT 1 [1, 3] ⟨[(1, .box 1 0 0 0), (3, .ps .nil [])], [(1, ⟨0, 26, 2, true, false, [eProg a0]⟩)], 1⟩ ?_
  refine WA_seq ?_
  refine Qg hT 2 [3, 7] ⟨[(3, .ps .nil []), (7, .ps .opt (s24.F a0.Threads))], [(1, ⟨0, 26, 2, true, false, [eProg a0]⟩)], 1⟩ ?_
  refine One hT rfl (ev_len s24 .opt a0.Threads (by kernel_rfl)) ?_
  refine Sz hT 1 [3, 7, 8, 9] ⟨[(3, .ps .nil []), (7, .ps .opt (s24.F a0.Threads)), (8, vi (ln a0.Threads)), (9, vi 0)], [(1, ⟨0, 26, 2, true, false, [eProg a0]⟩)], 1⟩ ?_
  refine WA_block ?_
  refine aW [3, 7, 8, 9] ⟨[(3, .ps .nil []), (7, .ps .opt (s24.F a0.Threads)), (8, vi (ln a0.Threads)), (9, vi 0)], [(1, ⟨0, 26, 2, true, false, [eProg a0]⟩)], 1⟩ ?_
  refine WA_weak (Weak_own 3 5000 3 1 (by kernel_rfl) (by kernel_rfl) (by kernel_rfl) (by kernel_rfl)) ?_
  refine lK [3, 7, 8, 9] [(5000, 10003, 0)] (fun k s => ∃ q, q ≤ k ∧ q ≤ n ∧ ∃ (l1 : List Int), ∃ (i2 : Int), cost_Weights_L0 q a0 l1 i2 = some r ∧ s = ⟨[(3, vo 10003 0 (s30.F l1)), (7, .ps .opt (s24.F a0.Threads)), (8, vi (ln a0.Threads)), (9, vi i2)], [(10003, ⟨0, 3, 1, false, true, s30.F l1⟩)], 1⟩) n ⟨n, Nat.le_refl _, Nat.le_refl _, ([] : List Int), 0, h, rfl⟩ (by rintro s ⟨q, hq, _, l1, i2, h, _⟩; obtain rfl := Nat.le_zero.1 hq; rw [cost_Weights_L0] at h; cases h) ?_
  clear h
  rintro k1 s ⟨q1, hk1, hn1, l1, i2, h, rfl⟩
  rcases q1 with _ | q1
  · rw [cost_Weights_L0] at h; cases h
  rw [cost_Weights_L0] at h
  refine Qz hT 1 [3, 7, 8, 9, 10] ⟨[(3, vo 10003 0 (s30.F l1)), (7, .ps .opt (s24.F a0.Threads)), (8, vi (ln a0.Threads)), (9, vi i2), (10, vb (decide (i2 < (ln a0.Threads))))], [(10003, ⟨0, 3, 1, false, true, s30.F l1⟩)], 1⟩ ?_
  refine WA_seq ?_
  refine Cd (decide (i2 < (ln a0.Threads))) ?_ ?_
  · intro hb; replace h := ctrue hb h
    refine WA_skip ?_
    refine WA_seq ?_
    refine WA_block ?_
    refine Qg hT 0 [3, 7, 8, 9] ⟨[(3, vo 10003 0 (s30.F l1)), (7, .ps .opt (s24.F a0.Threads)), (8, vi (ln a0.Threads)), (9, vi i2)], [(10003, ⟨0, 3, 1, false, true, s30.F l1⟩)], 1⟩ ?_
    obtain ⟨x3, hx3, h⟩ := bsome h
    refine One hT rfl (ev_index s24 .opt a0.Threads .i64 i2 hx3 (by decide) (by kernel_rfl) (by kernel_rfl)) ?_
    refine Sz hT 2 [3, 5, 7, 8, 9] ⟨[(3, vo 10003 0 (s30.F l1)), (5, .ps .opt (s32.F x3)), (7, .ps .opt (s24.F a0.Threads)), (8, vi (ln a0.Threads)), (9, vi i2)], [(10003, ⟨0, 3, 1, false, true, s30.F l1⟩)], 1⟩ ?_
    refine Rg hT 2 [7, 8, 9, 13, 14] ⟨[(7, .ps .opt (s24.F a0.Threads)), (8, vi (ln a0.Threads)), (9, vi i2), (13, vo 10003 0 (s30.F l1)), (14, .ps .opt (s32.F x3))], [(10003, ⟨0, 3, 1, false, true, s30.F l1⟩)], 1⟩ ?_
    obtain ⟨r4, hr4, h⟩ := bsome h
    refine WO_go rfl (by kernel_rfl) [(0, ⟨0, 3, 1, false, true, s30.F l1⟩)] [(100, ⟨1, 3, 1, false, true, s30.F r4⟩)] [vo 10003 0 (s30.F l1), .ps .opt (s32.F x3), vi 1] [vo 0 0 (s30.F l1), .ps .opt (s32.F x3), vi 1] [(10003, 0, 0)] [(100, 15, 1)] [(15, ⟨1, 3, 1, false, true, s30.F r4⟩)] (vo 100 1 (s30.F r4)) (vo 15 1 (s30.F r4)) 2 rfl (by kernel_rfl) en94 (by kernel_rfl) (by kernel_rfl) (by kernel_rfl) (cost_weigh_94_o_ok hr4) (by kernel_rfl) (by kernel_rfl) (by kernel_rfl) (by kernel_rfl) ?_
    refine Sz hT 1 [3, 7, 8, 9] ⟨[(3, vo 15 1 (s30.F r4)), (7, .ps .opt (s24.F a0.Threads)), (8, vi (ln a0.Threads)), (9, vi i2)], [(15, ⟨1, 3, 1, false, true, s30.F r4⟩)], 2⟩ ?_
    refine Rg hT 2 [3, 7, 8, 9] ⟨[(3, vo 15 1 (s30.F r4)), (7, .ps .opt (s24.F a0.Threads)), (8, vi (ln a0.Threads)), (9, vi (wr (i2 + 1)))], [(15, ⟨1, 3, 1, false, true, s30.F r4⟩)], 2⟩ ?_
    exact oK [3, 7, 8, 9] [(15, 10003, 0)] ⟨_, by omega, by omega, r4, wr (i2 + 1), h, rfl⟩
  intro hb; replace h := cfalse hb h
  refine WA_exit ?_
  refine Qg hT 1 [17] ⟨[(17, vo 10003 0 (s30.F l1))], [(10003, ⟨0, 3, 1, false, true, s30.F l1⟩)], 1⟩ ?_
  refine WO_weak (Weak_frz 10003 0 ⟨0, 3, 1, false, true, s30.F l1⟩ (by kernel_rfl) rfl rfl [(17, .ps .opt (s30.F l1))] [] ⟨rfl, .hit true, trivial⟩ trivial) ?_
  obtain ⟨r5, hr5, h⟩ := bsome h
  refine Pt en64 (Clip_64_ok hr5) ?_
  refine Sz hT 1 [2] ⟨[(2, .ps .fopt (s30.F r5))], [], 1⟩ ?_
  obtain rfl := Option.some.inj h
  exact rK [2] [] ⟨[(2, .ps .fopt (s30.F r5))], [], 1⟩ ⟨by kernel_rfl, rfl⟩

def tree_listed_109_o_spec (n : Nat) : Prop := (∀ {a0 : List Stmt} {a1 : List Stmt} {r : List Stmt}, tree_listed_109_o n a0 a1 = some r → GO Try.prog 109 [(0, ⟨0, 38, 11, false, true, s32.F a0⟩)] [vo 0 0 (s32.F a0), .ps .opt (s32.F a1)] (vo 100 1 (s32.F r)) [(100, ⟨1, 38, 11, false, true, s32.F r⟩)])
theorem tree_listed_109_o_step (n : Nat) (ih : ∀ m, m < n → tree_listed_109_o_spec m) : ∀ {a0 : List Stmt} {a1 : List Stmt} {r : List Stmt}, tree_listed_109_o n a0 a1 = some r → GO Try.prog 109 [(0, ⟨0, 38, 11, false, true, s32.F a0⟩)] [vo 0 0 (s32.F a0), .ps .opt (s32.F a1)] (vo 100 1 (s32.F r)) [(100, ⟨1, 38, 11, false, true, s32.F r⟩)] := by
  intro a0 a1 r h
  rcases n with _ | n
  · rw [tree_listed_109_o] at h; cases h
  rw [tree_listed_109_o] at h
  refine GO_bodyA hT Try.func109 rfl [] (by kernel_rfl) fun bad w m => ?_
  refine Qz hT 1 [0, 1] ⟨[(0, vo 0 0 (s32.F a0)), (1, .ps .opt (s32.F a1))], [(0, ⟨0, 38, 11, false, true, s32.F a0⟩)], 1⟩ ?_
  refine WA_seq ?_
  refine Qg hT 1 [0, 7] ⟨[(0, vo 0 0 (s32.F a0)), (7, .ps .opt (s32.F a1))], [(0, ⟨0, 38, 11, false, true, s32.F a0⟩)], 1⟩ ?_
  refine One hT rfl (ev_len s32 .opt a1 (by kernel_rfl)) ?_
  refine Sz hT 1 [0, 7, 8, 9] ⟨[(0, vo 0 0 (s32.F a0)), (7, .ps .opt (s32.F a1)), (8, vi (ln a1)), (9, vi 0)], [(0, ⟨0, 38, 11, false, true, s32.F a0⟩)], 1⟩ ?_
  refine WA_block ?_
  refine lK [0, 7, 8, 9] [(0, 10000, 1)] (fun k s => ∃ q, q ≤ k ∧ q ≤ n ∧ ∃ (l1 : List Stmt), ∃ (i2 : Int), tree_listed_109_o_L0 q a0 a1 l1 i2 = some r ∧ s = ⟨[(0, vo 10000 1 (s32.F l1)), (7, .ps .opt (s32.F a1)), (8, vi (ln a1)), (9, vi i2)], [(10000, ⟨1, 38, 11, false, true, s32.F l1⟩)], 2⟩) n ⟨n, Nat.le_refl _, Nat.le_refl _, a0, 0, h, rfl⟩ (by rintro s ⟨q, hq, _, l1, i2, h, _⟩; obtain rfl := Nat.le_zero.1 hq; rw [tree_listed_109_o_L0] at h; cases h) ?_
  clear h
  rintro k1 s ⟨q1, hk1, hn1, l1, i2, h, rfl⟩
  rcases q1 with _ | q1
  · rw [tree_listed_109_o_L0] at h; cases h
  rw [tree_listed_109_o_L0] at h
  refine Qz hT 1 [0, 7, 8, 9, 10] ⟨[(0, vo 10000 1 (s32.F l1)), (7, .ps .opt (s32.F a1)), (8, vi (ln a1)), (9, vi i2), (10, vb (decide (i2 < (ln a1))))], [(10000, ⟨1, 38, 11, false, true, s32.F l1⟩)], 2⟩ ?_
  refine WA_seq ?_
  refine Cd (decide (i2 < (ln a1))) ?_ ?_
  · intro hb; replace h := ctrue hb h
    refine WA_skip ?_
    refine WA_seq ?_
    refine WA_block ?_
    refine Qg hT 0 [0, 7, 8, 9] ⟨[(0, vo 10000 1 (s32.F l1)), (7, .ps .opt (s32.F a1)), (8, vi (ln a1)), (9, vi i2)], [(10000, ⟨1, 38, 11, false, true, s32.F l1⟩)], 2⟩ ?_
    obtain ⟨x3, hx3, h⟩ := bsome h
    refine One hT rfl (ev_index s32 .opt a1 .i64 i2 hx3 (by decide) (by kernel_rfl) (by kernel_rfl)) ?_
    refine Sz hT 3 [0, 6, 7, 8, 9] ⟨[(0, vo 10000 1 (s32.F l1)), (6, .box 6 2 0 0), (7, .ps .opt (s32.F a1)), (8, vi (ln a1)), (9, vi i2)], [(6, ⟨2, 38, 11, true, false, [eStmt x3]⟩), (10000, ⟨1, 38, 11, false, true, s32.F l1⟩)], 3⟩ ?_
    refine WA_drawW hT hM (by kernel_rfl) ?_
    refine WD_seg 2 ⟨[(14, eStmt x3), (13, vo 10000 1 (s32.F l1)), (0, vo 10000 1 (s32.F l1)), (6, .box 6 2 0 0), (7, .ps .opt (s32.F a1)), (8, vi (ln a1)), (9, vi i2)], [(6, ⟨2, 38, 11, true, false, [eStmt x3]⟩), (10000, ⟨1, 38, 11, false, true, s32.F l1⟩)], 3⟩ [] [(1, [6])] (by kernel_rfl) (by kernel_rfl) ?_
    refine WD_loc rfl (by kernel_rfl) (by kernel_rfl) (by kernel_rfl) (ev_bsliceD s32 [x3] (by kernel_rfl)) (by kernel_rfl) ?_
    obtain ⟨g4, h⟩ := gsome h
    refine WD_wr rfl (by kernel_rfl) (by kernel_rfl) (by kernel_rfl) (ev_append s32 10000 1 true l1 [x3] (by kernel_rfl) (by kernel_rfl) (by kernel_rfl) (by simp) g4) (by kernel_rfl) ?_
    refine WD_seg 2 ⟨[(18, .ps .opt (s32.F x3.Body)), (17, .box 6 2 0 8), (16, vo 16 3 (s32.F (l1 ++ [x3]))), (15, .ps .full (s32.F [x3])), (14, eStmt x3), (13, vo 10000 1 (s32.F l1)), (0, vo 10000 1 (s32.F l1)), (6, .box 6 2 0 0), (7, .ps .opt (s32.F a1)), (8, vi (ln a1)), (9, vi i2)], [(16, ⟨3, 38, 11, false, false, s32.F (l1 ++ [x3])⟩), (6, ⟨2, 38, 11, true, false, [eStmt x3]⟩)], 4⟩ [(3, [16, 10000])] [(1, [6]), (4, [6]), (5, [6])] (by kernel_rfl) (by kernel_rfl) ?_
    obtain ⟨r5, hr5, h⟩ := bsome h
    refine WD_go rfl (by kernel_rfl) (by kernel_rfl) [(0, ⟨0, 38, 11, false, false, s32.F (l1 ++ [x3])⟩)] [(100, ⟨1, 38, 11, false, true, s32.F r5⟩)] [vo 16 3 (s32.F (l1 ++ [x3])), .ps .opt (s32.F x3.Body)] [vo 0 0 (s32.F (l1 ++ [x3])), .ps .opt (s32.F x3.Body)] [(16, 0, 0)] [(100, 19, 4)] [(19, ⟨4, 38, 11, false, true, s32.F r5⟩)] (vo 100 1 (s32.F r5)) (vo 19 4 (s32.F r5)) 5 rfl (by kernel_rfl) en109 (by kernel_rfl) (by kernel_rfl) (by kernel_rfl) (GO_leH (hA := [(0, ⟨0, 38, 11, false, true, s32.F (l1 ++ [x3])⟩)]) ⟨rfl, .inr (.inr rfl), trivial⟩ ((ih _ (by omega)) hr5)) (by kernel_rfl) (by kernel_rfl) (by kernel_rfl) (by kernel_rfl) ?_
    refine WD_seg 2 ⟨[(21, .ps .opt (s32.F x3.Else)), (20, .box 6 2 0 9), (19, vo 19 4 (s32.F r5)), (18, .ps .opt (s32.F x3.Body)), (17, .box 6 2 0 8), (16, vo 16 3 (s32.F (l1 ++ [x3]))), (15, .ps .full (s32.F [x3])), (14, eStmt x3), (13, vo 10000 1 (s32.F l1)), (0, vo 10000 1 (s32.F l1)), (6, .box 6 2 0 0), (7, .ps .opt (s32.F a1)), (8, vi (ln a1)), (9, vi i2)], [(19, ⟨4, 38, 11, false, true, s32.F r5⟩), (6, ⟨2, 38, 11, true, false, [eStmt x3]⟩)], 5⟩ [(3, [16, 10000]), (6, [19, 16])] [(1, [6]), (4, [6]), (5, [6]), (7, [6]), (8, [6])] (by kernel_rfl) (by kernel_rfl) ?_
    obtain ⟨r6, hr6, h⟩ := bsome h
    refine WD_go rfl (by kernel_rfl) (by kernel_rfl) [(0, ⟨0, 38, 11, false, true, s32.F r5⟩)] [(100, ⟨1, 38, 11, false, true, s32.F r6⟩)] [vo 19 4 (s32.F r5), .ps .opt (s32.F x3.Else)] [vo 0 0 (s32.F r5), .ps .opt (s32.F x3.Else)] [(19, 0, 0)] [(100, 22, 5)] [(22, ⟨5, 38, 11, false, true, s32.F r6⟩)] (vo 100 1 (s32.F r6)) (vo 22 5 (s32.F r6)) 6 rfl (by kernel_rfl) en109 (by kernel_rfl) (by kernel_rfl) (by kernel_rfl) ((ih _ (by omega)) hr6) (by kernel_rfl) (by kernel_rfl) (by kernel_rfl) (by kernel_rfl) ?_
    refine WD_seg 1 ⟨[(0, vo 22 5 (s32.F r6)), (22, vo 22 5 (s32.F r6)), (21, .ps .opt (s32.F x3.Else)), (20, .box 6 2 0 9), (19, vo 19 4 (s32.F r5)), (18, .ps .opt (s32.F x3.Body)), (17, .box 6 2 0 8), (16, vo 16 3 (s32.F (l1 ++ [x3]))), (15, .ps .full (s32.F [x3])), (14, eStmt x3), (13, vo 10000 1 (s32.F l1)), (0, vo 10000 1 (s32.F l1)), (6, .box 6 2 0 0), (7, .ps .opt (s32.F a1)), (8, vi (ln a1)), (9, vi i2)], [(22, ⟨5, 38, 11, false, true, s32.F r6⟩), (6, ⟨2, 38, 11, true, false, [eStmt x3]⟩)], 6⟩ [(3, [16, 10000]), (6, [19, 16]), (9, [22, 19])] [(1, [6]), (4, [6]), (5, [6]), (7, [6]), (8, [6])] (by kernel_rfl) (by kernel_rfl) ?_
    refine WD_end (by kernel_rfl) (by kernel_rfl) (by kernel_rfl) ?_
    refine Wk_done ?_
    refine Rg hT 2 [0, 7, 8, 9] ⟨[(0, vo 22 5 (s32.F r6)), (7, .ps .opt (s32.F a1)), (8, vi (ln a1)), (9, vi (wr (i2 + 1)))], [(22, ⟨5, 38, 11, false, true, s32.F r6⟩), (6, ⟨2, 38, 11, true, false, [eStmt x3]⟩)], 6⟩ ?_
    exact oK [0, 7, 8, 9] [(22, 10000, 1)] ⟨_, by omega, by omega, r6, wr (i2 + 1), h, rfl⟩
  intro hb; replace h := cfalse hb h
  refine WA_exit ?_
  refine Qz hT 2 [4] ⟨[(4, vo 10000 1 (s32.F l1))], [(10000, ⟨1, 38, 11, false, true, s32.F l1⟩)], 2⟩ ?_
  obtain rfl := Option.some.inj h
  exact rK [4] [(10000, 100, 1)] ⟨[(4, vo 100 1 (s32.F l1))], [(100, ⟨1, 38, 11, false, true, s32.F l1⟩)], 2⟩ ⟨by kernel_rfl, by kernel_rfl, rfl⟩
theorem tree_listed_109_o_all (n : Nat) : tree_listed_109_o_spec n := by
  induction n using Nat.strongRecOn with
  | _ n ih => exact tree_listed_109_o_step n ih
theorem tree_listed_109_o_ok {n : Nat} {a0 : List Stmt} {a1 : List Stmt} {r : List Stmt} (h : tree_listed_109_o n a0 a1 = some r) : GO Try.prog 109 [(0, ⟨0, 38, 11, false, true, s32.F a0⟩)] [vo 0 0 (s32.F a0), .ps .opt (s32.F a1)] (vo 100 1 (s32.F r)) [(100, ⟨1, 38, 11, false, true, s32.F r⟩)] := (tree_listed_109_o_all n) h

theorem tree_listed_109_n_ok {n : Nat} {a1 : List Stmt} {r : List Stmt} (h : tree_listed_109_n n a1 = some r) : GO Try.prog 109 [] [.ps .nil [], .ps .opt (s32.F a1)] (vo 100 1 (s32.F r)) [(100, ⟨1, 38, 11, false, true, s32.F r⟩)] := by
  unfold tree_listed_109_n at h
  refine GO_bodyA hT Try.func109 rfl [] (by kernel_rfl) fun bad w m => ?_
  refine Qz hT 1 [0, 1] ⟨[(0, .ps .nil []), (1, .ps .opt (s32.F a1))], [], 1⟩ ?_
  refine WA_seq ?_
  refine Qg hT 1 [0, 7] ⟨[(0, .ps .nil []), (7, .ps .opt (s32.F a1))], [], 1⟩ ?_
  refine One hT rfl (ev_len s32 .opt a1 (by kernel_rfl)) ?_
  refine Sz hT 1 [0, 7, 8, 9] ⟨[(0, .ps .nil []), (7, .ps .opt (s32.F a1)), (8, vi (ln a1)), (9, vi 0)], [], 1⟩ ?_
  refine WA_block ?_
  refine aW [0, 7, 8, 9] ⟨[(0, .ps .nil []), (7, .ps .opt (s32.F a1)), (8, vi (ln a1)), (9, vi 0)], [], 1⟩ ?_
  refine WA_weak (Weak_own 0 5000 38 11 (by kernel_rfl) (by kernel_rfl) (by kernel_rfl) (by kernel_rfl)) ?_
  refine lK [0, 7, 8, 9] [(5000, 10000, 1)] (fun k s => ∃ q, q ≤ k ∧ q ≤ n ∧ ∃ (l1 : List Stmt), ∃ (i2 : Int), tree_listed_109_n_L0 q a1 l1 i2 = some r ∧ s = ⟨[(0, vo 10000 1 (s32.F l1)), (7, .ps .opt (s32.F a1)), (8, vi (ln a1)), (9, vi i2)], [(10000, ⟨1, 38, 11, false, true, s32.F l1⟩)], 2⟩) n ⟨n, Nat.le_refl _, Nat.le_refl _, ([] : List Stmt), 0, h, rfl⟩ (by rintro s ⟨q, hq, _, l1, i2, h, _⟩; obtain rfl := Nat.le_zero.1 hq; rw [tree_listed_109_n_L0] at h; cases h) ?_
  clear h
  rintro k1 s ⟨q1, hk1, hn1, l1, i2, h, rfl⟩
  rcases q1 with _ | q1
  · rw [tree_listed_109_n_L0] at h; cases h
  rw [tree_listed_109_n_L0] at h
  refine Qz hT 1 [0, 7, 8, 9, 10] ⟨[(0, vo 10000 1 (s32.F l1)), (7, .ps .opt (s32.F a1)), (8, vi (ln a1)), (9, vi i2), (10, vb (decide (i2 < (ln a1))))], [(10000, ⟨1, 38, 11, false, true, s32.F l1⟩)], 2⟩ ?_
  refine WA_seq ?_
  refine Cd (decide (i2 < (ln a1))) ?_ ?_
  · intro hb; replace h := ctrue hb h
    refine WA_skip ?_
    refine WA_seq ?_
    refine WA_block ?_
    refine Qg hT 0 [0, 7, 8, 9] ⟨[(0, vo 10000 1 (s32.F l1)), (7, .ps .opt (s32.F a1)), (8, vi (ln a1)), (9, vi i2)], [(10000, ⟨1, 38, 11, false, true, s32.F l1⟩)], 2⟩ ?_
    obtain ⟨x3, hx3, h⟩ := bsome h
    refine One hT rfl (ev_index s32 .opt a1 .i64 i2 hx3 (by decide) (by kernel_rfl) (by kernel_rfl)) ?_
    refine Sz hT 3 [0, 6, 7, 8, 9] ⟨[(0, vo 10000 1 (s32.F l1)), (6, .box 6 2 0 0), (7, .ps .opt (s32.F a1)), (8, vi (ln a1)), (9, vi i2)], [(6, ⟨2, 38, 11, true, false, [eStmt x3]⟩), (10000, ⟨1, 38, 11, false, true, s32.F l1⟩)], 3⟩ ?_
    refine WA_drawW hT hM (by kernel_rfl) ?_
    refine WD_seg 2 ⟨[(14, eStmt x3), (13, vo 10000 1 (s32.F l1)), (0, vo 10000 1 (s32.F l1)), (6, .box 6 2 0 0), (7, .ps .opt (s32.F a1)), (8, vi (ln a1)), (9, vi i2)], [(6, ⟨2, 38, 11, true, false, [eStmt x3]⟩), (10000, ⟨1, 38, 11, false, true, s32.F l1⟩)], 3⟩ [] [(1, [6])] (by kernel_rfl) (by kernel_rfl) ?_
    refine WD_loc rfl (by kernel_rfl) (by kernel_rfl) (by kernel_rfl) (ev_bsliceD s32 [x3] (by kernel_rfl)) (by kernel_rfl) ?_
    obtain ⟨g4, h⟩ := gsome h
    refine WD_wr rfl (by kernel_rfl) (by kernel_rfl) (by kernel_rfl) (ev_append s32 10000 1 true l1 [x3] (by kernel_rfl) (by kernel_rfl) (by kernel_rfl) (by simp) g4) (by kernel_rfl) ?_
    refine WD_seg 2 ⟨[(18, .ps .opt (s32.F x3.Body)), (17, .box 6 2 0 8), (16, vo 16 3 (s32.F (l1 ++ [x3]))), (15, .ps .full (s32.F [x3])), (14, eStmt x3), (13, vo 10000 1 (s32.F l1)), (0, vo 10000 1 (s32.F l1)), (6, .box 6 2 0 0), (7, .ps .opt (s32.F a1)), (8, vi (ln a1)), (9, vi i2)], [(16, ⟨3, 38, 11, false, false, s32.F (l1 ++ [x3])⟩), (6, ⟨2, 38, 11, true, false, [eStmt x3]⟩)], 4⟩ [(3, [16, 10000])] [(1, [6]), (4, [6]), (5, [6])] (by kernel_rfl) (by kernel_rfl) ?_
    obtain ⟨r5, hr5, h⟩ := bsome h
    refine WD_go rfl (by kernel_rfl) (by kernel_rfl) [(0, ⟨0, 38, 11, false, false, s32.F (l1 ++ [x3])⟩)] [(100, ⟨1, 38, 11, false, true, s32.F r5⟩)] [vo 16 3 (s32.F (l1 ++ [x3])), .ps .opt (s32.F x3.Body)] [vo 0 0 (s32.F (l1 ++ [x3])), .ps .opt (s32.F x3.Body)] [(16, 0, 0)] [(100, 19, 4)] [(19, ⟨4, 38, 11, false, true, s32.F r5⟩)] (vo 100 1 (s32.F r5)) (vo 19 4 (s32.F r5)) 5 rfl (by kernel_rfl) en109 (by kernel_rfl) (by kernel_rfl) (by kernel_rfl) (GO_leH (hA := [(0, ⟨0, 38, 11, false, true, s32.F (l1 ++ [x3])⟩)]) ⟨rfl, .inr (.inr rfl), trivial⟩ (tree_listed_109_o_ok hr5)) (by kernel_rfl) (by kernel_rfl) (by kernel_rfl) (by kernel_rfl) ?_
    refine WD_seg 2 ⟨[(21, .ps .opt (s32.F x3.Else)), (20, .box 6 2 0 9), (19, vo 19 4 (s32.F r5)), (18, .ps .opt (s32.F x3.Body)), (17, .box 6 2 0 8), (16, vo 16 3 (s32.F (l1 ++ [x3]))), (15, .ps .full (s32.F [x3])), (14, eStmt x3), (13, vo 10000 1 (s32.F l1)), (0, vo 10000 1 (s32.F l1)), (6, .box 6 2 0 0), (7, .ps .opt (s32.F a1)), (8, vi (ln a1)), (9, vi i2)], [(19, ⟨4, 38, 11, false, true, s32.F r5⟩), (6, ⟨2, 38, 11, true, false, [eStmt x3]⟩)], 5⟩ [(3, [16, 10000]), (6, [19, 16])] [(1, [6]), (4, [6]), (5, [6]), (7, [6]), (8, [6])] (by kernel_rfl) (by kernel_rfl) ?_
    obtain ⟨r6, hr6, h⟩ := bsome h
    refine WD_go rfl (by kernel_rfl) (by kernel_rfl) [(0, ⟨0, 38, 11, false, true, s32.F r5⟩)] [(100, ⟨1, 38, 11, false, true, s32.F r6⟩)] [vo 19 4 (s32.F r5), .ps .opt (s32.F x3.Else)] [vo 0 0 (s32.F r5), .ps .opt (s32.F x3.Else)] [(19, 0, 0)] [(100, 22, 5)] [(22, ⟨5, 38, 11, false, true, s32.F r6⟩)] (vo 100 1 (s32.F r6)) (vo 22 5 (s32.F r6)) 6 rfl (by kernel_rfl) en109 (by kernel_rfl) (by kernel_rfl) (by kernel_rfl) (tree_listed_109_o_ok hr6) (by kernel_rfl) (by kernel_rfl) (by kernel_rfl) (by kernel_rfl) ?_
    refine WD_seg 1 ⟨[(0, vo 22 5 (s32.F r6)), (22, vo 22 5 (s32.F r6)), (21, .ps .opt (s32.F x3.Else)), (20, .box 6 2 0 9), (19, vo 19 4 (s32.F r5)), (18, .ps .opt (s32.F x3.Body)), (17, .box 6 2 0 8), (16, vo 16 3 (s32.F (l1 ++ [x3]))), (15, .ps .full (s32.F [x3])), (14, eStmt x3), (13, vo 10000 1 (s32.F l1)), (0, vo 10000 1 (s32.F l1)), (6, .box 6 2 0 0), (7, .ps .opt (s32.F a1)), (8, vi (ln a1)), (9, vi i2)], [(22, ⟨5, 38, 11, false, true, s32.F r6⟩), (6, ⟨2, 38, 11, true, false, [eStmt x3]⟩)], 6⟩ [(3, [16, 10000]), (6, [19, 16]), (9, [22, 19])] [(1, [6]), (4, [6]), (5, [6]), (7, [6]), (8, [6])] (by kernel_rfl) (by kernel_rfl) ?_
    refine WD_end (by kernel_rfl) (by kernel_rfl) (by kernel_rfl) ?_
    refine Wk_done ?_
    refine Rg hT 2 [0, 7, 8, 9] ⟨[(0, vo 22 5 (s32.F r6)), (7, .ps .opt (s32.F a1)), (8, vi (ln a1)), (9, vi (wr (i2 + 1)))], [(22, ⟨5, 38, 11, false, true, s32.F r6⟩), (6, ⟨2, 38, 11, true, false, [eStmt x3]⟩)], 6⟩ ?_
    exact oK [0, 7, 8, 9] [(22, 10000, 1)] ⟨_, by omega, by omega, r6, wr (i2 + 1), h, rfl⟩
  intro hb; replace h := cfalse hb h
  refine WA_exit ?_
  refine Qz hT 2 [4] ⟨[(4, vo 10000 1 (s32.F l1))], [(10000, ⟨1, 38, 11, false, true, s32.F l1⟩)], 2⟩ ?_
  obtain rfl := Option.some.inj h
  exact rK [4] [(10000, 100, 1)] ⟨[(4, vo 100 1 (s32.F l1))], [(100, ⟨1, 38, 11, false, true, s32.F l1⟩)], 2⟩ ⟨by kernel_rfl, by kernel_rfl, rfl⟩

theorem Clone_155_ok {n : Nat} {a0 : List Expr} {r : List Expr} (h : Clone_155 n a0 = some r) : GO Try.prog 155 [] [.ps .opt (s33.F a0)] (vo 100 1 (s33.F r)) [(100, ⟨1, 35, 4, false, true, s33.F r⟩)] := by
  unfold Clone_155 at h
  refine GO_bodyA hT Try.func155 rfl [] (by kernel_rfl) fun bad w m => ?_
  refine Qz hT 1 [0] ⟨[(0, .ps .opt (s33.F a0))], [], 1⟩ ?_
  refine WA_seq ?_
  refine Qg hT 1 [0, 3] ⟨[(0, .ps .opt (s33.F a0)), (3, .ps .opt (s33.F a0))], [], 1⟩ ?_
  refine WO_isnil hT s33 rfl (by kernel_rfl) .opt a0 rfl (by kernel_rfl) (by kernel_rfl) ?_
  intro b1 hnil
  cases b1
  · clear hnil
    refine Sz hT 0 [0, 4] ⟨[(0, .ps .opt (s33.F a0)), (4, vb false)], [], 1⟩ ?_
    refine WA_cond false (by kernel_rfl) (fun hb => by cases hb) (fun _ => ?_)
    refine WA_skip ?_
    refine Qg hT 2 [5, 6] ⟨[(5, vo 5 1 (s33.F ([] : List Expr))), (6, .ps .opt (s33.F a0))], [(5, ⟨1, 35, 4, false, false, s33.F ([] : List Expr)⟩)], 2⟩ ?_
    obtain ⟨g2, h⟩ := gsome h
    refine WO_append hT s33 rfl (by kernel_rfl) 5 1 false ([] : List Expr) a0 rfl (by kernel_rfl) (by kernel_rfl) (by kernel_rfl) g2 (by kernel_rfl) ?_
    refine Sz hT 1 [2] ⟨[(2, vo 7 2 (s33.F (([] : List Expr) ++ a0)))], [(7, ⟨2, 35, 4, false, true, s33.F (([] : List Expr) ++ a0)⟩)], 3⟩ ?_
    obtain rfl := Option.some.inj h
    exact rK [2] [(7, 100, 1)] ⟨[(2, vo 100 1 (s33.F (([] : List Expr) ++ a0)))], [(100, ⟨1, 35, 4, false, true, s33.F (([] : List Expr) ++ a0)⟩)], 2⟩ ⟨by kernel_rfl, by kernel_rfl, rfl⟩
  · replace h : some ([] : List Expr) = some r := by (have e := hnil rfl; subst e; first | exact h | (obtain ⟨_, h⟩ := gsome h; simpa using h))
    clear hnil
    refine Sz hT 0 [0, 4] ⟨[(0, .ps .opt (s33.F a0)), (4, vb true)], [], 1⟩ ?_
    refine WA_cond true (by kernel_rfl) (fun _ => ?_) (fun hb => by cases hb)
    refine Qz hT 1 [2] ⟨[(2, .ps .nil [])], [], 1⟩ ?_
    refine aW [2] ⟨[(2, .ps .nil [])], [], 1⟩ ?_
    refine WA_weak (Weak_own 2 5000 35 4 (by kernel_rfl) (by kernel_rfl) (by kernel_rfl) (by kernel_rfl)) ?_
    obtain rfl := Option.some.inj h
    exact rK [2] [(5000, 100, 1)] ⟨[(2, vo 100 1 (s33.F ([] : List Expr)))], [(100, ⟨1, 35, 4, false, true, s33.F ([] : List Expr)⟩)], 2⟩ ⟨by kernel_rfl, by kernel_rfl, rfl⟩

theorem Clip_154_o_ok {n : Nat} {a0 : List Expr} {r : List Expr} (h : Clip_154_o n a0 = some r) : GO Try.prog 154 [(0, ⟨0, 35, 4, false, true, s33.F a0⟩)] [vo 0 0 (s33.F a0)] (.sl 100 1 0 (s33.F r).length false) [(100, ⟨1, 35, 4, false, true, s33.F r⟩)] := by
  unfold Clip_154_o at h
  refine GO_bodyA hT Try.func154 rfl [] (by kernel_rfl) fun bad w m => ?_
  refine Qz hT 1 [0] ⟨[(0, vo 0 0 (s33.F a0))], [(0, ⟨0, 35, 4, false, true, s33.F a0⟩)], 1⟩ ?_
  refine Qg hT 2 [0, 3, 4] ⟨[(0, vo 0 0 (s33.F a0)), (3, vo 0 0 (s33.F a0)), (4, vo 0 0 (s33.F a0))], [(0, ⟨0, 35, 4, false, true, s33.F a0⟩)], 1⟩ ?_
  refine One hT rfl (ev_len_own s33 0 0 true ⟨0, 35, 4, false, true, s33.F a0⟩ a0 (by kernel_rfl) rfl rfl) ?_
  refine Sg hT 1 [3, 5, 6] ⟨[(3, vo 0 0 (s33.F a0)), (5, vi (ln a0)), (6, vo 0 0 (s33.F a0))], [(0, ⟨0, 35, 4, false, true, s33.F a0⟩)], 1⟩ ?_
  refine One hT rfl (ev_len_own s33 0 0 true ⟨0, 35, 4, false, true, s33.F a0⟩ a0 (by kernel_rfl) rfl rfl) ?_
  refine Sg hT 0 [3, 5, 7] ⟨[(3, vo 0 0 (s33.F a0)), (5, vi (ln a0)), (7, vi (ln a0))], [(0, ⟨0, 35, 4, false, true, s33.F a0⟩)], 1⟩ ?_
  refine WO_clip hT s33 rfl (by kernel_rfl) 0 0 (s33.F a0).length true ⟨0, 35, 4, false, true, s33.F a0⟩ rfl (by kernel_rfl) (by kernel_rfl) rfl (by rw [TE.len]; kernel_rfl) (by rw [TE.len]; kernel_rfl) (by kernel_rfl) ?_
  refine Sz hT 1 [2] ⟨[(2, .sl 0 0 0 (s33.F a0).length false)], [(0, ⟨0, 35, 4, false, true, s33.F a0⟩)], 1⟩ ?_
  obtain rfl := Option.some.inj h
  exact rK [2] [(0, 100, 1)] ⟨[(2, .sl 100 1 0 (s33.F a0).length false)], [(100, ⟨1, 35, 4, false, true, s33.F a0⟩)], 2⟩ ⟨by kernel_rfl, by kernel_rfl, rfl⟩

def tree_copyExpr_spec (n : Nat) : Prop := (∀ {a0 : Expr} {r : Expr}, tree_copyExpr n a0 = some r → PT Try.prog 136 [eExpr a0] (eExpr r))
theorem tree_copyExpr_step (n : Nat) (ih : ∀ m, m < n → tree_copyExpr_spec m) : ∀ {a0 : Expr} {r : Expr}, tree_copyExpr n a0 = some r → PT Try.prog 136 [eExpr a0] (eExpr r) := by
  intro a0 r h
  rcases n with _ | n
  · rw [tree_copyExpr] at h; cases h
  rw [tree_copyExpr] at h
  refine PT_bodyA hT Try.func136 rfl (by kernel_rfl) fun bad w => ?_
  refine Qz hT 2 [1, 2] ⟨[(1, .box 1 0 0 0), (2, .box 2 1 0 0)], [(2, ⟨1, 35, 4, true, false, [.agg [vi 0, vi 0, vw b0, .ps .nil []]]⟩), (1, ⟨0, 35, 4, true, false, [eExpr a0]⟩)], 2⟩ ?_
  refine Qg hT 2 [1, 2, 6] ⟨[(1, .box 1 0 0 0), (2, .box 2 1 0 0), (6, .ps .opt (s33.F a0.Of))], [(2, ⟨1, 35, 4, true, false, [.agg [vi 0, vi 0, vw b0, .ps .nil []]]⟩), (1, ⟨0, 35, 4, true, false, [eExpr a0]⟩)], 2⟩ ?_
  obtain ⟨r1, hr1, h⟩ := bsome h
  refine WO_go rfl (by kernel_rfl) [] [(100, ⟨1, 35, 4, false, true, s33.F r1⟩)] [.ps .opt (s33.F a0.Of)] [.ps .opt (s33.F a0.Of)] [] [(100, 7, 2)] [(7, ⟨2, 35, 4, false, true, s33.F r1⟩)] (vo 100 1 (s33.F r1)) (vo 7 2 (s33.F r1)) 3 rfl (by kernel_rfl) en155 (by kernel_rfl) (by kernel_rfl) (by kernel_rfl) (Clone_155_ok hr1) (by kernel_rfl) (by kernel_rfl) (by kernel_rfl) (by kernel_rfl) ?_
  refine Sg hT 0 [1, 2, 7] ⟨[(1, .box 1 0 0 0), (2, .box 2 1 0 0), (7, vo 7 2 (s33.F r1))], [(7, ⟨2, 35, 4, false, true, s33.F r1⟩), (2, ⟨1, 35, 4, true, false, [.agg [vi 0, vi 0, vw b0, .ps .nil []]]⟩), (1, ⟨0, 35, 4, true, false, [eExpr a0]⟩)], 3⟩ ?_
  obtain ⟨r2, hr2, h⟩ := bsome h
  refine WO_go rfl (by kernel_rfl) [(0, ⟨0, 35, 4, false, true, s33.F r1⟩)] [(100, ⟨1, 35, 4, false, true, s33.F r2⟩)] [vo 7 2 (s33.F r1)] [vo 0 0 (s33.F r1)] [(7, 0, 0)] [(100, 8, 3)] [(8, ⟨3, 35, 4, false, true, s33.F r2⟩)] (.sl 100 1 0 (s33.F r2).length false) (.sl 8 3 0 (s33.F r2).length false) 4 rfl (by kernel_rfl) en154 (by kernel_rfl) (by kernel_rfl) (by kernel_rfl) (Clip_154_o_ok hr2) (by kernel_rfl) (by kernel_rfl) (by kernel_rfl) (by kernel_rfl) ?_
  refine Sz hT 2 [1, 2] ⟨[(1, .box 1 0 0 0), (2, .box 2 1 0 0)], [(1, ⟨0, 35, 4, true, false, [.agg [vi a0.Kind, vi a0.N, vw a0.Name, .sl 8 3 0 (s33.F r2).length false]]⟩), (8, ⟨3, 35, 4, false, true, s33.F r2⟩), (2, ⟨1, 35, 4, true, false, [.agg [vi 0, vi 0, vw b0, .ps .nil []]]⟩)], 4⟩ ?_
  refine WA_seq ?_
  refine Qg hT 2 [1, 2, 11] ⟨[(1, .box 1 0 0 0), (2, .box 2 1 0 0), (11, .sl 8 3 0 (s33.F r2).length false)], [(1, ⟨0, 35, 4, true, false, [.agg [vi a0.Kind, vi a0.N, vw a0.Name, .sl 8 3 0 (s33.F r2).length false]]⟩), (8, ⟨3, 35, 4, false, true, s33.F r2⟩), (2, ⟨1, 35, 4, true, false, [.agg [vi 0, vi 0, vw b0, .ps .nil []]]⟩)], 4⟩ ?_
  refine One hT rfl (ev_len_own s33 8 3 false ⟨3, 35, 4, false, true, s33.F r2⟩ r2 (by kernel_rfl) rfl rfl) ?_
  refine Sz hT 1 [1, 2, 11, 12, 13] ⟨[(1, .box 1 0 0 0), (2, .box 2 1 0 0), (11, .sl 8 3 0 (s33.F r2).length false), (12, vi (ln r2)), (13, vi 0)], [(1, ⟨0, 35, 4, true, false, [.agg [vi a0.Kind, vi a0.N, vw a0.Name, .sl 8 3 0 (s33.F r2).length false]]⟩), (8, ⟨3, 35, 4, false, true, s33.F r2⟩), (2, ⟨1, 35, 4, true, false, [.agg [vi 0, vi 0, vw b0, .ps .nil []]]⟩)], 4⟩ ?_
  refine WA_block ?_
  refine lK [1, 2, 11, 12, 13] [(1, 1, 0), (2, 2, 0), (8, 8, 0)] (fun k s => ∃ q, q ≤ k ∧ q ≤ n ∧ ∃ (l4 : List Expr), ∃ (w5 : ByteArray), ∃ (i6 : Int), tree_copyExpr_L0 q a0 r1 r2 l4 w5 i6 = some r ∧ s = ⟨[(1, .box 1 0 0 0), (2, .box 2 0 0 0), (11, .sl 8 0 0 (s33.F l4).length false), (12, vi (ln r2)), (13, vi i6)], [(1, ⟨0, 35, 4, true, false, [.agg [vi a0.Kind, vi a0.N, vw a0.Name, .sl 8 0 0 (s33.F l4).length false]]⟩), (2, ⟨0, 35, 4, true, false, [.agg [vi 0, vi 0, vw w5, .ps .nil []]]⟩), (8, ⟨0, 35, 4, false, true, s33.F l4⟩)], 1⟩) n ⟨n, Nat.le_refl _, Nat.le_refl _, r2, b0, 0, h, rfl⟩ (by rintro s ⟨q, hq, _, l4, w5, i6, h, _⟩; obtain rfl := Nat.le_zero.1 hq; rw [tree_copyExpr_L0] at h; cases h) ?_
  clear h
  rintro k1 s ⟨q1, hk1, hn1, l4, w5, i6, h, rfl⟩
  rcases q1 with _ | q1
  · rw [tree_copyExpr_L0] at h; cases h
  rw [tree_copyExpr_L0] at h
  refine Qz hT 1 [1, 2, 11, 12, 13, 14] ⟨[(1, .box 1 0 0 0), (2, .box 2 0 0 0), (11, .sl 8 0 0 (s33.F l4).length false), (12, vi (ln r2)), (13, vi i6), (14, vb (decide (i6 < (ln r2))))], [(1, ⟨0, 35, 4, true, false, [.agg [vi a0.Kind, vi a0.N, vw a0.Name, .sl 8 0 0 (s33.F l4).length false]]⟩), (2, ⟨0, 35, 4, true, false, [.agg [vi 0, vi 0, vw w5, .ps .nil []]]⟩), (8, ⟨0, 35, 4, false, true, s33.F l4⟩)], 1⟩ ?_
  refine WA_seq ?_
  refine Cd (decide (i6 < (ln r2))) ?_ ?_
  · intro hb; replace h := ctrue hb h
    refine WA_skip ?_
    refine WA_seq ?_
    refine WA_block ?_
    refine Qg hT 1 [1, 2, 11, 12, 13, 15] ⟨[(1, .box 1 0 0 0), (2, .box 2 0 0 0), (11, .sl 8 0 0 (s33.F l4).length false), (12, vi (ln r2)), (13, vi i6), (15, vi i6)], [(1, ⟨0, 35, 4, true, false, [.agg [vi a0.Kind, vi a0.N, vw a0.Name, .sl 8 0 0 (s33.F l4).length false]]⟩), (2, ⟨0, 35, 4, true, false, [.agg [vi 0, vi 0, vw w5, .ps .nil []]]⟩), (8, ⟨0, 35, 4, false, true, s33.F l4⟩)], 1⟩ ?_
    obtain ⟨x7, hx7, h⟩ := bsome h
    refine One hT rfl (ev_index_own s33 8 0 false ⟨0, 35, 4, false, true, s33.F l4⟩ l4 .i64 i6 hx7 (by kernel_rfl) (by kernel_rfl) rfl rfl rfl) ?_
    refine Sg hT 0 [1, 2, 11, 12, 13, 15, 16] ⟨[(1, .box 1 0 0 0), (2, .box 2 0 0 0), (11, .sl 8 0 0 (s33.F l4).length false), (12, vi (ln r2)), (13, vi i6), (15, vi i6), (16, .box 8 0 i6.toNat 0)], [(1, ⟨0, 35, 4, true, false, [.agg [vi a0.Kind, vi a0.N, vw a0.Name, .sl 8 0 0 (s33.F l4).length false]]⟩), (2, ⟨0, 35, 4, true, false, [.agg [vi 0, vi 0, vw w5, .ps .nil []]]⟩), (8, ⟨0, 35, 4, false, true, s33.F l4⟩)], 1⟩ ?_
    refine One hT rfl (ev_load_row s33 8 0 ⟨0, 35, 4, false, true, s33.F l4⟩ l4 i6.toNat 0 x7 (eExpr x7) (idx_some hx7).2 (by kernel_rfl) rfl rfl rfl (by kernel_rfl)) ?_
    refine Sz hT 3 [1, 2, 3, 4, 11, 12, 13] ⟨[(1, .box 1 0 0 0), (2, .box 2 0 0 0), (3, vi i6), (4, .box 4 1 0 0), (11, .sl 8 0 0 (s33.F l4).length false), (12, vi (ln r2)), (13, vi i6)], [(4, ⟨1, 35, 4, true, false, [eExpr x7]⟩), (1, ⟨0, 35, 4, true, false, [.agg [vi a0.Kind, vi a0.N, vw a0.Name, .sl 8 0 0 (s33.F l4).length false]]⟩), (2, ⟨0, 35, 4, true, false, [.agg [vi 0, vi 0, vw w5, .ps .nil []]]⟩), (8, ⟨0, 35, 4, false, true, s33.F l4⟩)], 2⟩ ?_
    refine WA_drawW hT hM (by kernel_rfl) ?_
    refine WD_seg 4 ⟨[(21, eExpr x7), (20, vi i6), (19, .sl 8 0 0 (s33.F l4).length false), (18, .box 1 0 0 3), (1, .box 1 0 0 0), (2, .box 2 0 0 0), (3, vi i6), (4, .box 4 1 0 0), (11, .sl 8 0 0 (s33.F l4).length false), (12, vi (ln r2)), (13, vi i6)], [(4, ⟨1, 35, 4, true, false, [eExpr x7]⟩), (1, ⟨0, 35, 4, true, false, [.agg [vi a0.Kind, vi a0.N, vw a0.Name, .sl 8 0 0 (s33.F l4).length false]]⟩), (2, ⟨0, 35, 4, true, false, [.agg [vi 0, vi 0, vw w5, .ps .nil []]]⟩), (8, ⟨0, 35, 4, false, true, s33.F l4⟩)], 2⟩ [] [(0, [1]), (1, [1]), (3, [4])] (by kernel_rfl) (by kernel_rfl) ?_
    obtain ⟨r8, hr8, h⟩ := bsome h
    refine WD_pt rfl (by kernel_rfl) (by kernel_rfl) [eExpr x7] (eExpr r8) rfl (by kernel_rfl) en136 (by kernel_rfl) ((ih _ (by omega)) hr8) (by kernel_rfl) ?_
    obtain ⟨x9, hx9, h⟩ := bsome h
    refine WD_loc rfl (by kernel_rfl) (by kernel_rfl) (by kernel_rfl) (ev_index_own s33 8 0 false ⟨0, 35, 4, false, true, s33.F l4⟩ l4 .i64 i6 hx9 (by kernel_rfl) (by kernel_rfl) rfl rfl rfl) (by kernel_rfl) ?_
    refine WD_wr rfl (by kernel_rfl) (by kernel_rfl) (by kernel_rfl) (ev_storeRow s33 8 0 ⟨0, 35, 4, false, true, s33.F l4⟩ l4 i6.toNat 0 x9 r8 (idx_some hx9).2 (by kernel_rfl) (by kernel_rfl) rfl rfl rfl rfl (by kernel_rfl) (by kernel_rfl) (by kernel_rfl)) (by kernel_rfl) ?_
    refine WD_end (by kernel_rfl) (by kernel_rfl) (by kernel_rfl) ?_
    refine kW [1, 2, 11, 12, 13] ⟨[(1, .box 1 0 0 0), (2, .box 2 0 0 0), (11, .sl 8 0 0 (s33.F l4).length false), (12, vi (ln r2)), (13, vi i6)], [(8, ⟨0, 35, 4, false, true, s33.F (l4.set i6.toNat r8)⟩), (4, ⟨1, 35, 4, true, false, [eExpr x7]⟩), (1, ⟨0, 35, 4, true, false, [.agg [vi a0.Kind, vi a0.N, vw a0.Name, .sl 8 0 0 (s33.F l4).length false]]⟩), (2, ⟨0, 35, 4, true, false, [.agg [vi 0, vi 0, vw w5, .ps .nil []]]⟩)], 2⟩ ?_
    refine Wk_step (Weak_leH [(1, .box 1 0 0 0), (2, .box 2 0 0 0), (11, .sl 8 0 0 (s33.F (l4.set i6.toNat r8)).length false), (12, vi (ln r2)), (13, vi i6)] [(8, ⟨0, 35, 4, false, true, s33.F (l4.set i6.toNat r8)⟩), (4, ⟨1, 35, 4, true, false, [eExpr x7]⟩), (1, ⟨0, 35, 4, true, false, [.agg [vi a0.Kind, vi a0.N, vw a0.Name, .sl 8 0 0 (s33.F (l4.set i6.toNat r8)).length false]]⟩), (2, ⟨0, 35, 4, true, false, [.agg [vi 0, vi 0, vw w5, .ps .nil []]]⟩)] (by kernel_rfl) ⟨VLf.refl _, VLf.refl _, (VLf.slen (by simp [TE.len])), VLf.refl _, VLf.refl _, trivial⟩ ⟨rfl, .inl rfl, rfl, .inl rfl, rfl, .inr (.inl ⟨rfl, rfl, CLe.agg ⟨VLf.refl _, VLf.refl _, VLf.refl _, (VLf.slen (by simp [TE.len])), trivial⟩, trivial⟩), rfl, .inl rfl, trivial⟩) ?_
    refine Wk_done ?_
    refine Rg hT 2 [1, 2, 11, 12, 13] ⟨[(1, .box 1 0 0 0), (2, .box 2 0 0 0), (11, .sl 8 0 0 (s33.F (l4.set i6.toNat r8)).length false), (12, vi (ln r2)), (13, vi (wr (i6 + 1)))], [(8, ⟨0, 35, 4, false, true, s33.F (l4.set i6.toNat r8)⟩), (4, ⟨1, 35, 4, true, false, [eExpr x7]⟩), (1, ⟨0, 35, 4, true, false, [.agg [vi a0.Kind, vi a0.N, vw a0.Name, .sl 8 0 0 (s33.F (l4.set i6.toNat r8)).length false]]⟩), (2, ⟨0, 35, 4, true, false, [.agg [vi 0, vi 0, vw w5, .ps .nil []]]⟩)], 2⟩ ?_
    exact oK [1, 2, 11, 12, 13] [(1, 1, 0), (2, 2, 0), (8, 8, 0)] ⟨_, by omega, by omega, l4.set i6.toNat r8, w5, wr (i6 + 1), h, rfl⟩
  intro hb; replace h := cfalse hb h
  refine WA_exit ?_
  refine Qz hT 2 [2] ⟨[(2, .box 2 0 0 0)], [(2, ⟨0, 35, 4, true, false, [.agg [vi a0.Kind, vi a0.N, vw a0.Name, .sl 8 0 0 (s33.F l4).length false]]⟩), (1, ⟨0, 35, 4, true, false, [.agg [vi a0.Kind, vi a0.N, vw a0.Name, .sl 8 0 0 (s33.F l4).length false]]⟩), (8, ⟨0, 35, 4, false, true, s33.F l4⟩)], 1⟩ ?_
  refine aW [2] ⟨[(2, .box 2 0 0 0)], [(2, ⟨0, 35, 4, true, false, [.agg [vi a0.Kind, vi a0.N, vw a0.Name, .sl 8 0 0 (s33.F l4).length false]]⟩), (1, ⟨0, 35, 4, true, false, [.agg [vi a0.Kind, vi a0.N, vw a0.Name, .sl 8 0 0 (s33.F l4).length false]]⟩), (8, ⟨0, 35, 4, false, true, s33.F l4⟩)], 1⟩ ?_
  refine WA_weak (Weak_frz 8 0 ⟨0, 35, 4, false, true, s33.F l4⟩ (by kernel_rfl) rfl rfl [(2, .box 2 0 0 0)] [(2, ⟨0, 35, 4, true, false, [.agg [vi a0.Kind, vi a0.N, vw a0.Name, .ps .opt (s33.F l4)]]⟩), (1, ⟨0, 35, 4, true, false, [.agg [vi a0.Kind, vi a0.N, vw a0.Name, .ps .opt (s33.F l4)]]⟩)] ⟨rfl, .keep _, trivial⟩ ⟨rfl, .inr ⟨rfl, rfl, .aggs ⟨.keep _, .keep _, .keep _, .hit false, trivial⟩, trivial⟩, rfl, .inr ⟨rfl, rfl, .aggs ⟨.keep _, .keep _, .keep _, .hit false, trivial⟩, trivial⟩, trivial⟩) ?_
  refine WA_weak (Weak_leH [(2, .box 2 0 0 0)] [(2, ⟨0, 35, 4, true, false, [eExpr (Expr.mk a0.Kind a0.N a0.Name l4)]⟩), (1, ⟨0, 35, 4, true, false, [.agg [vi a0.Kind, vi a0.N, vw a0.Name, .ps .opt (s33.F l4)]]⟩)] (by kernel_rfl) ⟨VLf.refl _, trivial⟩ ⟨rfl, .inr (.inl ⟨rfl, rfl, CLe.agg ⟨VLf.refl _, VLf.refl _, VLf.refl _, VLf.refl _, trivial⟩, trivial⟩), rfl, .inl rfl, trivial⟩) ?_
  obtain rfl := Option.some.inj h
  exact rR [(2, 1000, 0)] ⟨[(2, .box 1000 0 0 0)], [(1000, ⟨0, 35, 4, true, false, [eExpr (Expr.mk a0.Kind a0.N a0.Name l4)]⟩)], 1⟩ ⟨by kernel_rfl, rfl⟩
theorem tree_copyExpr_all (n : Nat) : tree_copyExpr_spec n := by
  induction n using Nat.strongRecOn with
  | _ n ih => exact tree_copyExpr_step n ih
theorem tree_copyExpr_ok {n : Nat} {a0 : Expr} {r : Expr} (h : tree_copyExpr n a0 = some r) : PT Try.prog 136 [eExpr a0] (eExpr r) := (tree_copyExpr_all n) h

theorem Clone_146_ok {n : Nat} {a0 : List Stmt} {r : List Stmt} (h : Clone_146 n a0 = some r) : GO Try.prog 146 [] [.ps .opt (s32.F a0)] (vo 100 1 (s32.F r)) [(100, ⟨1, 38, 11, false, true, s32.F r⟩)] := by
  unfold Clone_146 at h
  refine GO_bodyA hT Try.func146 rfl [] (by kernel_rfl) fun bad w m => ?_
  refine Qz hT 1 [0] ⟨[(0, .ps .opt (s32.F a0))], [], 1⟩ ?_
  refine WA_seq ?_
  refine Qg hT 1 [0, 3] ⟨[(0, .ps .opt (s32.F a0)), (3, .ps .opt (s32.F a0))], [], 1⟩ ?_
  refine WO_isnil hT s32 rfl (by kernel_rfl) .opt a0 rfl (by kernel_rfl) (by kernel_rfl) ?_
  intro b1 hnil
  cases b1
  · clear hnil
    refine Sz hT 0 [0, 4] ⟨[(0, .ps .opt (s32.F a0)), (4, vb false)], [], 1⟩ ?_
    refine WA_cond false (by kernel_rfl) (fun hb => by cases hb) (fun _ => ?_)
    refine WA_skip ?_
    refine Qg hT 2 [5, 6] ⟨[(5, vo 5 1 (s32.F ([] : List Stmt))), (6, .ps .opt (s32.F a0))], [(5, ⟨1, 38, 11, false, false, s32.F ([] : List Stmt)⟩)], 2⟩ ?_
    obtain ⟨g2, h⟩ := gsome h
    refine WO_append hT s32 rfl (by kernel_rfl) 5 1 false ([] : List Stmt) a0 rfl (by kernel_rfl) (by kernel_rfl) (by kernel_rfl) g2 (by kernel_rfl) ?_
    refine Sz hT 1 [2] ⟨[(2, vo 7 2 (s32.F (([] : List Stmt) ++ a0)))], [(7, ⟨2, 38, 11, false, true, s32.F (([] : List Stmt) ++ a0)⟩)], 3⟩ ?_
    obtain rfl := Option.some.inj h
    exact rK [2] [(7, 100, 1)] ⟨[(2, vo 100 1 (s32.F (([] : List Stmt) ++ a0)))], [(100, ⟨1, 38, 11, false, true, s32.F (([] : List Stmt) ++ a0)⟩)], 2⟩ ⟨by kernel_rfl, by kernel_rfl, rfl⟩
  · replace h : some ([] : List Stmt) = some r := by (have e := hnil rfl; subst e; first | exact h | (obtain ⟨_, h⟩ := gsome h; simpa using h))
    clear hnil
    refine Sz hT 0 [0, 4] ⟨[(0, .ps .opt (s32.F a0)), (4, vb true)], [], 1⟩ ?_
    refine WA_cond true (by kernel_rfl) (fun _ => ?_) (fun hb => by cases hb)
    refine Qz hT 1 [2] ⟨[(2, .ps .nil [])], [], 1⟩ ?_
    refine aW [2] ⟨[(2, .ps .nil [])], [], 1⟩ ?_
    refine WA_weak (Weak_own 2 5000 38 11 (by kernel_rfl) (by kernel_rfl) (by kernel_rfl) (by kernel_rfl)) ?_
    obtain rfl := Option.some.inj h
    exact rK [2] [(5000, 100, 1)] ⟨[(2, vo 100 1 (s32.F ([] : List Stmt)))], [(100, ⟨1, 38, 11, false, true, s32.F ([] : List Stmt)⟩)], 2⟩ ⟨by kernel_rfl, by kernel_rfl, rfl⟩

theorem Clip_111_o_ok {n : Nat} {a0 : List Stmt} {r : List Stmt} (h : Clip_111_o n a0 = some r) : GO Try.prog 111 [(0, ⟨0, 38, 11, false, true, s32.F a0⟩)] [vo 0 0 (s32.F a0)] (.sl 100 1 0 (s32.F r).length false) [(100, ⟨1, 38, 11, false, true, s32.F r⟩)] := by
  unfold Clip_111_o at h
  refine GO_bodyA hT Try.func111 rfl [] (by kernel_rfl) fun bad w m => ?_
  refine Qz hT 1 [0] ⟨[(0, vo 0 0 (s32.F a0))], [(0, ⟨0, 38, 11, false, true, s32.F a0⟩)], 1⟩ ?_
  refine Qg hT 2 [0, 3, 4] ⟨[(0, vo 0 0 (s32.F a0)), (3, vo 0 0 (s32.F a0)), (4, vo 0 0 (s32.F a0))], [(0, ⟨0, 38, 11, false, true, s32.F a0⟩)], 1⟩ ?_
  refine One hT rfl (ev_len_own s32 0 0 true ⟨0, 38, 11, false, true, s32.F a0⟩ a0 (by kernel_rfl) rfl rfl) ?_
  refine Sg hT 1 [3, 5, 6] ⟨[(3, vo 0 0 (s32.F a0)), (5, vi (ln a0)), (6, vo 0 0 (s32.F a0))], [(0, ⟨0, 38, 11, false, true, s32.F a0⟩)], 1⟩ ?_
  refine One hT rfl (ev_len_own s32 0 0 true ⟨0, 38, 11, false, true, s32.F a0⟩ a0 (by kernel_rfl) rfl rfl) ?_
  refine Sg hT 0 [3, 5, 7] ⟨[(3, vo 0 0 (s32.F a0)), (5, vi (ln a0)), (7, vi (ln a0))], [(0, ⟨0, 38, 11, false, true, s32.F a0⟩)], 1⟩ ?_
  refine WO_clip hT s32 rfl (by kernel_rfl) 0 0 (s32.F a0).length true ⟨0, 38, 11, false, true, s32.F a0⟩ rfl (by kernel_rfl) (by kernel_rfl) rfl (by rw [TE.len]; kernel_rfl) (by rw [TE.len]; kernel_rfl) (by kernel_rfl) ?_
  refine Sz hT 1 [2] ⟨[(2, .sl 0 0 0 (s32.F a0).length false)], [(0, ⟨0, 38, 11, false, true, s32.F a0⟩)], 1⟩ ?_
  obtain rfl := Option.some.inj h
  exact rK [2] [(0, 100, 1)] ⟨[(2, .sl 100 1 0 (s32.F a0).length false)], [(100, ⟨1, 38, 11, false, true, s32.F a0⟩)], 2⟩ ⟨by kernel_rfl, by kernel_rfl, rfl⟩

def tree_copyBlock_spec (n : Nat) : Prop := (∀ {a0 : List Stmt} {r : List Stmt}, tree_copyBlock n a0 = some r → GO Try.prog 124 [] [.ps .opt (s32.F a0)] (.sl 100 1 0 (s32.F r).length false) [(100, ⟨1, 38, 11, false, true, s32.F r⟩)]) ∧ (∀ {a0 : Stmt} {r : Stmt}, tree_copyStmt n a0 = some r → PT Try.prog 110 [eStmt a0] (eStmt r))
theorem tree_copyBlock_step (n : Nat) (ih : ∀ m, m < n → tree_copyBlock_spec m) : ∀ {a0 : List Stmt} {r : List Stmt}, tree_copyBlock n a0 = some r → GO Try.prog 124 [] [.ps .opt (s32.F a0)] (.sl 100 1 0 (s32.F r).length false) [(100, ⟨1, 38, 11, false, true, s32.F r⟩)] := by
  intro a0 r h
  rcases n with _ | n
  · rw [tree_copyBlock] at h; cases h
  rw [tree_copyBlock] at h
  refine GO_bodyA hT Try.func124 rfl [] (by kernel_rfl) fun bad w m => ?_
  refine Qz hT 1 [0] ⟨[(0, .ps .opt (s32.F a0))], [], 1⟩ ?_
  refine Qg hT 1 [6] ⟨[(6, .ps .opt (s32.F a0))], [], 1⟩ ?_
  obtain ⟨r1, hr1, h⟩ := bsome h
  refine WO_go rfl (by kernel_rfl) [] [(100, ⟨1, 38, 11, false, true, s32.F r1⟩)] [.ps .opt (s32.F a0)] [.ps .opt (s32.F a0)] [] [(100, 7, 1)] [(7, ⟨1, 38, 11, false, true, s32.F r1⟩)] (vo 100 1 (s32.F r1)) (vo 7 1 (s32.F r1)) 2 rfl (by kernel_rfl) en146 (by kernel_rfl) (by kernel_rfl) (by kernel_rfl) (Clone_146_ok hr1) (by kernel_rfl) (by kernel_rfl) (by kernel_rfl) (by kernel_rfl) ?_
  refine Sg hT 0 [7] ⟨[(7, vo 7 1 (s32.F r1))], [(7, ⟨1, 38, 11, false, true, s32.F r1⟩)], 2⟩ ?_
  obtain ⟨r2, hr2, h⟩ := bsome h
  refine WO_go rfl (by kernel_rfl) [(0, ⟨0, 38, 11, false, true, s32.F r1⟩)] [(100, ⟨1, 38, 11, false, true, s32.F r2⟩)] [vo 7 1 (s32.F r1)] [vo 0 0 (s32.F r1)] [(7, 0, 0)] [(100, 8, 2)] [(8, ⟨2, 38, 11, false, true, s32.F r2⟩)] (.sl 100 1 0 (s32.F r2).length false) (.sl 8 2 0 (s32.F r2).length false) 3 rfl (by kernel_rfl) en111 (by kernel_rfl) (by kernel_rfl) (by kernel_rfl) (Clip_111_o_ok hr2) (by kernel_rfl) (by kernel_rfl) (by kernel_rfl) (by kernel_rfl) ?_
  refine Sz hT 1 [3] ⟨[(3, .sl 8 2 0 (s32.F r2).length false)], [(8, ⟨2, 38, 11, false, true, s32.F r2⟩)], 3⟩ ?_
  refine WA_seq ?_
  refine Qg hT 1 [3, 9] ⟨[(3, .sl 8 2 0 (s32.F r2).length false), (9, .sl 8 2 0 (s32.F r2).length false)], [(8, ⟨2, 38, 11, false, true, s32.F r2⟩)], 3⟩ ?_
  refine One hT rfl (ev_len_own s32 8 2 false ⟨2, 38, 11, false, true, s32.F r2⟩ r2 (by kernel_rfl) rfl rfl) ?_
  refine Sz hT 1 [3, 9, 10, 11] ⟨[(3, .sl 8 2 0 (s32.F r2).length false), (9, .sl 8 2 0 (s32.F r2).length false), (10, vi (ln r2)), (11, vi 0)], [(8, ⟨2, 38, 11, false, true, s32.F r2⟩)], 3⟩ ?_
  refine WA_block ?_
  refine lK [3, 9, 10, 11] [(8, 8, 1)] (fun k s => ∃ q, q ≤ k ∧ q ≤ n ∧ ∃ (l3 : List Stmt), ∃ (i4 : Int), tree_copyBlock_L0 q a0 r1 r2 l3 i4 = some r ∧ s = ⟨[(3, .sl 8 1 0 (s32.F l3).length false), (9, .sl 8 1 0 (s32.F l3).length false), (10, vi (ln r2)), (11, vi i4)], [(8, ⟨1, 38, 11, false, true, s32.F l3⟩)], 2⟩) n ⟨n, Nat.le_refl _, Nat.le_refl _, r2, 0, h, rfl⟩ (by rintro s ⟨q, hq, _, l3, i4, h, _⟩; obtain rfl := Nat.le_zero.1 hq; rw [tree_copyBlock_L0] at h; cases h) ?_
  clear h
  rintro k1 s ⟨q1, hk1, hn1, l3, i4, h, rfl⟩
  rcases q1 with _ | q1
  · rw [tree_copyBlock_L0] at h; cases h
  rw [tree_copyBlock_L0] at h
  refine Qz hT 1 [3, 9, 10, 11, 12] ⟨[(3, .sl 8 1 0 (s32.F l3).length false), (9, .sl 8 1 0 (s32.F l3).length false), (10, vi (ln r2)), (11, vi i4), (12, vb (decide (i4 < (ln r2))))], [(8, ⟨1, 38, 11, false, true, s32.F l3⟩)], 2⟩ ?_
  refine WA_seq ?_
  refine Cd (decide (i4 < (ln r2))) ?_ ?_
  · intro hb; replace h := ctrue hb h
    refine WA_skip ?_
    refine WA_seq ?_
    refine WA_block ?_
    refine Qg hT 1 [3, 9, 10, 11, 13] ⟨[(3, .sl 8 1 0 (s32.F l3).length false), (9, .sl 8 1 0 (s32.F l3).length false), (10, vi (ln r2)), (11, vi i4), (13, vi i4)], [(8, ⟨1, 38, 11, false, true, s32.F l3⟩)], 2⟩ ?_
    obtain ⟨x5, hx5, h⟩ := bsome h
    refine One hT rfl (ev_index_own s32 8 1 false ⟨1, 38, 11, false, true, s32.F l3⟩ l3 .i64 i4 hx5 (by kernel_rfl) (by kernel_rfl) rfl rfl rfl) ?_
    refine Sg hT 0 [3, 9, 10, 11, 13, 14] ⟨[(3, .sl 8 1 0 (s32.F l3).length false), (9, .sl 8 1 0 (s32.F l3).length false), (10, vi (ln r2)), (11, vi i4), (13, vi i4), (14, .box 8 1 i4.toNat 0)], [(8, ⟨1, 38, 11, false, true, s32.F l3⟩)], 2⟩ ?_
    refine One hT rfl (ev_load_row s32 8 1 ⟨1, 38, 11, false, true, s32.F l3⟩ l3 i4.toNat 0 x5 (eStmt x5) (idx_some hx5).2 (by kernel_rfl) rfl rfl rfl (by kernel_rfl)) ?_
    refine Sz hT 3 [3, 4, 5, 9, 10, 11] ⟨[(3, .sl 8 1 0 (s32.F l3).length false), (4, vi i4), (5, .box 5 2 0 0), (9, .sl 8 1 0 (s32.F l3).length false), (10, vi (ln r2)), (11, vi i4)], [(5, ⟨2, 38, 11, true, false, [eStmt x5]⟩), (8, ⟨1, 38, 11, false, true, s32.F l3⟩)], 3⟩ ?_
    refine Rg hT 3 [3, 9, 10, 11, 16, 17, 18] ⟨[(3, .sl 8 1 0 (s32.F l3).length false), (9, .sl 8 1 0 (s32.F l3).length false), (10, vi (ln r2)), (11, vi i4), (16, .sl 8 1 0 (s32.F l3).length false), (17, vi i4), (18, eStmt x5)], [(5, ⟨2, 38, 11, true, false, [eStmt x5]⟩), (8, ⟨1, 38, 11, false, true, s32.F l3⟩)], 3⟩ ?_
    obtain ⟨r6, hr6, h⟩ := bsome h
    refine Pt en110 ((ih _ (by omega)).2 hr6) ?_
    refine Sg hT 0 [3, 9, 10, 11, 16, 17, 19] ⟨[(3, .sl 8 1 0 (s32.F l3).length false), (9, .sl 8 1 0 (s32.F l3).length false), (10, vi (ln r2)), (11, vi i4), (16, .sl 8 1 0 (s32.F l3).length false), (17, vi i4), (19, eStmt r6)], [(5, ⟨2, 38, 11, true, false, [eStmt x5]⟩), (8, ⟨1, 38, 11, false, true, s32.F l3⟩)], 3⟩ ?_
    obtain ⟨x7, hx7, h⟩ := bsome h
    refine One hT rfl (ev_index_own s32 8 1 false ⟨1, 38, 11, false, true, s32.F l3⟩ l3 .i64 i4 hx7 (by kernel_rfl) (by kernel_rfl) rfl rfl rfl) ?_
    refine Sg hT 0 [3, 9, 10, 11, 19, 20] ⟨[(3, .sl 8 1 0 (s32.F l3).length false), (9, .sl 8 1 0 (s32.F l3).length false), (10, vi (ln r2)), (11, vi i4), (19, eStmt r6), (20, .box 8 1 i4.toNat 0)], [(5, ⟨2, 38, 11, true, false, [eStmt x5]⟩), (8, ⟨1, 38, 11, false, true, s32.F l3⟩)], 3⟩ ?_
    refine One hT rfl (ev_storeRow s32 8 1 ⟨1, 38, 11, false, true, s32.F l3⟩ l3 i4.toNat 0 x7 r6 (idx_some hx7).2 (by kernel_rfl) (by kernel_rfl) rfl rfl rfl rfl (by kernel_rfl) (by kernel_rfl) (by kernel_rfl)) ?_
    refine oW [3, 9, 10, 11, 19] ⟨[(3, .sl 8 1 0 (s32.F l3).length false), (9, .sl 8 1 0 (s32.F l3).length false), (10, vi (ln r2)), (11, vi i4), (19, eStmt r6)], [(8, ⟨1, 38, 11, false, true, s32.F (l3.set i4.toNat r6)⟩), (5, ⟨2, 38, 11, true, false, [eStmt x5]⟩)], 3⟩ ?_
    refine WO_weak (Weak_leH [(3, .sl 8 1 0 (s32.F (l3.set i4.toNat r6)).length false), (9, .sl 8 1 0 (s32.F (l3.set i4.toNat r6)).length false), (10, vi (ln r2)), (11, vi i4), (19, eStmt r6)] [(8, ⟨1, 38, 11, false, true, s32.F (l3.set i4.toNat r6)⟩), (5, ⟨2, 38, 11, true, false, [eStmt x5]⟩)] (by kernel_rfl) ⟨(VLf.slen (by simp [TE.len])), (VLf.slen (by simp [TE.len])), VLf.refl _, VLf.refl _, VLf.refl _, trivial⟩ (HLe.refl _)) ?_
    refine Sz hT 0 [3, 9, 10, 11] ⟨[(3, .sl 8 1 0 (s32.F (l3.set i4.toNat r6)).length false), (9, .sl 8 1 0 (s32.F (l3.set i4.toNat r6)).length false), (10, vi (ln r2)), (11, vi i4)], [(8, ⟨1, 38, 11, false, true, s32.F (l3.set i4.toNat r6)⟩), (5, ⟨2, 38, 11, true, false, [eStmt x5]⟩)], 3⟩ ?_
    refine Rg hT 2 [3, 9, 10, 11] ⟨[(3, .sl 8 1 0 (s32.F (l3.set i4.toNat r6)).length false), (9, .sl 8 1 0 (s32.F (l3.set i4.toNat r6)).length false), (10, vi (ln r2)), (11, vi (wr (i4 + 1)))], [(8, ⟨1, 38, 11, false, true, s32.F (l3.set i4.toNat r6)⟩), (5, ⟨2, 38, 11, true, false, [eStmt x5]⟩)], 3⟩ ?_
    exact oK [3, 9, 10, 11] [(8, 8, 1)] ⟨_, by omega, by omega, l3.set i4.toNat r6, wr (i4 + 1), h, rfl⟩
  intro hb; replace h := cfalse hb h
  refine WA_exit ?_
  refine Qz hT 2 [2] ⟨[(2, .sl 8 1 0 (s32.F l3).length false)], [(8, ⟨1, 38, 11, false, true, s32.F l3⟩)], 2⟩ ?_
  obtain rfl := Option.some.inj h
  exact rK [2] [(8, 100, 1)] ⟨[(2, .sl 100 1 0 (s32.F l3).length false)], [(100, ⟨1, 38, 11, false, true, s32.F l3⟩)], 2⟩ ⟨by kernel_rfl, by kernel_rfl, rfl⟩
theorem tree_copyStmt_step (n : Nat) (ih : ∀ m, m < n → tree_copyBlock_spec m) : ∀ {a0 : Stmt} {r : Stmt}, tree_copyStmt n a0 = some r → PT Try.prog 110 [eStmt a0] (eStmt r) := by
  intro a0 r h
  rcases n with _ | n
  · rw [tree_copyStmt] at h; cases h
  rw [tree_copyStmt] at h
  refine PT_bodyA hT Try.func110 rfl (by kernel_rfl) fun bad w => ?_
  refine Qz hT 2 [1, 2] ⟨[(1, .box 1 0 0 0), (2, .box 2 1 0 0)], [(2, ⟨1, 38, 11, true, false, [.agg [vi 0, vw b0, vw b0, vi 0, vi 0, vi 0, vw b0, .ps .nil [], .ps .nil [], .ps .nil [], vz c0]]⟩), (1, ⟨0, 38, 11, true, false, [eStmt a0]⟩)], 2⟩ ?_
  refine WA_seq ?_
  refine WA_drawW hT hM (by kernel_rfl) ?_
  refine WD_seg 2 ⟨[(4, eExpr a0.E), (3, .box 1 0 0 4), (1, .box 1 0 0 0), (2, .box 2 1 0 0)], [(2, ⟨1, 38, 11, true, false, [.agg [vi 0, vw b0, vw b0, vi 0, vi 0, vi 0, vw b0, .ps .nil [], .ps .nil [], .ps .nil [], vz c0]]⟩), (1, ⟨0, 38, 11, true, false, [eStmt a0]⟩)], 2⟩ [] [(0, [1]), (1, [1])] (by kernel_rfl) (by kernel_rfl) ?_
  obtain ⟨r1, hr1, h⟩ := bsome h
  refine WD_pt rfl (by kernel_rfl) (by kernel_rfl) [eExpr a0.E] (eExpr r1) rfl (by kernel_rfl) en136 (by kernel_rfl) (tree_copyExpr_ok hr1) (by kernel_rfl) ?_
  refine WD_seg 2 ⟨[(7, .ps .opt (s32.F a0.Body)), (6, .box 1 0 0 8), (5, eExpr r1), (4, eExpr a0.E), (3, .box 1 0 0 4), (1, .box 1 0 0 0), (2, .box 2 1 0 0)], [(2, ⟨1, 38, 11, true, false, [.agg [vi 0, vw b0, vw b0, vi 0, vi 0, vi 0, vw b0, .ps .nil [], .ps .nil [], .ps .nil [], vz c0]]⟩), (1, ⟨0, 38, 11, true, false, [eStmt a0]⟩)], 2⟩ [] [(0, [1]), (1, [1]), (3, [1]), (4, [1])] (by kernel_rfl) (by kernel_rfl) ?_
  obtain ⟨r2, hr2, h⟩ := bsome h
  refine WD_pt rfl (by kernel_rfl) (by kernel_rfl) [.ps .opt (s32.F a0.Body)] (.ps .opt (s32.F r2)) rfl (by kernel_rfl) en124 (by kernel_rfl) (PT_of_GO ((ih _ (by omega)).1 hr2)) (by kernel_rfl) ?_
  refine WD_seg 2 ⟨[(10, .ps .opt (s32.F a0.Else)), (9, .box 1 0 0 9), (8, .ps .opt (s32.F r2)), (7, .ps .opt (s32.F a0.Body)), (6, .box 1 0 0 8), (5, eExpr r1), (4, eExpr a0.E), (3, .box 1 0 0 4), (1, .box 1 0 0 0), (2, .box 2 1 0 0)], [(2, ⟨1, 38, 11, true, false, [.agg [vi 0, vw b0, vw b0, vi 0, vi 0, vi 0, vw b0, .ps .nil [], .ps .nil [], .ps .nil [], vz c0]]⟩), (1, ⟨0, 38, 11, true, false, [eStmt a0]⟩)], 2⟩ [] [(0, [1]), (1, [1]), (3, [1]), (4, [1]), (6, [1]), (7, [1])] (by kernel_rfl) (by kernel_rfl) ?_
  obtain ⟨r3, hr3, h⟩ := bsome h
  refine WD_pt rfl (by kernel_rfl) (by kernel_rfl) [.ps .opt (s32.F a0.Else)] (.ps .opt (s32.F r3)) rfl (by kernel_rfl) en124 (by kernel_rfl) (PT_of_GO ((ih _ (by omega)).1 hr3)) (by kernel_rfl) ?_
  refine WD_seg 6 ⟨[(14, .box 1 0 0 9), (13, .box 1 0 0 8), (12, .box 1 0 0 4), (11, .ps .opt (s32.F r3)), (10, .ps .opt (s32.F a0.Else)), (9, .box 1 0 0 9), (8, .ps .opt (s32.F r2)), (7, .ps .opt (s32.F a0.Body)), (6, .box 1 0 0 8), (5, eExpr r1), (4, eExpr a0.E), (3, .box 1 0 0 4), (1, .box 1 0 0 0), (2, .box 2 1 0 0)], [(1, ⟨0, 38, 11, true, false, [.agg [vi a0.Kind, vw a0.Name, vw a0.Other, vi a0.N, vi r1.Kind, vi r1.N, vw r1.Name, .ps .opt (s33.F r1.Of), .ps .opt (s32.F r2), .ps .opt (s32.F r3), vz a0.At]]⟩), (2, ⟨1, 38, 11, true, false, [.agg [vi 0, vw b0, vw b0, vi 0, vi 0, vi 0, vw b0, .ps .nil [], .ps .nil [], .ps .nil [], vz c0]]⟩)], 2⟩ [(10, [1]), (12, [1]), (14, [1])] [(0, [1]), (1, [1]), (3, [1]), (4, [1]), (6, [1]), (7, [1]), (9, [1]), (11, [1]), (13, [1])] (by kernel_rfl) (by kernel_rfl) ?_
  refine WD_end (by kernel_rfl) (by kernel_rfl) (by kernel_rfl) ?_
  refine Wk_done ?_
  refine Qz hT 2 [2] ⟨[(2, .box 2 1 0 0)], [(2, ⟨1, 38, 11, true, false, [.agg [vi a0.Kind, vw a0.Name, vw a0.Other, vi a0.N, vi r1.Kind, vi r1.N, vw r1.Name, .ps .opt (s33.F r1.Of), .ps .opt (s32.F r2), .ps .opt (s32.F r3), vz a0.At]]⟩), (1, ⟨0, 38, 11, true, false, [.agg [vi a0.Kind, vw a0.Name, vw a0.Other, vi a0.N, vi r1.Kind, vi r1.N, vw r1.Name, .ps .opt (s33.F r1.Of), .ps .opt (s32.F r2), .ps .opt (s32.F r3), vz a0.At]]⟩)], 2⟩ ?_
  refine aW [2] ⟨[(2, .box 2 1 0 0)], [(2, ⟨1, 38, 11, true, false, [.agg [vi a0.Kind, vw a0.Name, vw a0.Other, vi a0.N, vi r1.Kind, vi r1.N, vw r1.Name, .ps .opt (s33.F r1.Of), .ps .opt (s32.F r2), .ps .opt (s32.F r3), vz a0.At]]⟩), (1, ⟨0, 38, 11, true, false, [.agg [vi a0.Kind, vw a0.Name, vw a0.Other, vi a0.N, vi r1.Kind, vi r1.N, vw r1.Name, .ps .opt (s33.F r1.Of), .ps .opt (s32.F r2), .ps .opt (s32.F r3), vz a0.At]]⟩)], 2⟩ ?_
  refine WA_weak (Weak_leH [(2, .box 2 1 0 0)] [(2, ⟨1, 38, 11, true, false, [eStmt (Stmt.mk a0.Kind a0.Name a0.Other a0.N r1 r2 r3 a0.At)]⟩), (1, ⟨0, 38, 11, true, false, [.agg [vi a0.Kind, vw a0.Name, vw a0.Other, vi a0.N, vi r1.Kind, vi r1.N, vw r1.Name, .ps .opt (s33.F r1.Of), .ps .opt (s32.F r2), .ps .opt (s32.F r3), vz a0.At]]⟩)] (by kernel_rfl) ⟨VLf.refl _, trivial⟩ ⟨rfl, .inr (.inl ⟨rfl, rfl, CLe.agg ⟨VLf.refl _, VLf.refl _, VLf.refl _, VLf.refl _, VLf.refl _, VLf.refl _, VLf.refl _, VLf.refl _, VLf.refl _, VLf.refl _, VLf.refl _, trivial⟩, trivial⟩), rfl, .inl rfl, trivial⟩) ?_
  obtain rfl := Option.some.inj h
  exact rR [(2, 1000, 0)] ⟨[(2, .box 1000 0 0 0)], [(1000, ⟨0, 38, 11, true, false, [eStmt (Stmt.mk a0.Kind a0.Name a0.Other a0.N r1 r2 r3 a0.At)]⟩)], 1⟩ ⟨by kernel_rfl, rfl⟩
theorem tree_copyBlock_all (n : Nat) : tree_copyBlock_spec n := by
  induction n using Nat.strongRecOn with
  | _ n ih => exact ⟨tree_copyBlock_step n ih, tree_copyStmt_step n ih⟩
theorem tree_copyBlock_ok {n : Nat} {a0 : List Stmt} {r : List Stmt} (h : tree_copyBlock n a0 = some r) : GO Try.prog 124 [] [.ps .opt (s32.F a0)] (.sl 100 1 0 (s32.F r).length false) [(100, ⟨1, 38, 11, false, true, s32.F r⟩)] := (tree_copyBlock_all n).1 h
theorem tree_copyStmt_ok {n : Nat} {a0 : Stmt} {r : Stmt} (h : tree_copyStmt n a0 = some r) : PT Try.prog 110 [eStmt a0] (eStmt r) := (tree_copyBlock_all n).2 h

theorem Clip_111_ok {n : Nat} {a0 : List Stmt} {r : List Stmt} (h : Clip_111 n a0 = some r) : PT Try.prog 111 [.ps .opt (s32.F a0)] (.ps .fopt (s32.F r)) := by
  unfold Clip_111 at h
  refine PT_bodyA hT Try.func111 rfl (by kernel_rfl) fun bad w => ?_
  refine Qz hT 1 [0] ⟨[(0, .ps .opt (s32.F a0))], [], 0⟩ ?_
  refine Qg hT 2 [0, 3, 4] ⟨[(0, .ps .opt (s32.F a0)), (3, .ps .opt (s32.F a0)), (4, .ps .opt (s32.F a0))], [], 0⟩ ?_
  refine One hT rfl (ev_len s32 .opt a0 (by kernel_rfl)) ?_
  refine Sg hT 1 [3, 5, 6] ⟨[(3, .ps .opt (s32.F a0)), (5, vi (ln a0)), (6, .ps .opt (s32.F a0))], [], 0⟩ ?_
  refine One hT rfl (ev_len s32 .opt a0 (by kernel_rfl)) ?_
  refine Sg hT 0 [3, 5, 7] ⟨[(3, .ps .opt (s32.F a0)), (5, vi (ln a0)), (7, vi (ln a0))], [], 0⟩ ?_
  obtain ⟨l1, hl1, h⟩ := bsome h
  refine One hT rfl (ev_slice s32 .opt a0 0 (ln a0) (some (ln a0)) l1 .fopt hl1 (by kernel_rfl) (by kernel_rfl) (by kernel_rfl) (by kernel_rfl) (by intro y hy; cases hy; rfl) rfl rfl (by decide)) ?_
  refine Sz hT 1 [2] ⟨[(2, .ps .fopt (s32.F l1))], [], 0⟩ ?_
  obtain rfl := Option.some.inj h
  exact rK [2] [] ⟨[(2, .ps .fopt (s32.F l1))], [], 1⟩ ⟨by kernel_rfl, rfl⟩

theorem tree_List_ok {n : Nat} {a0 : Prog} {r : List Stmt} (h : tree_List n a0 = some r) : PT Try.prog 67 [eProg a0] (.ps .fopt (s32.F r)) := by
  unfold tree_List at h
  refine PT_bodyA hT Try.func67 rfl (by kernel_rfl) fun bad w => ?_
  refine Qz hT 2 [1] ⟨[(1, .box 1 0 0 0)], [(1, ⟨0, 26, 2, true, false, [eProg a0]⟩)], 1⟩ ?_
  refine Qz hT 1 [1, 3] ⟨[(1, .box 1 0 0 0), (3, .ps .nil [])], [(1, ⟨0, 26, 2, true, false, [eProg a0]⟩)], 1⟩ ?_
  refine WA_seq ?_
  refine Qg hT 2 [3, 9] ⟨[(3, .ps .nil []), (9, .ps .opt (s24.F a0.Threads))], [(1, ⟨0, 26, 2, true, false, [eProg a0]⟩)], 1⟩ ?_
  refine One hT rfl (ev_len s24 .opt a0.Threads (by kernel_rfl)) ?_
  refine Sz hT 1 [3, 9, 10, 11] ⟨[(3, .ps .nil []), (9, .ps .opt (s24.F a0.Threads)), (10, vi (ln a0.Threads)), (11, vi 0)], [(1, ⟨0, 26, 2, true, false, [eProg a0]⟩)], 1⟩ ?_
  refine WA_block ?_
  refine aW [3, 9, 10, 11] ⟨[(3, .ps .nil []), (9, .ps .opt (s24.F a0.Threads)), (10, vi (ln a0.Threads)), (11, vi 0)], [(1, ⟨0, 26, 2, true, false, [eProg a0]⟩)], 1⟩ ?_
  refine WA_weak (Weak_own 3 5000 38 11 (by kernel_rfl) (by kernel_rfl) (by kernel_rfl) (by kernel_rfl)) ?_
  refine lK [3, 9, 10, 11] [(5000, 10003, 0)] (fun k s => ∃ q, q ≤ k ∧ q ≤ n ∧ ∃ (l1 : List Stmt), ∃ (i2 : Int), tree_List_L0 q a0 l1 i2 = some r ∧ s = ⟨[(3, vo 10003 0 (s32.F l1)), (9, .ps .opt (s24.F a0.Threads)), (10, vi (ln a0.Threads)), (11, vi i2)], [(10003, ⟨0, 38, 11, false, true, s32.F l1⟩)], 1⟩) n ⟨n, Nat.le_refl _, Nat.le_refl _, ([] : List Stmt), 0, h, rfl⟩ (by rintro s ⟨q, hq, _, l1, i2, h, _⟩; obtain rfl := Nat.le_zero.1 hq; rw [tree_List_L0] at h; cases h) ?_
  clear h
  rintro k1 s ⟨q1, hk1, hn1, l1, i2, h, rfl⟩
  rcases q1 with _ | q1
  · rw [tree_List_L0] at h; cases h
  rw [tree_List_L0] at h
  refine Qz hT 1 [3, 9, 10, 11, 12] ⟨[(3, vo 10003 0 (s32.F l1)), (9, .ps .opt (s24.F a0.Threads)), (10, vi (ln a0.Threads)), (11, vi i2), (12, vb (decide (i2 < (ln a0.Threads))))], [(10003, ⟨0, 38, 11, false, true, s32.F l1⟩)], 1⟩ ?_
  refine WA_seq ?_
  refine Cd (decide (i2 < (ln a0.Threads))) ?_ ?_
  · intro hb; replace h := ctrue hb h
    refine WA_skip ?_
    refine WA_seq ?_
    refine WA_block ?_
    refine Qg hT 0 [3, 9, 10, 11] ⟨[(3, vo 10003 0 (s32.F l1)), (9, .ps .opt (s24.F a0.Threads)), (10, vi (ln a0.Threads)), (11, vi i2)], [(10003, ⟨0, 38, 11, false, true, s32.F l1⟩)], 1⟩ ?_
    obtain ⟨x3, hx3, h⟩ := bsome h
    refine One hT rfl (ev_index s24 .opt a0.Threads .i64 i2 hx3 (by decide) (by kernel_rfl) (by kernel_rfl)) ?_
    refine Sz hT 2 [3, 5, 9, 10, 11] ⟨[(3, vo 10003 0 (s32.F l1)), (5, .ps .opt (s32.F x3)), (9, .ps .opt (s24.F a0.Threads)), (10, vi (ln a0.Threads)), (11, vi i2)], [(10003, ⟨0, 38, 11, false, true, s32.F l1⟩)], 1⟩ ?_
    refine Rg hT 2 [9, 10, 11, 15, 16] ⟨[(9, .ps .opt (s24.F a0.Threads)), (10, vi (ln a0.Threads)), (11, vi i2), (15, vo 10003 0 (s32.F l1)), (16, .ps .opt (s32.F x3))], [(10003, ⟨0, 38, 11, false, true, s32.F l1⟩)], 1⟩ ?_
    obtain ⟨r4, hr4, h⟩ := bsome h
    refine WO_go rfl (by kernel_rfl) [(0, ⟨0, 38, 11, false, true, s32.F l1⟩)] [(100, ⟨1, 38, 11, false, true, s32.F r4⟩)] [vo 10003 0 (s32.F l1), .ps .opt (s32.F x3)] [vo 0 0 (s32.F l1), .ps .opt (s32.F x3)] [(10003, 0, 0)] [(100, 17, 1)] [(17, ⟨1, 38, 11, false, true, s32.F r4⟩)] (vo 100 1 (s32.F r4)) (vo 17 1 (s32.F r4)) 2 rfl (by kernel_rfl) en109 (by kernel_rfl) (by kernel_rfl) (by kernel_rfl) (tree_listed_109_o_ok hr4) (by kernel_rfl) (by kernel_rfl) (by kernel_rfl) (by kernel_rfl) ?_
    refine Sz hT 1 [3, 9, 10, 11] ⟨[(3, vo 17 1 (s32.F r4)), (9, .ps .opt (s24.F a0.Threads)), (10, vi (ln a0.Threads)), (11, vi i2)], [(17, ⟨1, 38, 11, false, true, s32.F r4⟩)], 2⟩ ?_
    refine Rg hT 2 [3, 9, 10, 11] ⟨[(3, vo 17 1 (s32.F r4)), (9, .ps .opt (s24.F a0.Threads)), (10, vi (ln a0.Threads)), (11, vi (wr (i2 + 1)))], [(17, ⟨1, 38, 11, false, true, s32.F r4⟩)], 2⟩ ?_
    exact oK [3, 9, 10, 11] [(17, 10003, 0)] ⟨_, by omega, by omega, r4, wr (i2 + 1), h, rfl⟩
  intro hb; replace h := cfalse hb h
  refine WA_exit ?_
  refine WA_seq ?_
  refine Qg hT 1 [3, 19] ⟨[(3, vo 10003 0 (s32.F l1)), (19, vo 10003 0 (s32.F l1))], [(10003, ⟨0, 38, 11, false, true, s32.F l1⟩)], 1⟩ ?_
  refine One hT rfl (ev_len_own s32 10003 0 true ⟨0, 38, 11, false, true, s32.F l1⟩ l1 (by kernel_rfl) rfl rfl) ?_
  refine Sz hT 1 [3, 19, 20, 21] ⟨[(3, vo 10003 0 (s32.F l1)), (19, vo 10003 0 (s32.F l1)), (20, vi (ln l1)), (21, vi 0)], [(10003, ⟨0, 38, 11, false, true, s32.F l1⟩)], 1⟩ ?_
  refine WA_block ?_
  refine lK [3, 19, 20, 21] [(10003, 10003, 0)] (fun k s => ∃ q, q ≤ k ∧ q ≤ q1 ∧ ∃ (l5 : List Stmt), ∃ (i6 : Int), tree_List_L1 q a0 l1 i2 l5 i6 = some r ∧ s = ⟨[(3, vo 10003 0 (s32.F l5)), (19, vo 10003 0 (s32.F l5)), (20, vi (ln l1)), (21, vi i6)], [(10003, ⟨0, 38, 11, false, true, s32.F l5⟩)], 1⟩) q1 ⟨q1, Nat.le_refl _, Nat.le_refl _, l1, 0, h, rfl⟩ (by rintro s ⟨q, hq, _, l5, i6, h, _⟩; obtain rfl := Nat.le_zero.1 hq; rw [tree_List_L1] at h; cases h) ?_
  clear h
  rintro k2 s ⟨q2, hk2, hn2, l5, i6, h, rfl⟩
  rcases q2 with _ | q2
  · rw [tree_List_L1] at h; cases h
  rw [tree_List_L1] at h
  refine Qz hT 1 [3, 19, 20, 21, 22] ⟨[(3, vo 10003 0 (s32.F l5)), (19, vo 10003 0 (s32.F l5)), (20, vi (ln l1)), (21, vi i6), (22, vb (decide (i6 < (ln l1))))], [(10003, ⟨0, 38, 11, false, true, s32.F l5⟩)], 1⟩ ?_
  refine WA_seq ?_
  refine Cd (decide (i6 < (ln l1))) ?_ ?_
  · intro hb; replace h := ctrue hb h
    refine WA_skip ?_
    refine WA_seq ?_
    refine WA_block ?_
    refine Qg hT 1 [3, 19, 20, 21, 23] ⟨[(3, vo 10003 0 (s32.F l5)), (19, vo 10003 0 (s32.F l5)), (20, vi (ln l1)), (21, vi i6), (23, vi i6)], [(10003, ⟨0, 38, 11, false, true, s32.F l5⟩)], 1⟩ ?_
    obtain ⟨x7, hx7, h⟩ := bsome h
    refine One hT rfl (ev_index_own s32 10003 0 true ⟨0, 38, 11, false, true, s32.F l5⟩ l5 .i64 i6 hx7 (by kernel_rfl) (by kernel_rfl) rfl rfl rfl) ?_
    refine Sg hT 0 [3, 19, 20, 21, 23, 24] ⟨[(3, vo 10003 0 (s32.F l5)), (19, vo 10003 0 (s32.F l5)), (20, vi (ln l1)), (21, vi i6), (23, vi i6), (24, .box 10003 0 i6.toNat 0)], [(10003, ⟨0, 38, 11, false, true, s32.F l5⟩)], 1⟩ ?_
    refine One hT rfl (ev_load_row s32 10003 0 ⟨0, 38, 11, false, true, s32.F l5⟩ l5 i6.toNat 0 x7 (eStmt x7) (idx_some hx7).2 (by kernel_rfl) rfl rfl rfl (by kernel_rfl)) ?_
    refine Sz hT 3 [3, 6, 7, 19, 20, 21] ⟨[(3, vo 10003 0 (s32.F l5)), (6, vi i6), (7, .box 7 1 0 0), (19, vo 10003 0 (s32.F l5)), (20, vi (ln l1)), (21, vi i6)], [(7, ⟨1, 38, 11, true, false, [eStmt x7]⟩), (10003, ⟨0, 38, 11, false, true, s32.F l5⟩)], 2⟩ ?_
    refine Rg hT 3 [3, 19, 20, 21, 26, 27, 28] ⟨[(3, vo 10003 0 (s32.F l5)), (19, vo 10003 0 (s32.F l5)), (20, vi (ln l1)), (21, vi i6), (26, vo 10003 0 (s32.F l5)), (27, vi i6), (28, eStmt x7)], [(7, ⟨1, 38, 11, true, false, [eStmt x7]⟩), (10003, ⟨0, 38, 11, false, true, s32.F l5⟩)], 2⟩ ?_
    obtain ⟨r8, hr8, h⟩ := bsome h
    refine Pt en110 (tree_copyStmt_ok hr8) ?_
    refine Sg hT 0 [3, 19, 20, 21, 26, 27, 29] ⟨[(3, vo 10003 0 (s32.F l5)), (19, vo 10003 0 (s32.F l5)), (20, vi (ln l1)), (21, vi i6), (26, vo 10003 0 (s32.F l5)), (27, vi i6), (29, eStmt r8)], [(7, ⟨1, 38, 11, true, false, [eStmt x7]⟩), (10003, ⟨0, 38, 11, false, true, s32.F l5⟩)], 2⟩ ?_
    obtain ⟨x9, hx9, h⟩ := bsome h
    refine One hT rfl (ev_index_own s32 10003 0 true ⟨0, 38, 11, false, true, s32.F l5⟩ l5 .i64 i6 hx9 (by kernel_rfl) (by kernel_rfl) rfl rfl rfl) ?_
    refine Sg hT 0 [3, 19, 20, 21, 29, 30] ⟨[(3, vo 10003 0 (s32.F l5)), (19, vo 10003 0 (s32.F l5)), (20, vi (ln l1)), (21, vi i6), (29, eStmt r8), (30, .box 10003 0 i6.toNat 0)], [(7, ⟨1, 38, 11, true, false, [eStmt x7]⟩), (10003, ⟨0, 38, 11, false, true, s32.F l5⟩)], 2⟩ ?_
    refine One hT rfl (ev_storeRow s32 10003 0 ⟨0, 38, 11, false, true, s32.F l5⟩ l5 i6.toNat 0 x9 r8 (idx_some hx9).2 (by kernel_rfl) (by kernel_rfl) rfl rfl rfl rfl (by kernel_rfl) (by kernel_rfl) (by kernel_rfl)) ?_
    refine oW [3, 19, 20, 21, 29] ⟨[(3, vo 10003 0 (s32.F l5)), (19, vo 10003 0 (s32.F l5)), (20, vi (ln l1)), (21, vi i6), (29, eStmt r8)], [(10003, ⟨0, 38, 11, false, true, s32.F (l5.set i6.toNat r8)⟩), (7, ⟨1, 38, 11, true, false, [eStmt x7]⟩)], 2⟩ ?_
    refine WO_weak (Weak_leH [(3, vo 10003 0 (s32.F (l5.set i6.toNat r8))), (19, vo 10003 0 (s32.F (l5.set i6.toNat r8))), (20, vi (ln l1)), (21, vi i6), (29, eStmt r8)] [(10003, ⟨0, 38, 11, false, true, s32.F (l5.set i6.toNat r8)⟩), (7, ⟨1, 38, 11, true, false, [eStmt x7]⟩)] (by kernel_rfl) ⟨(VLf.slen (by simp [TE.len])), (VLf.slen (by simp [TE.len])), VLf.refl _, VLf.refl _, VLf.refl _, trivial⟩ (HLe.refl _)) ?_
    refine Sz hT 0 [3, 19, 20, 21] ⟨[(3, vo 10003 0 (s32.F (l5.set i6.toNat r8))), (19, vo 10003 0 (s32.F (l5.set i6.toNat r8))), (20, vi (ln l1)), (21, vi i6)], [(10003, ⟨0, 38, 11, false, true, s32.F (l5.set i6.toNat r8)⟩), (7, ⟨1, 38, 11, true, false, [eStmt x7]⟩)], 2⟩ ?_
    refine Rg hT 2 [3, 19, 20, 21] ⟨[(3, vo 10003 0 (s32.F (l5.set i6.toNat r8))), (19, vo 10003 0 (s32.F (l5.set i6.toNat r8))), (20, vi (ln l1)), (21, vi (wr (i6 + 1)))], [(10003, ⟨0, 38, 11, false, true, s32.F (l5.set i6.toNat r8)⟩), (7, ⟨1, 38, 11, true, false, [eStmt x7]⟩)], 2⟩ ?_
    exact oK [3, 19, 20, 21] [(10003, 10003, 0)] ⟨_, by omega, by omega, l5.set i6.toNat r8, wr (i6 + 1), h, rfl⟩
  intro hb; replace h := cfalse hb h
  refine WA_exit ?_
  refine Qg hT 1 [32] ⟨[(32, vo 10003 0 (s32.F l5))], [(10003, ⟨0, 38, 11, false, true, s32.F l5⟩)], 1⟩ ?_
  refine WO_weak (Weak_frz 10003 0 ⟨0, 38, 11, false, true, s32.F l5⟩ (by kernel_rfl) rfl rfl [(32, .ps .opt (s32.F l5))] [] ⟨rfl, .hit true, trivial⟩ trivial) ?_
  obtain ⟨r10, hr10, h⟩ := bsome h
  refine Pt en111 (Clip_111_ok hr10) ?_
  refine Sz hT 1 [2] ⟨[(2, .ps .fopt (s32.F r10))], [], 1⟩ ?_
  obtain rfl := Option.some.inj h
  exact rK [2] [] ⟨[(2, .ps .fopt (s32.F r10))], [], 1⟩ ⟨by kernel_rfl, rfl⟩

theorem Clip_138_ok {n : Nat} {a0 : List ByteArray} {r : List ByteArray} (h : Clip_138 n a0 = some r) : PT Try.prog 138 [.ps .opt (s62.F a0)] (.ps .fopt (s62.F r)) := by
  unfold Clip_138 at h
  refine PT_bodyA hT Try.func138 rfl (by kernel_rfl) fun bad w => ?_
  refine Qz hT 1 [0] ⟨[(0, .ps .opt (s62.F a0))], [], 0⟩ ?_
  refine Qg hT 2 [0, 3, 4] ⟨[(0, .ps .opt (s62.F a0)), (3, .ps .opt (s62.F a0)), (4, .ps .opt (s62.F a0))], [], 0⟩ ?_
  refine One hT rfl (ev_len s62 .opt a0 (by kernel_rfl)) ?_
  refine Sg hT 1 [3, 5, 6] ⟨[(3, .ps .opt (s62.F a0)), (5, vi (ln a0)), (6, .ps .opt (s62.F a0))], [], 0⟩ ?_
  refine One hT rfl (ev_len s62 .opt a0 (by kernel_rfl)) ?_
  refine Sg hT 0 [3, 5, 7] ⟨[(3, .ps .opt (s62.F a0)), (5, vi (ln a0)), (7, vi (ln a0))], [], 0⟩ ?_
  obtain ⟨l1, hl1, h⟩ := bsome h
  refine One hT rfl (ev_slice s62 .opt a0 0 (ln a0) (some (ln a0)) l1 .fopt hl1 (by kernel_rfl) (by kernel_rfl) (by kernel_rfl) (by kernel_rfl) (by intro y hy; cases hy; rfl) rfl rfl (by decide)) ?_
  refine Sz hT 1 [2] ⟨[(2, .ps .fopt (s62.F l1))], [], 0⟩ ?_
  obtain rfl := Option.some.inj h
  exact rK [2] [] ⟨[(2, .ps .fopt (s62.F l1))], [], 1⟩ ⟨by kernel_rfl, rfl⟩

def tree_Names_spec (n : Nat) : Prop := (∀ {a0 : Expr} {r : List ByteArray}, tree_Names n a0 = some r → PT Try.prog 137 [eExpr a0] (.ps .fopt (s62.F r)))
theorem tree_Names_step (n : Nat) (ih : ∀ m, m < n → tree_Names_spec m) : ∀ {a0 : Expr} {r : List ByteArray}, tree_Names n a0 = some r → PT Try.prog 137 [eExpr a0] (.ps .fopt (s62.F r)) := by
  intro a0 r h
  rcases n with _ | n
  · rw [tree_Names] at h; cases h
  rw [tree_Names] at h
  refine PT_bodyA hT Try.func137 rfl (by kernel_rfl) fun bad w => ?_
  refine Qz hT 2 [1] ⟨[(1, .box 1 0 0 0)], [(1, ⟨0, 35, 4, true, false, [eExpr a0]⟩)], 1⟩ ?_
  refine Qz hT 1 [1, 3] ⟨[(1, .box 1 0 0 0), (3, .ps .nil [])], [(1, ⟨0, 35, 4, true, false, [eExpr a0]⟩)], 1⟩ ?_
  refine WA_seq ?_
  refine Qz hT 3 [1, 3, 8] ⟨[(1, .box 1 0 0 0), (3, .ps .nil []), (8, vb (a0.Kind == 2))], [(1, ⟨0, 35, 4, true, false, [eExpr a0]⟩)], 1⟩ ?_
  obtain ⟨J2, hJ2, h⟩ := jsome h
  refine WA_join (fun s => ∃ (l1 : List ByteArray), J2 l1 = some r ∧ s = ⟨[(1, .box 1 0 0 0), (3, vo 10003 0 (s62.F l1))], [(1, ⟨0, 35, 4, true, false, [eExpr a0]⟩), (10003, ⟨0, 9, 1, false, true, s62.F l1⟩)], 1⟩) ?_ ?_
  · refine Cd (a0.Kind == 2) ?_ ?_
    · intro hb; replace h := ctrue hb h
      refine Rg hT 4 [1, 9, 12] ⟨[(1, .box 1 0 0 0), (9, .ps .nil []), (12, vo 12 1 (s62.F [a0.Name]))], [(12, ⟨1, 9, 1, false, false, s62.F [a0.Name]⟩), (1, ⟨0, 35, 4, true, false, [eExpr a0]⟩)], 2⟩ ?_
      refine WO_weak (Weak_own 9 6013 9 1 (by kernel_rfl) (by kernel_rfl) (by kernel_rfl) (by kernel_rfl)) ?_
      obtain ⟨g3, h⟩ := gsome h
      refine WO_append hT s62 rfl (by kernel_rfl) 6013 2 true ([] : List ByteArray) [a0.Name] rfl (by kernel_rfl) (by kernel_rfl) (elems_own s62 12 1 true ⟨1, 9, 1, false, false, s62.F [a0.Name]⟩ [a0.Name] (by kernel_rfl) (by kernel_rfl) rfl rfl rfl) g3 (by kernel_rfl) ?_
      refine Sg hT 1 [1, 3] ⟨[(1, .box 1 0 0 0), (3, vo 13 3 (s62.F (([] : List ByteArray) ++ [a0.Name])))], [(13, ⟨3, 9, 1, false, true, s62.F (([] : List ByteArray) ++ [a0.Name])⟩), (12, ⟨1, 9, 1, false, false, s62.F [a0.Name]⟩), (1, ⟨0, 35, 4, true, false, [eExpr a0]⟩)], 4⟩ ?_
      exact oK [1, 3] [(1, 1, 0), (13, 10003, 0)] ⟨([] : List ByteArray) ++ [a0.Name], h, rfl⟩
    intro hb; replace h := cfalse hb h
    refine aW [1, 3] ⟨[(1, .box 1 0 0 0), (3, .ps .nil [])], [(1, ⟨0, 35, 4, true, false, [eExpr a0]⟩)], 1⟩ ?_
    refine WA_weak (Weak_own 3 5000 9 1 (by kernel_rfl) (by kernel_rfl) (by kernel_rfl) (by kernel_rfl)) ?_
    exact sK [1, 3] [(1, 1, 0), (5000, 10003, 0)] ⟨([] : List ByteArray), h, rfl⟩
  subst hJ2
  rintro s ⟨l1, h, rfl⟩
  refine WA_seq ?_
  refine Qg hT 2 [3, 15] ⟨[(3, vo 10003 0 (s62.F l1)), (15, .ps .opt (s33.F a0.Of))], [(1, ⟨0, 35, 4, true, false, [eExpr a0]⟩), (10003, ⟨0, 9, 1, false, true, s62.F l1⟩)], 1⟩ ?_
  refine One hT rfl (ev_len s33 .opt a0.Of (by kernel_rfl)) ?_
  refine Sz hT 1 [3, 15, 16, 17] ⟨[(3, vo 10003 0 (s62.F l1)), (15, .ps .opt (s33.F a0.Of)), (16, vi (ln a0.Of)), (17, vi 0)], [(1, ⟨0, 35, 4, true, false, [eExpr a0]⟩), (10003, ⟨0, 9, 1, false, true, s62.F l1⟩)], 1⟩ ?_
  refine WA_block ?_
  refine lK [3, 15, 16, 17] [(10003, 10003, 0)] (fun k s => ∃ q, q ≤ k ∧ q ≤ n ∧ ∃ (l4 : List ByteArray), ∃ (i5 : Int), tree_Names_L0 q a0 l1 l4 i5 = some r ∧ s = ⟨[(3, vo 10003 0 (s62.F l4)), (15, .ps .opt (s33.F a0.Of)), (16, vi (ln a0.Of)), (17, vi i5)], [(10003, ⟨0, 9, 1, false, true, s62.F l4⟩)], 1⟩) n ⟨n, Nat.le_refl _, Nat.le_refl _, l1, 0, h, rfl⟩ (by rintro s ⟨q, hq, _, l4, i5, h, _⟩; obtain rfl := Nat.le_zero.1 hq; rw [tree_Names_L0] at h; cases h) ?_
  clear h
  rintro k1 s ⟨q1, hk1, hn1, l4, i5, h, rfl⟩
  rcases q1 with _ | q1
  · rw [tree_Names_L0] at h; cases h
  rw [tree_Names_L0] at h
  refine Qz hT 1 [3, 15, 16, 17, 18] ⟨[(3, vo 10003 0 (s62.F l4)), (15, .ps .opt (s33.F a0.Of)), (16, vi (ln a0.Of)), (17, vi i5), (18, vb (decide (i5 < (ln a0.Of))))], [(10003, ⟨0, 9, 1, false, true, s62.F l4⟩)], 1⟩ ?_
  refine WA_seq ?_
  refine Cd (decide (i5 < (ln a0.Of))) ?_ ?_
  · intro hb; replace h := ctrue hb h
    refine WA_skip ?_
    refine WA_seq ?_
    refine WA_block ?_
    refine Qg hT 0 [3, 15, 16, 17] ⟨[(3, vo 10003 0 (s62.F l4)), (15, .ps .opt (s33.F a0.Of)), (16, vi (ln a0.Of)), (17, vi i5)], [(10003, ⟨0, 9, 1, false, true, s62.F l4⟩)], 1⟩ ?_
    obtain ⟨x6, hx6, h⟩ := bsome h
    refine One hT rfl (ev_index s33 .opt a0.Of .i64 i5 hx6 (by decide) (by kernel_rfl) (by kernel_rfl)) ?_
    refine Sz hT 3 [3, 5, 15, 16, 17] ⟨[(3, vo 10003 0 (s62.F l4)), (5, .box 5 1 0 0), (15, .ps .opt (s33.F a0.Of)), (16, vi (ln a0.Of)), (17, vi i5)], [(5, ⟨1, 35, 4, true, false, [eExpr x6]⟩), (10003, ⟨0, 9, 1, false, true, s62.F l4⟩)], 2⟩ ?_
    refine Rg hT 2 [15, 16, 17, 21, 22] ⟨[(15, .ps .opt (s33.F a0.Of)), (16, vi (ln a0.Of)), (17, vi i5), (21, vo 10003 0 (s62.F l4)), (22, eExpr x6)], [(5, ⟨1, 35, 4, true, false, [eExpr x6]⟩), (10003, ⟨0, 9, 1, false, true, s62.F l4⟩)], 2⟩ ?_
    obtain ⟨r7, hr7, h⟩ := bsome h
    refine Pt en137 ((ih _ (by omega)) hr7) ?_
    refine Sg hT 0 [15, 16, 17, 21, 23] ⟨[(15, .ps .opt (s33.F a0.Of)), (16, vi (ln a0.Of)), (17, vi i5), (21, vo 10003 0 (s62.F l4)), (23, .ps .fopt (s62.F r7))], [(5, ⟨1, 35, 4, true, false, [eExpr x6]⟩), (10003, ⟨0, 9, 1, false, true, s62.F l4⟩)], 2⟩ ?_
    obtain ⟨g8, h⟩ := gsome h
    refine WO_append hT s62 rfl (by kernel_rfl) 10003 0 true l4 r7 rfl (by kernel_rfl) (by kernel_rfl) (by kernel_rfl) g8 (by kernel_rfl) ?_
    refine Sz hT 1 [3, 15, 16, 17] ⟨[(3, vo 24 2 (s62.F (l4 ++ r7))), (15, .ps .opt (s33.F a0.Of)), (16, vi (ln a0.Of)), (17, vi i5)], [(24, ⟨2, 9, 1, false, true, s62.F (l4 ++ r7)⟩), (5, ⟨1, 35, 4, true, false, [eExpr x6]⟩)], 3⟩ ?_
    refine Rg hT 2 [3, 15, 16, 17] ⟨[(3, vo 24 2 (s62.F (l4 ++ r7))), (15, .ps .opt (s33.F a0.Of)), (16, vi (ln a0.Of)), (17, vi (wr (i5 + 1)))], [(24, ⟨2, 9, 1, false, true, s62.F (l4 ++ r7)⟩), (5, ⟨1, 35, 4, true, false, [eExpr x6]⟩)], 3⟩ ?_
    exact oK [3, 15, 16, 17] [(24, 10003, 0)] ⟨_, by omega, by omega, l4 ++ r7, wr (i5 + 1), h, rfl⟩
  intro hb; replace h := cfalse hb h
  refine WA_exit ?_
  refine Qg hT 1 [26] ⟨[(26, vo 10003 0 (s62.F l4))], [(10003, ⟨0, 9, 1, false, true, s62.F l4⟩)], 1⟩ ?_
  refine WO_weak (Weak_frz 10003 0 ⟨0, 9, 1, false, true, s62.F l4⟩ (by kernel_rfl) rfl rfl [(26, .ps .opt (s62.F l4))] [] ⟨rfl, .hit true, trivial⟩ trivial) ?_
  obtain ⟨r9, hr9, h⟩ := bsome h
  refine Pt en138 (Clip_138_ok hr9) ?_
  refine Sz hT 1 [2] ⟨[(2, .ps .fopt (s62.F r9))], [], 1⟩ ?_
  obtain rfl := Option.some.inj h
  exact rK [2] [] ⟨[(2, .ps .fopt (s62.F r9))], [], 1⟩ ⟨by kernel_rfl, rfl⟩
theorem tree_Names_all (n : Nat) : tree_Names_spec n := by
  induction n using Nat.strongRecOn with
  | _ n ih => exact tree_Names_step n ih
theorem tree_Names_ok {n : Nat} {a0 : Expr} {r : List ByteArray} (h : tree_Names n a0 = some r) : PT Try.prog 137 [eExpr a0] (.ps .fopt (s62.F r)) := (tree_Names_all n) h

theorem tree_Touches_ok {n : Nat} {a0 : Stmt} {r : List ByteArray} (h : tree_Touches n a0 = some r) : PT Try.prog 112 [eStmt a0] (.ps .fopt (s62.F r)) := by
  unfold tree_Touches at h
  refine PT_bodyA hT Try.func112 rfl (by kernel_rfl) fun bad w => ?_
  refine Qz hT 2 [1] ⟨[(1, .box 1 0 0 0)], [(1, ⟨0, 38, 11, true, false, [eStmt a0]⟩)], 1⟩ ?_
  refine Qz hT 1 [1, 3] ⟨[(1, .box 1 0 0 0), (3, .ps .nil [])], [(1, ⟨0, 38, 11, true, false, [eStmt a0]⟩)], 1⟩ ?_
  refine WA_seq ?_
  refine Qz hT 2 [1, 3, 5] ⟨[(1, .box 1 0 0 0), (3, .ps .nil []), (5, vi a0.Kind)], [(1, ⟨0, 38, 11, true, false, [eStmt a0]⟩)], 1⟩ ?_
  obtain ⟨J2, hJ2, h⟩ := jsome h
  refine WA_join (fun s => ∃ (l1 : List ByteArray), J2 l1 = some r ∧ s = ⟨[(1, .box 1 0 0 0), (3, .ps .fopt (s62.F l1))], [(1, ⟨0, 38, 11, true, false, [eStmt a0]⟩)], 1⟩) ?_ ?_
  · refine WA_block ?_
    refine WA_seq ?_
    refine Qz hT 2 [1, 3, 5, 6] ⟨[(1, .box 1 0 0 0), (3, .ps .nil []), (5, vi a0.Kind), (6, vb (a0.Kind == 1))], [(1, ⟨0, 38, 11, true, false, [eStmt a0]⟩)], 1⟩ ?_
    obtain ⟨J4, hJ4, h⟩ := jsome h
    refine WA_join (fun s => ∃ (b3 : Bool), J4 b3 = some r ∧ s = ⟨[(1, .box 1 0 0 0), (3, .ps .nil []), (6, vb b3)], [(1, ⟨0, 38, 11, true, false, [eStmt a0]⟩)], 1⟩) ?_ ?_
    · refine Cd (a0.Kind == 1) ?_ ?_
      · intro hb; replace h := ctrue hb h
        exact sK [1, 3, 6] [(1, 1, 0)] ⟨(a0.Kind == 1), h, rfl⟩
      intro hb; replace h := cfalse hb h
      refine Qz hT 2 [1, 3, 5, 6] ⟨[(1, .box 1 0 0 0), (3, .ps .nil []), (5, vi a0.Kind), (6, vb (a0.Kind == 4))], [(1, ⟨0, 38, 11, true, false, [eStmt a0]⟩)], 1⟩ ?_
      refine Cd (a0.Kind == 4) ?_ ?_
      · intro hb; replace h := ctrue hb h
        exact sK [1, 3, 6] [(1, 1, 0)] ⟨(a0.Kind == 4), h, rfl⟩
      intro hb; replace h := cfalse hb h
      refine Qz hT 2 [1, 3, 5, 6] ⟨[(1, .box 1 0 0 0), (3, .ps .nil []), (5, vi a0.Kind), (6, vb (a0.Kind == 6))], [(1, ⟨0, 38, 11, true, false, [eStmt a0]⟩)], 1⟩ ?_
      refine Cd (a0.Kind == 6) ?_ ?_
      · intro hb; replace h := ctrue hb h
        exact sK [1, 3, 6] [(1, 1, 0)] ⟨(a0.Kind == 6), h, rfl⟩
      intro hb; replace h := cfalse hb h
      refine Rg hT 2 [1, 3, 6] ⟨[(1, .box 1 0 0 0), (3, .ps .nil []), (6, vb (a0.Kind == 7))], [(1, ⟨0, 38, 11, true, false, [eStmt a0]⟩)], 1⟩ ?_
      exact oK [1, 3, 6] [(1, 1, 0)] ⟨(a0.Kind == 7), h, rfl⟩
    subst hJ4
    rintro s ⟨b3, h, rfl⟩
    skip
    refine Cd b3 ?_ ?_
    · intro hb; replace h := ctrue hb h
      refine Rg hT 2 [1, 12] ⟨[(1, .box 1 0 0 0), (12, eExpr a0.E)], [(1, ⟨0, 38, 11, true, false, [eStmt a0]⟩)], 1⟩ ?_
      obtain ⟨r5, hr5, h⟩ := bsome h
      refine Pt en137 (tree_Names_ok hr5) ?_
      refine Sg hT 1 [1, 3] ⟨[(1, .box 1 0 0 0), (3, .ps .fopt (s62.F r5))], [(1, ⟨0, 38, 11, true, false, [eStmt a0]⟩)], 1⟩ ?_
      exact oK [1, 3] [(1, 1, 0)] ⟨r5, h, rfl⟩
    intro hb; replace h := cfalse hb h
    refine aW [1, 3] ⟨[(1, .box 1 0 0 0), (3, .ps .nil [])], [(1, ⟨0, 38, 11, true, false, [eStmt a0]⟩)], 1⟩ ?_
    refine WA_weak (Weak_leH [(1, .box 1 0 0 0), (3, .ps .fopt (s62.F []))] [(1, ⟨0, 38, 11, true, false, [eStmt a0]⟩)] (by kernel_rfl) ⟨VLf.refl _, (VLe.f VLe.nil_fopt rfl), trivial⟩ ⟨rfl, .inl rfl, trivial⟩) ?_
    exact sR [(1, 1, 0)] ⟨[], h, rfl⟩
  subst hJ2
  rintro s ⟨l1, h, rfl⟩
  refine WA_seq ?_
  refine Qz hT 2 [1, 3, 15] ⟨[(1, .box 1 0 0 0), (3, .ps .fopt (s62.F l1)), (15, vi a0.Kind)], [(1, ⟨0, 38, 11, true, false, [eStmt a0]⟩)], 1⟩ ?_
  obtain ⟨J7, hJ7, h⟩ := jsome h
  refine WA_join (fun s => ∃ (l6 : List ByteArray), J7 l6 = some r ∧ s = ⟨[(3, .ps .opt (s62.F l6))], [], 1⟩) ?_ ?_
  · refine WA_block ?_
    refine Qz hT 2 [1, 3, 15, 16] ⟨[(1, .box 1 0 0 0), (3, .ps .fopt (s62.F l1)), (15, vi a0.Kind), (16, vb (a0.Kind == 1))], [(1, ⟨0, 38, 11, true, false, [eStmt a0]⟩)], 1⟩ ?_
    refine Cd (a0.Kind == 1) ?_ ?_
    · intro hb; replace h := ctrue hb h
      refine Rg hT 4 [18, 21] ⟨[(18, .ps .fopt (s62.F l1)), (21, vo 21 1 (s62.F [a0.Name]))], [(21, ⟨1, 9, 1, false, false, s62.F [a0.Name]⟩), (1, ⟨0, 38, 11, true, false, [eStmt a0]⟩)], 2⟩ ?_
      obtain ⟨g8, h⟩ := gsome h
      refine One hT rfl (ev_appendF s62 .fopt l1 [a0.Name] (by decide) (by kernel_rfl) (elems_own s62 21 1 true ⟨1, 9, 1, false, false, s62.F [a0.Name]⟩ [a0.Name] (by kernel_rfl) (by kernel_rfl) rfl rfl rfl) (by simp) g8) ?_
      refine Sg hT 1 [3] ⟨[(3, vo 22 2 (s62.F (l1 ++ [a0.Name])))], [(22, ⟨2, 9, 1, false, false, s62.F (l1 ++ [a0.Name])⟩), (21, ⟨1, 9, 1, false, false, s62.F [a0.Name]⟩), (1, ⟨0, 38, 11, true, false, [eStmt a0]⟩)], 3⟩ ?_
      refine oW [3] ⟨[(3, vo 22 2 (s62.F (l1 ++ [a0.Name])))], [(22, ⟨2, 9, 1, false, false, s62.F (l1 ++ [a0.Name])⟩), (21, ⟨1, 9, 1, false, false, s62.F [a0.Name]⟩), (1, ⟨0, 38, 11, true, false, [eStmt a0]⟩)], 3⟩ ?_
      refine WO_weak (Weak_frz 22 2 ⟨2, 9, 1, false, false, s62.F (l1 ++ [a0.Name])⟩ (by kernel_rfl) rfl rfl [(3, .ps .opt (s62.F (l1 ++ [a0.Name])))] [(21, ⟨1, 9, 1, false, false, s62.F [a0.Name]⟩), (1, ⟨0, 38, 11, true, false, [eStmt a0]⟩)] ⟨rfl, .hit true, trivial⟩ ⟨rfl, .inl rfl, rfl, .inl rfl, trivial⟩) ?_
      exact oR [] ⟨l1 ++ [a0.Name], h, rfl⟩
    intro hb; replace h := cfalse hb h
    refine Qz hT 2 [1, 3, 23] ⟨[(1, .box 1 0 0 0), (3, .ps .fopt (s62.F l1)), (23, vb (a0.Kind == 5))], [(1, ⟨0, 38, 11, true, false, [eStmt a0]⟩)], 1⟩ ?_
    refine Cd (a0.Kind == 5) ?_ ?_
    · intro hb; replace h := ctrue hb h
      refine Rg hT 4 [25, 28] ⟨[(25, .ps .fopt (s62.F l1)), (28, vo 28 1 (s62.F [a0.Other]))], [(28, ⟨1, 9, 1, false, false, s62.F [a0.Other]⟩), (1, ⟨0, 38, 11, true, false, [eStmt a0]⟩)], 2⟩ ?_
      obtain ⟨g9, h⟩ := gsome h
      refine One hT rfl (ev_appendF s62 .fopt l1 [a0.Other] (by decide) (by kernel_rfl) (elems_own s62 28 1 true ⟨1, 9, 1, false, false, s62.F [a0.Other]⟩ [a0.Other] (by kernel_rfl) (by kernel_rfl) rfl rfl rfl) (by simp) g9) ?_
      refine Sg hT 1 [3] ⟨[(3, vo 29 2 (s62.F (l1 ++ [a0.Other])))], [(29, ⟨2, 9, 1, false, false, s62.F (l1 ++ [a0.Other])⟩), (28, ⟨1, 9, 1, false, false, s62.F [a0.Other]⟩), (1, ⟨0, 38, 11, true, false, [eStmt a0]⟩)], 3⟩ ?_
      refine oW [3] ⟨[(3, vo 29 2 (s62.F (l1 ++ [a0.Other])))], [(29, ⟨2, 9, 1, false, false, s62.F (l1 ++ [a0.Other])⟩), (28, ⟨1, 9, 1, false, false, s62.F [a0.Other]⟩), (1, ⟨0, 38, 11, true, false, [eStmt a0]⟩)], 3⟩ ?_
      refine WO_weak (Weak_frz 29 2 ⟨2, 9, 1, false, false, s62.F (l1 ++ [a0.Other])⟩ (by kernel_rfl) rfl rfl [(3, .ps .opt (s62.F (l1 ++ [a0.Other])))] [(28, ⟨1, 9, 1, false, false, s62.F [a0.Other]⟩), (1, ⟨0, 38, 11, true, false, [eStmt a0]⟩)] ⟨rfl, .hit true, trivial⟩ ⟨rfl, .inl rfl, rfl, .inl rfl, trivial⟩) ?_
      exact oR [] ⟨l1 ++ [a0.Other], h, rfl⟩
    intro hb; replace h := cfalse hb h
    refine aW [3] ⟨[(3, .ps .fopt (s62.F l1))], [(1, ⟨0, 38, 11, true, false, [eStmt a0]⟩)], 1⟩ ?_
    refine WA_weak (Weak_leH [(3, .ps .opt (s62.F l1))] [(1, ⟨0, 38, 11, true, false, [eStmt a0]⟩)] (by kernel_rfl) ⟨(VLe.f VLe.fopt_opt rfl), trivial⟩ ⟨rfl, .inl rfl, trivial⟩) ?_
    exact sR [] ⟨l1, h, rfl⟩
  subst hJ7
  rintro s ⟨l6, h, rfl⟩
  refine Qg hT 1 [30] ⟨[(30, .ps .opt (s62.F l6))], [], 1⟩ ?_
  obtain ⟨r10, hr10, h⟩ := bsome h
  refine Pt en138 (Clip_138_ok hr10) ?_
  refine Sz hT 1 [2] ⟨[(2, .ps .fopt (s62.F r10))], [], 1⟩ ?_
  obtain rfl := Option.some.inj h
  exact rK [2] [] ⟨[(2, .ps .fopt (s62.F r10))], [], 1⟩ ⟨by kernel_rfl, rfl⟩

theorem Index_126_ok {n : Nat} {a0 : List ByteArray} {a1 : ByteArray} {r : Int} (h : Index_126 n a0 a1 = some r) : PT Try.prog 126 [.ps .opt (s62.F a0), vw a1] (vi r) := by
  unfold Index_126 at h
  refine PT_bodyA hT Try.func126 rfl (by kernel_rfl) fun bad w => ?_
  refine Qz hT 1 [0, 1] ⟨[(0, .ps .opt (s62.F a0)), (1, vw a1)], [], 0⟩ ?_
  refine WA_seq ?_
  refine Qg hT 1 [0, 1, 6] ⟨[(0, .ps .opt (s62.F a0)), (1, vw a1), (6, .ps .opt (s62.F a0))], [], 0⟩ ?_
  refine One hT rfl (ev_len s62 .opt a0 (by kernel_rfl)) ?_
  refine Sz hT 1 [0, 1, 7, 8] ⟨[(0, .ps .opt (s62.F a0)), (1, vw a1), (7, vi (ln a0)), (8, vi 0)], [], 0⟩ ?_
  refine WA_block ?_
  refine lK [0, 1, 7, 8] [] (fun k s => ∃ q, q ≤ k ∧ q ≤ n ∧ ∃ (i1 : Int), Index_126_L0 q a0 a1 i1 = some r ∧ s = ⟨[(0, .ps .opt (s62.F a0)), (1, vw a1), (7, vi (ln a0)), (8, vi i1)], [], 1⟩) n ⟨n, Nat.le_refl _, Nat.le_refl _, 0, h, rfl⟩ (by rintro s ⟨q, hq, _, i1, h, _⟩; obtain rfl := Nat.le_zero.1 hq; rw [Index_126_L0] at h; cases h) ?_
  clear h
  rintro k1 s ⟨q1, hk1, hn1, i1, h, rfl⟩
  rcases q1 with _ | q1
  · rw [Index_126_L0] at h; cases h
  rw [Index_126_L0] at h
  refine Qz hT 1 [0, 1, 7, 8, 9] ⟨[(0, .ps .opt (s62.F a0)), (1, vw a1), (7, vi (ln a0)), (8, vi i1), (9, vb (decide (i1 < (ln a0))))], [], 1⟩ ?_
  refine WA_seq ?_
  refine Cd (decide (i1 < (ln a0))) ?_ ?_
  · intro hb; replace h := ctrue hb h
    refine WA_skip ?_
    refine WA_seq ?_
    refine WA_block ?_
    refine Qz hT 2 [0, 1, 5, 7, 8] ⟨[(0, .ps .opt (s62.F a0)), (1, vw a1), (5, vi i1), (7, vi (ln a0)), (8, vi i1)], [], 1⟩ ?_
    refine Qg hT 3 [0, 1, 5, 7, 8, 11, 12, 13] ⟨[(0, .ps .opt (s62.F a0)), (1, vw a1), (5, vi i1), (7, vi (ln a0)), (8, vi i1), (11, vw a1), (12, .ps .opt (s62.F a0)), (13, vi i1)], [], 1⟩ ?_
    obtain ⟨x2, hx2, h⟩ := bsome h
    refine One hT rfl (ev_index s62 .opt a0 .i64 i1 hx2 (by decide) (by kernel_rfl) (by kernel_rfl)) ?_
    refine Sz hT 2 [0, 1, 5, 7, 8, 16] ⟨[(0, .ps .opt (s62.F a0)), (1, vw a1), (5, vi i1), (7, vi (ln a0)), (8, vi i1), (16, vb (bytesEq a1 x2))], [], 1⟩ ?_
    refine Cd (bytesEq a1 x2) ?_ ?_
    · intro hb; replace h := ctrue hb h
      refine Qz hT 2 [4] ⟨[(4, vi i1)], [], 1⟩ ?_
      obtain rfl := Option.some.inj h
      exact rK [4] [] ⟨[(4, vi i1)], [], 1⟩ ⟨by kernel_rfl, rfl⟩
    intro hb; replace h := cfalse hb h
    refine WA_skip ?_
    refine Rg hT 2 [0, 1, 7, 8] ⟨[(0, .ps .opt (s62.F a0)), (1, vw a1), (7, vi (ln a0)), (8, vi (wr (i1 + 1)))], [], 1⟩ ?_
    exact oK [0, 1, 7, 8] [] ⟨_, by omega, by omega, wr (i1 + 1), h, rfl⟩
  intro hb; replace h := cfalse hb h
  refine WA_exit ?_
  refine Qz hT 1 [4] ⟨[(4, vi (-1))], [], 1⟩ ?_
  obtain rfl := Option.some.inj h
  exact rK [4] [] ⟨[(4, vi (-1))], [], 1⟩ ⟨by kernel_rfl, rfl⟩

theorem Contains_85_ok {n : Nat} {a0 : List ByteArray} {a1 : ByteArray} {r : Bool} (h : Contains_85 n a0 a1 = some r) : PT Try.prog 85 [.ps .opt (s62.F a0), vw a1] (vb r) := by
  unfold Contains_85 at h
  refine PT_bodyA hT Try.func85 rfl (by kernel_rfl) fun bad w => ?_
  refine Qz hT 1 [0, 1] ⟨[(0, .ps .opt (s62.F a0)), (1, vw a1)], [], 0⟩ ?_
  refine Qg hT 2 [5, 6] ⟨[(5, .ps .opt (s62.F a0)), (6, vw a1)], [], 0⟩ ?_
  obtain ⟨r1, hr1, h⟩ := bsome h
  refine Pt en126 (Index_126_ok hr1) ?_
  refine Sz hT 2 [4] ⟨[(4, vb (decide (r1 ≥ 0)))], [], 0⟩ ?_
  obtain rfl := Option.some.inj h
  exact rK [4] [] ⟨[(4, vb (decide (r1 ≥ 0)))], [], 1⟩ ⟨by kernel_rfl, rfl⟩

theorem cost_touches_1_ok {n : Nat} {a0 : ByteArray} {a1 : List ByteArray} {r : Bool} (h : cost_touches_1 n a0 a1 = some r) : PT Try.prog 128 [vw a0, .ref (el62 a1) 0] (vb r) := by
  unfold cost_touches_1 at h
  refine PT_bodyA hT Try.func128 rfl (by kernel_rfl) fun bad w => ?_
  refine Qz hT 1 [0, 1] ⟨[(0, vw a0), (1, .ref (el62 a1) 0)], [], 0⟩ ?_
  refine Qg hT 2 [4, 5] ⟨[(4, .ps .opt (s62.F a1)), (5, vw a0)], [], 0⟩ ?_
  obtain ⟨r1, hr1, h⟩ := bsome h
  refine Pt en85 (Contains_85_ok hr1) ?_
  refine Sz hT 1 [3] ⟨[(3, vb r1)], [], 0⟩ ?_
  obtain rfl := Option.some.inj h
  exact rK [3] [] ⟨[(3, vb r1)], [], 1⟩ ⟨by kernel_rfl, rfl⟩

theorem IndexFunc_147_f128_ok {n : Nat} {a0 : List ByteArray} {a1c0 : List ByteArray} {r : Int} (h : IndexFunc_147_f128 n a0 a1c0 = some r) : PT Try.prog 147 [.ps .opt (s62.F a0), .fn 128 [] [.ref (el62 a1c0) 0]] (vi r) := by
  unfold IndexFunc_147_f128 at h
  refine PT_bodyA hT Try.func147 rfl (by kernel_rfl) fun bad w => ?_
  refine Qz hT 1 [0, 1] ⟨[(0, .ps .opt (s62.F a0)), (1, .fn 128 [] [.ref (el62 a1c0) 0])], [], 0⟩ ?_
  refine WA_seq ?_
  refine Qg hT 1 [0, 1, 6] ⟨[(0, .ps .opt (s62.F a0)), (1, .fn 128 [] [.ref (el62 a1c0) 0]), (6, .ps .opt (s62.F a0))], [], 0⟩ ?_
  refine One hT rfl (ev_len s62 .opt a0 (by kernel_rfl)) ?_
  refine Sz hT 1 [0, 1, 7, 8] ⟨[(0, .ps .opt (s62.F a0)), (1, .fn 128 [] [.ref (el62 a1c0) 0]), (7, vi (ln a0)), (8, vi 0)], [], 0⟩ ?_
  refine WA_block ?_
  refine lK [0, 1, 7, 8] [] (fun k s => ∃ q, q ≤ k ∧ q ≤ n ∧ ∃ (i1 : Int), IndexFunc_147_f128_L0 q a0 a1c0 i1 = some r ∧ s = ⟨[(0, .ps .opt (s62.F a0)), (1, .fn 128 [] [.ref (el62 a1c0) 0]), (7, vi (ln a0)), (8, vi i1)], [], 1⟩) n ⟨n, Nat.le_refl _, Nat.le_refl _, 0, h, rfl⟩ (by rintro s ⟨q, hq, _, i1, h, _⟩; obtain rfl := Nat.le_zero.1 hq; rw [IndexFunc_147_f128_L0] at h; cases h) ?_
  clear h
  rintro k1 s ⟨q1, hk1, hn1, i1, h, rfl⟩
  rcases q1 with _ | q1
  · rw [IndexFunc_147_f128_L0] at h; cases h
  rw [IndexFunc_147_f128_L0] at h
  refine Qz hT 1 [0, 1, 7, 8, 9] ⟨[(0, .ps .opt (s62.F a0)), (1, .fn 128 [] [.ref (el62 a1c0) 0]), (7, vi (ln a0)), (8, vi i1), (9, vb (decide (i1 < (ln a0))))], [], 1⟩ ?_
  refine WA_seq ?_
  refine Cd (decide (i1 < (ln a0))) ?_ ?_
  · intro hb; replace h := ctrue hb h
    refine WA_skip ?_
    refine WA_seq ?_
    refine WA_block ?_
    refine Qz hT 2 [0, 1, 5, 7, 8] ⟨[(0, .ps .opt (s62.F a0)), (1, .fn 128 [] [.ref (el62 a1c0) 0]), (5, vi i1), (7, vi (ln a0)), (8, vi i1)], [], 1⟩ ?_
    refine Qg hT 3 [0, 1, 5, 7, 8, 11, 12, 13] ⟨[(0, .ps .opt (s62.F a0)), (1, .fn 128 [] [.ref (el62 a1c0) 0]), (5, vi i1), (7, vi (ln a0)), (8, vi i1), (11, .fn 128 [] [.ref (el62 a1c0) 0]), (12, .ps .opt (s62.F a0)), (13, vi i1)], [], 1⟩ ?_
    obtain ⟨x2, hx2, h⟩ := bsome h
    refine One hT rfl (ev_index s62 .opt a0 .i64 i1 hx2 (by decide) (by kernel_rfl) (by kernel_rfl)) ?_
    refine Sg hT 1 [0, 1, 5, 7, 8, 11, 15] ⟨[(0, .ps .opt (s62.F a0)), (1, .fn 128 [] [.ref (el62 a1c0) 0]), (5, vi i1), (7, vi (ln a0)), (8, vi i1), (11, .fn 128 [] [.ref (el62 a1c0) 0]), (15, vw x2)], [], 1⟩ ?_
    obtain ⟨r3, hr3, h⟩ := bsome h
    refine Pt en128 (cost_touches_1_ok hr3) ?_
    refine Sz hT 0 [0, 1, 5, 7, 8, 16] ⟨[(0, .ps .opt (s62.F a0)), (1, .fn 128 [] [.ref (el62 a1c0) 0]), (5, vi i1), (7, vi (ln a0)), (8, vi i1), (16, vb r3)], [], 1⟩ ?_
    refine Cd r3 ?_ ?_
    · intro hb; replace h := ctrue hb h
      refine Qz hT 2 [4] ⟨[(4, vi i1)], [], 1⟩ ?_
      obtain rfl := Option.some.inj h
      exact rK [4] [] ⟨[(4, vi i1)], [], 1⟩ ⟨by kernel_rfl, rfl⟩
    intro hb; replace h := cfalse hb h
    refine WA_skip ?_
    refine Rg hT 2 [0, 1, 7, 8] ⟨[(0, .ps .opt (s62.F a0)), (1, .fn 128 [] [.ref (el62 a1c0) 0]), (7, vi (ln a0)), (8, vi (wr (i1 + 1)))], [], 1⟩ ?_
    exact oK [0, 1, 7, 8] [] ⟨_, by omega, by omega, wr (i1 + 1), h, rfl⟩
  intro hb; replace h := cfalse hb h
  refine WA_exit ?_
  refine Qz hT 1 [4] ⟨[(4, vi (-1))], [], 1⟩ ?_
  obtain rfl := Option.some.inj h
  exact rK [4] [] ⟨[(4, vi (-1))], [], 1⟩ ⟨by kernel_rfl, rfl⟩

theorem ContainsFunc_127_f128_ok {n : Nat} {a0 : List ByteArray} {a1c0 : List ByteArray} {r : Bool} (h : ContainsFunc_127_f128 n a0 a1c0 = some r) : PT Try.prog 127 [.ps .opt (s62.F a0), .fn 128 [] [.ref (el62 a1c0) 0]] (vb r) := by
  unfold ContainsFunc_127_f128 at h
  refine PT_bodyA hT Try.func127 rfl (by kernel_rfl) fun bad w => ?_
  refine Qz hT 1 [0, 1] ⟨[(0, .ps .opt (s62.F a0)), (1, .fn 128 [] [.ref (el62 a1c0) 0])], [], 0⟩ ?_
  refine Qg hT 2 [5, 6] ⟨[(5, .ps .opt (s62.F a0)), (6, .fn 128 [] [.ref (el62 a1c0) 0])], [], 0⟩ ?_
  obtain ⟨r1, hr1, h⟩ := bsome h
  refine Pt en147 (IndexFunc_147_f128_ok hr1) ?_
  refine Sz hT 2 [4] ⟨[(4, vb (decide (r1 ≥ 0)))], [], 0⟩ ?_
  obtain rfl := Option.some.inj h
  exact rK [4] [] ⟨[(4, vb (decide (r1 ≥ 0)))], [], 1⟩ ⟨by kernel_rfl, rfl⟩

theorem cost_touches_ok {n : Nat} {a0 : Stmt} {a1 : List ByteArray} {r : Bool} (h : cost_touches n a0 a1 = some r) : PT Try.prog 90 [eStmt a0, .ps .opt (s62.F a1)] (vb r) := by
  unfold cost_touches at h
  refine PT_bodyA hT Try.func90 rfl (by kernel_rfl) fun bad w => ?_
  refine Qz hT 3 [2, 3] ⟨[(2, .box 2 0 0 0), (3, .box 3 1 0 0)], [(3, ⟨1, 62, 1, true, false, [.ps .opt (s62.F a1)]⟩), (2, ⟨0, 38, 11, true, false, [eStmt a0]⟩)], 2⟩ ?_
  refine Qg hT 1 [3, 5] ⟨[(3, .box 3 1 0 0), (5, eStmt a0)], [(3, ⟨1, 62, 1, true, false, [.ps .opt (s62.F a1)]⟩), (2, ⟨0, 38, 11, true, false, [eStmt a0]⟩)], 2⟩ ?_
  obtain ⟨r1, hr1, h⟩ := bsome h
  refine Pt en112 (tree_Touches_ok hr1) ?_
  refine Sg hT 1 [6, 7] ⟨[(6, .ps .fopt (s62.F r1)), (7, .fn 128 [] [.box 3 1 0 0])], [(3, ⟨1, 62, 1, true, false, [.ps .opt (s62.F a1)]⟩), (2, ⟨0, 38, 11, true, false, [eStmt a0]⟩)], 2⟩ ?_
  obtain ⟨r2, hr2, h⟩ := bsome h
  refine WO_ptb rfl (by kernel_rfl) [3] [.ps .fopt (s62.F r1), .fn 128 [] [.box 3 1 0 0]] [.ps .fopt (s62.F r1), .fn 128 [] [.ref (el62 a1) 0]] (vb r2) rfl (by kernel_rfl) en127 (by kernel_rfl) (by kernel_rfl) (by kernel_rfl) (PT_args ((ContainsFunc_127_f128_ok hr2)) ⟨VLe.fopt_opt, VLe.refl _, trivial⟩) (by kernel_rfl) ?_
  refine Sz hT 1 [4] ⟨[(4, vb r2)], [(3, ⟨1, 62, 1, true, false, [.ps .opt (s62.F a1)]⟩), (2, ⟨0, 38, 11, true, false, [eStmt a0]⟩)], 2⟩ ?_
  obtain rfl := Option.some.inj h
  exact rK [4] [] ⟨[(4, vb r2)], [], 1⟩ ⟨by kernel_rfl, rfl⟩

theorem cost_size_ok {n : Nat} {a0 : Stmt} {r : Int} (h : cost_size n a0 = some r) : PT Try.prog 91 [eStmt a0] (vi r) := by
  unfold cost_size at h
  refine PT_bodyA hT Try.func91 rfl (by kernel_rfl) fun bad w => ?_
  refine Qz hT 2 [1] ⟨[(1, .box 1 0 0 0)], [(1, ⟨0, 38, 11, true, false, [eStmt a0]⟩)], 1⟩ ?_
  refine Qg hT 1 [3] ⟨[(3, eStmt a0)], [(1, ⟨0, 38, 11, true, false, [eStmt a0]⟩)], 1⟩ ?_
  refine One hT rfl (ev_bslice s32 4 [a0] (by kernel_rfl)) ?_
  refine Sg hT 0 [4] ⟨[(4, vo 4 1 (s32.F [a0]))], [(4, ⟨1, 38, 11, false, false, s32.F [a0]⟩), (1, ⟨0, 38, 11, true, false, [eStmt a0]⟩)], 2⟩ ?_
  refine WO_weak (Weak_frz 4 1 ⟨1, 38, 11, false, false, s32.F [a0]⟩ (by kernel_rfl) rfl rfl [(4, .ps .opt (s32.F [a0]))] [(1, ⟨0, 38, 11, true, false, [eStmt a0]⟩)] ⟨rfl, .hit true, trivial⟩ ⟨rfl, .inl rfl, trivial⟩) ?_
  refine Sg hT 1 [5] ⟨[(5, vo 5 2 (s24.F [[a0]]))], [(5, ⟨2, 32, 1, false, false, s24.F [[a0]]⟩), (1, ⟨0, 38, 11, true, false, [eStmt a0]⟩)], 3⟩ ?_
  refine WO_weak (Weak_frz 5 2 ⟨2, 32, 1, false, false, s24.F [[a0]]⟩ (by kernel_rfl) rfl rfl [(5, .ps .opt (s24.F [[a0]]))] [(1, ⟨0, 38, 11, true, false, [eStmt a0]⟩)] ⟨rfl, .hit true, trivial⟩ ⟨rfl, .inl rfl, trivial⟩) ?_
  refine Sg hT 1 [6] ⟨[(6, .agg [.ps .nil [], .ps .opt (s24.F [[a0]])])], [(1, ⟨0, 38, 11, true, false, [eStmt a0]⟩)], 3⟩ ?_
  obtain ⟨r1, hr1, h⟩ := bsome h
  refine Pt (vs := [.agg [.ps .nil [], .ps .opt (s24.F [[a0]])]]) en67 (PT_args ((tree_List_ok hr1)) ⟨VLe.agg ⟨VLe.nil_opt, VLe.refl _, trivial⟩, trivial⟩) ?_
  refine Sg hT 0 [7] ⟨[(7, .ps .fopt (s32.F r1))], [(1, ⟨0, 38, 11, true, false, [eStmt a0]⟩)], 3⟩ ?_
  refine One hT rfl (ev_len s32 .fopt r1 (by kernel_rfl)) ?_
  refine Sz hT 1 [2] ⟨[(2, vi (ln r1))], [(1, ⟨0, 38, 11, true, false, [eStmt a0]⟩)], 3⟩ ?_
  obtain rfl := Option.some.inj h
  exact rK [2] [] ⟨[(2, vi (ln r1))], [], 1⟩ ⟨by kernel_rfl, rfl⟩

theorem cost_Wrapped_ok {n : Nat} {a0 : Prog} {a1 : List ByteArray} {r : List Int} (h : cost_Wrapped n a0 a1 = some r) : PT Try.prog 46 [eProg a0, .ps .opt (s62.F a1)] (.ps .fopt (s30.F r)) := by
  unfold cost_Wrapped at h
  refine PT_bodyA hT Try.func46 rfl (by kernel_rfl) fun bad w => ?_
  refine Qz hT 2 [1, 2] ⟨[(1, .ps .opt (s62.F a1)), (2, .box 2 0 0 0)], [(2, ⟨0, 26, 2, true, false, [eProg a0]⟩)], 1⟩ ?_
  refine Qz hT 1 [1, 2, 5] ⟨[(1, .ps .opt (s62.F a1)), (2, .box 2 0 0 0), (5, .ps .nil [])], [(2, ⟨0, 26, 2, true, false, [eProg a0]⟩)], 1⟩ ?_
  refine Qg hT 1 [1, 5, 8] ⟨[(1, .ps .opt (s62.F a1)), (5, .ps .nil []), (8, eProg a0)], [(2, ⟨0, 26, 2, true, false, [eProg a0]⟩)], 1⟩ ?_
  obtain ⟨r1, hr1, h⟩ := bsome h
  refine Pt en67 (tree_List_ok hr1) ?_
  refine Sz hT 1 [1, 5, 6] ⟨[(1, .ps .opt (s62.F a1)), (5, .ps .nil []), (6, .ps .fopt (s32.F r1))], [(2, ⟨0, 26, 2, true, false, [eProg a0]⟩)], 1⟩ ?_
  refine WA_seq ?_
  refine Qz hT 1 [1, 5, 6, 7] ⟨[(1, .ps .opt (s62.F a1)), (5, .ps .nil []), (6, .ps .fopt (s32.F r1)), (7, vi 0)], [(2, ⟨0, 26, 2, true, false, [eProg a0]⟩)], 1⟩ ?_
  refine WA_block ?_
  refine aW [1, 5, 6, 7] ⟨[(1, .ps .opt (s62.F a1)), (5, .ps .nil []), (6, .ps .fopt (s32.F r1)), (7, vi 0)], [(2, ⟨0, 26, 2, true, false, [eProg a0]⟩)], 1⟩ ?_
  refine WA_weak (Weak_own 5 5000 3 1 (by kernel_rfl) (by kernel_rfl) (by kernel_rfl) (by kernel_rfl)) ?_
  refine lK [1, 5, 6, 7] [(5000, 10005, 0)] (fun k s => ∃ q, q ≤ k ∧ q ≤ n ∧ ∃ (l2 : List Int), ∃ (i3 : Int), cost_Wrapped_L0 q a0 a1 r1 l2 i3 = some r ∧ s = ⟨[(1, .ps .opt (s62.F a1)), (5, vo 10005 0 (s30.F l2)), (6, .ps .fopt (s32.F r1)), (7, vi i3)], [(10005, ⟨0, 3, 1, false, true, s30.F l2⟩)], 1⟩) n ⟨n, Nat.le_refl _, Nat.le_refl _, ([] : List Int), 0, h, rfl⟩ (by rintro s ⟨q, hq, _, l2, i3, h, _⟩; obtain rfl := Nat.le_zero.1 hq; rw [cost_Wrapped_L0] at h; cases h) ?_
  clear h
  rintro k1 s ⟨q1, hk1, hn1, l2, i3, h, rfl⟩
  rcases q1 with _ | q1
  · rw [cost_Wrapped_L0] at h; cases h
  rw [cost_Wrapped_L0] at h
  refine WA_seq ?_
  refine Qg hT 2 [1, 5, 6, 7, 10, 11] ⟨[(1, .ps .opt (s62.F a1)), (5, vo 10005 0 (s30.F l2)), (6, .ps .fopt (s32.F r1)), (7, vi i3), (10, vi i3), (11, .ps .fopt (s32.F r1))], [(10005, ⟨0, 3, 1, false, true, s30.F l2⟩)], 1⟩ ?_
  refine One hT rfl (ev_len s32 .fopt r1 (by kernel_rfl)) ?_
  refine Sz hT 1 [1, 5, 6, 7, 13] ⟨[(1, .ps .opt (s62.F a1)), (5, vo 10005 0 (s30.F l2)), (6, .ps .fopt (s32.F r1)), (7, vi i3), (13, vb (decide (i3 < (ln r1))))], [(10005, ⟨0, 3, 1, false, true, s30.F l2⟩)], 1⟩ ?_
  refine Cd (decide (i3 < (ln r1))) ?_ ?_
  · intro hb; replace h := ctrue hb h
    refine WA_skip ?_
    refine WA_block ?_
    refine Qg hT 2 [1, 5, 6, 7, 14, 15] ⟨[(1, .ps .opt (s62.F a1)), (5, vo 10005 0 (s30.F l2)), (6, .ps .fopt (s32.F r1)), (7, vi i3), (14, .ps .fopt (s32.F r1)), (15, vi i3)], [(10005, ⟨0, 3, 1, false, true, s30.F l2⟩)], 1⟩ ?_
    obtain ⟨x4, hx4, h⟩ := bsome h
    refine One hT rfl (ev_index s32 .fopt r1 .i64 i3 hx4 (by decide) (by kernel_rfl) (by kernel_rfl)) ?_
    refine Sg hT 2 [1, 5, 6, 7, 17, 18] ⟨[(1, .ps .opt (s62.F a1)), (5, vo 10005 0 (s30.F l2)), (6, .ps .fopt (s32.F r1)), (7, vi i3), (17, eStmt x4), (18, .ps .opt (s62.F a1))], [(10005, ⟨0, 3, 1, false, true, s30.F l2⟩)], 1⟩ ?_
    obtain ⟨r5, hr5, h⟩ := bsome h
    refine Pt en90 (cost_touches_ok hr5) ?_
    refine Sz hT 0 [1, 5, 6, 7, 19] ⟨[(1, .ps .opt (s62.F a1)), (5, vo 10005 0 (s30.F l2)), (6, .ps .fopt (s32.F r1)), (7, vi i3), (19, vb r5)], [(10005, ⟨0, 3, 1, false, true, s30.F l2⟩)], 1⟩ ?_
    refine Cd r5 ?_ ?_
    · intro hb; replace h := ctrue hb h
      refine Qg hT 3 [1, 6, 7, 20, 22] ⟨[(1, .ps .opt (s62.F a1)), (6, .ps .fopt (s32.F r1)), (7, vi i3), (20, vo 10005 0 (s30.F l2)), (22, vo 22 1 (s30.F [i3]))], [(22, ⟨1, 3, 1, false, false, s30.F [i3]⟩), (10005, ⟨0, 3, 1, false, true, s30.F l2⟩)], 2⟩ ?_
      obtain ⟨g6, h⟩ := gsome h
      refine WO_append hT s30 rfl (by kernel_rfl) 10005 0 true l2 [i3] rfl (by kernel_rfl) (by kernel_rfl) (elems_own s30 22 1 true ⟨1, 3, 1, false, false, s30.F [i3]⟩ [i3] (by kernel_rfl) (by kernel_rfl) rfl rfl rfl) g6 (by kernel_rfl) ?_
      refine Sz hT 1 [1, 5, 6, 7] ⟨[(1, .ps .opt (s62.F a1)), (5, vo 23 2 (s30.F (l2 ++ [i3]))), (6, .ps .fopt (s32.F r1)), (7, vi i3)], [(23, ⟨2, 3, 1, false, true, s30.F (l2 ++ [i3])⟩), (22, ⟨1, 3, 1, false, false, s30.F [i3]⟩)], 3⟩ ?_
      refine Rg hT 3 [1, 5, 6, 24, 25, 26] ⟨[(1, .ps .opt (s62.F a1)), (5, vo 23 2 (s30.F (l2 ++ [i3]))), (6, .ps .fopt (s32.F r1)), (24, vi i3), (25, .ps .fopt (s32.F r1)), (26, vi i3)], [(23, ⟨2, 3, 1, false, true, s30.F (l2 ++ [i3])⟩), (22, ⟨1, 3, 1, false, false, s30.F [i3]⟩)], 3⟩ ?_
      obtain ⟨x7, hx7, h⟩ := bsome h
      refine One hT rfl (ev_index s32 .fopt r1 .i64 i3 hx7 (by decide) (by kernel_rfl) (by kernel_rfl)) ?_
      refine Sg hT 1 [1, 5, 6, 24, 28] ⟨[(1, .ps .opt (s62.F a1)), (5, vo 23 2 (s30.F (l2 ++ [i3]))), (6, .ps .fopt (s32.F r1)), (24, vi i3), (28, eStmt x7)], [(23, ⟨2, 3, 1, false, true, s30.F (l2 ++ [i3])⟩), (22, ⟨1, 3, 1, false, false, s30.F [i3]⟩)], 3⟩ ?_
      obtain ⟨r8, hr8, h⟩ := bsome h
      refine Pt en91 (cost_size_ok hr8) ?_
      refine Sg hT 2 [1, 5, 6, 7] ⟨[(1, .ps .opt (s62.F a1)), (5, vo 23 2 (s30.F (l2 ++ [i3]))), (6, .ps .fopt (s32.F r1)), (7, vi (wr (i3 + r8)))], [(23, ⟨2, 3, 1, false, true, s30.F (l2 ++ [i3])⟩), (22, ⟨1, 3, 1, false, false, s30.F [i3]⟩)], 3⟩ ?_
      exact oK [1, 5, 6, 7] [(23, 10005, 0)] ⟨_, by omega, by omega, l2 ++ [i3], wr (i3 + r8), h, rfl⟩
    intro hb; replace h := cfalse hb h
    refine Rg hT 3 [1, 5, 6, 7] ⟨[(1, .ps .opt (s62.F a1)), (5, vo 10005 0 (s30.F l2)), (6, .ps .fopt (s32.F r1)), (7, vi (wr (i3 + 1)))], [(10005, ⟨0, 3, 1, false, true, s30.F l2⟩)], 1⟩ ?_
    exact oK [1, 5, 6, 7] [(10005, 10005, 0)] ⟨_, by omega, by omega, l2, wr (i3 + 1), h, rfl⟩
  intro hb; replace h := cfalse hb h
  refine WA_exit ?_
  refine Qg hT 1 [33] ⟨[(33, vo 10005 0 (s30.F l2))], [(10005, ⟨0, 3, 1, false, true, s30.F l2⟩)], 1⟩ ?_
  refine WO_weak (Weak_frz 10005 0 ⟨0, 3, 1, false, true, s30.F l2⟩ (by kernel_rfl) rfl rfl [(33, .ps .opt (s30.F l2))] [] ⟨rfl, .hit true, trivial⟩ trivial) ?_
  obtain ⟨r9, hr9, h⟩ := bsome h
  refine Pt en64 (Clip_64_ok hr9) ?_
  refine Sz hT 1 [4] ⟨[(4, .ps .fopt (s30.F r9))], [], 1⟩ ?_
  obtain rfl := Option.some.inj h
  exact rK [4] [] ⟨[(4, .ps .fopt (s30.F r9))], [], 1⟩ ⟨by kernel_rfl, rfl⟩

theorem cost_whole_ok {n : Nat} {a0 : Int} {r : Cx} (h : cost_whole n a0 = some r) : PT Try.prog 93 [vi a0] (vz r) := by
  unfold cost_whole at h
  refine PT_bodyA hT Try.func93 rfl (by kernel_rfl) fun bad w => ?_
  refine Qz hT 1 [0] ⟨[(0, vi a0)], [], 0⟩ ?_
  refine Qz hT 4 [2] ⟨[(2, vz (⟨FloatKind.f64.nearest a0, 0⟩ : Cx))], [], 0⟩ ?_
  obtain rfl := Option.some.inj h
  exact rK [2] [] ⟨[(2, vz (⟨FloatKind.f64.nearest a0, 0⟩ : Cx))], [], 1⟩ ⟨by kernel_rfl, rfl⟩

theorem cost_Guard_ok {n : Nat} {a0 : Prog} {a1 : List ByteArray} {r : Cx} (h : cost_Guard n a0 a1 = some r) : PT Try.prog 49 [eProg a0, .ps .opt (s62.F a1)] (vz r) := by
  unfold cost_Guard at h
  refine PT_bodyA hT Try.func49 rfl (by kernel_rfl) fun bad w => ?_
  refine Qz hT 2 [1, 2] ⟨[(1, .ps .opt (s62.F a1)), (2, .box 2 0 0 0)], [(2, ⟨0, 26, 2, true, false, [eProg a0]⟩)], 1⟩ ?_
  refine Qz hT 1 [1, 2, 5] ⟨[(1, .ps .opt (s62.F a1)), (2, .box 2 0 0 0), (5, vz (⟨0, 4607182418800017408⟩ : Cx))], [(2, ⟨0, 26, 2, true, false, [eProg a0]⟩)], 1⟩ ?_
  refine Qg hT 1 [1, 2, 5, 9] ⟨[(1, .ps .opt (s62.F a1)), (2, .box 2 0 0 0), (5, vz (⟨0, 4607182418800017408⟩ : Cx)), (9, eProg a0)], [(2, ⟨0, 26, 2, true, false, [eProg a0]⟩)], 1⟩ ?_
  obtain ⟨r1, hr1, h⟩ := bsome h
  refine Pt en51 (cost_Weights_ok hr1) ?_
  refine Sz hT 1 [1, 2, 5, 6] ⟨[(1, .ps .opt (s62.F a1)), (2, .box 2 0 0 0), (5, vz (⟨0, 4607182418800017408⟩ : Cx)), (6, .ps .fopt (s30.F r1))], [(2, ⟨0, 26, 2, true, false, [eProg a0]⟩)], 1⟩ ?_
  refine WA_seq ?_
  refine Qg hT 2 [5, 6, 11, 12] ⟨[(5, vz (⟨0, 4607182418800017408⟩ : Cx)), (6, .ps .fopt (s30.F r1)), (11, eProg a0), (12, .ps .opt (s62.F a1))], [(2, ⟨0, 26, 2, true, false, [eProg a0]⟩)], 1⟩ ?_
  obtain ⟨r2, hr2, h⟩ := bsome h
  refine Pt en46 (cost_Wrapped_ok hr2) ?_
  refine Sg hT 0 [5, 6, 13] ⟨[(5, vz (⟨0, 4607182418800017408⟩ : Cx)), (6, .ps .fopt (s30.F r1)), (13, .ps .fopt (s30.F r2))], [(2, ⟨0, 26, 2, true, false, [eProg a0]⟩)], 1⟩ ?_
  refine One hT rfl (ev_len s30 .fopt r2 (by kernel_rfl)) ?_
  refine Sz hT 1 [5, 6, 13, 14, 15] ⟨[(5, vz (⟨0, 4607182418800017408⟩ : Cx)), (6, .ps .fopt (s30.F r1)), (13, .ps .fopt (s30.F r2)), (14, vi (ln r2)), (15, vi 0)], [(2, ⟨0, 26, 2, true, false, [eProg a0]⟩)], 1⟩ ?_
  refine WA_block ?_
  refine lK [5, 6, 13, 14, 15] [] (fun k s => ∃ q, q ≤ k ∧ q ≤ n ∧ ∃ (z3 : Cx), ∃ (i4 : Int), cost_Guard_L0 q a0 a1 r1 r2 z3 i4 = some r ∧ s = ⟨[(5, vz z3), (6, .ps .fopt (s30.F r1)), (13, .ps .fopt (s30.F r2)), (14, vi (ln r2)), (15, vi i4)], [], 1⟩) n ⟨n, Nat.le_refl _, Nat.le_refl _, (⟨0, 4607182418800017408⟩ : Cx), 0, h, rfl⟩ (by rintro s ⟨q, hq, _, z3, i4, h, _⟩; obtain rfl := Nat.le_zero.1 hq; rw [cost_Guard_L0] at h; cases h) ?_
  clear h
  rintro k1 s ⟨q1, hk1, hn1, z3, i4, h, rfl⟩
  rcases q1 with _ | q1
  · rw [cost_Guard_L0] at h; cases h
  rw [cost_Guard_L0] at h
  refine Qz hT 1 [5, 6, 13, 14, 15, 16] ⟨[(5, vz z3), (6, .ps .fopt (s30.F r1)), (13, .ps .fopt (s30.F r2)), (14, vi (ln r2)), (15, vi i4), (16, vb (decide (i4 < (ln r2))))], [], 1⟩ ?_
  refine WA_seq ?_
  refine Cd (decide (i4 < (ln r2))) ?_ ?_
  · intro hb; replace h := ctrue hb h
    refine WA_skip ?_
    refine WA_seq ?_
    refine WA_block ?_
    refine Qg hT 0 [5, 6, 13, 14, 15] ⟨[(5, vz z3), (6, .ps .fopt (s30.F r1)), (13, .ps .fopt (s30.F r2)), (14, vi (ln r2)), (15, vi i4)], [], 1⟩ ?_
    obtain ⟨x5, hx5, h⟩ := bsome h
    refine One hT rfl (ev_index s30 .fopt r2 .i64 i4 hx5 (by decide) (by kernel_rfl) (by kernel_rfl)) ?_
    refine Sz hT 2 [5, 6, 8, 13, 14, 15] ⟨[(5, vz z3), (6, .ps .fopt (s30.F r1)), (8, vi x5), (13, .ps .fopt (s30.F r2)), (14, vi (ln r2)), (15, vi i4)], [], 1⟩ ?_
    refine Rg hT 3 [6, 13, 14, 15, 19, 20, 21] ⟨[(6, .ps .fopt (s30.F r1)), (13, .ps .fopt (s30.F r2)), (14, vi (ln r2)), (15, vi i4), (19, vz z3), (20, .ps .fopt (s30.F r1)), (21, vi x5)], [], 1⟩ ?_
    obtain ⟨x6, hx6, h⟩ := bsome h
    refine One hT rfl (ev_index s30 .fopt r1 .i64 x5 hx6 (by decide) (by kernel_rfl) (by kernel_rfl)) ?_
    refine Sg hT 1 [6, 13, 14, 15, 19, 23] ⟨[(6, .ps .fopt (s30.F r1)), (13, .ps .fopt (s30.F r2)), (14, vi (ln r2)), (15, vi i4), (19, vz z3), (23, vi x6)], [], 1⟩ ?_
    obtain ⟨r7, hr7, h⟩ := bsome h
    refine Pt en93 (cost_whole_ok hr7) ?_
    refine Sg hT 0 [6, 13, 14, 15, 19, 24] ⟨[(6, .ps .fopt (s30.F r1)), (13, .ps .fopt (s30.F r2)), (14, vi (ln r2)), (15, vi i4), (19, vz z3), (24, vz r7)], [], 1⟩ ?_
    obtain ⟨z8, hz8, h⟩ := bsome h
    refine One hT rfl (ev_cmul (⟨4611686018427387904, 0⟩ : Cx) r7 hz8 (by kernel_rfl) (by kernel_rfl)) ?_
    refine Sg hT 0 [6, 13, 14, 15, 19, 25] ⟨[(6, .ps .fopt (s30.F r1)), (13, .ps .fopt (s30.F r2)), (14, vi (ln r2)), (15, vi i4), (19, vz z3), (25, vz z8)], [], 1⟩ ?_
    obtain ⟨z9, hz9, h⟩ := bsome h
    refine One hT rfl (ev_cadd z3 z8 hz9 (by kernel_rfl) (by kernel_rfl)) ?_
    refine Sz hT 1 [5, 6, 13, 14, 15] ⟨[(5, vz z9), (6, .ps .fopt (s30.F r1)), (13, .ps .fopt (s30.F r2)), (14, vi (ln r2)), (15, vi i4)], [], 1⟩ ?_
    refine Rg hT 2 [5, 6, 13, 14, 15] ⟨[(5, vz z9), (6, .ps .fopt (s30.F r1)), (13, .ps .fopt (s30.F r2)), (14, vi (ln r2)), (15, vi (wr (i4 + 1)))], [], 1⟩ ?_
    exact oK [5, 6, 13, 14, 15] [] ⟨_, by omega, by omega, z9, wr (i4 + 1), h, rfl⟩
  intro hb; replace h := cfalse hb h
  refine WA_exit ?_
  refine Qz hT 2 [4] ⟨[(4, vz z3)], [], 1⟩ ?_
  obtain rfl := Option.some.inj h
  exact rK [4] [] ⟨[(4, vz z3)], [], 1⟩ ⟨by kernel_rfl, rfl⟩

theorem cost_Upgrade_ok {n : Nat} {a0 : Prog} {a1 : ByteArray} {r : Cx} (h : cost_Upgrade n a0 a1 = some r) : PT Try.prog 52 [eProg a0, vw a1] (vz r) := by
  unfold cost_Upgrade at h
  refine PT_bodyA hT Try.func52 rfl (by kernel_rfl) fun bad w => ?_
  refine Qz hT 2 [1, 2] ⟨[(1, vw a1), (2, .box 2 0 0 0)], [(2, ⟨0, 26, 2, true, false, [eProg a0]⟩)], 1⟩ ?_
  refine Qz hT 1 [1, 2, 5] ⟨[(1, vw a1), (2, .box 2 0 0 0), (5, vz (⟨0, 4607182418800017408⟩ : Cx))], [(2, ⟨0, 26, 2, true, false, [eProg a0]⟩)], 1⟩ ?_
  refine Qg hT 1 [1, 2, 5, 9] ⟨[(1, vw a1), (2, .box 2 0 0 0), (5, vz (⟨0, 4607182418800017408⟩ : Cx)), (9, eProg a0)], [(2, ⟨0, 26, 2, true, false, [eProg a0]⟩)], 1⟩ ?_
  obtain ⟨r1, hr1, h⟩ := bsome h
  refine Pt en51 (cost_Weights_ok hr1) ?_
  refine Sz hT 1 [1, 2, 5, 6] ⟨[(1, vw a1), (2, .box 2 0 0 0), (5, vz (⟨0, 4607182418800017408⟩ : Cx)), (6, .ps .fopt (s30.F r1))], [(2, ⟨0, 26, 2, true, false, [eProg a0]⟩)], 1⟩ ?_
  refine WA_seq ?_
  refine Qg hT 1 [1, 5, 6, 11] ⟨[(1, vw a1), (5, vz (⟨0, 4607182418800017408⟩ : Cx)), (6, .ps .fopt (s30.F r1)), (11, eProg a0)], [(2, ⟨0, 26, 2, true, false, [eProg a0]⟩)], 1⟩ ?_
  obtain ⟨r2, hr2, h⟩ := bsome h
  refine Pt en67 (tree_List_ok hr2) ?_
  refine Sg hT 0 [1, 5, 6, 12] ⟨[(1, vw a1), (5, vz (⟨0, 4607182418800017408⟩ : Cx)), (6, .ps .fopt (s30.F r1)), (12, .ps .fopt (s32.F r2))], [(2, ⟨0, 26, 2, true, false, [eProg a0]⟩)], 1⟩ ?_
  refine One hT rfl (ev_len s32 .fopt r2 (by kernel_rfl)) ?_
  refine Sz hT 1 [1, 5, 6, 12, 13, 14] ⟨[(1, vw a1), (5, vz (⟨0, 4607182418800017408⟩ : Cx)), (6, .ps .fopt (s30.F r1)), (12, .ps .fopt (s32.F r2)), (13, vi (ln r2)), (14, vi 0)], [(2, ⟨0, 26, 2, true, false, [eProg a0]⟩)], 1⟩ ?_
  refine WA_block ?_
  refine lK [1, 5, 6, 12, 13, 14] [] (fun k s => ∃ q, q ≤ k ∧ q ≤ n ∧ ∃ (z3 : Cx), ∃ (i4 : Int), cost_Upgrade_L0 q a0 a1 r1 r2 z3 i4 = some r ∧ s = ⟨[(1, vw a1), (5, vz z3), (6, .ps .fopt (s30.F r1)), (12, .ps .fopt (s32.F r2)), (13, vi (ln r2)), (14, vi i4)], [], 1⟩) n ⟨n, Nat.le_refl _, Nat.le_refl _, (⟨0, 4607182418800017408⟩ : Cx), 0, h, rfl⟩ (by rintro s ⟨q, hq, _, z3, i4, h, _⟩; obtain rfl := Nat.le_zero.1 hq; rw [cost_Upgrade_L0] at h; cases h) ?_
  clear h
  rintro k1 s ⟨q1, hk1, hn1, z3, i4, h, rfl⟩
  rcases q1 with _ | q1
  · rw [cost_Upgrade_L0] at h; cases h
  rw [cost_Upgrade_L0] at h
  refine Qz hT 1 [1, 5, 6, 12, 13, 14, 15] ⟨[(1, vw a1), (5, vz z3), (6, .ps .fopt (s30.F r1)), (12, .ps .fopt (s32.F r2)), (13, vi (ln r2)), (14, vi i4), (15, vb (decide (i4 < (ln r2))))], [], 1⟩ ?_
  refine WA_seq ?_
  refine Cd (decide (i4 < (ln r2))) ?_ ?_
  · intro hb; replace h := ctrue hb h
    refine WA_skip ?_
    refine WA_seq ?_
    obtain ⟨J6, hJ6, h⟩ := jsome h
    refine WA_join (fun s => ∃ (z5 : Cx), J6 z5 = some r ∧ s = ⟨[(1, vw a1), (5, vz z5), (6, .ps .fopt (s30.F r1)), (12, .ps .fopt (s32.F r2)), (13, vi (ln r2)), (14, vi i4)], [], 1⟩) ?_ ?_
    · refine WA_block ?_
      refine Qg hT 1 [1, 5, 6, 12, 13, 14, 16] ⟨[(1, vw a1), (5, vz z3), (6, .ps .fopt (s30.F r1)), (12, .ps .fopt (s32.F r2)), (13, vi (ln r2)), (14, vi i4), (16, vi i4)], [], 1⟩ ?_
      obtain ⟨x7, hx7, h⟩ := bsome h
      refine One hT rfl (ev_index s32 .fopt r2 .i64 i4 hx7 (by decide) (by kernel_rfl) (by kernel_rfl)) ?_
      refine Sz hT 4 [1, 5, 6, 7, 8, 12, 13, 14] ⟨[(1, vw a1), (5, vz z3), (6, .ps .fopt (s30.F r1)), (7, vi i4), (8, .box 8 1 0 0), (12, .ps .fopt (s32.F r2)), (13, vi (ln r2)), (14, vi i4)], [(8, ⟨1, 38, 11, true, false, [eStmt x7]⟩)], 2⟩ ?_
      refine Qg hT 3 [1, 5, 6, 7, 12, 13, 14, 19, 21] ⟨[(1, vw a1), (5, vz z3), (6, .ps .fopt (s30.F r1)), (7, vi i4), (12, .ps .fopt (s32.F r2)), (13, vi (ln r2)), (14, vi i4), (19, eStmt x7), (21, vo 21 2 (s62.F [a1]))], [(21, ⟨2, 9, 1, false, false, s62.F [a1]⟩), (8, ⟨1, 38, 11, true, false, [eStmt x7]⟩)], 3⟩ ?_
      refine WO_weak (Weak_frz 21 2 ⟨2, 9, 1, false, false, s62.F [a1]⟩ (by kernel_rfl) rfl rfl [(1, vw a1), (5, vz z3), (6, .ps .fopt (s30.F r1)), (7, vi i4), (12, .ps .fopt (s32.F r2)), (13, vi (ln r2)), (14, vi i4), (19, eStmt x7), (21, .ps .opt (s62.F [a1]))] [(8, ⟨1, 38, 11, true, false, [eStmt x7]⟩)] ⟨rfl, .keep _, rfl, .keep _, rfl, .keep _, rfl, .keep _, rfl, .keep _, rfl, .keep _, rfl, .keep _, rfl, .keep _, rfl, .hit true, trivial⟩ ⟨rfl, .inl rfl, trivial⟩) ?_
      obtain ⟨r8, hr8, h⟩ := bsome h
      refine Pt en90 (cost_touches_ok hr8) ?_
      refine Sz hT 0 [1, 5, 6, 7, 12, 13, 14, 22] ⟨[(1, vw a1), (5, vz z3), (6, .ps .fopt (s30.F r1)), (7, vi i4), (12, .ps .fopt (s32.F r2)), (13, vi (ln r2)), (14, vi i4), (22, vb r8)], [(8, ⟨1, 38, 11, true, false, [eStmt x7]⟩)], 3⟩ ?_
      refine Cd r8 ?_ ?_
      · intro hb; replace h := ctrue hb h
        refine Rg hT 3 [1, 6, 12, 13, 14, 23, 24, 25] ⟨[(1, vw a1), (6, .ps .fopt (s30.F r1)), (12, .ps .fopt (s32.F r2)), (13, vi (ln r2)), (14, vi i4), (23, vz z3), (24, .ps .fopt (s30.F r1)), (25, vi i4)], [(8, ⟨1, 38, 11, true, false, [eStmt x7]⟩)], 3⟩ ?_
        obtain ⟨x9, hx9, h⟩ := bsome h
        refine One hT rfl (ev_index s30 .fopt r1 .i64 i4 hx9 (by decide) (by kernel_rfl) (by kernel_rfl)) ?_
        refine Sg hT 1 [1, 6, 12, 13, 14, 23, 27] ⟨[(1, vw a1), (6, .ps .fopt (s30.F r1)), (12, .ps .fopt (s32.F r2)), (13, vi (ln r2)), (14, vi i4), (23, vz z3), (27, vi x9)], [(8, ⟨1, 38, 11, true, false, [eStmt x7]⟩)], 3⟩ ?_
        obtain ⟨r10, hr10, h⟩ := bsome h
        refine Pt en93 (cost_whole_ok hr10) ?_
        refine Sg hT 0 [1, 6, 12, 13, 14, 23, 28] ⟨[(1, vw a1), (6, .ps .fopt (s30.F r1)), (12, .ps .fopt (s32.F r2)), (13, vi (ln r2)), (14, vi i4), (23, vz z3), (28, vz r10)], [(8, ⟨1, 38, 11, true, false, [eStmt x7]⟩)], 3⟩ ?_
        obtain ⟨z11, hz11, h⟩ := bsome h
        refine One hT rfl (ev_cadd z3 r10 hz11 (by kernel_rfl) (by kernel_rfl)) ?_
        refine Sg hT 1 [1, 5, 6, 12, 13, 14] ⟨[(1, vw a1), (5, vz z11), (6, .ps .fopt (s30.F r1)), (12, .ps .fopt (s32.F r2)), (13, vi (ln r2)), (14, vi i4)], [(8, ⟨1, 38, 11, true, false, [eStmt x7]⟩)], 3⟩ ?_
        exact oK [1, 5, 6, 12, 13, 14] [] ⟨z11, h, rfl⟩
      intro hb; replace h := cfalse hb h
      exact sK [1, 5, 6, 12, 13, 14] [] ⟨z3, h, rfl⟩
    subst hJ6
    rintro s ⟨z5, h, rfl⟩
    skip
    refine Rg hT 2 [1, 5, 6, 12, 13, 14] ⟨[(1, vw a1), (5, vz z5), (6, .ps .fopt (s30.F r1)), (12, .ps .fopt (s32.F r2)), (13, vi (ln r2)), (14, vi (wr (i4 + 1)))], [], 1⟩ ?_
    exact oK [1, 5, 6, 12, 13, 14] [] ⟨_, by omega, by omega, z5, wr (i4 + 1), h, rfl⟩
  intro hb; replace h := cfalse hb h
  refine WA_exit ?_
  refine Qz hT 2 [4] ⟨[(4, vz z3)], [], 1⟩ ?_
  obtain rfl := Option.some.inj h
  exact rK [4] [] ⟨[(4, vz z3)], [], 1⟩ ⟨by kernel_rfl, rfl⟩

theorem law22_known_ok {n : Nat} {r : Bool} (h : law22_known n = some r) : PT Try.prog 50 [] (vb r) := by
  unfold law22_known at h
  refine PT_bodyA hT Try.func50 rfl (by kernel_rfl) fun bad w => ?_
  refine Qz hT 1 [] ⟨[], [], 0⟩ ?_
  refine WA_seq ?_
  refine WA_region ?_
  obtain ⟨r1, hr1, h⟩ := bsome h
  refine Pt en43 (law22_read_ok hr1) ?_
  refine Sz hT 2 [1] ⟨[(1, .box 1 0 0 0)], [(1, ⟨0, 26, 2, true, false, [eProg r1]⟩)], 1⟩ ?_
  refine WA_seq ?_
  obtain ⟨J3, hJ3, h⟩ := jsome h
  refine WA_join (fun s => ∃ (b2 : Bool), J3 b2 = some r ∧ s = ⟨[(0, vb b2)], [], 1⟩) ?_ ?_
  · refine Rg hT 2 [1, 3, 4] ⟨[(1, .box 1 0 0 0), (3, eProg r1), (4, vo 4 1 (s62.F [k_x]))], [(4, ⟨1, 9, 1, false, false, s62.F [k_x]⟩), (1, ⟨0, 26, 2, true, false, [eProg r1]⟩)], 2⟩ ?_
    refine WO_weak (Weak_frz 4 1 ⟨1, 9, 1, false, false, s62.F [k_x]⟩ (by kernel_rfl) rfl rfl [(1, .box 1 0 0 0), (3, eProg r1), (4, .ps .opt (s62.F [k_x]))] [(1, ⟨0, 26, 2, true, false, [eProg r1]⟩)] ⟨rfl, .keep _, rfl, .keep _, rfl, .hit true, trivial⟩ ⟨rfl, .inl rfl, trivial⟩) ?_
    obtain ⟨r4, hr4, h⟩ := bsome h
    refine Pt en46 (cost_Wrapped_ok hr4) ?_
    refine Sg hT 0 [1, 5] ⟨[(1, .box 1 0 0 0), (5, .ps .fopt (s30.F r4))], [(1, ⟨0, 26, 2, true, false, [eProg r1]⟩)], 2⟩ ?_
    refine One hT rfl (ev_len s30 .fopt r4 (by kernel_rfl)) ?_
    refine Sg hT 2 [1, 8] ⟨[(1, .box 1 0 0 0), (8, vb ((ln r4) == 1))], [(1, ⟨0, 26, 2, true, false, [eProg r1]⟩)], 2⟩ ?_
    cases hb : (((ln r4) == 1) : Bool)
    · replace h := cfalse hb h
      refine Sg hT 11 [0] ⟨[(0, vb false)], [(1, ⟨0, 26, 2, true, false, [eProg r1]⟩)], 2⟩ ?_
      exact oK [0] [] ⟨false, h, rfl⟩
    replace h := ctrue hb h
    refine Sg hT 2 [1, 8, 9, 10] ⟨[(1, .box 1 0 0 0), (8, vb true), (9, eProg r1), (10, vo 10 2 (s62.F [k_x]))], [(10, ⟨2, 9, 1, false, false, s62.F [k_x]⟩), (1, ⟨0, 26, 2, true, false, [eProg r1]⟩)], 3⟩ ?_
    refine WO_weak (Weak_frz 10 2 ⟨2, 9, 1, false, false, s62.F [k_x]⟩ (by kernel_rfl) rfl rfl [(1, .box 1 0 0 0), (8, vb true), (9, eProg r1), (10, .ps .opt (s62.F [k_x]))] [(1, ⟨0, 26, 2, true, false, [eProg r1]⟩)] ⟨rfl, .keep _, rfl, .keep _, rfl, .keep _, rfl, .hit true, trivial⟩ ⟨rfl, .inl rfl, trivial⟩) ?_
    obtain ⟨r5, hr5, h⟩ := bsome h
    refine Pt en49 (cost_Guard_ok hr5) ?_
    refine Sg hT 3 [1, 14] ⟨[(1, .box 1 0 0 0), (14, vb ((FloatKind.f64.format.order r5.re (⟨4618441417868443648, 4607182418800017408⟩ : Cx).re == some .eq) && (FloatKind.f64.format.order r5.im (⟨4618441417868443648, 4607182418800017408⟩ : Cx).im == some .eq)))], [(1, ⟨0, 26, 2, true, false, [eProg r1]⟩)], 3⟩ ?_
    cases hb : (((FloatKind.f64.format.order r5.re (⟨4618441417868443648, 4607182418800017408⟩ : Cx).re == some .eq) && (FloatKind.f64.format.order r5.im (⟨4618441417868443648, 4607182418800017408⟩ : Cx).im == some .eq)) : Bool)
    · replace h := cfalse hb h
      refine Sg hT 5 [0] ⟨[(0, vb false)], [(1, ⟨0, 26, 2, true, false, [eProg r1]⟩)], 3⟩ ?_
      exact oK [0] [] ⟨false, h, rfl⟩
    replace h := ctrue hb h
    refine Sg hT 1 [14, 15] ⟨[(14, vb true), (15, eProg r1)], [(1, ⟨0, 26, 2, true, false, [eProg r1]⟩)], 3⟩ ?_
    obtain ⟨r6, hr6, h⟩ := bsome h
    refine Pt en52 (cost_Upgrade_ok hr6) ?_
    refine Sg hT 3 [0] ⟨[(0, vb ((FloatKind.f64.format.order r6.re (⟨4613937818241073152, 4607182418800017408⟩ : Cx).re == some .eq) && (FloatKind.f64.format.order r6.im (⟨4613937818241073152, 4607182418800017408⟩ : Cx).im == some .eq)))], [(1, ⟨0, 26, 2, true, false, [eProg r1]⟩)], 3⟩ ?_
    exact oK [0] [] ⟨((FloatKind.f64.format.order r6.re (⟨4613937818241073152, 4607182418800017408⟩ : Cx).re == some .eq) && (FloatKind.f64.format.order r6.im (⟨4613937818241073152, 4607182418800017408⟩ : Cx).im == some .eq)), h, rfl⟩
  subst hJ3
  rintro s ⟨b2, h, rfl⟩
  obtain rfl := Option.some.inj h
  exact rK [0] [] ⟨[(0, vb b2)], [], 1⟩ ⟨by kernel_rfl, rfl⟩

theorem place_Less_ok {n : Nat} {a0 : Cx} {a1 : Cx} {r : Bool} (h : place_Less n a0 a1 = some r) : PT Try.prog 95 [vz a0, vz a1] (vb r) := by
  unfold place_Less at h
  refine PT_bodyA hT Try.func95 rfl (by kernel_rfl) fun bad w => ?_
  refine Qz hT 1 [0, 1] ⟨[(0, vz a0), (1, vz a1)], [], 0⟩ ?_
  refine WA_seq ?_
  refine Qz hT 5 [0, 1, 9] ⟨[(0, vz a0), (1, vz a1), (9, vb (FloatKind.f64.format.order a0.re a1.re != some .eq))], [], 0⟩ ?_
  refine Cd (FloatKind.f64.format.order a0.re a1.re != some .eq) ?_ ?_
  · intro hb; replace h := ctrue hb h
    refine Qz hT 6 [4] ⟨[(4, vb (FloatKind.f64.format.order a0.re a1.re == some .lt))], [], 0⟩ ?_
    obtain rfl := Option.some.inj h
    exact rK [4] [] ⟨[(4, vb (FloatKind.f64.format.order a0.re a1.re == some .lt))], [], 1⟩ ⟨by kernel_rfl, rfl⟩
  intro hb; replace h := cfalse hb h
  refine WA_skip ?_
  refine Qz hT 6 [4] ⟨[(4, vb (FloatKind.f64.format.order a0.im a1.im == some .lt))], [], 0⟩ ?_
  obtain rfl := Option.some.inj h
  exact rK [4] [] ⟨[(4, vb (FloatKind.f64.format.order a0.im a1.im == some .lt))], [], 1⟩ ⟨by kernel_rfl, rfl⟩

theorem cost_Less_ok {n : Nat} {a0 : Cx} {a1 : Cx} {r : Bool} (h : cost_Less n a0 a1 = some r) : PT Try.prog 53 [vz a0, vz a1] (vb r) := by
  unfold cost_Less at h
  refine PT_bodyA hT Try.func53 rfl (by kernel_rfl) fun bad w => ?_
  refine Qz hT 1 [0, 1] ⟨[(0, vz a0), (1, vz a1)], [], 0⟩ ?_
  refine Qg hT 2 [5, 6] ⟨[(5, vz a0), (6, vz a1)], [], 0⟩ ?_
  obtain ⟨r1, hr1, h⟩ := bsome h
  refine Pt en95 (place_Less_ok hr1) ?_
  refine Sz hT 1 [4] ⟨[(4, vb r1)], [], 0⟩ ?_
  obtain rfl := Option.some.inj h
  exact rK [4] [] ⟨[(4, vb r1)], [], 1⟩ ⟨by kernel_rfl, rfl⟩

theorem law22_CostKnown_ok {n : Nat} {r : Bool} (h : law22_CostKnown n = some r) : PT Try.prog 13 [] (vb r) := by
  unfold law22_CostKnown at h
  refine PT_bodyA hT Try.func13 rfl (by kernel_rfl) fun bad w => ?_
  refine Qz hT 1 [] ⟨[], [], 0⟩ ?_
  refine WA_seq ?_
  refine WA_region ?_
  obtain ⟨r1, hr1, h⟩ := bsome h
  refine Pt en43 (law22_read_ok hr1) ?_
  refine Sz hT 2 [1] ⟨[(1, .box 1 0 0 0)], [(1, ⟨0, 26, 2, true, false, [eProg r1]⟩)], 1⟩ ?_
  refine Qg hT 1 [1, 7] ⟨[(1, .box 1 0 0 0), (7, eProg r1)], [(1, ⟨0, 26, 2, true, false, [eProg r1]⟩)], 1⟩ ?_
  obtain ⟨r2, hr2, h⟩ := bsome h
  refine Pt en51 (cost_Weights_ok hr2) ?_
  refine Sz hT 1 [1, 2] ⟨[(1, .box 1 0 0 0), (2, .ps .fopt (s30.F r2))], [(1, ⟨0, 26, 2, true, false, [eProg r1]⟩)], 1⟩ ?_
  refine Qg hT 2 [1, 2, 9, 10] ⟨[(1, .box 1 0 0 0), (2, .ps .fopt (s30.F r2)), (9, eProg r1), (10, vo 10 1 (s62.F [k_x]))], [(10, ⟨1, 9, 1, false, false, s62.F [k_x]⟩), (1, ⟨0, 26, 2, true, false, [eProg r1]⟩)], 2⟩ ?_
  refine WO_weak (Weak_frz 10 1 ⟨1, 9, 1, false, false, s62.F [k_x]⟩ (by kernel_rfl) rfl rfl [(1, .box 1 0 0 0), (2, .ps .fopt (s30.F r2)), (9, eProg r1), (10, .ps .opt (s62.F [k_x]))] [(1, ⟨0, 26, 2, true, false, [eProg r1]⟩)] ⟨rfl, .keep _, rfl, .keep _, rfl, .keep _, rfl, .hit true, trivial⟩ ⟨rfl, .inl rfl, trivial⟩) ?_
  obtain ⟨r3, hr3, h⟩ := bsome h
  refine Pt en46 (cost_Wrapped_ok hr3) ?_
  refine Sz hT 1 [1, 2, 3] ⟨[(1, .box 1 0 0 0), (2, .ps .fopt (s30.F r2)), (3, .ps .fopt (s30.F r3))], [(1, ⟨0, 26, 2, true, false, [eProg r1]⟩)], 2⟩ ?_
  refine Qg hT 2 [1, 2, 3, 12, 13] ⟨[(1, .box 1 0 0 0), (2, .ps .fopt (s30.F r2)), (3, .ps .fopt (s30.F r3)), (12, eProg r1), (13, vo 13 2 (s62.F [k_y]))], [(13, ⟨2, 9, 1, false, false, s62.F [k_y]⟩), (1, ⟨0, 26, 2, true, false, [eProg r1]⟩)], 3⟩ ?_
  refine WO_weak (Weak_frz 13 2 ⟨2, 9, 1, false, false, s62.F [k_y]⟩ (by kernel_rfl) rfl rfl [(1, .box 1 0 0 0), (2, .ps .fopt (s30.F r2)), (3, .ps .fopt (s30.F r3)), (12, eProg r1), (13, .ps .opt (s62.F [k_y]))] [(1, ⟨0, 26, 2, true, false, [eProg r1]⟩)] ⟨rfl, .keep _, rfl, .keep _, rfl, .keep _, rfl, .keep _, rfl, .hit true, trivial⟩ ⟨rfl, .inl rfl, trivial⟩) ?_
  obtain ⟨r4, hr4, h⟩ := bsome h
  refine Pt en46 (cost_Wrapped_ok hr4) ?_
  refine Sz hT 1 [1, 2, 3, 4] ⟨[(1, .box 1 0 0 0), (2, .ps .fopt (s30.F r2)), (3, .ps .fopt (s30.F r3)), (4, .ps .fopt (s30.F r4))], [(1, ⟨0, 26, 2, true, false, [eProg r1]⟩)], 3⟩ ?_
  refine Qg hT 2 [1, 2, 3, 4, 15, 16] ⟨[(1, .box 1 0 0 0), (2, .ps .fopt (s30.F r2)), (3, .ps .fopt (s30.F r3)), (4, .ps .fopt (s30.F r4)), (15, eProg r1), (16, vo 16 3 (s62.F [k_y, k_x]))], [(16, ⟨3, 9, 1, false, false, s62.F [k_y, k_x]⟩), (1, ⟨0, 26, 2, true, false, [eProg r1]⟩)], 4⟩ ?_
  refine WO_weak (Weak_frz 16 3 ⟨3, 9, 1, false, false, s62.F [k_y, k_x]⟩ (by kernel_rfl) rfl rfl [(1, .box 1 0 0 0), (2, .ps .fopt (s30.F r2)), (3, .ps .fopt (s30.F r3)), (4, .ps .fopt (s30.F r4)), (15, eProg r1), (16, .ps .opt (s62.F [k_y, k_x]))] [(1, ⟨0, 26, 2, true, false, [eProg r1]⟩)] ⟨rfl, .keep _, rfl, .keep _, rfl, .keep _, rfl, .keep _, rfl, .keep _, rfl, .hit true, trivial⟩ ⟨rfl, .inl rfl, trivial⟩) ?_
  obtain ⟨r5, hr5, h⟩ := bsome h
  refine Pt en46 (cost_Wrapped_ok hr5) ?_
  refine Sz hT 1 [1, 2, 3, 4, 5] ⟨[(1, .box 1 0 0 0), (2, .ps .fopt (s30.F r2)), (3, .ps .fopt (s30.F r3)), (4, .ps .fopt (s30.F r4)), (5, .ps .fopt (s30.F r5))], [(1, ⟨0, 26, 2, true, false, [eProg r1]⟩)], 4⟩ ?_
  refine WA_seq ?_
  refine WA_seq ?_
  obtain ⟨J7, hJ7, h⟩ := jsome h
  refine WA_join (fun s => ∃ (b6 : Bool), J7 b6 = some r ∧ s = ⟨[(1, .box 1 0 0 0), (2, .ps .fopt (s30.F r2)), (3, .ps .fopt (s30.F r3)), (4, .ps .fopt (s30.F r4)), (5, .ps .fopt (s30.F r5)), (39, vb b6)], [(1, ⟨0, 26, 2, true, false, [eProg r1]⟩)], 1⟩) ?_ ?_
  · refine WA_region ?_
    obtain ⟨r8, hr8, h⟩ := bsome h
    refine Pt en50 (law22_known_ok hr8) ?_
    refine Sg hT 2 [1, 2, 3, 4, 5, 20] ⟨[(1, .box 1 0 0 0), (2, .ps .fopt (s30.F r2)), (3, .ps .fopt (s30.F r3)), (4, .ps .fopt (s30.F r4)), (5, .ps .fopt (s30.F r5)), (20, vb (!r8))], [(1, ⟨0, 26, 2, true, false, [eProg r1]⟩)], 4⟩ ?_
    cases hb : (!r8 : Bool)
    · replace h := cfalse hb h
      refine Sg hT 1 [1, 2, 3, 4, 5, 20, 21] ⟨[(1, .box 1 0 0 0), (2, .ps .fopt (s30.F r2)), (3, .ps .fopt (s30.F r3)), (4, .ps .fopt (s30.F r4)), (5, .ps .fopt (s30.F r5)), (20, vb false), (21, .ps .fopt (s30.F r2))], [(1, ⟨0, 26, 2, true, false, [eProg r1]⟩)], 4⟩ ?_
      refine One hT rfl (ev_len s30 .fopt r2 (by kernel_rfl)) ?_
      refine Sg hT 3 [1, 2, 3, 4, 5, 25] ⟨[(1, .box 1 0 0 0), (2, .ps .fopt (s30.F r2)), (3, .ps .fopt (s30.F r3)), (4, .ps .fopt (s30.F r4)), (5, .ps .fopt (s30.F r5)), (25, vb ((ln r2) != 10))], [(1, ⟨0, 26, 2, true, false, [eProg r1]⟩)], 4⟩ ?_
      cases hb : (((ln r2) != 10) : Bool)
      · replace h := cfalse hb h
        refine Sg hT 1 [1, 2, 3, 4, 5, 25, 26] ⟨[(1, .box 1 0 0 0), (2, .ps .fopt (s30.F r2)), (3, .ps .fopt (s30.F r3)), (4, .ps .fopt (s30.F r4)), (5, .ps .fopt (s30.F r5)), (25, vb false), (26, .ps .fopt (s30.F r3))], [(1, ⟨0, 26, 2, true, false, [eProg r1]⟩)], 4⟩ ?_
        refine One hT rfl (ev_len s30 .fopt r3 (by kernel_rfl)) ?_
        refine Sg hT 3 [1, 2, 3, 4, 5, 30] ⟨[(1, .box 1 0 0 0), (2, .ps .fopt (s30.F r2)), (3, .ps .fopt (s30.F r3)), (4, .ps .fopt (s30.F r4)), (5, .ps .fopt (s30.F r5)), (30, vb ((ln r3) != 3))], [(1, ⟨0, 26, 2, true, false, [eProg r1]⟩)], 4⟩ ?_
        cases hb : (((ln r3) != 3) : Bool)
        · replace h := cfalse hb h
          refine Sg hT 1 [1, 2, 3, 4, 5, 30, 31] ⟨[(1, .box 1 0 0 0), (2, .ps .fopt (s30.F r2)), (3, .ps .fopt (s30.F r3)), (4, .ps .fopt (s30.F r4)), (5, .ps .fopt (s30.F r5)), (30, vb false), (31, .ps .fopt (s30.F r4))], [(1, ⟨0, 26, 2, true, false, [eProg r1]⟩)], 4⟩ ?_
          refine One hT rfl (ev_len s30 .fopt r4 (by kernel_rfl)) ?_
          refine Sg hT 3 [1, 2, 3, 4, 5, 35] ⟨[(1, .box 1 0 0 0), (2, .ps .fopt (s30.F r2)), (3, .ps .fopt (s30.F r3)), (4, .ps .fopt (s30.F r4)), (5, .ps .fopt (s30.F r5)), (35, vb ((ln r4) != 3))], [(1, ⟨0, 26, 2, true, false, [eProg r1]⟩)], 4⟩ ?_
          cases hb : (((ln r4) != 3) : Bool)
          · replace h := cfalse hb h
            refine Sg hT 1 [1, 2, 3, 4, 5, 35, 36] ⟨[(1, .box 1 0 0 0), (2, .ps .fopt (s30.F r2)), (3, .ps .fopt (s30.F r3)), (4, .ps .fopt (s30.F r4)), (5, .ps .fopt (s30.F r5)), (35, vb false), (36, .ps .fopt (s30.F r5))], [(1, ⟨0, 26, 2, true, false, [eProg r1]⟩)], 4⟩ ?_
            refine One hT rfl (ev_len s30 .fopt r5 (by kernel_rfl)) ?_
            refine Sg hT 2 [1, 2, 3, 4, 5, 39] ⟨[(1, .box 1 0 0 0), (2, .ps .fopt (s30.F r2)), (3, .ps .fopt (s30.F r3)), (4, .ps .fopt (s30.F r4)), (5, .ps .fopt (s30.F r5)), (39, vb ((ln r5) != 4))], [(1, ⟨0, 26, 2, true, false, [eProg r1]⟩)], 4⟩ ?_
            exact oK [1, 2, 3, 4, 5, 39] [(1, 1, 0)] ⟨((ln r5) != 4), h, rfl⟩
          replace h := ctrue hb h
          refine Sg hT 4 [1, 2, 3, 4, 5, 39] ⟨[(1, .box 1 0 0 0), (2, .ps .fopt (s30.F r2)), (3, .ps .fopt (s30.F r3)), (4, .ps .fopt (s30.F r4)), (5, .ps .fopt (s30.F r5)), (39, vb true)], [(1, ⟨0, 26, 2, true, false, [eProg r1]⟩)], 4⟩ ?_
          exact oK [1, 2, 3, 4, 5, 39] [(1, 1, 0)] ⟨true, h, rfl⟩
        replace h := ctrue hb h
        refine Sg hT 9 [1, 2, 3, 4, 5, 39] ⟨[(1, .box 1 0 0 0), (2, .ps .fopt (s30.F r2)), (3, .ps .fopt (s30.F r3)), (4, .ps .fopt (s30.F r4)), (5, .ps .fopt (s30.F r5)), (39, vb true)], [(1, ⟨0, 26, 2, true, false, [eProg r1]⟩)], 4⟩ ?_
        exact oK [1, 2, 3, 4, 5, 39] [(1, 1, 0)] ⟨true, h, rfl⟩
      replace h := ctrue hb h
      refine Sg hT 14 [1, 2, 3, 4, 5, 39] ⟨[(1, .box 1 0 0 0), (2, .ps .fopt (s30.F r2)), (3, .ps .fopt (s30.F r3)), (4, .ps .fopt (s30.F r4)), (5, .ps .fopt (s30.F r5)), (39, vb true)], [(1, ⟨0, 26, 2, true, false, [eProg r1]⟩)], 4⟩ ?_
      exact oK [1, 2, 3, 4, 5, 39] [(1, 1, 0)] ⟨true, h, rfl⟩
    replace h := ctrue hb h
    refine Sg hT 19 [1, 2, 3, 4, 5, 39] ⟨[(1, .box 1 0 0 0), (2, .ps .fopt (s30.F r2)), (3, .ps .fopt (s30.F r3)), (4, .ps .fopt (s30.F r4)), (5, .ps .fopt (s30.F r5)), (39, vb true)], [(1, ⟨0, 26, 2, true, false, [eProg r1]⟩)], 4⟩ ?_
    exact oK [1, 2, 3, 4, 5, 39] [(1, 1, 0)] ⟨true, h, rfl⟩
  subst hJ7
  rintro s ⟨b6, h, rfl⟩
  refine Cd b6 ?_ ?_
  · intro hb; replace h := ctrue hb h
    refine Qz hT 1 [0] ⟨[(0, vb false)], [(1, ⟨0, 26, 2, true, false, [eProg r1]⟩)], 1⟩ ?_
    obtain rfl := Option.some.inj h
    exact rK [0] [] ⟨[(0, vb false)], [], 1⟩ ⟨by kernel_rfl, rfl⟩
  intro hb; replace h := cfalse hb h
  refine WA_skip ?_
  refine WA_seq ?_
  obtain ⟨J10, hJ10, h⟩ := jsome h
  refine WA_join (fun s => ∃ (b9 : Bool), J10 b9 = some r ∧ s = ⟨[(0, vb b9)], [], 1⟩) ?_ ?_
  · refine Rg hT 1 [1, 2, 3, 4, 5, 40] ⟨[(1, .box 1 0 0 0), (2, .ps .fopt (s30.F r2)), (3, .ps .fopt (s30.F r3)), (4, .ps .fopt (s30.F r4)), (5, .ps .fopt (s30.F r5)), (40, .ps .fopt (s30.F r2))], [(1, ⟨0, 26, 2, true, false, [eProg r1]⟩)], 1⟩ ?_
    obtain ⟨x11, hx11, h⟩ := bsome h
    refine One hT rfl (ev_index s30 .fopt r2 .i64 0 hx11 (by decide) (by kernel_rfl) (by kernel_rfl)) ?_
    refine Sg hT 3 [1, 2, 3, 4, 5, 44] ⟨[(1, .box 1 0 0 0), (2, .ps .fopt (s30.F r2)), (3, .ps .fopt (s30.F r3)), (4, .ps .fopt (s30.F r4)), (5, .ps .fopt (s30.F r5)), (44, vb (x11 == 1))], [(1, ⟨0, 26, 2, true, false, [eProg r1]⟩)], 1⟩ ?_
    cases hb : ((x11 == 1) : Bool)
    · replace h := cfalse hb h
      refine Sg hT 104 [0] ⟨[(0, vb false)], [(1, ⟨0, 26, 2, true, false, [eProg r1]⟩)], 1⟩ ?_
      exact oK [0] [] ⟨false, h, rfl⟩
    replace h := ctrue hb h
    refine Sg hT 1 [1, 2, 3, 4, 5, 44, 45] ⟨[(1, .box 1 0 0 0), (2, .ps .fopt (s30.F r2)), (3, .ps .fopt (s30.F r3)), (4, .ps .fopt (s30.F r4)), (5, .ps .fopt (s30.F r5)), (44, vb true), (45, .ps .fopt (s30.F r2))], [(1, ⟨0, 26, 2, true, false, [eProg r1]⟩)], 1⟩ ?_
    obtain ⟨x12, hx12, h⟩ := bsome h
    refine One hT rfl (ev_index s30 .fopt r2 .i64 3 hx12 (by decide) (by kernel_rfl) (by kernel_rfl)) ?_
    refine Sg hT 4 [1, 2, 3, 4, 5, 50] ⟨[(1, .box 1 0 0 0), (2, .ps .fopt (s30.F r2)), (3, .ps .fopt (s30.F r3)), (4, .ps .fopt (s30.F r4)), (5, .ps .fopt (s30.F r5)), (50, vb (x12 == 4))], [(1, ⟨0, 26, 2, true, false, [eProg r1]⟩)], 1⟩ ?_
    cases hb : ((x12 == 4) : Bool)
    · replace h := cfalse hb h
      refine Sg hT 98 [0] ⟨[(0, vb false)], [(1, ⟨0, 26, 2, true, false, [eProg r1]⟩)], 1⟩ ?_
      exact oK [0] [] ⟨false, h, rfl⟩
    replace h := ctrue hb h
    refine Sg hT 1 [1, 2, 3, 4, 5, 50, 51] ⟨[(1, .box 1 0 0 0), (2, .ps .fopt (s30.F r2)), (3, .ps .fopt (s30.F r3)), (4, .ps .fopt (s30.F r4)), (5, .ps .fopt (s30.F r5)), (50, vb true), (51, .ps .fopt (s30.F r2))], [(1, ⟨0, 26, 2, true, false, [eProg r1]⟩)], 1⟩ ?_
    obtain ⟨x13, hx13, h⟩ := bsome h
    refine One hT rfl (ev_index s30 .fopt r2 .i64 6 hx13 (by decide) (by kernel_rfl) (by kernel_rfl)) ?_
    refine Sg hT 4 [1, 2, 3, 4, 5, 56] ⟨[(1, .box 1 0 0 0), (2, .ps .fopt (s30.F r2)), (3, .ps .fopt (s30.F r3)), (4, .ps .fopt (s30.F r4)), (5, .ps .fopt (s30.F r5)), (56, vb (x13 == 2))], [(1, ⟨0, 26, 2, true, false, [eProg r1]⟩)], 1⟩ ?_
    cases hb : ((x13 == 2) : Bool)
    · replace h := cfalse hb h
      refine Sg hT 92 [0] ⟨[(0, vb false)], [(1, ⟨0, 26, 2, true, false, [eProg r1]⟩)], 1⟩ ?_
      exact oK [0] [] ⟨false, h, rfl⟩
    replace h := ctrue hb h
    refine Sg hT 1 [1, 2, 3, 4, 5, 56, 57] ⟨[(1, .box 1 0 0 0), (2, .ps .fopt (s30.F r2)), (3, .ps .fopt (s30.F r3)), (4, .ps .fopt (s30.F r4)), (5, .ps .fopt (s30.F r5)), (56, vb true), (57, .ps .fopt (s30.F r2))], [(1, ⟨0, 26, 2, true, false, [eProg r1]⟩)], 1⟩ ?_
    obtain ⟨x14, hx14, h⟩ := bsome h
    refine One hT rfl (ev_index s30 .fopt r2 .i64 7 hx14 (by decide) (by kernel_rfl) (by kernel_rfl)) ?_
    refine Sg hT 4 [1, 2, 3, 4, 5, 62] ⟨[(1, .box 1 0 0 0), (2, .ps .fopt (s30.F r2)), (3, .ps .fopt (s30.F r3)), (4, .ps .fopt (s30.F r4)), (5, .ps .fopt (s30.F r5)), (62, vb (x14 == 10))], [(1, ⟨0, 26, 2, true, false, [eProg r1]⟩)], 1⟩ ?_
    cases hb : ((x14 == 10) : Bool)
    · replace h := cfalse hb h
      refine Sg hT 86 [0] ⟨[(0, vb false)], [(1, ⟨0, 26, 2, true, false, [eProg r1]⟩)], 1⟩ ?_
      exact oK [0] [] ⟨false, h, rfl⟩
    replace h := ctrue hb h
    refine Sg hT 1 [1, 3, 4, 5, 62, 63] ⟨[(1, .box 1 0 0 0), (3, .ps .fopt (s30.F r3)), (4, .ps .fopt (s30.F r4)), (5, .ps .fopt (s30.F r5)), (62, vb true), (63, .ps .fopt (s30.F r2))], [(1, ⟨0, 26, 2, true, false, [eProg r1]⟩)], 1⟩ ?_
    obtain ⟨x15, hx15, h⟩ := bsome h
    refine One hT rfl (ev_index s30 .fopt r2 .i64 9 hx15 (by decide) (by kernel_rfl) (by kernel_rfl)) ?_
    refine Sg hT 4 [1, 3, 4, 5, 68] ⟨[(1, .box 1 0 0 0), (3, .ps .fopt (s30.F r3)), (4, .ps .fopt (s30.F r4)), (5, .ps .fopt (s30.F r5)), (68, vb (x15 == 0))], [(1, ⟨0, 26, 2, true, false, [eProg r1]⟩)], 1⟩ ?_
    cases hb : ((x15 == 0) : Bool)
    · replace h := cfalse hb h
      refine Sg hT 80 [0] ⟨[(0, vb false)], [(1, ⟨0, 26, 2, true, false, [eProg r1]⟩)], 1⟩ ?_
      exact oK [0] [] ⟨false, h, rfl⟩
    replace h := ctrue hb h
    refine Sg hT 1 [1, 3, 4, 5, 68, 69] ⟨[(1, .box 1 0 0 0), (3, .ps .fopt (s30.F r3)), (4, .ps .fopt (s30.F r4)), (5, .ps .fopt (s30.F r5)), (68, vb true), (69, .ps .fopt (s30.F r3))], [(1, ⟨0, 26, 2, true, false, [eProg r1]⟩)], 1⟩ ?_
    obtain ⟨x16, hx16, h⟩ := bsome h
    refine One hT rfl (ev_index s30 .fopt r3 .i64 0 hx16 (by decide) (by kernel_rfl) (by kernel_rfl)) ?_
    refine Sg hT 4 [1, 3, 4, 5, 74] ⟨[(1, .box 1 0 0 0), (3, .ps .fopt (s30.F r3)), (4, .ps .fopt (s30.F r4)), (5, .ps .fopt (s30.F r5)), (74, vb (x16 == 0))], [(1, ⟨0, 26, 2, true, false, [eProg r1]⟩)], 1⟩ ?_
    cases hb : ((x16 == 0) : Bool)
    · replace h := cfalse hb h
      refine Sg hT 74 [0] ⟨[(0, vb false)], [(1, ⟨0, 26, 2, true, false, [eProg r1]⟩)], 1⟩ ?_
      exact oK [0] [] ⟨false, h, rfl⟩
    replace h := ctrue hb h
    refine Sg hT 1 [1, 3, 4, 5, 74, 75] ⟨[(1, .box 1 0 0 0), (3, .ps .fopt (s30.F r3)), (4, .ps .fopt (s30.F r4)), (5, .ps .fopt (s30.F r5)), (74, vb true), (75, .ps .fopt (s30.F r3))], [(1, ⟨0, 26, 2, true, false, [eProg r1]⟩)], 1⟩ ?_
    obtain ⟨x17, hx17, h⟩ := bsome h
    refine One hT rfl (ev_index s30 .fopt r3 .i64 1 hx17 (by decide) (by kernel_rfl) (by kernel_rfl)) ?_
    refine Sg hT 4 [1, 3, 4, 5, 80] ⟨[(1, .box 1 0 0 0), (3, .ps .fopt (s30.F r3)), (4, .ps .fopt (s30.F r4)), (5, .ps .fopt (s30.F r5)), (80, vb (x17 == 7))], [(1, ⟨0, 26, 2, true, false, [eProg r1]⟩)], 1⟩ ?_
    cases hb : ((x17 == 7) : Bool)
    · replace h := cfalse hb h
      refine Sg hT 68 [0] ⟨[(0, vb false)], [(1, ⟨0, 26, 2, true, false, [eProg r1]⟩)], 1⟩ ?_
      exact oK [0] [] ⟨false, h, rfl⟩
    replace h := ctrue hb h
    refine Sg hT 1 [1, 4, 5, 80, 81] ⟨[(1, .box 1 0 0 0), (4, .ps .fopt (s30.F r4)), (5, .ps .fopt (s30.F r5)), (80, vb true), (81, .ps .fopt (s30.F r3))], [(1, ⟨0, 26, 2, true, false, [eProg r1]⟩)], 1⟩ ?_
    obtain ⟨x18, hx18, h⟩ := bsome h
    refine One hT rfl (ev_index s30 .fopt r3 .i64 2 hx18 (by decide) (by kernel_rfl) (by kernel_rfl)) ?_
    refine Sg hT 4 [1, 4, 5, 86] ⟨[(1, .box 1 0 0 0), (4, .ps .fopt (s30.F r4)), (5, .ps .fopt (s30.F r5)), (86, vb (x18 == 9))], [(1, ⟨0, 26, 2, true, false, [eProg r1]⟩)], 1⟩ ?_
    cases hb : ((x18 == 9) : Bool)
    · replace h := cfalse hb h
      refine Sg hT 62 [0] ⟨[(0, vb false)], [(1, ⟨0, 26, 2, true, false, [eProg r1]⟩)], 1⟩ ?_
      exact oK [0] [] ⟨false, h, rfl⟩
    replace h := ctrue hb h
    refine Sg hT 1 [1, 4, 5, 86, 87] ⟨[(1, .box 1 0 0 0), (4, .ps .fopt (s30.F r4)), (5, .ps .fopt (s30.F r5)), (86, vb true), (87, .ps .fopt (s30.F r4))], [(1, ⟨0, 26, 2, true, false, [eProg r1]⟩)], 1⟩ ?_
    obtain ⟨x19, hx19, h⟩ := bsome h
    refine One hT rfl (ev_index s30 .fopt r4 .i64 0 hx19 (by decide) (by kernel_rfl) (by kernel_rfl)) ?_
    refine Sg hT 4 [1, 4, 5, 92] ⟨[(1, .box 1 0 0 0), (4, .ps .fopt (s30.F r4)), (5, .ps .fopt (s30.F r5)), (92, vb (x19 == 1))], [(1, ⟨0, 26, 2, true, false, [eProg r1]⟩)], 1⟩ ?_
    cases hb : ((x19 == 1) : Bool)
    · replace h := cfalse hb h
      refine Sg hT 56 [0] ⟨[(0, vb false)], [(1, ⟨0, 26, 2, true, false, [eProg r1]⟩)], 1⟩ ?_
      exact oK [0] [] ⟨false, h, rfl⟩
    replace h := ctrue hb h
    refine Sg hT 1 [1, 4, 5, 92, 93] ⟨[(1, .box 1 0 0 0), (4, .ps .fopt (s30.F r4)), (5, .ps .fopt (s30.F r5)), (92, vb true), (93, .ps .fopt (s30.F r4))], [(1, ⟨0, 26, 2, true, false, [eProg r1]⟩)], 1⟩ ?_
    obtain ⟨x20, hx20, h⟩ := bsome h
    refine One hT rfl (ev_index s30 .fopt r4 .i64 1 hx20 (by decide) (by kernel_rfl) (by kernel_rfl)) ?_
    refine Sg hT 4 [1, 4, 5, 98] ⟨[(1, .box 1 0 0 0), (4, .ps .fopt (s30.F r4)), (5, .ps .fopt (s30.F r5)), (98, vb (x20 == 4))], [(1, ⟨0, 26, 2, true, false, [eProg r1]⟩)], 1⟩ ?_
    cases hb : ((x20 == 4) : Bool)
    · replace h := cfalse hb h
      refine Sg hT 50 [0] ⟨[(0, vb false)], [(1, ⟨0, 26, 2, true, false, [eProg r1]⟩)], 1⟩ ?_
      exact oK [0] [] ⟨false, h, rfl⟩
    replace h := ctrue hb h
    refine Sg hT 1 [1, 5, 98, 99] ⟨[(1, .box 1 0 0 0), (5, .ps .fopt (s30.F r5)), (98, vb true), (99, .ps .fopt (s30.F r4))], [(1, ⟨0, 26, 2, true, false, [eProg r1]⟩)], 1⟩ ?_
    obtain ⟨x21, hx21, h⟩ := bsome h
    refine One hT rfl (ev_index s30 .fopt r4 .i64 2 hx21 (by decide) (by kernel_rfl) (by kernel_rfl)) ?_
    refine Sg hT 4 [1, 5, 104] ⟨[(1, .box 1 0 0 0), (5, .ps .fopt (s30.F r5)), (104, vb (x21 == 9))], [(1, ⟨0, 26, 2, true, false, [eProg r1]⟩)], 1⟩ ?_
    cases hb : ((x21 == 9) : Bool)
    · replace h := cfalse hb h
      refine Sg hT 44 [0] ⟨[(0, vb false)], [(1, ⟨0, 26, 2, true, false, [eProg r1]⟩)], 1⟩ ?_
      exact oK [0] [] ⟨false, h, rfl⟩
    replace h := ctrue hb h
    refine Sg hT 1 [1, 104, 105] ⟨[(1, .box 1 0 0 0), (104, vb true), (105, .ps .fopt (s30.F r5))], [(1, ⟨0, 26, 2, true, false, [eProg r1]⟩)], 1⟩ ?_
    obtain ⟨x22, hx22, h⟩ := bsome h
    refine One hT rfl (ev_index s30 .fopt r5 .i64 1 hx22 (by decide) (by kernel_rfl) (by kernel_rfl)) ?_
    refine Sg hT 4 [1, 110] ⟨[(1, .box 1 0 0 0), (110, vb (x22 == 4))], [(1, ⟨0, 26, 2, true, false, [eProg r1]⟩)], 1⟩ ?_
    cases hb : ((x22 == 4) : Bool)
    · replace h := cfalse hb h
      refine Sg hT 38 [0] ⟨[(0, vb false)], [(1, ⟨0, 26, 2, true, false, [eProg r1]⟩)], 1⟩ ?_
      exact oK [0] [] ⟨false, h, rfl⟩
    replace h := ctrue hb h
    refine Sg hT 1 [1, 110, 111] ⟨[(1, .box 1 0 0 0), (110, vb true), (111, eProg r1)], [(1, ⟨0, 26, 2, true, false, [eProg r1]⟩)], 1⟩ ?_
    obtain ⟨r23, hr23, h⟩ := bsome h
    refine Pt en52 (cost_Upgrade_ok hr23) ?_
    refine Sg hT 3 [1, 115] ⟨[(1, .box 1 0 0 0), (115, vb ((FloatKind.f64.format.order r23.re (⟨4625196817309499392, 4607182418800017408⟩ : Cx).re == some .eq) && (FloatKind.f64.format.order r23.im (⟨4625196817309499392, 4607182418800017408⟩ : Cx).im == some .eq)))], [(1, ⟨0, 26, 2, true, false, [eProg r1]⟩)], 1⟩ ?_
    cases hb : (((FloatKind.f64.format.order r23.re (⟨4625196817309499392, 4607182418800017408⟩ : Cx).re == some .eq) && (FloatKind.f64.format.order r23.im (⟨4625196817309499392, 4607182418800017408⟩ : Cx).im == some .eq)) : Bool)
    · replace h := cfalse hb h
      refine Sg hT 33 [0] ⟨[(0, vb false)], [(1, ⟨0, 26, 2, true, false, [eProg r1]⟩)], 1⟩ ?_
      exact oK [0] [] ⟨false, h, rfl⟩
    replace h := ctrue hb h
    refine Sg hT 2 [1, 115, 116, 117] ⟨[(1, .box 1 0 0 0), (115, vb true), (116, eProg r1), (117, vo 117 1 (s62.F [k_x]))], [(117, ⟨1, 9, 1, false, false, s62.F [k_x]⟩), (1, ⟨0, 26, 2, true, false, [eProg r1]⟩)], 2⟩ ?_
    refine WO_weak (Weak_frz 117 1 ⟨1, 9, 1, false, false, s62.F [k_x]⟩ (by kernel_rfl) rfl rfl [(1, .box 1 0 0 0), (115, vb true), (116, eProg r1), (117, .ps .opt (s62.F [k_x]))] [(1, ⟨0, 26, 2, true, false, [eProg r1]⟩)] ⟨rfl, .keep _, rfl, .keep _, rfl, .keep _, rfl, .hit true, trivial⟩ ⟨rfl, .inl rfl, trivial⟩) ?_
    obtain ⟨r24, hr24, h⟩ := bsome h
    refine Pt en49 (cost_Guard_ok hr24) ?_
    refine Sg hT 3 [1, 121] ⟨[(1, .box 1 0 0 0), (121, vb ((FloatKind.f64.format.order r24.re (⟨4626885667169763328, 4607182418800017408⟩ : Cx).re == some .eq) && (FloatKind.f64.format.order r24.im (⟨4626885667169763328, 4607182418800017408⟩ : Cx).im == some .eq)))], [(1, ⟨0, 26, 2, true, false, [eProg r1]⟩)], 2⟩ ?_
    cases hb : (((FloatKind.f64.format.order r24.re (⟨4626885667169763328, 4607182418800017408⟩ : Cx).re == some .eq) && (FloatKind.f64.format.order r24.im (⟨4626885667169763328, 4607182418800017408⟩ : Cx).im == some .eq)) : Bool)
    · replace h := cfalse hb h
      refine Sg hT 27 [0] ⟨[(0, vb false)], [(1, ⟨0, 26, 2, true, false, [eProg r1]⟩)], 2⟩ ?_
      exact oK [0] [] ⟨false, h, rfl⟩
    replace h := ctrue hb h
    refine Sg hT 2 [1, 121, 122, 123] ⟨[(1, .box 1 0 0 0), (121, vb true), (122, eProg r1), (123, vo 123 2 (s62.F [k_x, k_y]))], [(123, ⟨2, 9, 1, false, false, s62.F [k_x, k_y]⟩), (1, ⟨0, 26, 2, true, false, [eProg r1]⟩)], 3⟩ ?_
    refine WO_weak (Weak_frz 123 2 ⟨2, 9, 1, false, false, s62.F [k_x, k_y]⟩ (by kernel_rfl) rfl rfl [(1, .box 1 0 0 0), (121, vb true), (122, eProg r1), (123, .ps .opt (s62.F [k_x, k_y]))] [(1, ⟨0, 26, 2, true, false, [eProg r1]⟩)] ⟨rfl, .keep _, rfl, .keep _, rfl, .keep _, rfl, .hit true, trivial⟩ ⟨rfl, .inl rfl, trivial⟩) ?_
    obtain ⟨r25, hr25, h⟩ := bsome h
    refine Pt en49 (cost_Guard_ok hr25) ?_
    refine Sg hT 3 [1, 127] ⟨[(1, .box 1 0 0 0), (127, vb ((FloatKind.f64.format.order r25.re (⟨4627448617123184640, 4607182418800017408⟩ : Cx).re == some .eq) && (FloatKind.f64.format.order r25.im (⟨4627448617123184640, 4607182418800017408⟩ : Cx).im == some .eq)))], [(1, ⟨0, 26, 2, true, false, [eProg r1]⟩)], 3⟩ ?_
    cases hb : (((FloatKind.f64.format.order r25.re (⟨4627448617123184640, 4607182418800017408⟩ : Cx).re == some .eq) && (FloatKind.f64.format.order r25.im (⟨4627448617123184640, 4607182418800017408⟩ : Cx).im == some .eq)) : Bool)
    · replace h := cfalse hb h
      refine Sg hT 21 [0] ⟨[(0, vb false)], [(1, ⟨0, 26, 2, true, false, [eProg r1]⟩)], 3⟩ ?_
      exact oK [0] [] ⟨false, h, rfl⟩
    replace h := ctrue hb h
    refine Sg hT 1 [1, 127, 128] ⟨[(1, .box 1 0 0 0), (127, vb true), (128, eProg r1)], [(1, ⟨0, 26, 2, true, false, [eProg r1]⟩)], 3⟩ ?_
    obtain ⟨r26, hr26, h⟩ := bsome h
    refine Pt en52 (cost_Upgrade_ok hr26) ?_
    refine Sg hT 3 [1, 132] ⟨[(1, .box 1 0 0 0), (132, vb ((FloatKind.f64.format.order r26.re (⟨0, 4607182418800017408⟩ : Cx).re == some .eq) && (FloatKind.f64.format.order r26.im (⟨0, 4607182418800017408⟩ : Cx).im == some .eq)))], [(1, ⟨0, 26, 2, true, false, [eProg r1]⟩)], 3⟩ ?_
    cases hb : (((FloatKind.f64.format.order r26.re (⟨0, 4607182418800017408⟩ : Cx).re == some .eq) && (FloatKind.f64.format.order r26.im (⟨0, 4607182418800017408⟩ : Cx).im == some .eq)) : Bool)
    · replace h := cfalse hb h
      refine Sg hT 16 [0] ⟨[(0, vb false)], [(1, ⟨0, 26, 2, true, false, [eProg r1]⟩)], 3⟩ ?_
      exact oK [0] [] ⟨false, h, rfl⟩
    replace h := ctrue hb h
    refine Sg hT 1 [132, 133] ⟨[(132, vb true), (133, eProg r1)], [(1, ⟨0, 26, 2, true, false, [eProg r1]⟩)], 3⟩ ?_
    obtain ⟨r27, hr27, h⟩ := bsome h
    refine Pt (vs := [eProg r1, .ps .nil []]) en46 (PT_args ((cost_Wrapped_ok hr27)) ⟨VLe.refl _, VLe.nil_opt, trivial⟩) ?_
    refine Sg hT 0 [132, 134] ⟨[(132, vb true), (134, .ps .fopt (s30.F r27))], [(1, ⟨0, 26, 2, true, false, [eProg r1]⟩)], 3⟩ ?_
    refine One hT rfl (ev_len s30 .fopt r27 (by kernel_rfl)) ?_
    refine Sg hT 3 [138] ⟨[(138, vb ((ln r27) == 0))], [(1, ⟨0, 26, 2, true, false, [eProg r1]⟩)], 3⟩ ?_
    cases hb : (((ln r27) == 0) : Bool)
    · replace h := cfalse hb h
      refine Sg hT 10 [0] ⟨[(0, vb false)], [(1, ⟨0, 26, 2, true, false, [eProg r1]⟩)], 3⟩ ?_
      exact oK [0] [] ⟨false, h, rfl⟩
    replace h := ctrue hb h
    obtain ⟨r28, hr28, h⟩ := bsome h
    refine Pt en53 (cost_Less_ok hr28) ?_
    refine Sg hT 2 [141] ⟨[(141, vb r28)], [(1, ⟨0, 26, 2, true, false, [eProg r1]⟩)], 3⟩ ?_
    cases hb : (r28 : Bool)
    · replace h := cfalse hb h
      refine Sg hT 7 [0] ⟨[(0, vb false)], [(1, ⟨0, 26, 2, true, false, [eProg r1]⟩)], 3⟩ ?_
      exact oK [0] [] ⟨false, h, rfl⟩
    replace h := ctrue hb h
    obtain ⟨r29, hr29, h⟩ := bsome h
    refine Pt en53 (cost_Less_ok hr29) ?_
    refine Sg hT 2 [144] ⟨[(144, vb r29)], [(1, ⟨0, 26, 2, true, false, [eProg r1]⟩)], 3⟩ ?_
    cases hb : (r29 : Bool)
    · replace h := cfalse hb h
      refine Sg hT 4 [0] ⟨[(0, vb false)], [(1, ⟨0, 26, 2, true, false, [eProg r1]⟩)], 3⟩ ?_
      exact oK [0] [] ⟨false, h, rfl⟩
    replace h := ctrue hb h
    obtain ⟨r30, hr30, h⟩ := bsome h
    refine Pt en53 (cost_Less_ok hr30) ?_
    refine Sg hT 3 [0] ⟨[(0, vb (!r30))], [(1, ⟨0, 26, 2, true, false, [eProg r1]⟩)], 3⟩ ?_
    exact oK [0] [] ⟨!r30, h, rfl⟩
  subst hJ10
  rintro s ⟨b9, h, rfl⟩
  obtain rfl := Option.some.inj h
  exact rK [0] [] ⟨[(0, vb b9)], [], 1⟩ ⟨by kernel_rfl, rfl⟩

end Go.Su.Ytlfpfdkjfibdhaa
