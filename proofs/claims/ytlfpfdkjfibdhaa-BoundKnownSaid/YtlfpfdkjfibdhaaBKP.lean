/-
  The functions of the program compute that.
-/
import Derived.Test.YtlfpfdkjfibdhaaBKPa
namespace Go.Su.Ytlfpfdkjfibdhaa
open Go.Mx Go.Proofs
set_option maxRecDepth 100000
set_option maxHeartbeats 4000000
set_option linter.unusedVariables false
set_option linter.unusedSimpArgs false

theorem ref1_Parse_ok {n : Nat} {a0 : ByteArray} {r : Prog × Int × Int} (h : ref1_Parse n a0 = some r) : PT Try.prog 65 [vw a0] (.tup [eProg r.1, vi r.2.1, vi r.2.2]) := by
  unfold ref1_Parse at h
  refine PT_bodyA hT Try.func65 rfl (by kernel_rfl) fun bad w => ?_
  refine Qz hT 3 [0, 2] ⟨[(0, vw a0), (2, .box 2 0 0 0)], [(2, ⟨0, 26, 2, true, false, [.agg [.ps .nil [], .ps .nil []]]⟩)], 1⟩ ?_
  refine Qg hT 1 [0, 2, 12] ⟨[(0, vw a0), (2, .box 2 0 0 0), (12, vw a0)], [(2, ⟨0, 26, 2, true, false, [.agg [.ps .nil [], .ps .nil []]]⟩)], 1⟩ ?_
  obtain ⟨r1, hr1, h⟩ := bsome h
  refine WO_go rfl (by kernel_rfl) [] [(100, ⟨1, 124, 4, false, true, s117.F r1.1⟩)] [vw a0] [vw a0] [] [(100, 13, 1)] [(13, ⟨1, 124, 4, false, true, s117.F r1.1⟩)] (.tup [vo 100 1 (s117.F r1.1), vi r1.2.1, vi r1.2.2]) (.tup [vo 13 1 (s117.F r1.1), vi r1.2.1, vi r1.2.2]) 2 rfl (by kernel_rfl) en101 (by kernel_rfl) (by kernel_rfl) (by kernel_rfl) (ref1_Tokens_ok hr1) (by kernel_rfl) (by kernel_rfl) (by kernel_rfl) (by kernel_rfl) ?_
  refine Sz hT 7 [0, 2, 5, 6, 7] ⟨[(0, vw a0), (2, .box 2 0 0 0), (5, vo 13 1 (s117.F r1.1)), (6, vi r1.2.1), (7, vi r1.2.2)], [(13, ⟨1, 124, 4, false, true, s117.F r1.1⟩), (2, ⟨0, 26, 2, true, false, [.agg [.ps .nil [], .ps .nil []]]⟩)], 2⟩ ?_
  refine WA_seq ?_
  refine Qz hT 2 [0, 2, 5, 6, 7, 18] ⟨[(0, vw a0), (2, .box 2 0 0 0), (5, vo 13 1 (s117.F r1.1)), (6, vi r1.2.1), (7, vi r1.2.2), (18, vb (r1.2.2 != 0))], [(13, ⟨1, 124, 4, false, true, s117.F r1.1⟩), (2, ⟨0, 26, 2, true, false, [.agg [.ps .nil [], .ps .nil []]]⟩)], 2⟩ ?_
  refine Cd (r1.2.2 != 0) ?_ ?_
  · intro hb; replace h := ctrue hb h
    refine Qz hT 6 [2, 3, 4] ⟨[(2, .box 2 0 0 0), (3, vi r1.2.1), (4, vi r1.2.2)], [(2, ⟨0, 26, 2, true, false, [.agg [.ps .nil [], .ps .nil []]]⟩), (13, ⟨1, 124, 4, false, true, s117.F r1.1⟩)], 2⟩ ?_
    refine aW [2, 3, 4] ⟨[(2, .box 2 0 0 0), (3, vi r1.2.1), (4, vi r1.2.2)], [(2, ⟨0, 26, 2, true, false, [.agg [.ps .nil [], .ps .nil []]]⟩), (13, ⟨1, 124, 4, false, true, s117.F r1.1⟩)], 2⟩ ?_
    refine WA_weak (Weak_leH [(2, .box 2 0 0 0), (3, vi r1.2.1), (4, vi r1.2.2)] [(2, ⟨0, 26, 2, true, false, [eProg (Prog.mk [] [])]⟩), (13, ⟨1, 124, 4, false, true, s117.F r1.1⟩)] (by kernel_rfl) ⟨VLf.refl _, VLf.refl _, VLf.refl _, trivial⟩ ⟨rfl, .inr (.inl ⟨rfl, rfl, CLe.agg ⟨(VLe.f VLe.nil_opt rfl), (VLe.f VLe.nil_opt rfl), trivial⟩, trivial⟩), rfl, .inl rfl, trivial⟩) ?_
    obtain rfl := Option.some.inj h
    exact rR [(2, 1000, 0)] ⟨[(2, .box 1000 0 0 0), (3, vi r1.2.1), (4, vi r1.2.2)], [(1000, ⟨0, 26, 2, true, false, [eProg (Prog.mk [] [])]⟩)], 1⟩ ⟨by kernel_rfl, rfl⟩
  intro hb; replace h := cfalse hb h
  refine WA_skip ?_
  refine Qg hT 1 [0, 2, 5, 22] ⟨[(0, vw a0), (2, .box 2 0 0 0), (5, vo 13 1 (s117.F r1.1)), (22, vo 13 1 (s117.F r1.1))], [(13, ⟨1, 124, 4, false, true, s117.F r1.1⟩), (2, ⟨0, 26, 2, true, false, [.agg [.ps .nil [], .ps .nil []]]⟩)], 2⟩ ?_
  refine WO_weak (Weak_frz 13 1 ⟨1, 124, 4, false, true, s117.F r1.1⟩ (by kernel_rfl) rfl rfl [(0, vw a0), (2, .box 2 0 0 0), (5, .ps .opt (s117.F r1.1)), (22, .ps .opt (s117.F r1.1))] [(2, ⟨0, 26, 2, true, false, [.agg [.ps .nil [], .ps .nil []]]⟩)] ⟨rfl, .keep _, rfl, .keep _, rfl, .hit true, rfl, .hit true, trivial⟩ ⟨rfl, .inl rfl, trivial⟩) ?_
  refine Sz hT 3 [0, 2, 5, 8] ⟨[(0, vw a0), (2, .box 2 0 0 0), (5, .ps .opt (s117.F r1.1)), (8, .box 24 2 0 0)], [(24, ⟨2, 122, 4, true, false, [.agg [.ps .opt (s117.F r1.1), vi 0, vb false, vi 0]]⟩), (2, ⟨0, 26, 2, true, false, [.agg [.ps .nil [], .ps .nil []]]⟩)], 3⟩ ?_
  refine Qz hT 3 [0, 2, 5, 8, 9] ⟨[(0, vw a0), (2, .box 2 0 0 0), (5, .ps .opt (s117.F r1.1)), (8, .box 24 2 0 0), (9, .box 9 3 0 0)], [(9, ⟨3, 26, 2, true, false, [.agg [.ps .nil [], .ps .nil []]]⟩), (24, ⟨2, 122, 4, true, false, [.agg [.ps .opt (s117.F r1.1), vi 0, vb false, vi 0]]⟩), (2, ⟨0, 26, 2, true, false, [.agg [.ps .nil [], .ps .nil []]]⟩)], 4⟩ ?_
  refine WA_seq ?_
  obtain ⟨J7, hJ7, h⟩ := jsome h
  refine WA_join (fun s => ∃ (l2 : List Token), ∃ (i3 : Int), ∃ (b4 : Bool), ∃ (i5 : Int), ∃ (l6 : List Decl), J7 l2 i3 b4 i5 l6 = some r ∧ s = ⟨[(0, vw a0), (2, .box 2 0 0 0), (5, .ps .opt (s117.F r1.1)), (8, .box 24 0 0 0), (9, .box 9 0 0 0)], [(2, ⟨0, 26, 2, true, false, [.agg [.ps .nil [], .ps .nil []]]⟩), (9, ⟨0, 26, 2, true, false, [.agg [vo 11509 0 (s23.F l6), .ps .nil []]]⟩), (24, ⟨0, 122, 4, true, false, [.agg [.ps .opt (s117.F l2), vi i3, vb b4, vi i5]]⟩), (11509, ⟨0, 58, 4, false, true, s23.F l6⟩)], 1⟩) ?_ ?_
  · refine WA_block ?_
    refine aW [0, 2, 5, 8, 9] ⟨[(0, vw a0), (2, .box 2 0 0 0), (5, .ps .opt (s117.F r1.1)), (8, .box 24 2 0 0), (9, .box 9 3 0 0)], [(9, ⟨3, 26, 2, true, false, [.agg [.ps .nil [], .ps .nil []]]⟩), (24, ⟨2, 122, 4, true, false, [.agg [.ps .opt (s117.F r1.1), vi 0, vb false, vi 0]]⟩), (2, ⟨0, 26, 2, true, false, [.agg [.ps .nil [], .ps .nil []]]⟩)], 4⟩ ?_
    refine WA_weak (Weak_ownH 9 5000 0 ⟨3, 26, 2, true, false, [.agg [.ps .nil [], .ps .nil []]]⟩ (.agg [.ps .nil [], .ps .nil []]) (.agg [vo 5000 4 (s23.F ([] : List Decl)), .ps .nil []]) 58 4 (by kernel_rfl) (by kernel_rfl) (by kernel_rfl) (by kernel_rfl) (by kernel_rfl) (by kernel_rfl) (by kernel_rfl)) ?_
    refine lR [(2, 2, 0), (9, 9, 0), (24, 24, 0), (5000, 11509, 0)] (fun k s => ∃ q, q ≤ k ∧ q ≤ n ∧ ∃ (l8 : List Token), ∃ (i9 : Int), ∃ (b10 : Bool), ∃ (i11 : Int), ∃ (l12 : List Decl), ref1_Parse_L0 q a0 r1 J7 l8 i9 b10 i11 l12 = some r ∧ s = ⟨[(0, vw a0), (2, .box 2 0 0 0), (5, .ps .opt (s117.F r1.1)), (8, .box 24 0 0 0), (9, .box 9 0 0 0)], [(2, ⟨0, 26, 2, true, false, [.agg [.ps .nil [], .ps .nil []]]⟩), (9, ⟨0, 26, 2, true, false, [.agg [vo 11509 0 (s23.F l12), .ps .nil []]]⟩), (24, ⟨0, 122, 4, true, false, [.agg [.ps .opt (s117.F l8), vi i9, vb b10, vi i11]]⟩), (11509, ⟨0, 58, 4, false, true, s23.F l12⟩)], 1⟩) n ⟨n, Nat.le_refl _, Nat.le_refl _, r1.1, 0, false, 0, ([] : List Decl), h, rfl⟩ (by rintro s ⟨q, hq, _, l8, i9, b10, i11, l12, h, _⟩; obtain rfl := Nat.le_zero.1 hq; rw [ref1_Parse_L0] at h; cases h) ?_
    clear h
    rintro k1 s ⟨q1, hk1, hn1, l8, i9, b10, i11, l12, h, rfl⟩
    rcases q1 with _ | q1
    · rw [ref1_Parse_L0] at h; cases h
    rw [ref1_Parse_L0] at h
    refine WA_seq ?_
    refine WA_seq ?_
    obtain ⟨J14, hJ14, h⟩ := jsome h
    refine WA_join (fun s => ∃ (b13 : Bool), J14 b13 = some r ∧ s = ⟨[(0, vw a0), (2, .box 2 0 0 0), (5, .ps .opt (s117.F r1.1)), (8, .box 24 0 0 0), (9, .box 9 0 0 0), (59, vb b13)], [(2, ⟨0, 26, 2, true, false, [.agg [.ps .nil [], .ps .nil []]]⟩), (9, ⟨0, 26, 2, true, false, [.agg [vo 11509 0 (s23.F l12), .ps .nil []]]⟩), (24, ⟨0, 122, 4, true, false, [.agg [.ps .opt (s117.F l8), vi i9, vb b10, vi i11]]⟩), (11509, ⟨0, 58, 4, false, true, s23.F l12⟩)], 1⟩) ?_ ?_
    · refine WA_drawW hT hM (by kernel_rfl) ?_
      refine WD_seg 6 ⟨[(31, vb (!b10)), (30, vb (!b10)), (29, vb b10), (28, .box 24 0 0 2), (27, .box 24 0 0 0), (26, .box 24 0 0 0), (0, vw a0), (2, .box 2 0 0 0), (5, .ps .opt (s117.F r1.1)), (8, .box 24 0 0 0), (9, .box 9 0 0 0)], [(2, ⟨0, 26, 2, true, false, [.agg [.ps .nil [], .ps .nil []]]⟩), (9, ⟨0, 26, 2, true, false, [.agg [vo 11509 0 (s23.F l12), .ps .nil []]]⟩), (24, ⟨0, 122, 4, true, false, [.agg [.ps .opt (s117.F l8), vi i9, vb b10, vi i11]]⟩), (11509, ⟨0, 58, 4, false, true, s23.F l12⟩)], 1⟩ [] [(1, [24]), (2, [24]), (3, [24])] (by kernel_rfl) (by kernel_rfl) ?_
      cases hb : (!b10 : Bool)
      · replace h := cfalse hb h
        refine WD_seg 28 ⟨[(59, vb false), (58, .p Go.undef), (57, .p Go.undef), (56, .p Go.undef), (55, .p Go.undef), (54, .p Go.undef), (53, .p Go.undef), (52, .p Go.undef), (51, .p Go.undef), (50, .p Go.undef), (49, .p Go.undef), (48, .p Go.undef), (47, .p Go.undef), (46, .p Go.undef), (45, vb false), (44, vb false), (43, .p Go.undef), (42, .p Go.undef), (41, .p Go.undef), (40, .p Go.undef), (39, .p Go.undef), (38, .p Go.undef), (37, .p Go.undef), (36, .p Go.undef), (35, .p Go.undef), (34, .p Go.undef), (33, .p Go.undef), (32, .p Go.undef), (31, vb false), (30, vb false), (29, vb b10), (28, .box 24 0 0 2), (27, .box 24 0 0 0), (26, .box 24 0 0 0), (0, vw a0), (2, .box 2 0 0 0), (5, .ps .opt (s117.F r1.1)), (8, .box 24 0 0 0), (9, .box 9 0 0 0)], [(2, ⟨0, 26, 2, true, false, [.agg [.ps .nil [], .ps .nil []]]⟩), (9, ⟨0, 26, 2, true, false, [.agg [vo 11509 0 (s23.F l12), .ps .nil []]]⟩), (24, ⟨0, 122, 4, true, false, [.agg [.ps .opt (s117.F l8), vi i9, vb b10, vi i11]]⟩), (11509, ⟨0, 58, 4, false, true, s23.F l12⟩)], 1⟩ [] [(1, [24]), (2, [24]), (3, [24])] (by kernel_rfl) (by kernel_rfl) ?_
        refine WD_end (by kernel_rfl) (by kernel_rfl) (by kernel_rfl) ?_
        exact wK [0, 2, 5, 8, 9, 59] [(2, 2, 0), (9, 9, 0), (24, 24, 0), (11509, 11509, 0)] ⟨false, h, rfl⟩
      replace h := ctrue hb h
      refine WD_seg 8 ⟨[(39, vi i9), (38, .box 24 0 0 1), (37, .box 24 0 0 0), (36, .box 24 0 0 0), (35, .ps .opt (s117.F l8)), (34, .box 24 0 0 0), (33, .box 24 0 0 0), (32, .box 24 0 0 0), (31, vb true), (30, vb true), (29, vb b10), (28, .box 24 0 0 2), (27, .box 24 0 0 0), (26, .box 24 0 0 0), (0, vw a0), (2, .box 2 0 0 0), (5, .ps .opt (s117.F r1.1)), (8, .box 24 0 0 0), (9, .box 9 0 0 0)], [(2, ⟨0, 26, 2, true, false, [.agg [.ps .nil [], .ps .nil []]]⟩), (9, ⟨0, 26, 2, true, false, [.agg [vo 11509 0 (s23.F l12), .ps .nil []]]⟩), (24, ⟨0, 122, 4, true, false, [.agg [.ps .opt (s117.F l8), vi i9, vb b10, vi i11]]⟩), (11509, ⟨0, 58, 4, false, true, s23.F l12⟩)], 1⟩ [] [(1, [24]), (2, [24]), (3, [24]), (7, [24]), (8, [24]), (9, [24]), (11, [24]), (12, [24]), (13, [24])] (by kernel_rfl) (by kernel_rfl) ?_
      obtain ⟨x15, hx15, h⟩ := bsome h
      refine WD_loc rfl (by kernel_rfl) (by kernel_rfl) (by kernel_rfl) (ev_index s117 .opt l8 .i64 i9 hx15 (by decide) (by kernel_rfl) (by kernel_rfl)) (by kernel_rfl) ?_
      refine WD_seg 5 ⟨[(45, vb (x15.Kind == 1)), (44, vb (x15.Kind == 1)), (43, vb (x15.Kind == 1)), (42, vi x15.Kind), (41, .ref (eToken x15) 0), (40, .ref (eToken x15) 0), (39, vi i9), (38, .box 24 0 0 1), (37, .box 24 0 0 0), (36, .box 24 0 0 0), (35, .ps .opt (s117.F l8)), (34, .box 24 0 0 0), (33, .box 24 0 0 0), (32, .box 24 0 0 0), (31, vb true), (30, vb true), (29, vb b10), (28, .box 24 0 0 2), (27, .box 24 0 0 0), (26, .box 24 0 0 0), (0, vw a0), (2, .box 2 0 0 0), (5, .ps .opt (s117.F r1.1)), (8, .box 24 0 0 0), (9, .box 9 0 0 0)], [(2, ⟨0, 26, 2, true, false, [.agg [.ps .nil [], .ps .nil []]]⟩), (9, ⟨0, 26, 2, true, false, [.agg [vo 11509 0 (s23.F l12), .ps .nil []]]⟩), (24, ⟨0, 122, 4, true, false, [.agg [.ps .opt (s117.F l8), vi i9, vb b10, vi i11]]⟩), (11509, ⟨0, 58, 4, false, true, s23.F l12⟩)], 1⟩ [] [(1, [24]), (2, [24]), (3, [24]), (7, [24]), (8, [24]), (9, [24]), (11, [24]), (12, [24]), (13, [24])] (by kernel_rfl) (by kernel_rfl) ?_
      cases hb : ((x15.Kind == 1) : Bool)
      · replace h := cfalse hb h
        refine WD_seg 14 ⟨[(59, vb false), (58, .p Go.undef), (57, .p Go.undef), (56, .p Go.undef), (55, .p Go.undef), (54, .p Go.undef), (53, .p Go.undef), (52, .p Go.undef), (51, .p Go.undef), (50, .p Go.undef), (49, .p Go.undef), (48, .p Go.undef), (47, .p Go.undef), (46, .p Go.undef), (45, vb false), (44, vb false), (43, vb false), (42, vi x15.Kind), (41, .ref (eToken x15) 0), (40, .ref (eToken x15) 0), (39, vi i9), (38, .box 24 0 0 1), (37, .box 24 0 0 0), (36, .box 24 0 0 0), (35, .ps .opt (s117.F l8)), (34, .box 24 0 0 0), (33, .box 24 0 0 0), (32, .box 24 0 0 0), (31, vb true), (30, vb true), (29, vb b10), (28, .box 24 0 0 2), (27, .box 24 0 0 0), (26, .box 24 0 0 0), (0, vw a0), (2, .box 2 0 0 0), (5, .ps .opt (s117.F r1.1)), (8, .box 24 0 0 0), (9, .box 9 0 0 0)], [(2, ⟨0, 26, 2, true, false, [.agg [.ps .nil [], .ps .nil []]]⟩), (9, ⟨0, 26, 2, true, false, [.agg [vo 11509 0 (s23.F l12), .ps .nil []]]⟩), (24, ⟨0, 122, 4, true, false, [.agg [.ps .opt (s117.F l8), vi i9, vb b10, vi i11]]⟩), (11509, ⟨0, 58, 4, false, true, s23.F l12⟩)], 1⟩ [] [(1, [24]), (2, [24]), (3, [24]), (7, [24]), (8, [24]), (9, [24]), (11, [24]), (12, [24]), (13, [24])] (by kernel_rfl) (by kernel_rfl) ?_
        refine WD_end (by kernel_rfl) (by kernel_rfl) (by kernel_rfl) ?_
        exact wK [0, 2, 5, 8, 9, 59] [(2, 2, 0), (9, 9, 0), (24, 24, 0), (11509, 11509, 0)] ⟨false, h, rfl⟩
      replace h := ctrue hb h
      refine WD_seg 8 ⟨[(53, vi i9), (52, .box 24 0 0 1), (51, .box 24 0 0 0), (50, .box 24 0 0 0), (49, .ps .opt (s117.F l8)), (48, .box 24 0 0 0), (47, .box 24 0 0 0), (46, .box 24 0 0 0), (45, vb true), (44, vb true), (43, vb true), (42, vi x15.Kind), (41, .ref (eToken x15) 0), (40, .ref (eToken x15) 0), (39, vi i9), (38, .box 24 0 0 1), (37, .box 24 0 0 0), (36, .box 24 0 0 0), (35, .ps .opt (s117.F l8)), (34, .box 24 0 0 0), (33, .box 24 0 0 0), (32, .box 24 0 0 0), (31, vb true), (30, vb true), (29, vb b10), (28, .box 24 0 0 2), (27, .box 24 0 0 0), (26, .box 24 0 0 0), (0, vw a0), (2, .box 2 0 0 0), (5, .ps .opt (s117.F r1.1)), (8, .box 24 0 0 0), (9, .box 9 0 0 0)], [(2, ⟨0, 26, 2, true, false, [.agg [.ps .nil [], .ps .nil []]]⟩), (9, ⟨0, 26, 2, true, false, [.agg [vo 11509 0 (s23.F l12), .ps .nil []]]⟩), (24, ⟨0, 122, 4, true, false, [.agg [.ps .opt (s117.F l8), vi i9, vb b10, vi i11]]⟩), (11509, ⟨0, 58, 4, false, true, s23.F l12⟩)], 1⟩ [] [(1, [24]), (2, [24]), (3, [24]), (7, [24]), (8, [24]), (9, [24]), (11, [24]), (12, [24]), (13, [24]), (21, [24]), (22, [24]), (23, [24]), (25, [24]), (26, [24]), (27, [24])] (by kernel_rfl) (by kernel_rfl) ?_
      obtain ⟨x16, hx16, h⟩ := bsome h
      refine WD_loc rfl (by kernel_rfl) (by kernel_rfl) (by kernel_rfl) (ev_index s117 .opt l8 .i64 i9 hx16 (by decide) (by kernel_rfl) (by kernel_rfl)) (by kernel_rfl) ?_
      refine WD_seg 2 ⟨[(56, vw x16.Text), (55, .ref (eToken x16) 1), (54, .ref (eToken x16) 0), (53, vi i9), (52, .box 24 0 0 1), (51, .box 24 0 0 0), (50, .box 24 0 0 0), (49, .ps .opt (s117.F l8)), (48, .box 24 0 0 0), (47, .box 24 0 0 0), (46, .box 24 0 0 0), (45, vb true), (44, vb true), (43, vb true), (42, vi x15.Kind), (41, .ref (eToken x15) 0), (40, .ref (eToken x15) 0), (39, vi i9), (38, .box 24 0 0 1), (37, .box 24 0 0 0), (36, .box 24 0 0 0), (35, .ps .opt (s117.F l8)), (34, .box 24 0 0 0), (33, .box 24 0 0 0), (32, .box 24 0 0 0), (31, vb true), (30, vb true), (29, vb b10), (28, .box 24 0 0 2), (27, .box 24 0 0 0), (26, .box 24 0 0 0), (0, vw a0), (2, .box 2 0 0 0), (5, .ps .opt (s117.F r1.1)), (8, .box 24 0 0 0), (9, .box 9 0 0 0)], [(2, ⟨0, 26, 2, true, false, [.agg [.ps .nil [], .ps .nil []]]⟩), (9, ⟨0, 26, 2, true, false, [.agg [vo 11509 0 (s23.F l12), .ps .nil []]]⟩), (24, ⟨0, 122, 4, true, false, [.agg [.ps .opt (s117.F l8), vi i9, vb b10, vi i11]]⟩), (11509, ⟨0, 58, 4, false, true, s23.F l12⟩)], 1⟩ [] [(1, [24]), (2, [24]), (3, [24]), (7, [24]), (8, [24]), (9, [24]), (11, [24]), (12, [24]), (13, [24]), (21, [24]), (22, [24]), (23, [24]), (25, [24]), (26, [24]), (27, [24])] (by kernel_rfl) (by kernel_rfl) ?_
      obtain ⟨r17, hr17, h⟩ := bsome h
      refine WD_pt rfl (by kernel_rfl) (by kernel_rfl) [vw x16.Text] (vi r17) rfl (by kernel_rfl) en102 (by kernel_rfl) (ref1_declKind_ok hr17) (by kernel_rfl) ?_
      refine WD_seg 2 ⟨[(59, vb (decide (r17 > 0))), (58, vb (decide (r17 > 0))), (57, vi r17), (56, vw x16.Text), (55, .ref (eToken x16) 1), (54, .ref (eToken x16) 0), (53, vi i9), (52, .box 24 0 0 1), (51, .box 24 0 0 0), (50, .box 24 0 0 0), (49, .ps .opt (s117.F l8)), (48, .box 24 0 0 0), (47, .box 24 0 0 0), (46, .box 24 0 0 0), (45, vb true), (44, vb true), (43, vb true), (42, vi x15.Kind), (41, .ref (eToken x15) 0), (40, .ref (eToken x15) 0), (39, vi i9), (38, .box 24 0 0 1), (37, .box 24 0 0 0), (36, .box 24 0 0 0), (35, .ps .opt (s117.F l8)), (34, .box 24 0 0 0), (33, .box 24 0 0 0), (32, .box 24 0 0 0), (31, vb true), (30, vb true), (29, vb b10), (28, .box 24 0 0 2), (27, .box 24 0 0 0), (26, .box 24 0 0 0), (0, vw a0), (2, .box 2 0 0 0), (5, .ps .opt (s117.F r1.1)), (8, .box 24 0 0 0), (9, .box 9 0 0 0)], [(2, ⟨0, 26, 2, true, false, [.agg [.ps .nil [], .ps .nil []]]⟩), (9, ⟨0, 26, 2, true, false, [.agg [vo 11509 0 (s23.F l12), .ps .nil []]]⟩), (24, ⟨0, 122, 4, true, false, [.agg [.ps .opt (s117.F l8), vi i9, vb b10, vi i11]]⟩), (11509, ⟨0, 58, 4, false, true, s23.F l12⟩)], 1⟩ [] [(1, [24]), (2, [24]), (3, [24]), (7, [24]), (8, [24]), (9, [24]), (11, [24]), (12, [24]), (13, [24]), (21, [24]), (22, [24]), (23, [24]), (25, [24]), (26, [24]), (27, [24])] (by kernel_rfl) (by kernel_rfl) ?_
      refine WD_end (by kernel_rfl) (by kernel_rfl) (by kernel_rfl) ?_
      exact wK [0, 2, 5, 8, 9, 59] [(2, 2, 0), (9, 9, 0), (24, 24, 0), (11509, 11509, 0)] ⟨decide (r17 > 0), h, rfl⟩
    subst hJ14
    rintro s ⟨b13, h, rfl⟩
    skip
    refine Cd b13 ?_ ?_
    · intro hb; replace h := ctrue hb h
      refine WA_skip ?_
      refine WA_block ?_
      refine WA_seq ?_
      refine Qg hT 2 [0, 2, 5, 8, 9, 61] ⟨[(0, vw a0), (2, .box 2 0 0 0), (5, .ps .opt (s117.F r1.1)), (8, .box 24 0 0 0), (9, .box 9 0 0 0), (61, vo 11509 0 (s23.F l12))], [(2, ⟨0, 26, 2, true, false, [.agg [.ps .nil [], .ps .nil []]]⟩), (9, ⟨0, 26, 2, true, false, [.agg [vo 11509 0 (s23.F l12), .ps .nil []]]⟩), (24, ⟨0, 122, 4, true, false, [.agg [.ps .opt (s117.F l8), vi i9, vb b10, vi i11]]⟩), (11509, ⟨0, 58, 4, false, true, s23.F l12⟩)], 1⟩ ?_
      refine One hT rfl (ev_len_own s23 11509 0 true ⟨0, 58, 4, false, true, s23.F l12⟩ l12 (by kernel_rfl) rfl rfl) ?_
      refine Sz hT 1 [0, 2, 5, 8, 9, 63] ⟨[(0, vw a0), (2, .box 2 0 0 0), (5, .ps .opt (s117.F r1.1)), (8, .box 24 0 0 0), (9, .box 9 0 0 0), (63, vb ((ln l12) == 24))], [(2, ⟨0, 26, 2, true, false, [.agg [.ps .nil [], .ps .nil []]]⟩), (9, ⟨0, 26, 2, true, false, [.agg [vo 11509 0 (s23.F l12), .ps .nil []]]⟩), (24, ⟨0, 122, 4, true, false, [.agg [.ps .opt (s117.F l8), vi i9, vb b10, vi i11]]⟩), (11509, ⟨0, 58, 4, false, true, s23.F l12⟩)], 1⟩ ?_
      refine Cd ((ln l12) == 24) ?_ ?_
      · intro hb; replace h := ctrue hb h
        refine Qg hT 1 [0, 2, 5, 8, 9, 64] ⟨[(0, vw a0), (2, .box 2 0 0 0), (5, .ps .opt (s117.F r1.1)), (8, .box 24 0 0 0), (9, .box 9 0 0 0), (64, .box 24 0 0 0)], [(2, ⟨0, 26, 2, true, false, [.agg [.ps .nil [], .ps .nil []]]⟩), (9, ⟨0, 26, 2, true, false, [.agg [vo 11509 0 (s23.F l12), .ps .nil []]]⟩), (24, ⟨0, 122, 4, true, false, [.agg [.ps .opt (s117.F l8), vi i9, vb b10, vi i11]]⟩), (11509, ⟨0, 58, 4, false, true, s23.F l12⟩)], 1⟩ ?_
        obtain ⟨r18, hr18, h⟩ := bsome h
        refine WO_go rfl (by kernel_rfl) [(0, ⟨0, 122, 4, true, false, [eReader (Reader.mk l8 i9 b10 i11)]⟩)] [(0, ⟨0, 122, 4, true, false, [eReader r18]⟩)] [.box 24 0 0 0] [.box 0 0 0 0] [(24, 0, 0)] [(0, 24, 0)] [(24, ⟨0, 122, 4, true, false, [eReader r18]⟩)] (.tup []) (.tup []) 2 rfl (by kernel_rfl) en103 (by kernel_rfl) (by kernel_rfl) (by kernel_rfl) (ref1_Reader_fail_ok hr18) (by kernel_rfl) (by kernel_rfl) (by kernel_rfl) (by kernel_rfl) ?_
        refine Sz hT 0 [0, 2, 5, 8, 9] ⟨[(0, vw a0), (2, .box 2 0 0 0), (5, .ps .opt (s117.F r1.1)), (8, .box 24 0 0 0), (9, .box 9 0 0 0)], [(24, ⟨0, 122, 4, true, false, [eReader r18]⟩), (2, ⟨0, 26, 2, true, false, [.agg [.ps .nil [], .ps .nil []]]⟩), (9, ⟨0, 26, 2, true, false, [.agg [vo 11509 0 (s23.F l12), .ps .nil []]]⟩), (11509, ⟨0, 58, 4, false, true, s23.F l12⟩)], 2⟩ ?_
        exact eK [0, 2, 5, 8, 9] [(2, 2, 0), (9, 9, 0), (24, 24, 0), (11509, 11509, 0)] ⟨r18.T, r18.At, r18.Fail, r18.Bad, l12, h, rfl⟩
      intro hb; replace h := cfalse hb h
      refine WA_skip ?_
      refine WA_seq ?_
      refine WA_drawW hT hM (by kernel_rfl) ?_
      refine WD_seg 8 ⟨[(73, vi i9), (72, .box 24 0 0 1), (71, .box 24 0 0 0), (70, .box 24 0 0 0), (69, .ps .opt (s117.F l8)), (68, .box 24 0 0 0), (67, .box 24 0 0 0), (66, .box 24 0 0 0), (0, vw a0), (2, .box 2 0 0 0), (5, .ps .opt (s117.F r1.1)), (8, .box 24 0 0 0), (9, .box 9 0 0 0), (63, vb ((ln l12) == 24))], [(2, ⟨0, 26, 2, true, false, [.agg [.ps .nil [], .ps .nil []]]⟩), (9, ⟨0, 26, 2, true, false, [.agg [vo 11509 0 (s23.F l12), .ps .nil []]]⟩), (24, ⟨0, 122, 4, true, false, [.agg [.ps .opt (s117.F l8), vi i9, vb b10, vi i11]]⟩), (11509, ⟨0, 58, 4, false, true, s23.F l12⟩)], 1⟩ [] [(1, [24]), (2, [24]), (3, [24]), (5, [24]), (6, [24]), (7, [24])] (by kernel_rfl) (by kernel_rfl) ?_
      obtain ⟨x19, hx19, h⟩ := bsome h
      refine WD_loc rfl (by kernel_rfl) (by kernel_rfl) (by kernel_rfl) (ev_index s117 .opt l8 .i64 i9 hx19 (by decide) (by kernel_rfl) (by kernel_rfl)) (by kernel_rfl) ?_
      refine WD_seg 2 ⟨[(76, vw x19.Text), (75, .ref (eToken x19) 1), (74, .ref (eToken x19) 0), (73, vi i9), (72, .box 24 0 0 1), (71, .box 24 0 0 0), (70, .box 24 0 0 0), (69, .ps .opt (s117.F l8)), (68, .box 24 0 0 0), (67, .box 24 0 0 0), (66, .box 24 0 0 0), (0, vw a0), (2, .box 2 0 0 0), (5, .ps .opt (s117.F r1.1)), (8, .box 24 0 0 0), (9, .box 9 0 0 0), (63, vb ((ln l12) == 24))], [(2, ⟨0, 26, 2, true, false, [.agg [.ps .nil [], .ps .nil []]]⟩), (9, ⟨0, 26, 2, true, false, [.agg [vo 11509 0 (s23.F l12), .ps .nil []]]⟩), (24, ⟨0, 122, 4, true, false, [.agg [.ps .opt (s117.F l8), vi i9, vb b10, vi i11]]⟩), (11509, ⟨0, 58, 4, false, true, s23.F l12⟩)], 1⟩ [] [(1, [24]), (2, [24]), (3, [24]), (5, [24]), (6, [24]), (7, [24])] (by kernel_rfl) (by kernel_rfl) ?_
      obtain ⟨r20, hr20, h⟩ := bsome h
      refine WD_pt rfl (by kernel_rfl) (by kernel_rfl) [vw x19.Text] (vi r20) rfl (by kernel_rfl) en102 (by kernel_rfl) (ref1_declKind_ok hr20) (by kernel_rfl) ?_
      refine WD_seg 9 ⟨[(86, vi i9), (85, .box 24 0 0 1), (84, .box 24 0 0 0), (83, .box 24 0 0 0), (82, .ps .opt (s117.F l8)), (81, .box 24 0 0 0), (80, .box 24 0 0 0), (79, .box 24 0 0 0), (78, vw a0), (77, vi r20), (76, vw x19.Text), (75, .ref (eToken x19) 1), (74, .ref (eToken x19) 0), (73, vi i9), (72, .box 24 0 0 1), (71, .box 24 0 0 0), (70, .box 24 0 0 0), (69, .ps .opt (s117.F l8)), (68, .box 24 0 0 0), (67, .box 24 0 0 0), (66, .box 24 0 0 0), (0, vw a0), (2, .box 2 0 0 0), (5, .ps .opt (s117.F r1.1)), (8, .box 24 0 0 0), (9, .box 9 0 0 0), (63, vb ((ln l12) == 24))], [(2, ⟨0, 26, 2, true, false, [.agg [.ps .nil [], .ps .nil []]]⟩), (9, ⟨0, 26, 2, true, false, [.agg [vo 11509 0 (s23.F l12), .ps .nil []]]⟩), (24, ⟨0, 122, 4, true, false, [.agg [.ps .opt (s117.F l8), vi i9, vb b10, vi i11]]⟩), (11509, ⟨0, 58, 4, false, true, s23.F l12⟩)], 1⟩ [] [(1, [24]), (2, [24]), (3, [24]), (5, [24]), (6, [24]), (7, [24]), (14, [24]), (15, [24]), (16, [24]), (18, [24]), (19, [24]), (20, [24])] (by kernel_rfl) (by kernel_rfl) ?_
      obtain ⟨x21, hx21, h⟩ := bsome h
      refine WD_loc rfl (by kernel_rfl) (by kernel_rfl) (by kernel_rfl) (ev_index s117 .opt l8 .i64 i9 hx21 (by decide) (by kernel_rfl) (by kernel_rfl)) (by kernel_rfl) ?_
      refine WD_seg 2 ⟨[(89, vi x21.At), (88, .ref (eToken x21) 3), (87, .ref (eToken x21) 0), (86, vi i9), (85, .box 24 0 0 1), (84, .box 24 0 0 0), (83, .box 24 0 0 0), (82, .ps .opt (s117.F l8)), (81, .box 24 0 0 0), (80, .box 24 0 0 0), (79, .box 24 0 0 0), (78, vw a0), (77, vi r20), (76, vw x19.Text), (75, .ref (eToken x19) 1), (74, .ref (eToken x19) 0), (73, vi i9), (72, .box 24 0 0 1), (71, .box 24 0 0 0), (70, .box 24 0 0 0), (69, .ps .opt (s117.F l8)), (68, .box 24 0 0 0), (67, .box 24 0 0 0), (66, .box 24 0 0 0), (0, vw a0), (2, .box 2 0 0 0), (5, .ps .opt (s117.F r1.1)), (8, .box 24 0 0 0), (9, .box 9 0 0 0), (63, vb ((ln l12) == 24))], [(2, ⟨0, 26, 2, true, false, [.agg [.ps .nil [], .ps .nil []]]⟩), (9, ⟨0, 26, 2, true, false, [.agg [vo 11509 0 (s23.F l12), .ps .nil []]]⟩), (24, ⟨0, 122, 4, true, false, [.agg [.ps .opt (s117.F l8), vi i9, vb b10, vi i11]]⟩), (11509, ⟨0, 58, 4, false, true, s23.F l12⟩)], 1⟩ [] [(1, [24]), (2, [24]), (3, [24]), (5, [24]), (6, [24]), (7, [24]), (14, [24]), (15, [24]), (16, [24]), (18, [24]), (19, [24]), (20, [24])] (by kernel_rfl) (by kernel_rfl) ?_
      obtain ⟨r22, hr22, h⟩ := bsome h
      refine WD_pt rfl (by kernel_rfl) (by kernel_rfl) [vw a0, vi x21.At] (vz r22) rfl (by kernel_rfl) en28 (by kernel_rfl) (ref1_Place_ok hr22) (by kernel_rfl) ?_
      refine WD_seg 3 ⟨[(10, .box 10 1 0 0), (91, .agg [vi r20, vw b0, vi 0, vz r22]), (90, vz r22), (89, vi x21.At), (88, .ref (eToken x21) 3), (87, .ref (eToken x21) 0), (86, vi i9), (85, .box 24 0 0 1), (84, .box 24 0 0 0), (83, .box 24 0 0 0), (82, .ps .opt (s117.F l8)), (81, .box 24 0 0 0), (80, .box 24 0 0 0), (79, .box 24 0 0 0), (78, vw a0), (77, vi r20), (76, vw x19.Text), (75, .ref (eToken x19) 1), (74, .ref (eToken x19) 0), (73, vi i9), (72, .box 24 0 0 1), (71, .box 24 0 0 0), (70, .box 24 0 0 0), (69, .ps .opt (s117.F l8)), (68, .box 24 0 0 0), (67, .box 24 0 0 0), (66, .box 24 0 0 0), (0, vw a0), (2, .box 2 0 0 0), (5, .ps .opt (s117.F r1.1)), (8, .box 24 0 0 0), (9, .box 9 0 0 0), (63, vb ((ln l12) == 24))], [(10, ⟨1, 58, 4, true, false, [.agg [vi r20, vw b0, vi 0, vz r22]]⟩), (2, ⟨0, 26, 2, true, false, [.agg [.ps .nil [], .ps .nil []]]⟩), (9, ⟨0, 26, 2, true, false, [.agg [vo 11509 0 (s23.F l12), .ps .nil []]]⟩), (24, ⟨0, 122, 4, true, false, [.agg [.ps .opt (s117.F l8), vi i9, vb b10, vi i11]]⟩), (11509, ⟨0, 58, 4, false, true, s23.F l12⟩)], 2⟩ [(26, [10]), (27, [10])] [(1, [24]), (2, [24]), (3, [24]), (5, [24]), (6, [24]), (7, [24]), (14, [24]), (15, [24]), (16, [24]), (18, [24]), (19, [24]), (20, [24])] (by kernel_rfl) (by kernel_rfl) ?_
      refine WD_end (by kernel_rfl) (by kernel_rfl) (by kernel_rfl) ?_
      refine Wk_done ?_
      refine Qz hT 8 [0, 2, 5, 8, 9, 10] ⟨[(0, vw a0), (2, .box 2 0 0 0), (5, .ps .opt (s117.F r1.1)), (8, .box 24 0 0 0), (9, .box 9 0 0 0), (10, .box 10 1 0 0)], [(24, ⟨0, 122, 4, true, false, [.agg [.ps .opt (s117.F l8), vi (wr (i9 + 1)), vb b10, vi i11]]⟩), (10, ⟨1, 58, 4, true, false, [.agg [vi r20, vw b0, vi 0, vz r22]]⟩), (2, ⟨0, 26, 2, true, false, [.agg [.ps .nil [], .ps .nil []]]⟩), (9, ⟨0, 26, 2, true, false, [.agg [vo 11509 0 (s23.F l12), .ps .nil []]]⟩), (11509, ⟨0, 58, 4, false, true, s23.F l12⟩)], 2⟩ ?_
      refine Qg hT 1 [0, 2, 5, 8, 9, 10, 99] ⟨[(0, vw a0), (2, .box 2 0 0 0), (5, .ps .opt (s117.F r1.1)), (8, .box 24 0 0 0), (9, .box 9 0 0 0), (10, .box 10 1 0 0), (99, .box 24 0 0 0)], [(24, ⟨0, 122, 4, true, false, [.agg [.ps .opt (s117.F l8), vi (wr (i9 + 1)), vb b10, vi i11]]⟩), (10, ⟨1, 58, 4, true, false, [.agg [vi r20, vw b0, vi 0, vz r22]]⟩), (2, ⟨0, 26, 2, true, false, [.agg [.ps .nil [], .ps .nil []]]⟩), (9, ⟨0, 26, 2, true, false, [.agg [vo 11509 0 (s23.F l12), .ps .nil []]]⟩), (11509, ⟨0, 58, 4, false, true, s23.F l12⟩)], 2⟩ ?_
      obtain ⟨r23, hr23, h⟩ := bsome h
      refine WO_go rfl (by kernel_rfl) [(0, ⟨0, 122, 4, true, false, [eReader (Reader.mk l8 (wr (i9 + 1)) b10 i11)]⟩)] [(0, ⟨0, 122, 4, true, false, [eReader r23.2]⟩)] [.box 24 0 0 0] [.box 0 0 0 0] [(24, 0, 0)] [(0, 24, 0)] [(24, ⟨0, 122, 4, true, false, [eReader r23.2]⟩)] (vw r23.1) (vw r23.1) 3 rfl (by kernel_rfl) en104 (by kernel_rfl) (by kernel_rfl) (by kernel_rfl) (ref1_Reader_name_ok hr23) (by kernel_rfl) (by kernel_rfl) (by kernel_rfl) (by kernel_rfl) ?_
      refine Sz hT 2 [0, 2, 5, 8, 9, 10] ⟨[(0, vw a0), (2, .box 2 0 0 0), (5, .ps .opt (s117.F r1.1)), (8, .box 24 0 0 0), (9, .box 9 0 0 0), (10, .box 10 1 0 0)], [(10, ⟨1, 58, 4, true, false, [.agg [vi r20, vw r23.1, vi 0, vz r22]]⟩), (24, ⟨0, 122, 4, true, false, [eReader r23.2]⟩), (2, ⟨0, 26, 2, true, false, [.agg [.ps .nil [], .ps .nil []]]⟩), (9, ⟨0, 26, 2, true, false, [.agg [vo 11509 0 (s23.F l12), .ps .nil []]]⟩), (11509, ⟨0, 58, 4, false, true, s23.F l12⟩)], 3⟩ ?_
      refine WA_seq ?_
      refine Qz hT 3 [0, 2, 5, 8, 9, 10, 104] ⟨[(0, vw a0), (2, .box 2 0 0 0), (5, .ps .opt (s117.F r1.1)), (8, .box 24 0 0 0), (9, .box 9 0 0 0), (10, .box 10 1 0 0), (104, vb (r20 == 6))], [(10, ⟨1, 58, 4, true, false, [.agg [vi r20, vw r23.1, vi 0, vz r22]]⟩), (24, ⟨0, 122, 4, true, false, [eReader r23.2]⟩), (2, ⟨0, 26, 2, true, false, [.agg [.ps .nil [], .ps .nil []]]⟩), (9, ⟨0, 26, 2, true, false, [.agg [vo 11509 0 (s23.F l12), .ps .nil []]]⟩), (11509, ⟨0, 58, 4, false, true, s23.F l12⟩)], 3⟩ ?_
      obtain ⟨J26, hJ26, h⟩ := jsome h
      refine WA_join (fun s => ∃ (v24 : Reader), ∃ (i25 : Int), J26 v24 i25 = some r ∧ s = ⟨[(0, vw a0), (2, .box 2 0 0 0), (5, .ps .opt (s117.F r1.1)), (8, .box 24 0 0 0), (9, .box 9 0 0 0), (10, .box 10 0 0 0)], [(2, ⟨0, 26, 2, true, false, [.agg [.ps .nil [], .ps .nil []]]⟩), (9, ⟨0, 26, 2, true, false, [.agg [vo 11509 0 (s23.F l12), .ps .nil []]]⟩), (10, ⟨0, 58, 4, true, false, [.agg [vi r20, vw r23.1, vi i25, vz r22]]⟩), (24, ⟨0, 122, 4, true, false, [eReader v24]⟩), (11509, ⟨0, 58, 4, false, true, s23.F l12⟩)], 1⟩) ?_ ?_
      · refine Cd (r20 == 6) ?_ ?_
        · intro hb; replace h := ctrue hb h
          refine Rg hT 1 [0, 2, 5, 8, 9, 10, 105] ⟨[(0, vw a0), (2, .box 2 0 0 0), (5, .ps .opt (s117.F r1.1)), (8, .box 24 0 0 0), (9, .box 9 0 0 0), (10, .box 10 1 0 0), (105, .box 24 0 0 0)], [(10, ⟨1, 58, 4, true, false, [.agg [vi r20, vw r23.1, vi 0, vz r22]]⟩), (24, ⟨0, 122, 4, true, false, [eReader r23.2]⟩), (2, ⟨0, 26, 2, true, false, [.agg [.ps .nil [], .ps .nil []]]⟩), (9, ⟨0, 26, 2, true, false, [.agg [vo 11509 0 (s23.F l12), .ps .nil []]]⟩), (11509, ⟨0, 58, 4, false, true, s23.F l12⟩)], 3⟩ ?_
          obtain ⟨r27, hr27, h⟩ := bsome h
          refine WO_go rfl (by kernel_rfl) [(0, ⟨0, 122, 4, true, false, [eReader r23.2]⟩)] [(0, ⟨0, 122, 4, true, false, [eReader r27.2]⟩)] [.box 24 0 0 0, vi 3] [.box 0 0 0 0, vi 3] [(24, 0, 0)] [(0, 24, 0)] [(24, ⟨0, 122, 4, true, false, [eReader r27.2]⟩)] (vi r27.1) (vi r27.1) 4 rfl (by kernel_rfl) en105 (by kernel_rfl) (by kernel_rfl) (by kernel_rfl) (ref1_Reader_number_ok hr27) (by kernel_rfl) (by kernel_rfl) (by kernel_rfl) (by kernel_rfl) ?_
          refine Sg hT 2 [0, 2, 5, 8, 9, 10] ⟨[(0, vw a0), (2, .box 2 0 0 0), (5, .ps .opt (s117.F r1.1)), (8, .box 24 0 0 0), (9, .box 9 0 0 0), (10, .box 10 1 0 0)], [(10, ⟨1, 58, 4, true, false, [.agg [vi r20, vw r23.1, vi r27.1, vz r22]]⟩), (24, ⟨0, 122, 4, true, false, [eReader r27.2]⟩), (2, ⟨0, 26, 2, true, false, [.agg [.ps .nil [], .ps .nil []]]⟩), (9, ⟨0, 26, 2, true, false, [.agg [vo 11509 0 (s23.F l12), .ps .nil []]]⟩), (11509, ⟨0, 58, 4, false, true, s23.F l12⟩)], 4⟩ ?_
          exact oK [0, 2, 5, 8, 9, 10] [(2, 2, 0), (9, 9, 0), (10, 10, 0), (24, 24, 0), (11509, 11509, 0)] ⟨r27.2, r27.1, h, rfl⟩
        intro hb; replace h := cfalse hb h
        exact sK [0, 2, 5, 8, 9, 10] [(2, 2, 0), (9, 9, 0), (10, 10, 0), (24, 24, 0), (11509, 11509, 0)] ⟨r23.2, 0, h, rfl⟩
      subst hJ26
      rintro s ⟨v24, i25, h, rfl⟩
      skip
      refine Rg hT 4 [0, 2, 5, 8, 9, 109, 111] ⟨[(0, vw a0), (2, .box 2 0 0 0), (5, .ps .opt (s117.F r1.1)), (8, .box 24 0 0 0), (9, .box 9 0 0 0), (109, vo 11509 0 (s23.F l12)), (111, vo 111 1 (s23.F [(Decl.mk r20 r23.1 i25 r22)]))], [(111, ⟨1, 58, 4, false, false, s23.F [(Decl.mk r20 r23.1 i25 r22)]⟩), (2, ⟨0, 26, 2, true, false, [.agg [.ps .nil [], .ps .nil []]]⟩), (9, ⟨0, 26, 2, true, false, [.agg [vo 11509 0 (s23.F l12), .ps .nil []]]⟩), (10, ⟨0, 58, 4, true, false, [.agg [vi r20, vw r23.1, vi i25, vz r22]]⟩), (24, ⟨0, 122, 4, true, false, [eReader v24]⟩), (11509, ⟨0, 58, 4, false, true, s23.F l12⟩)], 2⟩ ?_
      obtain ⟨g28, h⟩ := gsome h
      refine WO_append hT s23 rfl (by kernel_rfl) 11509 0 true l12 [(Decl.mk r20 r23.1 i25 r22)] rfl (by kernel_rfl) (by kernel_rfl) (elems_own s23 111 1 true ⟨1, 58, 4, false, false, s23.F [(Decl.mk r20 r23.1 i25 r22)]⟩ [(Decl.mk r20 r23.1 i25 r22)] (by kernel_rfl) (by kernel_rfl) rfl rfl rfl) g28 (by kernel_rfl) ?_
      refine Sg hT 2 [0, 2, 5, 8, 9] ⟨[(0, vw a0), (2, .box 2 0 0 0), (5, .ps .opt (s117.F r1.1)), (8, .box 24 0 0 0), (9, .box 9 0 0 0)], [(9, ⟨0, 26, 2, true, false, [.agg [vo 112 2 (s23.F (l12 ++ [(Decl.mk r20 r23.1 i25 r22)])), .ps .nil []]]⟩), (112, ⟨2, 58, 4, false, true, s23.F (l12 ++ [(Decl.mk r20 r23.1 i25 r22)])⟩), (111, ⟨1, 58, 4, false, false, s23.F [(Decl.mk r20 r23.1 i25 r22)]⟩), (2, ⟨0, 26, 2, true, false, [.agg [.ps .nil [], .ps .nil []]]⟩), (10, ⟨0, 58, 4, true, false, [.agg [vi r20, vw r23.1, vi i25, vz r22]]⟩), (24, ⟨0, 122, 4, true, false, [eReader v24]⟩)], 3⟩ ?_
      exact oK [0, 2, 5, 8, 9] [(2, 2, 0), (9, 9, 0), (24, 24, 0), (112, 11509, 0)] ⟨_, by omega, by omega, v24.T, v24.At, v24.Fail, v24.Bad, l12 ++ [(Decl.mk r20 r23.1 i25 r22)], h, rfl⟩
    intro hb; replace h := cfalse hb h
    exact eK [0, 2, 5, 8, 9] [(2, 2, 0), (9, 9, 0), (24, 24, 0), (11509, 11509, 0)] ⟨l8, i9, b10, i11, l12, h, rfl⟩
  subst hJ7
  rintro s ⟨l2, i3, b4, i5, l6, h, rfl⟩
  refine WA_seq ?_
  obtain ⟨J34, hJ34, h⟩ := jsome h
  refine WA_join (fun s => ∃ (l29 : List Token), ∃ (i30 : Int), ∃ (b31 : Bool), ∃ (i32 : Int), ∃ (l33 : List (List Stmt)), J34 l29 i30 b31 i32 l33 = some r ∧ s = ⟨[(2, .box 2 0 0 0), (5, .ps .opt (s117.F r1.1)), (8, .box 24 0 0 0), (9, .box 9 0 0 0)], [(2, ⟨0, 26, 2, true, false, [.agg [.ps .nil [], .ps .nil []]]⟩), (9, ⟨0, 26, 2, true, false, [.agg [vo 11509 0 (s23.F l6), vo 12509 0 (s24.F l33)]]⟩), (24, ⟨0, 122, 4, true, false, [.agg [.ps .opt (s117.F l29), vi i30, vb b31, vi i32]]⟩), (11509, ⟨0, 58, 4, false, true, s23.F l6⟩), (12509, ⟨0, 32, 1, false, true, s24.F l33⟩)], 1⟩) ?_ ?_
  · refine WA_block ?_
    refine aW [0, 2, 5, 8, 9] ⟨[(0, vw a0), (2, .box 2 0 0 0), (5, .ps .opt (s117.F r1.1)), (8, .box 24 0 0 0), (9, .box 9 0 0 0)], [(2, ⟨0, 26, 2, true, false, [.agg [.ps .nil [], .ps .nil []]]⟩), (9, ⟨0, 26, 2, true, false, [.agg [vo 11509 0 (s23.F l6), .ps .nil []]]⟩), (24, ⟨0, 122, 4, true, false, [.agg [.ps .opt (s117.F l2), vi i3, vb b4, vi i5]]⟩), (11509, ⟨0, 58, 4, false, true, s23.F l6⟩)], 1⟩ ?_
    refine WA_weak (Weak_ownH 9 5000 1 ⟨0, 26, 2, true, false, [.agg [vo 11509 0 (s23.F l6), .ps .nil []]]⟩ (.agg [vo 11509 0 (s23.F l6), .ps .nil []]) (.agg [vo 11509 0 (s23.F l6), vo 5000 1 (s24.F ([] : List (List Stmt)))]) 32 1 (by kernel_rfl) (by kernel_rfl) (by kernel_rfl) (by kernel_rfl) (by kernel_rfl) (by kernel_rfl) (by kernel_rfl)) ?_
    refine lR [(2, 2, 0), (9, 9, 0), (24, 24, 0), (11509, 11509, 0), (5000, 12509, 0)] (fun k s => ∃ q, q ≤ k ∧ q ≤ n ∧ ∃ (l35 : List Token), ∃ (i36 : Int), ∃ (b37 : Bool), ∃ (i38 : Int), ∃ (l39 : List (List Stmt)), ref1_Parse_L1 q a0 r1 l2 i3 b4 i5 l6 J34 l35 i36 b37 i38 l39 = some r ∧ s = ⟨[(0, vw a0), (2, .box 2 0 0 0), (5, .ps .opt (s117.F r1.1)), (8, .box 24 0 0 0), (9, .box 9 0 0 0)], [(2, ⟨0, 26, 2, true, false, [.agg [.ps .nil [], .ps .nil []]]⟩), (9, ⟨0, 26, 2, true, false, [.agg [vo 11509 0 (s23.F l6), vo 12509 0 (s24.F l39)]]⟩), (24, ⟨0, 122, 4, true, false, [.agg [.ps .opt (s117.F l35), vi i36, vb b37, vi i38]]⟩), (11509, ⟨0, 58, 4, false, true, s23.F l6⟩), (12509, ⟨0, 32, 1, false, true, s24.F l39⟩)], 1⟩) n ⟨n, Nat.le_refl _, Nat.le_refl _, l2, i3, b4, i5, ([] : List (List Stmt)), h, rfl⟩ (by rintro s ⟨q, hq, _, l35, i36, b37, i38, l39, h, _⟩; obtain rfl := Nat.le_zero.1 hq; rw [ref1_Parse_L1] at h; cases h) ?_
    clear h
    rintro k1 s ⟨q1, hk1, hn1, l35, i36, b37, i38, l39, h, rfl⟩
    rcases q1 with _ | q1
    · rw [ref1_Parse_L1] at h; cases h
    rw [ref1_Parse_L1] at h
    refine WA_seq ?_
    refine WA_seq ?_
    obtain ⟨J41, hJ41, h⟩ := jsome h
    refine WA_join (fun s => ∃ (b40 : Bool), J41 b40 = some r ∧ s = ⟨[(0, vw a0), (2, .box 2 0 0 0), (5, .ps .opt (s117.F r1.1)), (8, .box 24 0 0 0), (9, .box 9 0 0 0), (138, vb b40)], [(2, ⟨0, 26, 2, true, false, [.agg [.ps .nil [], .ps .nil []]]⟩), (9, ⟨0, 26, 2, true, false, [.agg [vo 11509 0 (s23.F l6), vo 12509 0 (s24.F l39)]]⟩), (24, ⟨0, 122, 4, true, false, [.agg [.ps .opt (s117.F l35), vi i36, vb b37, vi i38]]⟩), (11509, ⟨0, 58, 4, false, true, s23.F l6⟩), (12509, ⟨0, 32, 1, false, true, s24.F l39⟩)], 1⟩) ?_ ?_
    · refine WA_drawW hT hM (by kernel_rfl) ?_
      refine WD_seg 6 ⟨[(119, vb (!b37)), (118, vb (!b37)), (117, vb b37), (116, .box 24 0 0 2), (115, .box 24 0 0 0), (114, .box 24 0 0 0), (0, vw a0), (2, .box 2 0 0 0), (5, .ps .opt (s117.F r1.1)), (8, .box 24 0 0 0), (9, .box 9 0 0 0)], [(2, ⟨0, 26, 2, true, false, [.agg [.ps .nil [], .ps .nil []]]⟩), (9, ⟨0, 26, 2, true, false, [.agg [vo 11509 0 (s23.F l6), vo 12509 0 (s24.F l39)]]⟩), (24, ⟨0, 122, 4, true, false, [.agg [.ps .opt (s117.F l35), vi i36, vb b37, vi i38]]⟩), (11509, ⟨0, 58, 4, false, true, s23.F l6⟩), (12509, ⟨0, 32, 1, false, true, s24.F l39⟩)], 1⟩ [] [(1, [24]), (2, [24]), (3, [24])] (by kernel_rfl) (by kernel_rfl) ?_
      cases hb : (!b37 : Bool)
      · replace h := cfalse hb h
        refine WD_seg 19 ⟨[(138, vb false), (137, .p Go.undef), (136, .p Go.undef), (135, .p Go.undef), (134, .p Go.undef), (133, .p Go.undef), (132, .p Go.undef), (131, .p Go.undef), (130, .p Go.undef), (129, .p Go.undef), (128, .p Go.undef), (127, .p Go.undef), (126, .p Go.undef), (125, .p Go.undef), (124, .p Go.undef), (123, .p Go.undef), (122, .p Go.undef), (121, .p Go.undef), (120, .p Go.undef), (119, vb false), (118, vb false), (117, vb b37), (116, .box 24 0 0 2), (115, .box 24 0 0 0), (114, .box 24 0 0 0), (0, vw a0), (2, .box 2 0 0 0), (5, .ps .opt (s117.F r1.1)), (8, .box 24 0 0 0), (9, .box 9 0 0 0)], [(2, ⟨0, 26, 2, true, false, [.agg [.ps .nil [], .ps .nil []]]⟩), (9, ⟨0, 26, 2, true, false, [.agg [vo 11509 0 (s23.F l6), vo 12509 0 (s24.F l39)]]⟩), (24, ⟨0, 122, 4, true, false, [.agg [.ps .opt (s117.F l35), vi i36, vb b37, vi i38]]⟩), (11509, ⟨0, 58, 4, false, true, s23.F l6⟩), (12509, ⟨0, 32, 1, false, true, s24.F l39⟩)], 1⟩ [] [(1, [24]), (2, [24]), (3, [24])] (by kernel_rfl) (by kernel_rfl) ?_
        refine WD_end (by kernel_rfl) (by kernel_rfl) (by kernel_rfl) ?_
        exact wK [0, 2, 5, 8, 9, 138] [(2, 2, 0), (9, 9, 0), (24, 24, 0), (11509, 11509, 0), (12509, 12509, 0)] ⟨false, h, rfl⟩
      replace h := ctrue hb h
      refine WD_seg 8 ⟨[(127, vi i36), (126, .box 24 0 0 1), (125, .box 24 0 0 0), (124, .box 24 0 0 0), (123, .ps .opt (s117.F l35)), (122, .box 24 0 0 0), (121, .box 24 0 0 0), (120, .box 24 0 0 0), (119, vb true), (118, vb true), (117, vb b37), (116, .box 24 0 0 2), (115, .box 24 0 0 0), (114, .box 24 0 0 0), (0, vw a0), (2, .box 2 0 0 0), (5, .ps .opt (s117.F r1.1)), (8, .box 24 0 0 0), (9, .box 9 0 0 0)], [(2, ⟨0, 26, 2, true, false, [.agg [.ps .nil [], .ps .nil []]]⟩), (9, ⟨0, 26, 2, true, false, [.agg [vo 11509 0 (s23.F l6), vo 12509 0 (s24.F l39)]]⟩), (24, ⟨0, 122, 4, true, false, [.agg [.ps .opt (s117.F l35), vi i36, vb b37, vi i38]]⟩), (11509, ⟨0, 58, 4, false, true, s23.F l6⟩), (12509, ⟨0, 32, 1, false, true, s24.F l39⟩)], 1⟩ [] [(1, [24]), (2, [24]), (3, [24]), (7, [24]), (8, [24]), (9, [24]), (11, [24]), (12, [24]), (13, [24])] (by kernel_rfl) (by kernel_rfl) ?_
      obtain ⟨x42, hx42, h⟩ := bsome h
      refine WD_loc rfl (by kernel_rfl) (by kernel_rfl) (by kernel_rfl) (ev_index s117 .opt l35 .i64 i36 hx42 (by decide) (by kernel_rfl) (by kernel_rfl)) (by kernel_rfl) ?_
      refine WD_seg 4 ⟨[(132, vb (x42.Kind != 4)), (131, vb (x42.Kind != 4)), (130, vi x42.Kind), (129, .ref (eToken x42) 0), (128, .ref (eToken x42) 0), (127, vi i36), (126, .box 24 0 0 1), (125, .box 24 0 0 0), (124, .box 24 0 0 0), (123, .ps .opt (s117.F l35)), (122, .box 24 0 0 0), (121, .box 24 0 0 0), (120, .box 24 0 0 0), (119, vb true), (118, vb true), (117, vb b37), (116, .box 24 0 0 2), (115, .box 24 0 0 0), (114, .box 24 0 0 0), (0, vw a0), (2, .box 2 0 0 0), (5, .ps .opt (s117.F r1.1)), (8, .box 24 0 0 0), (9, .box 9 0 0 0)], [(2, ⟨0, 26, 2, true, false, [.agg [.ps .nil [], .ps .nil []]]⟩), (9, ⟨0, 26, 2, true, false, [.agg [vo 11509 0 (s23.F l6), vo 12509 0 (s24.F l39)]]⟩), (24, ⟨0, 122, 4, true, false, [.agg [.ps .opt (s117.F l35), vi i36, vb b37, vi i38]]⟩), (11509, ⟨0, 58, 4, false, true, s23.F l6⟩), (12509, ⟨0, 32, 1, false, true, s24.F l39⟩)], 1⟩ [] [(1, [24]), (2, [24]), (3, [24]), (7, [24]), (8, [24]), (9, [24]), (11, [24]), (12, [24]), (13, [24])] (by kernel_rfl) (by kernel_rfl) ?_
      cases hb : ((x42.Kind != 4) : Bool)
      · replace h := cfalse hb h
        refine WD_seg 2 ⟨[(134, vo 12509 0 (s24.F l39)), (133, .box 9 0 0 1), (132, vb false), (131, vb false), (130, vi x42.Kind), (129, .ref (eToken x42) 0), (128, .ref (eToken x42) 0), (127, vi i36), (126, .box 24 0 0 1), (125, .box 24 0 0 0), (124, .box 24 0 0 0), (123, .ps .opt (s117.F l35)), (122, .box 24 0 0 0), (121, .box 24 0 0 0), (120, .box 24 0 0 0), (119, vb true), (118, vb true), (117, vb b37), (116, .box 24 0 0 2), (115, .box 24 0 0 0), (114, .box 24 0 0 0), (0, vw a0), (2, .box 2 0 0 0), (5, .ps .opt (s117.F r1.1)), (8, .box 24 0 0 0), (9, .box 9 0 0 0)], [(2, ⟨0, 26, 2, true, false, [.agg [.ps .nil [], .ps .nil []]]⟩), (9, ⟨0, 26, 2, true, false, [.agg [vo 11509 0 (s23.F l6), vo 12509 0 (s24.F l39)]]⟩), (24, ⟨0, 122, 4, true, false, [.agg [.ps .opt (s117.F l35), vi i36, vb b37, vi i38]]⟩), (11509, ⟨0, 58, 4, false, true, s23.F l6⟩), (12509, ⟨0, 32, 1, false, true, s24.F l39⟩)], 1⟩ [] [(1, [24]), (2, [24]), (3, [24]), (7, [24]), (8, [24]), (9, [24]), (11, [24]), (12, [24]), (13, [24]), (19, [9]), (20, [9])] (by kernel_rfl) (by kernel_rfl) ?_
        refine WD_loc rfl (by kernel_rfl) (by kernel_rfl) (by kernel_rfl) (ev_len_own s24 12509 0 true ⟨0, 32, 1, false, true, s24.F l39⟩ l39 (by kernel_rfl) rfl rfl) (by kernel_rfl) ?_
        refine WD_seg 3 ⟨[(138, vb ((ln l39) == 0)), (137, vb ((ln l39) == 0)), (136, vb ((ln l39) == 0)), (135, vi (ln l39)), (134, vo 12509 0 (s24.F l39)), (133, .box 9 0 0 1), (132, vb false), (131, vb false), (130, vi x42.Kind), (129, .ref (eToken x42) 0), (128, .ref (eToken x42) 0), (127, vi i36), (126, .box 24 0 0 1), (125, .box 24 0 0 0), (124, .box 24 0 0 0), (123, .ps .opt (s117.F l35)), (122, .box 24 0 0 0), (121, .box 24 0 0 0), (120, .box 24 0 0 0), (119, vb true), (118, vb true), (117, vb b37), (116, .box 24 0 0 2), (115, .box 24 0 0 0), (114, .box 24 0 0 0), (0, vw a0), (2, .box 2 0 0 0), (5, .ps .opt (s117.F r1.1)), (8, .box 24 0 0 0), (9, .box 9 0 0 0)], [(2, ⟨0, 26, 2, true, false, [.agg [.ps .nil [], .ps .nil []]]⟩), (9, ⟨0, 26, 2, true, false, [.agg [vo 11509 0 (s23.F l6), vo 12509 0 (s24.F l39)]]⟩), (24, ⟨0, 122, 4, true, false, [.agg [.ps .opt (s117.F l35), vi i36, vb b37, vi i38]]⟩), (11509, ⟨0, 58, 4, false, true, s23.F l6⟩), (12509, ⟨0, 32, 1, false, true, s24.F l39⟩)], 1⟩ [] [(1, [24]), (2, [24]), (3, [24]), (7, [24]), (8, [24]), (9, [24]), (11, [24]), (12, [24]), (13, [24]), (19, [9]), (20, [9]), (21, [12509])] (by kernel_rfl) (by kernel_rfl) ?_
        refine WD_end (by kernel_rfl) (by kernel_rfl) (by kernel_rfl) ?_
        exact wK [0, 2, 5, 8, 9, 138] [(2, 2, 0), (9, 9, 0), (24, 24, 0), (11509, 11509, 0), (12509, 12509, 0)] ⟨((ln l39) == 0), h, rfl⟩
      replace h := ctrue hb h
      refine WD_seg 6 ⟨[(138, vb true), (137, vb true), (136, .p Go.undef), (135, .p Go.undef), (134, .p Go.undef), (133, .p Go.undef), (132, vb true), (131, vb true), (130, vi x42.Kind), (129, .ref (eToken x42) 0), (128, .ref (eToken x42) 0), (127, vi i36), (126, .box 24 0 0 1), (125, .box 24 0 0 0), (124, .box 24 0 0 0), (123, .ps .opt (s117.F l35)), (122, .box 24 0 0 0), (121, .box 24 0 0 0), (120, .box 24 0 0 0), (119, vb true), (118, vb true), (117, vb b37), (116, .box 24 0 0 2), (115, .box 24 0 0 0), (114, .box 24 0 0 0), (0, vw a0), (2, .box 2 0 0 0), (5, .ps .opt (s117.F r1.1)), (8, .box 24 0 0 0), (9, .box 9 0 0 0)], [(2, ⟨0, 26, 2, true, false, [.agg [.ps .nil [], .ps .nil []]]⟩), (9, ⟨0, 26, 2, true, false, [.agg [vo 11509 0 (s23.F l6), vo 12509 0 (s24.F l39)]]⟩), (24, ⟨0, 122, 4, true, false, [.agg [.ps .opt (s117.F l35), vi i36, vb b37, vi i38]]⟩), (11509, ⟨0, 58, 4, false, true, s23.F l6⟩), (12509, ⟨0, 32, 1, false, true, s24.F l39⟩)], 1⟩ [] [(1, [24]), (2, [24]), (3, [24]), (7, [24]), (8, [24]), (9, [24]), (11, [24]), (12, [24]), (13, [24])] (by kernel_rfl) (by kernel_rfl) ?_
      refine WD_end (by kernel_rfl) (by kernel_rfl) (by kernel_rfl) ?_
      exact wK [0, 2, 5, 8, 9, 138] [(2, 2, 0), (9, 9, 0), (24, 24, 0), (11509, 11509, 0), (12509, 12509, 0)] ⟨true, h, rfl⟩
    subst hJ41
    rintro s ⟨b40, h, rfl⟩
    skip
    refine Cd b40 ?_ ?_
    · intro hb; replace h := ctrue hb h
      refine WA_skip ?_
      refine WA_block ?_
      refine WA_seq ?_
      refine WA_seq ?_
      obtain ⟨J44, hJ44, h⟩ := jsome h
      refine WA_join (fun s => ∃ (b43 : Bool), J44 b43 = some r ∧ s = ⟨[(0, vw a0), (2, .box 2 0 0 0), (5, .ps .opt (s117.F r1.1)), (8, .box 24 0 0 0), (9, .box 9 0 0 0), (147, vb b43)], [(2, ⟨0, 26, 2, true, false, [.agg [.ps .nil [], .ps .nil []]]⟩), (9, ⟨0, 26, 2, true, false, [.agg [vo 11509 0 (s23.F l6), vo 12509 0 (s24.F l39)]]⟩), (24, ⟨0, 122, 4, true, false, [.agg [.ps .opt (s117.F l35), vi i36, vb b37, vi i38]]⟩), (11509, ⟨0, 58, 4, false, true, s23.F l6⟩), (12509, ⟨0, 32, 1, false, true, s24.F l39⟩)], 1⟩) ?_ ?_
      · refine Rg hT 1 [0, 2, 5, 8, 9, 139] ⟨[(0, vw a0), (2, .box 2 0 0 0), (5, .ps .opt (s117.F r1.1)), (8, .box 24 0 0 0), (9, .box 9 0 0 0), (139, .box 24 0 0 0)], [(2, ⟨0, 26, 2, true, false, [.agg [.ps .nil [], .ps .nil []]]⟩), (9, ⟨0, 26, 2, true, false, [.agg [vo 11509 0 (s23.F l6), vo 12509 0 (s24.F l39)]]⟩), (24, ⟨0, 122, 4, true, false, [.agg [.ps .opt (s117.F l35), vi i36, vb b37, vi i38]]⟩), (11509, ⟨0, 58, 4, false, true, s23.F l6⟩), (12509, ⟨0, 32, 1, false, true, s24.F l39⟩)], 1⟩ ?_
        obtain ⟨r45, hr45, h⟩ := bsome h
        refine WO_ptb rfl (by kernel_rfl) [24] [.box 24 0 0 0, vw k_go] [.ref (eReader (Reader.mk l35 i36 b37 i38)) 0, vw k_go] (vb r45) rfl (by kernel_rfl) en106 (by kernel_rfl) (by kernel_rfl) (by kernel_rfl) (ref1_Reader_word_ok hr45) (by kernel_rfl) ?_
        refine Sg hT 2 [0, 2, 5, 8, 9, 142] ⟨[(0, vw a0), (2, .box 2 0 0 0), (5, .ps .opt (s117.F r1.1)), (8, .box 24 0 0 0), (9, .box 9 0 0 0), (142, vb (!r45))], [(2, ⟨0, 26, 2, true, false, [.agg [.ps .nil [], .ps .nil []]]⟩), (9, ⟨0, 26, 2, true, false, [.agg [vo 11509 0 (s23.F l6), vo 12509 0 (s24.F l39)]]⟩), (24, ⟨0, 122, 4, true, false, [.agg [.ps .opt (s117.F l35), vi i36, vb b37, vi i38]]⟩), (11509, ⟨0, 58, 4, false, true, s23.F l6⟩), (12509, ⟨0, 32, 1, false, true, s24.F l39⟩)], 1⟩ ?_
        cases hb : (!r45 : Bool)
        · replace h := cfalse hb h
          refine Sg hT 2 [0, 2, 5, 8, 9, 142, 144] ⟨[(0, vw a0), (2, .box 2 0 0 0), (5, .ps .opt (s117.F r1.1)), (8, .box 24 0 0 0), (9, .box 9 0 0 0), (142, vb false), (144, vo 12509 0 (s24.F l39))], [(2, ⟨0, 26, 2, true, false, [.agg [.ps .nil [], .ps .nil []]]⟩), (9, ⟨0, 26, 2, true, false, [.agg [vo 11509 0 (s23.F l6), vo 12509 0 (s24.F l39)]]⟩), (24, ⟨0, 122, 4, true, false, [.agg [.ps .opt (s117.F l35), vi i36, vb b37, vi i38]]⟩), (11509, ⟨0, 58, 4, false, true, s23.F l6⟩), (12509, ⟨0, 32, 1, false, true, s24.F l39⟩)], 1⟩ ?_
          refine One hT rfl (ev_len_own s24 12509 0 true ⟨0, 32, 1, false, true, s24.F l39⟩ l39 (by kernel_rfl) rfl rfl) ?_
          refine Sg hT 2 [0, 2, 5, 8, 9, 147] ⟨[(0, vw a0), (2, .box 2 0 0 0), (5, .ps .opt (s117.F r1.1)), (8, .box 24 0 0 0), (9, .box 9 0 0 0), (147, vb ((ln l39) == 4))], [(2, ⟨0, 26, 2, true, false, [.agg [.ps .nil [], .ps .nil []]]⟩), (9, ⟨0, 26, 2, true, false, [.agg [vo 11509 0 (s23.F l6), vo 12509 0 (s24.F l39)]]⟩), (24, ⟨0, 122, 4, true, false, [.agg [.ps .opt (s117.F l35), vi i36, vb b37, vi i38]]⟩), (11509, ⟨0, 58, 4, false, true, s23.F l6⟩), (12509, ⟨0, 32, 1, false, true, s24.F l39⟩)], 1⟩ ?_
          exact oK [0, 2, 5, 8, 9, 147] [(2, 2, 0), (9, 9, 0), (24, 24, 0), (11509, 11509, 0), (12509, 12509, 0)] ⟨((ln l39) == 4), h, rfl⟩
        replace h := ctrue hb h
        refine Sg hT 5 [0, 2, 5, 8, 9, 147] ⟨[(0, vw a0), (2, .box 2 0 0 0), (5, .ps .opt (s117.F r1.1)), (8, .box 24 0 0 0), (9, .box 9 0 0 0), (147, vb true)], [(2, ⟨0, 26, 2, true, false, [.agg [.ps .nil [], .ps .nil []]]⟩), (9, ⟨0, 26, 2, true, false, [.agg [vo 11509 0 (s23.F l6), vo 12509 0 (s24.F l39)]]⟩), (24, ⟨0, 122, 4, true, false, [.agg [.ps .opt (s117.F l35), vi i36, vb b37, vi i38]]⟩), (11509, ⟨0, 58, 4, false, true, s23.F l6⟩), (12509, ⟨0, 32, 1, false, true, s24.F l39⟩)], 1⟩ ?_
        exact oK [0, 2, 5, 8, 9, 147] [(2, 2, 0), (9, 9, 0), (24, 24, 0), (11509, 11509, 0), (12509, 12509, 0)] ⟨true, h, rfl⟩
      subst hJ44
      rintro s ⟨b43, h, rfl⟩
      skip
      refine Cd b43 ?_ ?_
      · intro hb; replace h := ctrue hb h
        refine Qg hT 1 [2, 5, 8, 9, 148] ⟨[(2, .box 2 0 0 0), (5, .ps .opt (s117.F r1.1)), (8, .box 24 0 0 0), (9, .box 9 0 0 0), (148, .box 24 0 0 0)], [(2, ⟨0, 26, 2, true, false, [.agg [.ps .nil [], .ps .nil []]]⟩), (9, ⟨0, 26, 2, true, false, [.agg [vo 11509 0 (s23.F l6), vo 12509 0 (s24.F l39)]]⟩), (24, ⟨0, 122, 4, true, false, [.agg [.ps .opt (s117.F l35), vi i36, vb b37, vi i38]]⟩), (11509, ⟨0, 58, 4, false, true, s23.F l6⟩), (12509, ⟨0, 32, 1, false, true, s24.F l39⟩)], 1⟩ ?_
        obtain ⟨r46, hr46, h⟩ := bsome h
        refine WO_go rfl (by kernel_rfl) [(0, ⟨0, 122, 4, true, false, [eReader (Reader.mk l35 i36 b37 i38)]⟩)] [(0, ⟨0, 122, 4, true, false, [eReader r46]⟩)] [.box 24 0 0 0] [.box 0 0 0 0] [(24, 0, 0)] [(0, 24, 0)] [(24, ⟨0, 122, 4, true, false, [eReader r46]⟩)] (.tup []) (.tup []) 2 rfl (by kernel_rfl) en103 (by kernel_rfl) (by kernel_rfl) (by kernel_rfl) (ref1_Reader_fail_ok hr46) (by kernel_rfl) (by kernel_rfl) (by kernel_rfl) (by kernel_rfl) ?_
        refine Sz hT 0 [2, 5, 8, 9] ⟨[(2, .box 2 0 0 0), (5, .ps .opt (s117.F r1.1)), (8, .box 24 0 0 0), (9, .box 9 0 0 0)], [(24, ⟨0, 122, 4, true, false, [eReader r46]⟩), (2, ⟨0, 26, 2, true, false, [.agg [.ps .nil [], .ps .nil []]]⟩), (9, ⟨0, 26, 2, true, false, [.agg [vo 11509 0 (s23.F l6), vo 12509 0 (s24.F l39)]]⟩), (11509, ⟨0, 58, 4, false, true, s23.F l6⟩), (12509, ⟨0, 32, 1, false, true, s24.F l39⟩)], 2⟩ ?_
        exact eK [2, 5, 8, 9] [(2, 2, 0), (9, 9, 0), (24, 24, 0), (11509, 11509, 0), (12509, 12509, 0)] ⟨r46.T, r46.At, r46.Fail, r46.Bad, l39, h, rfl⟩
      intro hb; replace h := cfalse hb h
      refine WA_skip ?_
      refine Qz hT 8 [0, 2, 5, 8, 9] ⟨[(0, vw a0), (2, .box 2 0 0 0), (5, .ps .opt (s117.F r1.1)), (8, .box 24 0 0 0), (9, .box 9 0 0 0)], [(24, ⟨0, 122, 4, true, false, [.agg [.ps .opt (s117.F l35), vi (wr (i36 + 1)), vb b37, vi i38]]⟩), (2, ⟨0, 26, 2, true, false, [.agg [.ps .nil [], .ps .nil []]]⟩), (9, ⟨0, 26, 2, true, false, [.agg [vo 11509 0 (s23.F l6), vo 12509 0 (s24.F l39)]]⟩), (11509, ⟨0, 58, 4, false, true, s23.F l6⟩), (12509, ⟨0, 32, 1, false, true, s24.F l39⟩)], 1⟩ ?_
      refine WA_drawW hT hM (by kernel_rfl) ?_
      refine WD_seg 4 ⟨[(160, vw a0), (159, .box 24 0 0 0), (158, vo 12509 0 (s24.F l39)), (157, .box 9 0 0 1), (0, vw a0), (2, .box 2 0 0 0), (5, .ps .opt (s117.F r1.1)), (8, .box 24 0 0 0), (9, .box 9 0 0 0)], [(24, ⟨0, 122, 4, true, false, [.agg [.ps .opt (s117.F l35), vi (wr (i36 + 1)), vb b37, vi i38]]⟩), (2, ⟨0, 26, 2, true, false, [.agg [.ps .nil [], .ps .nil []]]⟩), (9, ⟨0, 26, 2, true, false, [.agg [vo 11509 0 (s23.F l6), vo 12509 0 (s24.F l39)]]⟩), (11509, ⟨0, 58, 4, false, true, s23.F l6⟩), (12509, ⟨0, 32, 1, false, true, s24.F l39⟩)], 1⟩ [] [(0, [9]), (1, [9])] (by kernel_rfl) (by kernel_rfl) ?_
      obtain ⟨r47, hr47, h⟩ := bsome h
      refine WD_go rfl (by kernel_rfl) (by kernel_rfl) [(0, ⟨0, 122, 4, true, false, [eReader (Reader.mk l35 (wr (i36 + 1)) b37 i38)]⟩)] [(0, ⟨0, 122, 4, true, false, [eReader r47.2]⟩)] [.box 24 0 0 0, vw a0, vi 1] [.box 0 0 0 0, vw a0, vi 1] [(24, 0, 0)] [(0, 24, 0)] [(24, ⟨0, 122, 4, true, false, [eReader r47.2]⟩)] (.ps .opt (s32.F r47.1)) (.ps .opt (s32.F r47.1)) 2 rfl (by kernel_rfl) en107 (by kernel_rfl) (by kernel_rfl) (by kernel_rfl) (GO_frz 100 ⟨1, 38, 11, false, true, s32.F r47.1⟩ (ref1_Reader_block_ok hr47) (by kernel_rfl) rfl rfl) (by kernel_rfl) (by kernel_rfl) (by kernel_rfl) (by kernel_rfl) ?_
      refine WD_seg 1 ⟨[(162, .ps .full (s24.F [r47.1])), (161, .ps .opt (s32.F r47.1)), (160, vw a0), (159, .box 24 0 0 0), (158, vo 12509 0 (s24.F l39)), (157, .box 9 0 0 1), (0, vw a0), (2, .box 2 0 0 0), (5, .ps .opt (s117.F r1.1)), (8, .box 24 0 0 0), (9, .box 9 0 0 0)], [(24, ⟨0, 122, 4, true, false, [eReader r47.2]⟩), (2, ⟨0, 26, 2, true, false, [.agg [.ps .nil [], .ps .nil []]]⟩), (9, ⟨0, 26, 2, true, false, [.agg [vo 11509 0 (s23.F l6), vo 12509 0 (s24.F l39)]]⟩), (11509, ⟨0, 58, 4, false, true, s23.F l6⟩), (12509, ⟨0, 32, 1, false, true, s24.F l39⟩)], 2⟩ [(4, [24, 24])] [(0, [9]), (1, [9])] (by kernel_rfl) (by kernel_rfl) ?_
      obtain ⟨g48, h⟩ := gsome h
      refine WD_wr rfl (by kernel_rfl) (by kernel_rfl) (by kernel_rfl) (ev_append s24 12509 0 true l39 [r47.1] (by kernel_rfl) (by kernel_rfl) (by kernel_rfl) (by simp) g48) (by kernel_rfl) ?_
      refine WD_seg 2 ⟨[(164, .box 9 0 0 1), (163, vo 163 2 (s24.F (l39 ++ [r47.1]))), (162, .ps .full (s24.F [r47.1])), (161, .ps .opt (s32.F r47.1)), (160, vw a0), (159, .box 24 0 0 0), (158, vo 12509 0 (s24.F l39)), (157, .box 9 0 0 1), (0, vw a0), (2, .box 2 0 0 0), (5, .ps .opt (s117.F r1.1)), (8, .box 24 0 0 0), (9, .box 9 0 0 0)], [(9, ⟨0, 26, 2, true, false, [.agg [vo 11509 0 (s23.F l6), vo 163 2 (s24.F (l39 ++ [r47.1]))]]⟩), (163, ⟨2, 32, 1, false, false, s24.F (l39 ++ [r47.1])⟩), (24, ⟨0, 122, 4, true, false, [eReader r47.2]⟩), (2, ⟨0, 26, 2, true, false, [.agg [.ps .nil [], .ps .nil []]]⟩), (11509, ⟨0, 58, 4, false, true, s23.F l6⟩)], 3⟩ [(4, [24, 24]), (6, [163, 12509]), (8, [9])] [(0, [9]), (1, [9]), (7, [9])] (by kernel_rfl) (by kernel_rfl) ?_
      refine WD_end (by kernel_rfl) (by kernel_rfl) (by kernel_rfl) ?_
      refine kW [0, 2, 5, 8, 9] ⟨[(0, vw a0), (2, .box 2 0 0 0), (5, .ps .opt (s117.F r1.1)), (8, .box 24 0 0 0), (9, .box 9 0 0 0)], [(9, ⟨0, 26, 2, true, false, [.agg [vo 11509 0 (s23.F l6), vo 163 2 (s24.F (l39 ++ [r47.1]))]]⟩), (163, ⟨2, 32, 1, false, false, s24.F (l39 ++ [r47.1])⟩), (24, ⟨0, 122, 4, true, false, [eReader r47.2]⟩), (2, ⟨0, 26, 2, true, false, [.agg [.ps .nil [], .ps .nil []]]⟩), (11509, ⟨0, 58, 4, false, true, s23.F l6⟩)], 3⟩ ?_
      refine Wk_step (Weak_leH [(0, vw a0), (2, .box 2 0 0 0), (5, .ps .opt (s117.F r1.1)), (8, .box 24 0 0 0), (9, .box 9 0 0 0)] [(9, ⟨0, 26, 2, true, false, [.agg [vo 11509 0 (s23.F l6), vo 163 2 (s24.F (l39 ++ [r47.1]))]]⟩), (163, ⟨2, 32, 1, false, true, s24.F (l39 ++ [r47.1])⟩), (24, ⟨0, 122, 4, true, false, [eReader r47.2]⟩), (2, ⟨0, 26, 2, true, false, [.agg [.ps .nil [], .ps .nil []]]⟩), (11509, ⟨0, 58, 4, false, true, s23.F l6⟩)] (by kernel_rfl) ⟨VLf.refl _, VLf.refl _, VLf.refl _, VLf.refl _, VLf.refl _, trivial⟩ ⟨rfl, .inl rfl, rfl, .inr (.inr rfl), rfl, .inl rfl, rfl, .inl rfl, rfl, .inl rfl, trivial⟩) ?_
      exact wR [(2, 2, 0), (9, 9, 0), (24, 24, 0), (11509, 11509, 0), (163, 12509, 0)] ⟨_, by omega, by omega, r47.2.T, r47.2.At, r47.2.Fail, r47.2.Bad, l39 ++ [r47.1], h, rfl⟩
    intro hb; replace h := cfalse hb h
    exact eK [2, 5, 8, 9] [(2, 2, 0), (9, 9, 0), (24, 24, 0), (11509, 11509, 0), (12509, 12509, 0)] ⟨l35, i36, b37, i38, l39, h, rfl⟩
  subst hJ34
  rintro s ⟨l29, i30, b31, i32, l33, h, rfl⟩
  refine WA_seq ?_
  refine Qz hT 4 [2, 5, 8, 9, 168] ⟨[(2, .box 2 0 0 0), (5, .ps .opt (s117.F r1.1)), (8, .box 24 0 0 0), (9, .box 9 0 0 0), (168, vb b31)], [(2, ⟨0, 26, 2, true, false, [.agg [.ps .nil [], .ps .nil []]]⟩), (9, ⟨0, 26, 2, true, false, [.agg [vo 11509 0 (s23.F l6), vo 12509 0 (s24.F l33)]]⟩), (24, ⟨0, 122, 4, true, false, [.agg [.ps .opt (s117.F l29), vi i30, vb b31, vi i32]]⟩), (11509, ⟨0, 58, 4, false, true, s23.F l6⟩), (12509, ⟨0, 32, 1, false, true, s24.F l33⟩)], 1⟩ ?_
  refine Cd b31 ?_ ?_
  · intro hb; replace h := ctrue hb h
    refine WA_seq ?_
    refine WA_drawW hT hM (by kernel_rfl) ?_
    refine WD_seg 6 ⟨[(174, vi i32), (173, .box 24 0 0 3), (172, .box 24 0 0 0), (171, .box 24 0 0 0), (170, .ps .opt (s117.F r1.1)), (169, .agg [.ps .nil [], .ps .nil []]), (2, .box 2 0 0 0), (5, .ps .opt (s117.F r1.1)), (8, .box 24 0 0 0), (9, .box 9 0 0 0), (168, vb b31)], [(2, ⟨0, 26, 2, true, false, [.agg [.ps .nil [], .ps .nil []]]⟩), (9, ⟨0, 26, 2, true, false, [.agg [vo 11509 0 (s23.F l6), vo 12509 0 (s24.F l33)]]⟩), (24, ⟨0, 122, 4, true, false, [.agg [.ps .opt (s117.F l29), vi i30, vb b31, vi i32]]⟩), (11509, ⟨0, 58, 4, false, true, s23.F l6⟩), (12509, ⟨0, 32, 1, false, true, s24.F l33⟩)], 1⟩ [] [(3, [24]), (4, [24]), (5, [24])] (by kernel_rfl) (by kernel_rfl) ?_
    obtain ⟨x49, hx49, h⟩ := bsome h
    refine WD_loc rfl (by kernel_rfl) (by kernel_rfl) (by kernel_rfl) (ev_index s117 .opt r1.1 .i64 i32 hx49 (by decide) (by kernel_rfl) (by kernel_rfl)) (by kernel_rfl) ?_
    refine WD_seg 5 ⟨[(4, vi 2), (3, vi x49.At), (177, vi x49.At), (176, .ref (eToken x49) 3), (175, .ref (eToken x49) 0), (174, vi i32), (173, .box 24 0 0 3), (172, .box 24 0 0 0), (171, .box 24 0 0 0), (170, .ps .opt (s117.F r1.1)), (169, .agg [.ps .nil [], .ps .nil []]), (2, .box 2 0 0 0), (5, .ps .opt (s117.F r1.1)), (8, .box 24 0 0 0), (9, .box 9 0 0 0), (168, vb b31)], [(2, ⟨0, 26, 2, true, false, [.agg [.ps .nil [], .ps .nil []]]⟩), (9, ⟨0, 26, 2, true, false, [.agg [vo 11509 0 (s23.F l6), vo 12509 0 (s24.F l33)]]⟩), (24, ⟨0, 122, 4, true, false, [.agg [.ps .opt (s117.F l29), vi i30, vb b31, vi i32]]⟩), (11509, ⟨0, 58, 4, false, true, s23.F l6⟩), (12509, ⟨0, 32, 1, false, true, s24.F l33⟩)], 1⟩ [(9, [2])] [(3, [24]), (4, [24]), (5, [24])] (by kernel_rfl) (by kernel_rfl) ?_
    refine WD_end (by kernel_rfl) (by kernel_rfl) (by kernel_rfl) ?_
    refine Wk_done ?_
    refine aW [2, 3, 4] ⟨[(2, .box 2 0 0 0), (3, vi x49.At), (4, vi 2)], [(2, ⟨0, 26, 2, true, false, [.agg [.ps .nil [], .ps .nil []]]⟩), (9, ⟨0, 26, 2, true, false, [.agg [vo 11509 0 (s23.F l6), vo 12509 0 (s24.F l33)]]⟩), (24, ⟨0, 122, 4, true, false, [.agg [.ps .opt (s117.F l29), vi i30, vb b31, vi i32]]⟩), (11509, ⟨0, 58, 4, false, true, s23.F l6⟩), (12509, ⟨0, 32, 1, false, true, s24.F l33⟩)], 1⟩ ?_
    refine WA_weak (Weak_leH [(2, .box 2 0 0 0), (3, vi x49.At), (4, vi 2)] [(2, ⟨0, 26, 2, true, false, [eProg (Prog.mk [] [])]⟩), (9, ⟨0, 26, 2, true, false, [.agg [vo 11509 0 (s23.F l6), vo 12509 0 (s24.F l33)]]⟩), (24, ⟨0, 122, 4, true, false, [.agg [.ps .opt (s117.F l29), vi i30, vb b31, vi i32]]⟩), (11509, ⟨0, 58, 4, false, true, s23.F l6⟩), (12509, ⟨0, 32, 1, false, true, s24.F l33⟩)] (by kernel_rfl) ⟨VLf.refl _, VLf.refl _, VLf.refl _, trivial⟩ ⟨rfl, .inr (.inl ⟨rfl, rfl, CLe.agg ⟨(VLe.f VLe.nil_opt rfl), (VLe.f VLe.nil_opt rfl), trivial⟩, trivial⟩), rfl, .inl rfl, rfl, .inl rfl, rfl, .inl rfl, rfl, .inl rfl, trivial⟩) ?_
    obtain rfl := Option.some.inj h
    exact rR [(2, 1000, 0)] ⟨[(2, .box 1000 0 0 0), (3, vi x49.At), (4, vi 2)], [(1000, ⟨0, 26, 2, true, false, [eProg (Prog.mk [] [])]⟩)], 1⟩ ⟨by kernel_rfl, rfl⟩
  intro hb; replace h := cfalse hb h
  refine WA_skip ?_
  refine Qz hT 4 [2, 3, 4] ⟨[(2, .box 2 0 0 0), (3, vi 0), (4, vi 0)], [(2, ⟨0, 26, 2, true, false, [.agg [vo 11509 0 (s23.F l6), vo 12509 0 (s24.F l33)]]⟩), (9, ⟨0, 26, 2, true, false, [.agg [vo 11509 0 (s23.F l6), vo 12509 0 (s24.F l33)]]⟩), (24, ⟨0, 122, 4, true, false, [.agg [.ps .opt (s117.F l29), vi i30, vb b31, vi i32]]⟩), (11509, ⟨0, 58, 4, false, true, s23.F l6⟩), (12509, ⟨0, 32, 1, false, true, s24.F l33⟩)], 1⟩ ?_
  refine aW [2, 3, 4] ⟨[(2, .box 2 0 0 0), (3, vi 0), (4, vi 0)], [(2, ⟨0, 26, 2, true, false, [.agg [vo 11509 0 (s23.F l6), vo 12509 0 (s24.F l33)]]⟩), (9, ⟨0, 26, 2, true, false, [.agg [vo 11509 0 (s23.F l6), vo 12509 0 (s24.F l33)]]⟩), (24, ⟨0, 122, 4, true, false, [.agg [.ps .opt (s117.F l29), vi i30, vb b31, vi i32]]⟩), (11509, ⟨0, 58, 4, false, true, s23.F l6⟩), (12509, ⟨0, 32, 1, false, true, s24.F l33⟩)], 1⟩ ?_
  refine WA_weak (Weak_frz 11509 0 ⟨0, 58, 4, false, true, s23.F l6⟩ (by kernel_rfl) rfl rfl [(2, .box 2 0 0 0), (3, vi 0), (4, vi 0)] [(2, ⟨0, 26, 2, true, false, [.agg [.ps .opt (s23.F l6), vo 12509 0 (s24.F l33)]]⟩), (9, ⟨0, 26, 2, true, false, [.agg [.ps .opt (s23.F l6), vo 12509 0 (s24.F l33)]]⟩), (24, ⟨0, 122, 4, true, false, [.agg [.ps .opt (s117.F l29), vi i30, vb b31, vi i32]]⟩), (12509, ⟨0, 32, 1, false, true, s24.F l33⟩)] ⟨rfl, .keep _, rfl, .keep _, rfl, .keep _, trivial⟩ ⟨rfl, .inr ⟨rfl, rfl, .aggs ⟨.hit true, .keep _, trivial⟩, trivial⟩, rfl, .inr ⟨rfl, rfl, .aggs ⟨.hit true, .keep _, trivial⟩, trivial⟩, rfl, .inl rfl, rfl, .inl rfl, trivial⟩) ?_
  refine WA_weak (Weak_frz 12509 0 ⟨0, 32, 1, false, true, s24.F l33⟩ (by kernel_rfl) rfl rfl [(2, .box 2 0 0 0), (3, vi 0), (4, vi 0)] [(2, ⟨0, 26, 2, true, false, [.agg [.ps .opt (s23.F l6), .ps .opt (s24.F l33)]]⟩), (9, ⟨0, 26, 2, true, false, [.agg [.ps .opt (s23.F l6), .ps .opt (s24.F l33)]]⟩), (24, ⟨0, 122, 4, true, false, [.agg [.ps .opt (s117.F l29), vi i30, vb b31, vi i32]]⟩)] ⟨rfl, .keep _, rfl, .keep _, rfl, .keep _, trivial⟩ ⟨rfl, .inr ⟨rfl, rfl, .aggs ⟨.keep _, .hit true, trivial⟩, trivial⟩, rfl, .inr ⟨rfl, rfl, .aggs ⟨.keep _, .hit true, trivial⟩, trivial⟩, rfl, .inl rfl, trivial⟩) ?_
  refine WA_weak (Weak_leH [(2, .box 2 0 0 0), (3, vi 0), (4, vi 0)] [(2, ⟨0, 26, 2, true, false, [eProg (Prog.mk l6 l33)]⟩), (9, ⟨0, 26, 2, true, false, [.agg [.ps .opt (s23.F l6), .ps .opt (s24.F l33)]]⟩), (24, ⟨0, 122, 4, true, false, [.agg [.ps .opt (s117.F l29), vi i30, vb b31, vi i32]]⟩)] (by kernel_rfl) ⟨VLf.refl _, VLf.refl _, VLf.refl _, trivial⟩ ⟨rfl, .inr (.inl ⟨rfl, rfl, CLe.agg ⟨VLf.refl _, VLf.refl _, trivial⟩, trivial⟩), rfl, .inl rfl, rfl, .inl rfl, trivial⟩) ?_
  obtain rfl := Option.some.inj h
  exact rR [(2, 1000, 0)] ⟨[(2, .box 1000 0 0 0), (3, vi 0), (4, vi 0)], [(1000, ⟨0, 26, 2, true, false, [eProg (Prog.mk l6 l33)]⟩)], 1⟩ ⟨by kernel_rfl, rfl⟩

theorem law10_read_ok {n : Nat} {a0 : ByteArray} {r : Prog} (h : law10_read n a0 = some r) : PT Try.prog 19 [vw a0] (eProg r) := by
  unfold law10_read at h
  refine PT_bodyA hT Try.func19 rfl (by kernel_rfl) fun bad w => ?_
  refine Qz hT 1 [0, 2] ⟨[(0, vw a0), (2, .box 2 0 0 0)], [(2, ⟨0, 26, 2, true, false, [.agg [.ps .nil [], .ps .nil []]]⟩)], 1⟩ ?_
  refine Qg hT 1 [2, 7] ⟨[(2, .box 2 0 0 0), (7, vw a0)], [(2, ⟨0, 26, 2, true, false, [.agg [.ps .nil [], .ps .nil []]]⟩)], 1⟩ ?_
  obtain ⟨r1, hr1, h⟩ := bsome h
  refine Pt en65 (ref1_Parse_ok hr1) ?_
  refine Sz hT 8 [2, 3] ⟨[(2, .box 2 0 0 0), (3, .box 3 1 0 0)], [(3, ⟨1, 26, 2, true, false, [eProg r1.1]⟩), (2, ⟨0, 26, 2, true, false, [.agg [.ps .nil [], .ps .nil []]]⟩)], 2⟩ ?_
  refine Qz hT 2 [2] ⟨[(2, .box 2 0 0 0)], [(2, ⟨0, 26, 2, true, false, [eProg r1.1]⟩), (3, ⟨1, 26, 2, true, false, [eProg r1.1]⟩)], 2⟩ ?_
  obtain rfl := Option.some.inj h
  exact rK [2] [(2, 1000, 0)] ⟨[(2, .box 1000 0 0 0)], [(1000, ⟨0, 26, 2, true, false, [eProg r1.1]⟩)], 1⟩ ⟨by kernel_rfl, rfl⟩

def bound_Expr_spec (n : Nat) : Prop := (∀ {a0 : Expr} {r : Int}, bound_Expr n a0 = some r → PT Try.prog 21 [eExpr a0] (vi r))
theorem bound_Expr_step (n : Nat) (ih : ∀ m, m < n → bound_Expr_spec m) : ∀ {a0 : Expr} {r : Int}, bound_Expr n a0 = some r → PT Try.prog 21 [eExpr a0] (vi r) := by
  intro a0 r h
  rcases n with _ | n
  · rw [bound_Expr] at h; cases h
  rw [bound_Expr] at h
  refine PT_bodyA hT Try.func21 rfl (by kernel_rfl) fun bad w => ?_
  refine Qz hT 2 [1] ⟨[(1, .box 1 0 0 0)], [(1, ⟨0, 35, 4, true, false, [eExpr a0]⟩)], 1⟩ ?_
  refine Qz hT 1 [1, 3] ⟨[(1, .box 1 0 0 0), (3, vi 0)], [(1, ⟨0, 35, 4, true, false, [eExpr a0]⟩)], 1⟩ ?_
  refine WA_seq ?_
  refine WA_seq ?_
  obtain ⟨J2, hJ2, h⟩ := jsome h
  refine WA_join (fun s => ∃ (b1 : Bool), J2 b1 = some r ∧ s = ⟨[(1, .box 1 0 0 0), (3, vi 0), (13, vb b1)], [(1, ⟨0, 35, 4, true, false, [eExpr a0]⟩)], 1⟩) ?_ ?_
  · refine Rg hT 4 [1, 3, 9] ⟨[(1, .box 1 0 0 0), (3, vi 0), (9, vb (decide (a0.Kind ≥ 1)))], [(1, ⟨0, 35, 4, true, false, [eExpr a0]⟩)], 1⟩ ?_
    cases hb : (decide (a0.Kind ≥ 1) : Bool)
    · replace h := cfalse hb h
      refine Sg hT 4 [1, 3, 13] ⟨[(1, .box 1 0 0 0), (3, vi 0), (13, vb false)], [(1, ⟨0, 35, 4, true, false, [eExpr a0]⟩)], 1⟩ ?_
      exact oK [1, 3, 13] [(1, 1, 0)] ⟨false, h, rfl⟩
    replace h := ctrue hb h
    refine Sg hT 4 [1, 3, 13] ⟨[(1, .box 1 0 0 0), (3, vi 0), (13, vb (decide (a0.Kind ≤ 10)))], [(1, ⟨0, 35, 4, true, false, [eExpr a0]⟩)], 1⟩ ?_
    exact oK [1, 3, 13] [(1, 1, 0)] ⟨decide (a0.Kind ≤ 10), h, rfl⟩
  subst hJ2
  rintro s ⟨b1, h, rfl⟩
  obtain ⟨J4, hJ4, h⟩ := jsome h
  refine WA_join (fun s => ∃ (i3 : Int), J4 i3 = some r ∧ s = ⟨[(1, .box 1 0 0 0), (3, vi i3)], [(1, ⟨0, 35, 4, true, false, [eExpr a0]⟩)], 1⟩) ?_ ?_
  · refine Cd b1 ?_ ?_
    · intro hb; replace h := ctrue hb h
      refine Rg hT 1 [1, 3] ⟨[(1, .box 1 0 0 0), (3, vi 1)], [(1, ⟨0, 35, 4, true, false, [eExpr a0]⟩)], 1⟩ ?_
      exact oK [1, 3] [(1, 1, 0)] ⟨1, h, rfl⟩
    intro hb; replace h := cfalse hb h
    exact sK [1, 3] [(1, 1, 0)] ⟨0, h, rfl⟩
  subst hJ4
  rintro s ⟨i3, h, rfl⟩
  refine WA_seq ?_
  refine Qg hT 2 [3, 15] ⟨[(3, vi i3), (15, .ps .opt (s33.F a0.Of))], [(1, ⟨0, 35, 4, true, false, [eExpr a0]⟩)], 1⟩ ?_
  refine One hT rfl (ev_len s33 .opt a0.Of (by kernel_rfl)) ?_
  refine Sz hT 1 [3, 15, 16, 17] ⟨[(3, vi i3), (15, .ps .opt (s33.F a0.Of)), (16, vi (ln a0.Of)), (17, vi 0)], [(1, ⟨0, 35, 4, true, false, [eExpr a0]⟩)], 1⟩ ?_
  refine WA_block ?_
  refine lK [3, 15, 16, 17] [] (fun k s => ∃ q, q ≤ k ∧ q ≤ n ∧ ∃ (i5 : Int), ∃ (i6 : Int), bound_Expr_L0 q a0 b1 i3 i5 i6 = some r ∧ s = ⟨[(3, vi i5), (15, .ps .opt (s33.F a0.Of)), (16, vi (ln a0.Of)), (17, vi i6)], [], 1⟩) n ⟨n, Nat.le_refl _, Nat.le_refl _, i3, 0, h, rfl⟩ (by rintro s ⟨q, hq, _, i5, i6, h, _⟩; obtain rfl := Nat.le_zero.1 hq; rw [bound_Expr_L0] at h; cases h) ?_
  clear h
  rintro k1 s ⟨q1, hk1, hn1, i5, i6, h, rfl⟩
  rcases q1 with _ | q1
  · rw [bound_Expr_L0] at h; cases h
  rw [bound_Expr_L0] at h
  refine Qz hT 1 [3, 15, 16, 17, 18] ⟨[(3, vi i5), (15, .ps .opt (s33.F a0.Of)), (16, vi (ln a0.Of)), (17, vi i6), (18, vb (decide (i6 < (ln a0.Of))))], [], 1⟩ ?_
  refine WA_seq ?_
  refine Cd (decide (i6 < (ln a0.Of))) ?_ ?_
  · intro hb; replace h := ctrue hb h
    refine WA_skip ?_
    refine WA_seq ?_
    refine WA_block ?_
    refine Qg hT 0 [3, 15, 16, 17] ⟨[(3, vi i5), (15, .ps .opt (s33.F a0.Of)), (16, vi (ln a0.Of)), (17, vi i6)], [], 1⟩ ?_
    obtain ⟨x7, hx7, h⟩ := bsome h
    refine One hT rfl (ev_index s33 .opt a0.Of .i64 i6 hx7 (by decide) (by kernel_rfl) (by kernel_rfl)) ?_
    refine Sz hT 3 [3, 5, 15, 16, 17] ⟨[(3, vi i5), (5, .box 5 1 0 0), (15, .ps .opt (s33.F a0.Of)), (16, vi (ln a0.Of)), (17, vi i6)], [(5, ⟨1, 35, 4, true, false, [eExpr x7]⟩)], 2⟩ ?_
    refine Rg hT 2 [15, 16, 17, 21, 22] ⟨[(15, .ps .opt (s33.F a0.Of)), (16, vi (ln a0.Of)), (17, vi i6), (21, vi i5), (22, eExpr x7)], [(5, ⟨1, 35, 4, true, false, [eExpr x7]⟩)], 2⟩ ?_
    obtain ⟨r8, hr8, h⟩ := bsome h
    refine Pt en21 ((ih _ (by omega)) hr8) ?_
    refine Sz hT 3 [3, 15, 16, 17] ⟨[(3, vi (gomin 2147483647 (wr (i5 + r8)))), (15, .ps .opt (s33.F a0.Of)), (16, vi (ln a0.Of)), (17, vi i6)], [(5, ⟨1, 35, 4, true, false, [eExpr x7]⟩)], 2⟩ ?_
    refine Rg hT 2 [3, 15, 16, 17] ⟨[(3, vi (gomin 2147483647 (wr (i5 + r8)))), (15, .ps .opt (s33.F a0.Of)), (16, vi (ln a0.Of)), (17, vi (wr (i6 + 1)))], [(5, ⟨1, 35, 4, true, false, [eExpr x7]⟩)], 2⟩ ?_
    exact oK [3, 15, 16, 17] [] ⟨_, by omega, by omega, gomin 2147483647 (wr (i5 + r8)), wr (i6 + 1), h, rfl⟩
  intro hb; replace h := cfalse hb h
  refine WA_exit ?_
  refine Qz hT 2 [2] ⟨[(2, vi i5)], [], 1⟩ ?_
  obtain rfl := Option.some.inj h
  exact rK [2] [] ⟨[(2, vi i5)], [], 1⟩ ⟨by kernel_rfl, rfl⟩
theorem bound_Expr_all (n : Nat) : bound_Expr_spec n := by
  induction n using Nat.strongRecOn with
  | _ n ih => exact bound_Expr_step n ih
theorem bound_Expr_ok {n : Nat} {a0 : Expr} {r : Int} (h : bound_Expr n a0 = some r) : PT Try.prog 21 [eExpr a0] (vi r) := (bound_Expr_all n) h

def bound_stmt_spec (n : Nat) : Prop := (∀ {a0 : Stmt} {r : Int}, bound_stmt n a0 = some r → PT Try.prog 100 [eStmt a0] (vi r)) ∧ (∀ {a0 : List Stmt} {r : Int}, bound_block n a0 = some r → PT Try.prog 63 [.ps .opt (s32.F a0)] (vi r))
theorem bound_stmt_step (n : Nat) (ih : ∀ m, m < n → bound_stmt_spec m) : ∀ {a0 : Stmt} {r : Int}, bound_stmt n a0 = some r → PT Try.prog 100 [eStmt a0] (vi r) := by
  intro a0 r h
  rcases n with _ | n
  · rw [bound_stmt] at h; cases h
  rw [bound_stmt] at h
  refine PT_bodyA hT Try.func100 rfl (by kernel_rfl) fun bad w => ?_
  refine Qz hT 2 [1] ⟨[(1, .box 1 0 0 0)], [(1, ⟨0, 38, 11, true, false, [eStmt a0]⟩)], 1⟩ ?_
  refine WA_seq ?_
  refine Qz hT 2 [1, 5] ⟨[(1, .box 1 0 0 0), (5, vi a0.Kind)], [(1, ⟨0, 38, 11, true, false, [eStmt a0]⟩)], 1⟩ ?_
  refine WA_block ?_
  refine WA_seq ?_
  refine Qz hT 2 [1, 5, 6] ⟨[(1, .box 1 0 0 0), (5, vi a0.Kind), (6, vb (a0.Kind == 1))], [(1, ⟨0, 38, 11, true, false, [eStmt a0]⟩)], 1⟩ ?_
  obtain ⟨J2, hJ2, h⟩ := jsome h
  refine WA_join (fun s => ∃ (b1 : Bool), J2 b1 = some r ∧ s = ⟨[(1, .box 1 0 0 0), (5, vi a0.Kind), (6, vb b1)], [(1, ⟨0, 38, 11, true, false, [eStmt a0]⟩)], 1⟩) ?_ ?_
  · refine Cd (a0.Kind == 1) ?_ ?_
    · intro hb; replace h := ctrue hb h
      exact sK [1, 5, 6] [(1, 1, 0)] ⟨(a0.Kind == 1), h, rfl⟩
    intro hb; replace h := cfalse hb h
    refine Qz hT 2 [1, 5, 6] ⟨[(1, .box 1 0 0 0), (5, vi a0.Kind), (6, vb (a0.Kind == 4))], [(1, ⟨0, 38, 11, true, false, [eStmt a0]⟩)], 1⟩ ?_
    refine Cd (a0.Kind == 4) ?_ ?_
    · intro hb; replace h := ctrue hb h
      exact sK [1, 5, 6] [(1, 1, 0)] ⟨(a0.Kind == 4), h, rfl⟩
    intro hb; replace h := cfalse hb h
    refine Rg hT 2 [1, 5, 6] ⟨[(1, .box 1 0 0 0), (5, vi a0.Kind), (6, vb (a0.Kind == 6))], [(1, ⟨0, 38, 11, true, false, [eStmt a0]⟩)], 1⟩ ?_
    exact oK [1, 5, 6] [(1, 1, 0)] ⟨(a0.Kind == 6), h, rfl⟩
  subst hJ2
  rintro s ⟨b1, h, rfl⟩
  refine Cd b1 ?_ ?_
  · intro hb; replace h := ctrue hb h
    refine Qg hT 2 [11] ⟨[(11, eExpr a0.E)], [(1, ⟨0, 38, 11, true, false, [eStmt a0]⟩)], 1⟩ ?_
    obtain ⟨r3, hr3, h⟩ := bsome h
    refine Pt en21 (bound_Expr_ok hr3) ?_
    refine Sz hT 2 [2] ⟨[(2, vi (wr (1 + r3)))], [(1, ⟨0, 38, 11, true, false, [eStmt a0]⟩)], 1⟩ ?_
    obtain rfl := Option.some.inj h
    exact rK [2] [] ⟨[(2, vi (wr (1 + r3)))], [], 1⟩ ⟨by kernel_rfl, rfl⟩
  intro hb; replace h := cfalse hb h
  refine WA_seq ?_
  refine Qz hT 2 [1, 5, 14] ⟨[(1, .box 1 0 0 0), (5, vi a0.Kind), (14, vb (a0.Kind == 2))], [(1, ⟨0, 38, 11, true, false, [eStmt a0]⟩)], 1⟩ ?_
  obtain ⟨J5, hJ5, h⟩ := jsome h
  refine WA_join (fun s => ∃ (b4 : Bool), J5 b4 = some r ∧ s = ⟨[(1, .box 1 0 0 0), (5, vi a0.Kind), (14, vb b4)], [(1, ⟨0, 38, 11, true, false, [eStmt a0]⟩)], 1⟩) ?_ ?_
  · refine Cd (a0.Kind == 2) ?_ ?_
    · intro hb; replace h := ctrue hb h
      exact sK [1, 5, 14] [(1, 1, 0)] ⟨(a0.Kind == 2), h, rfl⟩
    intro hb; replace h := cfalse hb h
    refine Qz hT 2 [1, 5, 14] ⟨[(1, .box 1 0 0 0), (5, vi a0.Kind), (14, vb (a0.Kind == 3))], [(1, ⟨0, 38, 11, true, false, [eStmt a0]⟩)], 1⟩ ?_
    refine Cd (a0.Kind == 3) ?_ ?_
    · intro hb; replace h := ctrue hb h
      exact sK [1, 5, 14] [(1, 1, 0)] ⟨(a0.Kind == 3), h, rfl⟩
    intro hb; replace h := cfalse hb h
    refine Rg hT 2 [1, 5, 14] ⟨[(1, .box 1 0 0 0), (5, vi a0.Kind), (14, vb (a0.Kind == 9))], [(1, ⟨0, 38, 11, true, false, [eStmt a0]⟩)], 1⟩ ?_
    exact oK [1, 5, 14] [(1, 1, 0)] ⟨(a0.Kind == 9), h, rfl⟩
  subst hJ5
  rintro s ⟨b4, h, rfl⟩
  refine Cd b4 ?_ ?_
  · intro hb; replace h := ctrue hb h
    refine Qz hT 1 [2] ⟨[(2, vi 1)], [(1, ⟨0, 38, 11, true, false, [eStmt a0]⟩)], 1⟩ ?_
    obtain rfl := Option.some.inj h
    exact rK [2] [] ⟨[(2, vi 1)], [], 1⟩ ⟨by kernel_rfl, rfl⟩
  intro hb; replace h := cfalse hb h
  refine Qz hT 2 [1, 5, 18] ⟨[(1, .box 1 0 0 0), (5, vi a0.Kind), (18, vb (a0.Kind == 5))], [(1, ⟨0, 38, 11, true, false, [eStmt a0]⟩)], 1⟩ ?_
  refine Cd (a0.Kind == 5) ?_ ?_
  · intro hb; replace h := ctrue hb h
    refine Qz hT 1 [2] ⟨[(2, vi 2)], [(1, ⟨0, 38, 11, true, false, [eStmt a0]⟩)], 1⟩ ?_
    obtain rfl := Option.some.inj h
    exact rK [2] [] ⟨[(2, vi 2)], [], 1⟩ ⟨by kernel_rfl, rfl⟩
  intro hb; replace h := cfalse hb h
  refine Qz hT 2 [1, 5, 20] ⟨[(1, .box 1 0 0 0), (5, vi a0.Kind), (20, vb (a0.Kind == 7))], [(1, ⟨0, 38, 11, true, false, [eStmt a0]⟩)], 1⟩ ?_
  refine Cd (a0.Kind == 7) ?_ ?_
  · intro hb; replace h := ctrue hb h
    refine WA_seq ?_
    refine WA_drawW hT hM (by kernel_rfl) ?_
    refine WD_seg 2 ⟨[(23, eExpr a0.E), (22, .box 1 0 0 4), (1, .box 1 0 0 0), (5, vi a0.Kind), (20, vb (a0.Kind == 7))], [(1, ⟨0, 38, 11, true, false, [eStmt a0]⟩)], 1⟩ [] [(0, [1]), (1, [1])] (by kernel_rfl) (by kernel_rfl) ?_
    obtain ⟨r6, hr6, h⟩ := bsome h
    refine WD_pt rfl (by kernel_rfl) (by kernel_rfl) [eExpr a0.E] (vi r6) rfl (by kernel_rfl) en21 (by kernel_rfl) (bound_Expr_ok hr6) (by kernel_rfl) ?_
    refine WD_seg 3 ⟨[(27, .ps .opt (s32.F a0.Body)), (26, .box 1 0 0 8), (25, vi (wr (1 + r6))), (24, vi r6), (23, eExpr a0.E), (22, .box 1 0 0 4), (1, .box 1 0 0 0), (5, vi a0.Kind), (20, vb (a0.Kind == 7))], [(1, ⟨0, 38, 11, true, false, [eStmt a0]⟩)], 1⟩ [] [(0, [1]), (1, [1]), (4, [1]), (5, [1])] (by kernel_rfl) (by kernel_rfl) ?_
    obtain ⟨r7, hr7, h⟩ := bsome h
    refine WD_pt rfl (by kernel_rfl) (by kernel_rfl) [.ps .opt (s32.F a0.Body)] (vi r7) rfl (by kernel_rfl) en63 (by kernel_rfl) ((ih _ (by omega)).2 hr7) (by kernel_rfl) ?_
    refine WD_seg 2 ⟨[(3, vi (wr ((wr (1 + r6)) + r7))), (29, vi (wr ((wr (1 + r6)) + r7))), (28, vi r7), (27, .ps .opt (s32.F a0.Body)), (26, .box 1 0 0 8), (25, vi (wr (1 + r6))), (24, vi r6), (23, eExpr a0.E), (22, .box 1 0 0 4), (1, .box 1 0 0 0), (5, vi a0.Kind), (20, vb (a0.Kind == 7))], [(1, ⟨0, 38, 11, true, false, [eStmt a0]⟩)], 1⟩ [] [(0, [1]), (1, [1]), (4, [1]), (5, [1])] (by kernel_rfl) (by kernel_rfl) ?_
    refine WD_end (by kernel_rfl) (by kernel_rfl) (by kernel_rfl) ?_
    refine Wk_done ?_
    refine WA_seq ?_
    refine Qg hT 2 [1, 3, 31] ⟨[(1, .box 1 0 0 0), (3, vi (wr ((wr (1 + r6)) + r7))), (31, .ps .opt (s32.F a0.Else))], [(1, ⟨0, 38, 11, true, false, [eStmt a0]⟩)], 1⟩ ?_
    refine One hT rfl (ev_len s32 .opt a0.Else (by kernel_rfl)) ?_
    refine Sz hT 1 [1, 3, 33] ⟨[(1, .box 1 0 0 0), (3, vi (wr ((wr (1 + r6)) + r7))), (33, vb (decide ((ln a0.Else) > 0)))], [(1, ⟨0, 38, 11, true, false, [eStmt a0]⟩)], 1⟩ ?_
    obtain ⟨J9, hJ9, h⟩ := jsome h
    refine WA_join (fun s => ∃ (i8 : Int), J9 i8 = some r ∧ s = ⟨[(3, vi i8)], [], 1⟩) ?_ ?_
    · refine Cd (decide ((ln a0.Else) > 0)) ?_ ?_
      · intro hb; replace h := ctrue hb h
        refine Rg hT 3 [34, 36] ⟨[(34, vi (wr ((wr (1 + r6)) + r7))), (36, .ps .opt (s32.F a0.Else))], [(1, ⟨0, 38, 11, true, false, [eStmt a0]⟩)], 1⟩ ?_
        obtain ⟨r10, hr10, h⟩ := bsome h
        refine Pt en63 ((ih _ (by omega)).2 hr10) ?_
        refine Sg hT 3 [3] ⟨[(3, vi (wr ((wr ((wr (1 + r6)) + r7)) + (wr (1 + r10)))))], [(1, ⟨0, 38, 11, true, false, [eStmt a0]⟩)], 1⟩ ?_
        exact oK [3] [] ⟨wr ((wr ((wr (1 + r6)) + r7)) + (wr (1 + r10))), h, rfl⟩
      intro hb; replace h := cfalse hb h
      exact sK [3] [] ⟨wr ((wr (1 + r6)) + r7), h, rfl⟩
    subst hJ9
    rintro s ⟨i8, h, rfl⟩
    skip
    refine Qz hT 2 [2] ⟨[(2, vi i8)], [], 1⟩ ?_
    obtain rfl := Option.some.inj h
    exact rK [2] [] ⟨[(2, vi i8)], [], 1⟩ ⟨by kernel_rfl, rfl⟩
  intro hb; replace h := cfalse hb h
  refine Qz hT 2 [1, 41] ⟨[(1, .box 1 0 0 0), (41, vb (a0.Kind == 8))], [(1, ⟨0, 38, 11, true, false, [eStmt a0]⟩)], 1⟩ ?_
  refine Cd (a0.Kind == 8) ?_ ?_
  · intro hb; replace h := ctrue hb h
    refine WA_seq ?_
    refine WA_drawW hT hM (by kernel_rfl) ?_
    refine WD_seg 6 ⟨[(48, .ps .opt (s32.F a0.Body)), (47, .box 1 0 0 8), (46, vi (gomax 0 (gomin a0.N 2147483647))), (45, vi (gomin a0.N 2147483647)), (44, vi a0.N), (43, .box 1 0 0 3), (1, .box 1 0 0 0), (41, vb (a0.Kind == 8))], [(1, ⟨0, 38, 11, true, false, [eStmt a0]⟩)], 1⟩ [] [(0, [1]), (1, [1]), (4, [1]), (5, [1])] (by kernel_rfl) (by kernel_rfl) ?_
    obtain ⟨r11, hr11, h⟩ := bsome h
    refine WD_pt rfl (by kernel_rfl) (by kernel_rfl) [.ps .opt (s32.F a0.Body)] (vi r11) rfl (by kernel_rfl) en63 (by kernel_rfl) ((ih _ (by omega)).2 hr11) (by kernel_rfl) ?_
    refine WD_seg 2 ⟨[(2, vi (wr ((gomax 0 (gomin a0.N 2147483647)) * r11))), (50, vi (wr ((gomax 0 (gomin a0.N 2147483647)) * r11))), (49, vi r11), (48, .ps .opt (s32.F a0.Body)), (47, .box 1 0 0 8), (46, vi (gomax 0 (gomin a0.N 2147483647))), (45, vi (gomin a0.N 2147483647)), (44, vi a0.N), (43, .box 1 0 0 3), (1, .box 1 0 0 0), (41, vb (a0.Kind == 8))], [(1, ⟨0, 38, 11, true, false, [eStmt a0]⟩)], 1⟩ [] [(0, [1]), (1, [1]), (4, [1]), (5, [1])] (by kernel_rfl) (by kernel_rfl) ?_
    refine WD_end (by kernel_rfl) (by kernel_rfl) (by kernel_rfl) ?_
    refine Wk_done ?_
    obtain rfl := Option.some.inj h
    exact rK [2] [] ⟨[(2, vi (wr ((gomax 0 (gomin a0.N 2147483647)) * r11)))], [], 1⟩ ⟨by kernel_rfl, rfl⟩
  intro hb; replace h := cfalse hb h
  refine WA_skip ?_
  refine Qz hT 1 [2] ⟨[(2, vi 0)], [(1, ⟨0, 38, 11, true, false, [eStmt a0]⟩)], 1⟩ ?_
  obtain rfl := Option.some.inj h
  exact rK [2] [] ⟨[(2, vi 0)], [], 1⟩ ⟨by kernel_rfl, rfl⟩
theorem bound_block_step (n : Nat) (ih : ∀ m, m < n → bound_stmt_spec m) : ∀ {a0 : List Stmt} {r : Int}, bound_block n a0 = some r → PT Try.prog 63 [.ps .opt (s32.F a0)] (vi r) := by
  intro a0 r h
  rcases n with _ | n
  · rw [bound_block] at h; cases h
  rw [bound_block] at h
  refine PT_bodyA hT Try.func63 rfl (by kernel_rfl) fun bad w => ?_
  refine Qz hT 1 [0] ⟨[(0, .ps .opt (s32.F a0))], [], 0⟩ ?_
  refine Qz hT 1 [0, 3] ⟨[(0, .ps .opt (s32.F a0)), (3, vi 0)], [], 0⟩ ?_
  refine WA_seq ?_
  refine Qg hT 1 [3, 6] ⟨[(3, vi 0), (6, .ps .opt (s32.F a0))], [], 0⟩ ?_
  refine One hT rfl (ev_len s32 .opt a0 (by kernel_rfl)) ?_
  refine Sz hT 1 [3, 6, 7, 8] ⟨[(3, vi 0), (6, .ps .opt (s32.F a0)), (7, vi (ln a0)), (8, vi 0)], [], 0⟩ ?_
  refine WA_block ?_
  refine lK [3, 6, 7, 8] [] (fun k s => ∃ q, q ≤ k ∧ q ≤ n ∧ ∃ (i1 : Int), ∃ (i2 : Int), bound_block_L0 q a0 i1 i2 = some r ∧ s = ⟨[(3, vi i1), (6, .ps .opt (s32.F a0)), (7, vi (ln a0)), (8, vi i2)], [], 1⟩) n ⟨n, Nat.le_refl _, Nat.le_refl _, 0, 0, h, rfl⟩ (by rintro s ⟨q, hq, _, i1, i2, h, _⟩; obtain rfl := Nat.le_zero.1 hq; rw [bound_block_L0] at h; cases h) ?_
  clear h
  rintro k1 s ⟨q1, hk1, hn1, i1, i2, h, rfl⟩
  rcases q1 with _ | q1
  · rw [bound_block_L0] at h; cases h
  rw [bound_block_L0] at h
  refine Qz hT 1 [3, 6, 7, 8, 9] ⟨[(3, vi i1), (6, .ps .opt (s32.F a0)), (7, vi (ln a0)), (8, vi i2), (9, vb (decide (i2 < (ln a0))))], [], 1⟩ ?_
  refine WA_seq ?_
  refine Cd (decide (i2 < (ln a0))) ?_ ?_
  · intro hb; replace h := ctrue hb h
    refine WA_skip ?_
    refine WA_seq ?_
    refine WA_block ?_
    refine Qg hT 0 [3, 6, 7, 8] ⟨[(3, vi i1), (6, .ps .opt (s32.F a0)), (7, vi (ln a0)), (8, vi i2)], [], 1⟩ ?_
    obtain ⟨x3, hx3, h⟩ := bsome h
    refine One hT rfl (ev_index s32 .opt a0 .i64 i2 hx3 (by decide) (by kernel_rfl) (by kernel_rfl)) ?_
    refine Sz hT 3 [3, 5, 6, 7, 8] ⟨[(3, vi i1), (5, .box 5 1 0 0), (6, .ps .opt (s32.F a0)), (7, vi (ln a0)), (8, vi i2)], [(5, ⟨1, 38, 11, true, false, [eStmt x3]⟩)], 2⟩ ?_
    refine Rg hT 2 [6, 7, 8, 12, 13] ⟨[(6, .ps .opt (s32.F a0)), (7, vi (ln a0)), (8, vi i2), (12, vi i1), (13, eStmt x3)], [(5, ⟨1, 38, 11, true, false, [eStmt x3]⟩)], 2⟩ ?_
    obtain ⟨r4, hr4, h⟩ := bsome h
    refine Pt en100 ((ih _ (by omega)).1 hr4) ?_
    refine Sz hT 3 [3, 6, 7, 8] ⟨[(3, vi (gomin 2147483647 (wr (i1 + r4)))), (6, .ps .opt (s32.F a0)), (7, vi (ln a0)), (8, vi i2)], [(5, ⟨1, 38, 11, true, false, [eStmt x3]⟩)], 2⟩ ?_
    refine Rg hT 2 [3, 6, 7, 8] ⟨[(3, vi (gomin 2147483647 (wr (i1 + r4)))), (6, .ps .opt (s32.F a0)), (7, vi (ln a0)), (8, vi (wr (i2 + 1)))], [(5, ⟨1, 38, 11, true, false, [eStmt x3]⟩)], 2⟩ ?_
    exact oK [3, 6, 7, 8] [] ⟨_, by omega, by omega, gomin 2147483647 (wr (i1 + r4)), wr (i2 + 1), h, rfl⟩
  intro hb; replace h := cfalse hb h
  refine WA_exit ?_
  refine Qz hT 2 [2] ⟨[(2, vi i1)], [], 1⟩ ?_
  obtain rfl := Option.some.inj h
  exact rK [2] [] ⟨[(2, vi i1)], [], 1⟩ ⟨by kernel_rfl, rfl⟩
theorem bound_stmt_all (n : Nat) : bound_stmt_spec n := by
  induction n using Nat.strongRecOn with
  | _ n ih => exact ⟨bound_stmt_step n ih, bound_block_step n ih⟩
theorem bound_stmt_ok {n : Nat} {a0 : Stmt} {r : Int} (h : bound_stmt n a0 = some r) : PT Try.prog 100 [eStmt a0] (vi r) := (bound_stmt_all n).1 h
theorem bound_block_ok {n : Nat} {a0 : List Stmt} {r : Int} (h : bound_block n a0 = some r) : PT Try.prog 63 [.ps .opt (s32.F a0)] (vi r) := (bound_stmt_all n).2 h

theorem Clip_64_ok {n : Nat} {a0 : List Int} {r : List Int} (h : Clip_64 n a0 = some r) : PT Try.prog 64 [.ps .opt (s30.F a0)] (.ps .fopt (s30.F r)) := by
  unfold Clip_64 at h
  refine PT_bodyA hT Try.func64 rfl (by kernel_rfl) fun bad w => ?_
  refine Qz hT 1 [0] ⟨[(0, .ps .opt (s30.F a0))], [], 0⟩ ?_
  refine Qg hT 2 [0, 3, 4] ⟨[(0, .ps .opt (s30.F a0)), (3, .ps .opt (s30.F a0)), (4, .ps .opt (s30.F a0))], [], 0⟩ ?_
  refine One hT rfl (ev_len s30 .opt a0 (by kernel_rfl)) ?_
  refine Sg hT 1 [3, 5, 6] ⟨[(3, .ps .opt (s30.F a0)), (5, vi (ln a0)), (6, .ps .opt (s30.F a0))], [], 0⟩ ?_
  refine One hT rfl (ev_len s30 .opt a0 (by kernel_rfl)) ?_
  refine Sg hT 0 [3, 5, 7] ⟨[(3, .ps .opt (s30.F a0)), (5, vi (ln a0)), (7, vi (ln a0))], [], 0⟩ ?_
  obtain ⟨l1, hl1, h⟩ := bsome h
  refine One hT rfl (ev_slice s30 .opt a0 0 (ln a0) (some (ln a0)) l1 .fopt hl1 (by kernel_rfl) (by kernel_rfl) (by kernel_rfl) (by kernel_rfl) (by intro y hy; cases hy; rfl) rfl rfl (by decide)) ?_
  refine Sz hT 1 [2] ⟨[(2, .ps .fopt (s30.F l1))], [], 0⟩ ?_
  obtain rfl := Option.some.inj h
  exact rK [2] [] ⟨[(2, .ps .fopt (s30.F l1))], [], 1⟩ ⟨by kernel_rfl, rfl⟩

theorem bound_Size_ok {n : Nat} {a0 : Prog} {r : List Int} (h : bound_Size n a0 = some r) : PT Try.prog 18 [eProg a0] (.ps .fopt (s30.F r)) := by
  unfold bound_Size at h
  refine PT_bodyA hT Try.func18 rfl (by kernel_rfl) fun bad w => ?_
  refine Qz hT 2 [1] ⟨[(1, .box 1 0 0 0)], [(1, ⟨0, 26, 2, true, false, [eProg a0]⟩)], 1⟩ ?_
  refine Qz hT 1 [1, 3] ⟨[(1, .box 1 0 0 0), (3, .ps .nil [])], [(1, ⟨0, 26, 2, true, false, [eProg a0]⟩)], 1⟩ ?_
  refine WA_seq ?_
  refine Qg hT 2 [3, 7] ⟨[(3, .ps .nil []), (7, .ps .opt (s24.F a0.Threads))], [(1, ⟨0, 26, 2, true, false, [eProg a0]⟩)], 1⟩ ?_
  refine One hT rfl (ev_len s24 .opt a0.Threads (by kernel_rfl)) ?_
  refine Sz hT 1 [3, 7, 8, 9] ⟨[(3, .ps .nil []), (7, .ps .opt (s24.F a0.Threads)), (8, vi (ln a0.Threads)), (9, vi 0)], [(1, ⟨0, 26, 2, true, false, [eProg a0]⟩)], 1⟩ ?_
  refine WA_block ?_
  refine aW [3, 7, 8, 9] ⟨[(3, .ps .nil []), (7, .ps .opt (s24.F a0.Threads)), (8, vi (ln a0.Threads)), (9, vi 0)], [(1, ⟨0, 26, 2, true, false, [eProg a0]⟩)], 1⟩ ?_
  refine WA_weak (Weak_own 3 5000 3 1 (by kernel_rfl) (by kernel_rfl) (by kernel_rfl) (by kernel_rfl)) ?_
  refine lK [3, 7, 8, 9] [(5000, 10003, 0)] (fun k s => ∃ q, q ≤ k ∧ q ≤ n ∧ ∃ (l1 : List Int), ∃ (i2 : Int), bound_Size_L0 q a0 l1 i2 = some r ∧ s = ⟨[(3, vo 10003 0 (s30.F l1)), (7, .ps .opt (s24.F a0.Threads)), (8, vi (ln a0.Threads)), (9, vi i2)], [(10003, ⟨0, 3, 1, false, true, s30.F l1⟩)], 1⟩) n ⟨n, Nat.le_refl _, Nat.le_refl _, ([] : List Int), 0, h, rfl⟩ (by rintro s ⟨q, hq, _, l1, i2, h, _⟩; obtain rfl := Nat.le_zero.1 hq; rw [bound_Size_L0] at h; cases h) ?_
  clear h
  rintro k1 s ⟨q1, hk1, hn1, l1, i2, h, rfl⟩
  rcases q1 with _ | q1
  · rw [bound_Size_L0] at h; cases h
  rw [bound_Size_L0] at h
  refine Qz hT 1 [3, 7, 8, 9, 10] ⟨[(3, vo 10003 0 (s30.F l1)), (7, .ps .opt (s24.F a0.Threads)), (8, vi (ln a0.Threads)), (9, vi i2), (10, vb (decide (i2 < (ln a0.Threads))))], [(10003, ⟨0, 3, 1, false, true, s30.F l1⟩)], 1⟩ ?_
  refine WA_seq ?_
  refine Cd (decide (i2 < (ln a0.Threads))) ?_ ?_
  · intro hb; replace h := ctrue hb h
    refine WA_skip ?_
    refine WA_seq ?_
    refine WA_block ?_
    refine Qg hT 0 [3, 7, 8, 9] ⟨[(3, vo 10003 0 (s30.F l1)), (7, .ps .opt (s24.F a0.Threads)), (8, vi (ln a0.Threads)), (9, vi i2)], [(10003, ⟨0, 3, 1, false, true, s30.F l1⟩)], 1⟩ ?_
    obtain ⟨x3, hx3, h⟩ := bsome h
    refine One hT rfl (ev_index s24 .opt a0.Threads .i64 i2 hx3 (by decide) (by kernel_rfl) (by kernel_rfl)) ?_
    refine Sz hT 2 [3, 5, 7, 8, 9] ⟨[(3, vo 10003 0 (s30.F l1)), (5, .ps .opt (s32.F x3)), (7, .ps .opt (s24.F a0.Threads)), (8, vi (ln a0.Threads)), (9, vi i2)], [(10003, ⟨0, 3, 1, false, true, s30.F l1⟩)], 1⟩ ?_
    refine Rg hT 2 [7, 8, 9, 13, 14] ⟨[(7, .ps .opt (s24.F a0.Threads)), (8, vi (ln a0.Threads)), (9, vi i2), (13, vo 10003 0 (s30.F l1)), (14, .ps .opt (s32.F x3))], [(10003, ⟨0, 3, 1, false, true, s30.F l1⟩)], 1⟩ ?_
    obtain ⟨r4, hr4, h⟩ := bsome h
    refine Pt en63 (bound_block_ok hr4) ?_
    refine Sg hT 1 [7, 8, 9, 13, 16] ⟨[(7, .ps .opt (s24.F a0.Threads)), (8, vi (ln a0.Threads)), (9, vi i2), (13, vo 10003 0 (s30.F l1)), (16, vo 16 1 (s30.F [r4]))], [(16, ⟨1, 3, 1, false, false, s30.F [r4]⟩), (10003, ⟨0, 3, 1, false, true, s30.F l1⟩)], 2⟩ ?_
    obtain ⟨g5, h⟩ := gsome h
    refine WO_append hT s30 rfl (by kernel_rfl) 10003 0 true l1 [r4] rfl (by kernel_rfl) (by kernel_rfl) (elems_own s30 16 1 true ⟨1, 3, 1, false, false, s30.F [r4]⟩ [r4] (by kernel_rfl) (by kernel_rfl) rfl rfl rfl) g5 (by kernel_rfl) ?_
    refine Sz hT 1 [3, 7, 8, 9] ⟨[(3, vo 17 2 (s30.F (l1 ++ [r4]))), (7, .ps .opt (s24.F a0.Threads)), (8, vi (ln a0.Threads)), (9, vi i2)], [(17, ⟨2, 3, 1, false, true, s30.F (l1 ++ [r4])⟩), (16, ⟨1, 3, 1, false, false, s30.F [r4]⟩)], 3⟩ ?_
    refine Rg hT 2 [3, 7, 8, 9] ⟨[(3, vo 17 2 (s30.F (l1 ++ [r4]))), (7, .ps .opt (s24.F a0.Threads)), (8, vi (ln a0.Threads)), (9, vi (wr (i2 + 1)))], [(17, ⟨2, 3, 1, false, true, s30.F (l1 ++ [r4])⟩), (16, ⟨1, 3, 1, false, false, s30.F [r4]⟩)], 3⟩ ?_
    exact oK [3, 7, 8, 9] [(17, 10003, 0)] ⟨_, by omega, by omega, l1 ++ [r4], wr (i2 + 1), h, rfl⟩
  intro hb; replace h := cfalse hb h
  refine WA_exit ?_
  refine Qg hT 1 [19] ⟨[(19, vo 10003 0 (s30.F l1))], [(10003, ⟨0, 3, 1, false, true, s30.F l1⟩)], 1⟩ ?_
  refine WO_weak (Weak_frz 10003 0 ⟨0, 3, 1, false, true, s30.F l1⟩ (by kernel_rfl) rfl rfl [(19, .ps .opt (s30.F l1))] [] ⟨rfl, .hit true, trivial⟩ trivial) ?_
  obtain ⟨r6, hr6, h⟩ := bsome h
  refine Pt en64 (Clip_64_ok hr6) ?_
  refine Sz hT 1 [2] ⟨[(2, .ps .fopt (s30.F r6))], [], 1⟩ ?_
  obtain rfl := Option.some.inj h
  exact rK [2] [] ⟨[(2, .ps .fopt (s30.F r6))], [], 1⟩ ⟨by kernel_rfl, rfl⟩

def tree_listed_109_o_spec (n : Nat) : Prop := (∀ {a0 : List Stmt} {a1 : List Stmt} {r : List Stmt}, tree_listed_109_o n a0 a1 = some r → GO Try.prog 109 [(0, ⟨0, 38, 11, false, true, s32.F a0⟩)] [vo 0 0 (s32.F a0), .ps .opt (s32.F a1)] (vo 100 1 (s32.F r)) [(100, ⟨1, 38, 11, false, true, s32.F r⟩)])
theorem tree_listed_109_o_step (n : Nat) (ih : ∀ m, m < n → tree_listed_109_o_spec m) : ∀ {a0 : List Stmt} {a1 : List Stmt} {r : List Stmt}, tree_listed_109_o n a0 a1 = some r → GO Try.prog 109 [(0, ⟨0, 38, 11, false, true, s32.F a0⟩)] [vo 0 0 (s32.F a0), .ps .opt (s32.F a1)] (vo 100 1 (s32.F r)) [(100, ⟨1, 38, 11, false, true, s32.F r⟩)] := by
  intro a0 a1 r h
  rcases n with _ | n
  · rw [tree_listed_109_o] at h; cases h
  rw [tree_listed_109_o] at h
  refine GO_bodyA hT Try.func109 rfl [] (by kernel_rfl) fun bad w m => ?_
  refine Qz hT 1 [0, 1] ⟨[(0, vo 0 0 (s32.F a0)), (1, .ps .opt (s32.F a1))], [(0, ⟨0, 38, 11, false, true, s32.F a0⟩)], 1⟩ ?_
  refine WA_seq ?_
  refine Qg hT 1 [0, 7] ⟨[(0, vo 0 0 (s32.F a0)), (7, .ps .opt (s32.F a1))], [(0, ⟨0, 38, 11, false, true, s32.F a0⟩)], 1⟩ ?_
  refine One hT rfl (ev_len s32 .opt a1 (by kernel_rfl)) ?_
  refine Sz hT 1 [0, 7, 8, 9] ⟨[(0, vo 0 0 (s32.F a0)), (7, .ps .opt (s32.F a1)), (8, vi (ln a1)), (9, vi 0)], [(0, ⟨0, 38, 11, false, true, s32.F a0⟩)], 1⟩ ?_
  refine WA_block ?_
  refine lK [0, 7, 8, 9] [(0, 10000, 1)] (fun k s => ∃ q, q ≤ k ∧ q ≤ n ∧ ∃ (l1 : List Stmt), ∃ (i2 : Int), tree_listed_109_o_L0 q a0 a1 l1 i2 = some r ∧ s = ⟨[(0, vo 10000 1 (s32.F l1)), (7, .ps .opt (s32.F a1)), (8, vi (ln a1)), (9, vi i2)], [(10000, ⟨1, 38, 11, false, true, s32.F l1⟩)], 2⟩) n ⟨n, Nat.le_refl _, Nat.le_refl _, a0, 0, h, rfl⟩ (by rintro s ⟨q, hq, _, l1, i2, h, _⟩; obtain rfl := Nat.le_zero.1 hq; rw [tree_listed_109_o_L0] at h; cases h) ?_
  clear h
  rintro k1 s ⟨q1, hk1, hn1, l1, i2, h, rfl⟩
  rcases q1 with _ | q1
  · rw [tree_listed_109_o_L0] at h; cases h
  rw [tree_listed_109_o_L0] at h
  refine Qz hT 1 [0, 7, 8, 9, 10] ⟨[(0, vo 10000 1 (s32.F l1)), (7, .ps .opt (s32.F a1)), (8, vi (ln a1)), (9, vi i2), (10, vb (decide (i2 < (ln a1))))], [(10000, ⟨1, 38, 11, false, true, s32.F l1⟩)], 2⟩ ?_
  refine WA_seq ?_
  refine Cd (decide (i2 < (ln a1))) ?_ ?_
  · intro hb; replace h := ctrue hb h
    refine WA_skip ?_
    refine WA_seq ?_
    refine WA_block ?_
    refine Qg hT 0 [0, 7, 8, 9] ⟨[(0, vo 10000 1 (s32.F l1)), (7, .ps .opt (s32.F a1)), (8, vi (ln a1)), (9, vi i2)], [(10000, ⟨1, 38, 11, false, true, s32.F l1⟩)], 2⟩ ?_
    obtain ⟨x3, hx3, h⟩ := bsome h
    refine One hT rfl (ev_index s32 .opt a1 .i64 i2 hx3 (by decide) (by kernel_rfl) (by kernel_rfl)) ?_
    refine Sz hT 3 [0, 6, 7, 8, 9] ⟨[(0, vo 10000 1 (s32.F l1)), (6, .box 6 2 0 0), (7, .ps .opt (s32.F a1)), (8, vi (ln a1)), (9, vi i2)], [(6, ⟨2, 38, 11, true, false, [eStmt x3]⟩), (10000, ⟨1, 38, 11, false, true, s32.F l1⟩)], 3⟩ ?_
    refine WA_drawW hT hM (by kernel_rfl) ?_
    refine WD_seg 2 ⟨[(14, eStmt x3), (13, vo 10000 1 (s32.F l1)), (0, vo 10000 1 (s32.F l1)), (6, .box 6 2 0 0), (7, .ps .opt (s32.F a1)), (8, vi (ln a1)), (9, vi i2)], [(6, ⟨2, 38, 11, true, false, [eStmt x3]⟩), (10000, ⟨1, 38, 11, false, true, s32.F l1⟩)], 3⟩ [] [(1, [6])] (by kernel_rfl) (by kernel_rfl) ?_
    refine WD_loc rfl (by kernel_rfl) (by kernel_rfl) (by kernel_rfl) (ev_bsliceD s32 [x3] (by kernel_rfl)) (by kernel_rfl) ?_
    obtain ⟨g4, h⟩ := gsome h
    refine WD_wr rfl (by kernel_rfl) (by kernel_rfl) (by kernel_rfl) (ev_append s32 10000 1 true l1 [x3] (by kernel_rfl) (by kernel_rfl) (by kernel_rfl) (by simp) g4) (by kernel_rfl) ?_
    refine WD_seg 2 ⟨[(18, .ps .opt (s32.F x3.Body)), (17, .box 6 2 0 8), (16, vo 16 3 (s32.F (l1 ++ [x3]))), (15, .ps .full (s32.F [x3])), (14, eStmt x3), (13, vo 10000 1 (s32.F l1)), (0, vo 10000 1 (s32.F l1)), (6, .box 6 2 0 0), (7, .ps .opt (s32.F a1)), (8, vi (ln a1)), (9, vi i2)], [(16, ⟨3, 38, 11, false, false, s32.F (l1 ++ [x3])⟩), (6, ⟨2, 38, 11, true, false, [eStmt x3]⟩)], 4⟩ [(3, [16, 10000])] [(1, [6]), (4, [6]), (5, [6])] (by kernel_rfl) (by kernel_rfl) ?_
    obtain ⟨r5, hr5, h⟩ := bsome h
    refine WD_go rfl (by kernel_rfl) (by kernel_rfl) [(0, ⟨0, 38, 11, false, false, s32.F (l1 ++ [x3])⟩)] [(100, ⟨1, 38, 11, false, true, s32.F r5⟩)] [vo 16 3 (s32.F (l1 ++ [x3])), .ps .opt (s32.F x3.Body)] [vo 0 0 (s32.F (l1 ++ [x3])), .ps .opt (s32.F x3.Body)] [(16, 0, 0)] [(100, 19, 4)] [(19, ⟨4, 38, 11, false, true, s32.F r5⟩)] (vo 100 1 (s32.F r5)) (vo 19 4 (s32.F r5)) 5 rfl (by kernel_rfl) en109 (by kernel_rfl) (by kernel_rfl) (by kernel_rfl) (GO_leH (hA := [(0, ⟨0, 38, 11, false, true, s32.F (l1 ++ [x3])⟩)]) ⟨rfl, .inr (.inr rfl), trivial⟩ ((ih _ (by omega)) hr5)) (by kernel_rfl) (by kernel_rfl) (by kernel_rfl) (by kernel_rfl) ?_
    refine WD_seg 2 ⟨[(21, .ps .opt (s32.F x3.Else)), (20, .box 6 2 0 9), (19, vo 19 4 (s32.F r5)), (18, .ps .opt (s32.F x3.Body)), (17, .box 6 2 0 8), (16, vo 16 3 (s32.F (l1 ++ [x3]))), (15, .ps .full (s32.F [x3])), (14, eStmt x3), (13, vo 10000 1 (s32.F l1)), (0, vo 10000 1 (s32.F l1)), (6, .box 6 2 0 0), (7, .ps .opt (s32.F a1)), (8, vi (ln a1)), (9, vi i2)], [(19, ⟨4, 38, 11, false, true, s32.F r5⟩), (6, ⟨2, 38, 11, true, false, [eStmt x3]⟩)], 5⟩ [(3, [16, 10000]), (6, [19, 16])] [(1, [6]), (4, [6]), (5, [6]), (7, [6]), (8, [6])] (by kernel_rfl) (by kernel_rfl) ?_
    obtain ⟨r6, hr6, h⟩ := bsome h
    refine WD_go rfl (by kernel_rfl) (by kernel_rfl) [(0, ⟨0, 38, 11, false, true, s32.F r5⟩)] [(100, ⟨1, 38, 11, false, true, s32.F r6⟩)] [vo 19 4 (s32.F r5), .ps .opt (s32.F x3.Else)] [vo 0 0 (s32.F r5), .ps .opt (s32.F x3.Else)] [(19, 0, 0)] [(100, 22, 5)] [(22, ⟨5, 38, 11, false, true, s32.F r6⟩)] (vo 100 1 (s32.F r6)) (vo 22 5 (s32.F r6)) 6 rfl (by kernel_rfl) en109 (by kernel_rfl) (by kernel_rfl) (by kernel_rfl) ((ih _ (by omega)) hr6) (by kernel_rfl) (by kernel_rfl) (by kernel_rfl) (by kernel_rfl) ?_
    refine WD_seg 1 ⟨[(0, vo 22 5 (s32.F r6)), (22, vo 22 5 (s32.F r6)), (21, .ps .opt (s32.F x3.Else)), (20, .box 6 2 0 9), (19, vo 19 4 (s32.F r5)), (18, .ps .opt (s32.F x3.Body)), (17, .box 6 2 0 8), (16, vo 16 3 (s32.F (l1 ++ [x3]))), (15, .ps .full (s32.F [x3])), (14, eStmt x3), (13, vo 10000 1 (s32.F l1)), (0, vo 10000 1 (s32.F l1)), (6, .box 6 2 0 0), (7, .ps .opt (s32.F a1)), (8, vi (ln a1)), (9, vi i2)], [(22, ⟨5, 38, 11, false, true, s32.F r6⟩), (6, ⟨2, 38, 11, true, false, [eStmt x3]⟩)], 6⟩ [(3, [16, 10000]), (6, [19, 16]), (9, [22, 19])] [(1, [6]), (4, [6]), (5, [6]), (7, [6]), (8, [6])] (by kernel_rfl) (by kernel_rfl) ?_
    refine WD_end (by kernel_rfl) (by kernel_rfl) (by kernel_rfl) ?_
    refine Wk_done ?_
    refine Rg hT 2 [0, 7, 8, 9] ⟨[(0, vo 22 5 (s32.F r6)), (7, .ps .opt (s32.F a1)), (8, vi (ln a1)), (9, vi (wr (i2 + 1)))], [(22, ⟨5, 38, 11, false, true, s32.F r6⟩), (6, ⟨2, 38, 11, true, false, [eStmt x3]⟩)], 6⟩ ?_
    exact oK [0, 7, 8, 9] [(22, 10000, 1)] ⟨_, by omega, by omega, r6, wr (i2 + 1), h, rfl⟩
  intro hb; replace h := cfalse hb h
  refine WA_exit ?_
  refine Qz hT 2 [4] ⟨[(4, vo 10000 1 (s32.F l1))], [(10000, ⟨1, 38, 11, false, true, s32.F l1⟩)], 2⟩ ?_
  obtain rfl := Option.some.inj h
  exact rK [4] [(10000, 100, 1)] ⟨[(4, vo 100 1 (s32.F l1))], [(100, ⟨1, 38, 11, false, true, s32.F l1⟩)], 2⟩ ⟨by kernel_rfl, by kernel_rfl, rfl⟩
theorem tree_listed_109_o_all (n : Nat) : tree_listed_109_o_spec n := by
  induction n using Nat.strongRecOn with
  | _ n ih => exact tree_listed_109_o_step n ih
theorem tree_listed_109_o_ok {n : Nat} {a0 : List Stmt} {a1 : List Stmt} {r : List Stmt} (h : tree_listed_109_o n a0 a1 = some r) : GO Try.prog 109 [(0, ⟨0, 38, 11, false, true, s32.F a0⟩)] [vo 0 0 (s32.F a0), .ps .opt (s32.F a1)] (vo 100 1 (s32.F r)) [(100, ⟨1, 38, 11, false, true, s32.F r⟩)] := (tree_listed_109_o_all n) h

theorem tree_listed_109_n_ok {n : Nat} {a1 : List Stmt} {r : List Stmt} (h : tree_listed_109_n n a1 = some r) : GO Try.prog 109 [] [.ps .nil [], .ps .opt (s32.F a1)] (vo 100 1 (s32.F r)) [(100, ⟨1, 38, 11, false, true, s32.F r⟩)] := by
  unfold tree_listed_109_n at h
  refine GO_bodyA hT Try.func109 rfl [] (by kernel_rfl) fun bad w m => ?_
  refine Qz hT 1 [0, 1] ⟨[(0, .ps .nil []), (1, .ps .opt (s32.F a1))], [], 1⟩ ?_
  refine WA_seq ?_
  refine Qg hT 1 [0, 7] ⟨[(0, .ps .nil []), (7, .ps .opt (s32.F a1))], [], 1⟩ ?_
  refine One hT rfl (ev_len s32 .opt a1 (by kernel_rfl)) ?_
  refine Sz hT 1 [0, 7, 8, 9] ⟨[(0, .ps .nil []), (7, .ps .opt (s32.F a1)), (8, vi (ln a1)), (9, vi 0)], [], 1⟩ ?_
  refine WA_block ?_
  refine aW [0, 7, 8, 9] ⟨[(0, .ps .nil []), (7, .ps .opt (s32.F a1)), (8, vi (ln a1)), (9, vi 0)], [], 1⟩ ?_
  refine WA_weak (Weak_own 0 5000 38 11 (by kernel_rfl) (by kernel_rfl) (by kernel_rfl) (by kernel_rfl)) ?_
  refine lK [0, 7, 8, 9] [(5000, 10000, 1)] (fun k s => ∃ q, q ≤ k ∧ q ≤ n ∧ ∃ (l1 : List Stmt), ∃ (i2 : Int), tree_listed_109_n_L0 q a1 l1 i2 = some r ∧ s = ⟨[(0, vo 10000 1 (s32.F l1)), (7, .ps .opt (s32.F a1)), (8, vi (ln a1)), (9, vi i2)], [(10000, ⟨1, 38, 11, false, true, s32.F l1⟩)], 2⟩) n ⟨n, Nat.le_refl _, Nat.le_refl _, ([] : List Stmt), 0, h, rfl⟩ (by rintro s ⟨q, hq, _, l1, i2, h, _⟩; obtain rfl := Nat.le_zero.1 hq; rw [tree_listed_109_n_L0] at h; cases h) ?_
  clear h
  rintro k1 s ⟨q1, hk1, hn1, l1, i2, h, rfl⟩
  rcases q1 with _ | q1
  · rw [tree_listed_109_n_L0] at h; cases h
  rw [tree_listed_109_n_L0] at h
  refine Qz hT 1 [0, 7, 8, 9, 10] ⟨[(0, vo 10000 1 (s32.F l1)), (7, .ps .opt (s32.F a1)), (8, vi (ln a1)), (9, vi i2), (10, vb (decide (i2 < (ln a1))))], [(10000, ⟨1, 38, 11, false, true, s32.F l1⟩)], 2⟩ ?_
  refine WA_seq ?_
  refine Cd (decide (i2 < (ln a1))) ?_ ?_
  · intro hb; replace h := ctrue hb h
    refine WA_skip ?_
    refine WA_seq ?_
    refine WA_block ?_
    refine Qg hT 0 [0, 7, 8, 9] ⟨[(0, vo 10000 1 (s32.F l1)), (7, .ps .opt (s32.F a1)), (8, vi (ln a1)), (9, vi i2)], [(10000, ⟨1, 38, 11, false, true, s32.F l1⟩)], 2⟩ ?_
    obtain ⟨x3, hx3, h⟩ := bsome h
    refine One hT rfl (ev_index s32 .opt a1 .i64 i2 hx3 (by decide) (by kernel_rfl) (by kernel_rfl)) ?_
    refine Sz hT 3 [0, 6, 7, 8, 9] ⟨[(0, vo 10000 1 (s32.F l1)), (6, .box 6 2 0 0), (7, .ps .opt (s32.F a1)), (8, vi (ln a1)), (9, vi i2)], [(6, ⟨2, 38, 11, true, false, [eStmt x3]⟩), (10000, ⟨1, 38, 11, false, true, s32.F l1⟩)], 3⟩ ?_
    refine WA_drawW hT hM (by kernel_rfl) ?_
    refine WD_seg 2 ⟨[(14, eStmt x3), (13, vo 10000 1 (s32.F l1)), (0, vo 10000 1 (s32.F l1)), (6, .box 6 2 0 0), (7, .ps .opt (s32.F a1)), (8, vi (ln a1)), (9, vi i2)], [(6, ⟨2, 38, 11, true, false, [eStmt x3]⟩), (10000, ⟨1, 38, 11, false, true, s32.F l1⟩)], 3⟩ [] [(1, [6])] (by kernel_rfl) (by kernel_rfl) ?_
    refine WD_loc rfl (by kernel_rfl) (by kernel_rfl) (by kernel_rfl) (ev_bsliceD s32 [x3] (by kernel_rfl)) (by kernel_rfl) ?_
    obtain ⟨g4, h⟩ := gsome h
    refine WD_wr rfl (by kernel_rfl) (by kernel_rfl) (by kernel_rfl) (ev_append s32 10000 1 true l1 [x3] (by kernel_rfl) (by kernel_rfl) (by kernel_rfl) (by simp) g4) (by kernel_rfl) ?_
    refine WD_seg 2 ⟨[(18, .ps .opt (s32.F x3.Body)), (17, .box 6 2 0 8), (16, vo 16 3 (s32.F (l1 ++ [x3]))), (15, .ps .full (s32.F [x3])), (14, eStmt x3), (13, vo 10000 1 (s32.F l1)), (0, vo 10000 1 (s32.F l1)), (6, .box 6 2 0 0), (7, .ps .opt (s32.F a1)), (8, vi (ln a1)), (9, vi i2)], [(16, ⟨3, 38, 11, false, false, s32.F (l1 ++ [x3])⟩), (6, ⟨2, 38, 11, true, false, [eStmt x3]⟩)], 4⟩ [(3, [16, 10000])] [(1, [6]), (4, [6]), (5, [6])] (by kernel_rfl) (by kernel_rfl) ?_
    obtain ⟨r5, hr5, h⟩ := bsome h
    refine WD_go rfl (by kernel_rfl) (by kernel_rfl) [(0, ⟨0, 38, 11, false, false, s32.F (l1 ++ [x3])⟩)] [(100, ⟨1, 38, 11, false, true, s32.F r5⟩)] [vo 16 3 (s32.F (l1 ++ [x3])), .ps .opt (s32.F x3.Body)] [vo 0 0 (s32.F (l1 ++ [x3])), .ps .opt (s32.F x3.Body)] [(16, 0, 0)] [(100, 19, 4)] [(19, ⟨4, 38, 11, false, true, s32.F r5⟩)] (vo 100 1 (s32.F r5)) (vo 19 4 (s32.F r5)) 5 rfl (by kernel_rfl) en109 (by kernel_rfl) (by kernel_rfl) (by kernel_rfl) (GO_leH (hA := [(0, ⟨0, 38, 11, false, true, s32.F (l1 ++ [x3])⟩)]) ⟨rfl, .inr (.inr rfl), trivial⟩ (tree_listed_109_o_ok hr5)) (by kernel_rfl) (by kernel_rfl) (by kernel_rfl) (by kernel_rfl) ?_
    refine WD_seg 2 ⟨[(21, .ps .opt (s32.F x3.Else)), (20, .box 6 2 0 9), (19, vo 19 4 (s32.F r5)), (18, .ps .opt (s32.F x3.Body)), (17, .box 6 2 0 8), (16, vo 16 3 (s32.F (l1 ++ [x3]))), (15, .ps .full (s32.F [x3])), (14, eStmt x3), (13, vo 10000 1 (s32.F l1)), (0, vo 10000 1 (s32.F l1)), (6, .box 6 2 0 0), (7, .ps .opt (s32.F a1)), (8, vi (ln a1)), (9, vi i2)], [(19, ⟨4, 38, 11, false, true, s32.F r5⟩), (6, ⟨2, 38, 11, true, false, [eStmt x3]⟩)], 5⟩ [(3, [16, 10000]), (6, [19, 16])] [(1, [6]), (4, [6]), (5, [6]), (7, [6]), (8, [6])] (by kernel_rfl) (by kernel_rfl) ?_
    obtain ⟨r6, hr6, h⟩ := bsome h
    refine WD_go rfl (by kernel_rfl) (by kernel_rfl) [(0, ⟨0, 38, 11, false, true, s32.F r5⟩)] [(100, ⟨1, 38, 11, false, true, s32.F r6⟩)] [vo 19 4 (s32.F r5), .ps .opt (s32.F x3.Else)] [vo 0 0 (s32.F r5), .ps .opt (s32.F x3.Else)] [(19, 0, 0)] [(100, 22, 5)] [(22, ⟨5, 38, 11, false, true, s32.F r6⟩)] (vo 100 1 (s32.F r6)) (vo 22 5 (s32.F r6)) 6 rfl (by kernel_rfl) en109 (by kernel_rfl) (by kernel_rfl) (by kernel_rfl) (tree_listed_109_o_ok hr6) (by kernel_rfl) (by kernel_rfl) (by kernel_rfl) (by kernel_rfl) ?_
    refine WD_seg 1 ⟨[(0, vo 22 5 (s32.F r6)), (22, vo 22 5 (s32.F r6)), (21, .ps .opt (s32.F x3.Else)), (20, .box 6 2 0 9), (19, vo 19 4 (s32.F r5)), (18, .ps .opt (s32.F x3.Body)), (17, .box 6 2 0 8), (16, vo 16 3 (s32.F (l1 ++ [x3]))), (15, .ps .full (s32.F [x3])), (14, eStmt x3), (13, vo 10000 1 (s32.F l1)), (0, vo 10000 1 (s32.F l1)), (6, .box 6 2 0 0), (7, .ps .opt (s32.F a1)), (8, vi (ln a1)), (9, vi i2)], [(22, ⟨5, 38, 11, false, true, s32.F r6⟩), (6, ⟨2, 38, 11, true, false, [eStmt x3]⟩)], 6⟩ [(3, [16, 10000]), (6, [19, 16]), (9, [22, 19])] [(1, [6]), (4, [6]), (5, [6]), (7, [6]), (8, [6])] (by kernel_rfl) (by kernel_rfl) ?_
    refine WD_end (by kernel_rfl) (by kernel_rfl) (by kernel_rfl) ?_
    refine Wk_done ?_
    refine Rg hT 2 [0, 7, 8, 9] ⟨[(0, vo 22 5 (s32.F r6)), (7, .ps .opt (s32.F a1)), (8, vi (ln a1)), (9, vi (wr (i2 + 1)))], [(22, ⟨5, 38, 11, false, true, s32.F r6⟩), (6, ⟨2, 38, 11, true, false, [eStmt x3]⟩)], 6⟩ ?_
    exact oK [0, 7, 8, 9] [(22, 10000, 1)] ⟨_, by omega, by omega, r6, wr (i2 + 1), h, rfl⟩
  intro hb; replace h := cfalse hb h
  refine WA_exit ?_
  refine Qz hT 2 [4] ⟨[(4, vo 10000 1 (s32.F l1))], [(10000, ⟨1, 38, 11, false, true, s32.F l1⟩)], 2⟩ ?_
  obtain rfl := Option.some.inj h
  exact rK [4] [(10000, 100, 1)] ⟨[(4, vo 100 1 (s32.F l1))], [(100, ⟨1, 38, 11, false, true, s32.F l1⟩)], 2⟩ ⟨by kernel_rfl, by kernel_rfl, rfl⟩

theorem math_bits_Mul64_ok {n : Nat} {a0 : Int} {a1 : Int} {r : Int × Int} (h : math_bits_Mul64 n a0 a1 = some r) : PT Try.prog 153 [.p (.int .u64 a0), .p (.int .u64 a1)] (.tup [.p (.int .u64 r.1), .p (.int .u64 r.2)]) := by
  unfold math_bits_Mul64 at h
  refine PT_bodyA hT Try.func153 rfl (by kernel_rfl) fun bad w => ?_
  refine Qz hT 2 [0, 1] ⟨[(0, .p (.int .u64 a0)), (1, .p (.int .u64 a1))], [], 0⟩ ?_
  refine Qz hT 3 [0, 1, 6] ⟨[(0, .p (.int .u64 a0)), (1, .p (.int .u64 a1)), (6, .p (.int .u64 (IntKind.u64.wrap ((BitVec.ofInt 64 a0 &&& BitVec.ofInt 64 4294967295).toNat : Nat))))], [], 0⟩ ?_
  refine Qg hT 1 [0, 1, 6, 16] ⟨[(0, .p (.int .u64 a0)), (1, .p (.int .u64 a1)), (6, .p (.int .u64 (IntKind.u64.wrap ((BitVec.ofInt 64 a0 &&& BitVec.ofInt 64 4294967295).toNat : Nat)))), (16, .p (.int .u64 a0))], [], 0⟩ ?_
  obtain ⟨x1, hx1, h⟩ := bsome h
  refine One hT rfl (ev_shr .u64 .u64 a0 32 hx1 (by kernel_rfl) (by kernel_rfl)) ?_
  refine Sz hT 1 [0, 1, 6, 7] ⟨[(0, .p (.int .u64 a0)), (1, .p (.int .u64 a1)), (6, .p (.int .u64 (IntKind.u64.wrap ((BitVec.ofInt 64 a0 &&& BitVec.ofInt 64 4294967295).toNat : Nat)))), (7, .p (.int .u64 x1))], [], 0⟩ ?_
  refine Qz hT 3 [0, 1, 6, 7, 8] ⟨[(0, .p (.int .u64 a0)), (1, .p (.int .u64 a1)), (6, .p (.int .u64 (IntKind.u64.wrap ((BitVec.ofInt 64 a0 &&& BitVec.ofInt 64 4294967295).toNat : Nat)))), (7, .p (.int .u64 x1)), (8, .p (.int .u64 (IntKind.u64.wrap ((BitVec.ofInt 64 a1 &&& BitVec.ofInt 64 4294967295).toNat : Nat))))], [], 0⟩ ?_
  refine Qg hT 1 [0, 1, 6, 7, 8, 20] ⟨[(0, .p (.int .u64 a0)), (1, .p (.int .u64 a1)), (6, .p (.int .u64 (IntKind.u64.wrap ((BitVec.ofInt 64 a0 &&& BitVec.ofInt 64 4294967295).toNat : Nat)))), (7, .p (.int .u64 x1)), (8, .p (.int .u64 (IntKind.u64.wrap ((BitVec.ofInt 64 a1 &&& BitVec.ofInt 64 4294967295).toNat : Nat)))), (20, .p (.int .u64 a1))], [], 0⟩ ?_
  obtain ⟨x2, hx2, h⟩ := bsome h
  refine One hT rfl (ev_shr .u64 .u64 a1 32 hx2 (by kernel_rfl) (by kernel_rfl)) ?_
  refine Sz hT 1 [0, 1, 6, 7, 8, 9] ⟨[(0, .p (.int .u64 a0)), (1, .p (.int .u64 a1)), (6, .p (.int .u64 (IntKind.u64.wrap ((BitVec.ofInt 64 a0 &&& BitVec.ofInt 64 4294967295).toNat : Nat)))), (7, .p (.int .u64 x1)), (8, .p (.int .u64 (IntKind.u64.wrap ((BitVec.ofInt 64 a1 &&& BitVec.ofInt 64 4294967295).toNat : Nat)))), (9, .p (.int .u64 x2))], [], 0⟩ ?_
  refine Qz hT 4 [0, 1, 6, 7, 8, 9, 10] ⟨[(0, .p (.int .u64 a0)), (1, .p (.int .u64 a1)), (6, .p (.int .u64 (IntKind.u64.wrap ((BitVec.ofInt 64 a0 &&& BitVec.ofInt 64 4294967295).toNat : Nat)))), (7, .p (.int .u64 x1)), (8, .p (.int .u64 (IntKind.u64.wrap ((BitVec.ofInt 64 a1 &&& BitVec.ofInt 64 4294967295).toNat : Nat)))), (9, .p (.int .u64 x2)), (10, .p (.int .u64 (IntKind.u64.wrap ((IntKind.u64.wrap ((BitVec.ofInt 64 a0 &&& BitVec.ofInt 64 4294967295).toNat : Nat)) * (IntKind.u64.wrap ((BitVec.ofInt 64 a1 &&& BitVec.ofInt 64 4294967295).toNat : Nat))))))], [], 0⟩ ?_
  refine Qg hT 4 [0, 1, 6, 7, 9, 27, 28] ⟨[(0, .p (.int .u64 a0)), (1, .p (.int .u64 a1)), (6, .p (.int .u64 (IntKind.u64.wrap ((BitVec.ofInt 64 a0 &&& BitVec.ofInt 64 4294967295).toNat : Nat)))), (7, .p (.int .u64 x1)), (9, .p (.int .u64 x2)), (27, .p (.int .u64 (IntKind.u64.wrap (x1 * (IntKind.u64.wrap ((BitVec.ofInt 64 a1 &&& BitVec.ofInt 64 4294967295).toNat : Nat)))))), (28, .p (.int .u64 (IntKind.u64.wrap ((IntKind.u64.wrap ((BitVec.ofInt 64 a0 &&& BitVec.ofInt 64 4294967295).toNat : Nat)) * (IntKind.u64.wrap ((BitVec.ofInt 64 a1 &&& BitVec.ofInt 64 4294967295).toNat : Nat))))))], [], 0⟩ ?_
  obtain ⟨x3, hx3, h⟩ := bsome h
  refine One hT rfl (ev_shr .u64 .u64 (IntKind.u64.wrap ((IntKind.u64.wrap ((BitVec.ofInt 64 a0 &&& BitVec.ofInt 64 4294967295).toNat : Nat)) * (IntKind.u64.wrap ((BitVec.ofInt 64 a1 &&& BitVec.ofInt 64 4294967295).toNat : Nat)))) 32 hx3 (by kernel_rfl) (by kernel_rfl)) ?_
  refine Sz hT 2 [0, 1, 6, 7, 9, 11] ⟨[(0, .p (.int .u64 a0)), (1, .p (.int .u64 a1)), (6, .p (.int .u64 (IntKind.u64.wrap ((BitVec.ofInt 64 a0 &&& BitVec.ofInt 64 4294967295).toNat : Nat)))), (7, .p (.int .u64 x1)), (9, .p (.int .u64 x2)), (11, .p (.int .u64 (IntKind.u64.wrap ((IntKind.u64.wrap (x1 * (IntKind.u64.wrap ((BitVec.ofInt 64 a1 &&& BitVec.ofInt 64 4294967295).toNat : Nat)))) + x3))))], [], 0⟩ ?_
  refine Qz hT 3 [0, 1, 6, 7, 9, 11, 12] ⟨[(0, .p (.int .u64 a0)), (1, .p (.int .u64 a1)), (6, .p (.int .u64 (IntKind.u64.wrap ((BitVec.ofInt 64 a0 &&& BitVec.ofInt 64 4294967295).toNat : Nat)))), (7, .p (.int .u64 x1)), (9, .p (.int .u64 x2)), (11, .p (.int .u64 (IntKind.u64.wrap ((IntKind.u64.wrap (x1 * (IntKind.u64.wrap ((BitVec.ofInt 64 a1 &&& BitVec.ofInt 64 4294967295).toNat : Nat)))) + x3)))), (12, .p (.int .u64 (IntKind.u64.wrap ((BitVec.ofInt 64 (IntKind.u64.wrap ((IntKind.u64.wrap (x1 * (IntKind.u64.wrap ((BitVec.ofInt 64 a1 &&& BitVec.ofInt 64 4294967295).toNat : Nat)))) + x3)) &&& BitVec.ofInt 64 4294967295).toNat : Nat))))], [], 0⟩ ?_
  refine Qg hT 1 [0, 1, 6, 7, 9, 12, 33] ⟨[(0, .p (.int .u64 a0)), (1, .p (.int .u64 a1)), (6, .p (.int .u64 (IntKind.u64.wrap ((BitVec.ofInt 64 a0 &&& BitVec.ofInt 64 4294967295).toNat : Nat)))), (7, .p (.int .u64 x1)), (9, .p (.int .u64 x2)), (12, .p (.int .u64 (IntKind.u64.wrap ((BitVec.ofInt 64 (IntKind.u64.wrap ((IntKind.u64.wrap (x1 * (IntKind.u64.wrap ((BitVec.ofInt 64 a1 &&& BitVec.ofInt 64 4294967295).toNat : Nat)))) + x3)) &&& BitVec.ofInt 64 4294967295).toNat : Nat)))), (33, .p (.int .u64 (IntKind.u64.wrap ((IntKind.u64.wrap (x1 * (IntKind.u64.wrap ((BitVec.ofInt 64 a1 &&& BitVec.ofInt 64 4294967295).toNat : Nat)))) + x3))))], [], 0⟩ ?_
  obtain ⟨x4, hx4, h⟩ := bsome h
  refine One hT rfl (ev_shr .u64 .u64 (IntKind.u64.wrap ((IntKind.u64.wrap (x1 * (IntKind.u64.wrap ((BitVec.ofInt 64 a1 &&& BitVec.ofInt 64 4294967295).toNat : Nat)))) + x3)) 32 hx4 (by kernel_rfl) (by kernel_rfl)) ?_
  refine Sz hT 1 [0, 1, 6, 7, 9, 12, 13] ⟨[(0, .p (.int .u64 a0)), (1, .p (.int .u64 a1)), (6, .p (.int .u64 (IntKind.u64.wrap ((BitVec.ofInt 64 a0 &&& BitVec.ofInt 64 4294967295).toNat : Nat)))), (7, .p (.int .u64 x1)), (9, .p (.int .u64 x2)), (12, .p (.int .u64 (IntKind.u64.wrap ((BitVec.ofInt 64 (IntKind.u64.wrap ((IntKind.u64.wrap (x1 * (IntKind.u64.wrap ((BitVec.ofInt 64 a1 &&& BitVec.ofInt 64 4294967295).toNat : Nat)))) + x3)) &&& BitVec.ofInt 64 4294967295).toNat : Nat)))), (13, .p (.int .u64 x4))], [], 0⟩ ?_
  refine Qz hT 6 [0, 1, 7, 9, 12, 13] ⟨[(0, .p (.int .u64 a0)), (1, .p (.int .u64 a1)), (7, .p (.int .u64 x1)), (9, .p (.int .u64 x2)), (12, .p (.int .u64 (IntKind.u64.wrap ((IntKind.u64.wrap ((BitVec.ofInt 64 (IntKind.u64.wrap ((IntKind.u64.wrap (x1 * (IntKind.u64.wrap ((BitVec.ofInt 64 a1 &&& BitVec.ofInt 64 4294967295).toNat : Nat)))) + x3)) &&& BitVec.ofInt 64 4294967295).toNat : Nat)) + (IntKind.u64.wrap ((IntKind.u64.wrap ((BitVec.ofInt 64 a0 &&& BitVec.ofInt 64 4294967295).toNat : Nat)) * x2)))))), (13, .p (.int .u64 x4))], [], 0⟩ ?_
  refine Qg hT 6 [0, 1, 44, 45] ⟨[(0, .p (.int .u64 a0)), (1, .p (.int .u64 a1)), (44, .p (.int .u64 (IntKind.u64.wrap ((IntKind.u64.wrap (x1 * x2)) + x4)))), (45, .p (.int .u64 (IntKind.u64.wrap ((IntKind.u64.wrap ((BitVec.ofInt 64 (IntKind.u64.wrap ((IntKind.u64.wrap (x1 * (IntKind.u64.wrap ((BitVec.ofInt 64 a1 &&& BitVec.ofInt 64 4294967295).toNat : Nat)))) + x3)) &&& BitVec.ofInt 64 4294967295).toNat : Nat)) + (IntKind.u64.wrap ((IntKind.u64.wrap ((BitVec.ofInt 64 a0 &&& BitVec.ofInt 64 4294967295).toNat : Nat)) * x2))))))], [], 0⟩ ?_
  obtain ⟨x5, hx5, h⟩ := bsome h
  refine One hT rfl (ev_shr .u64 .u64 (IntKind.u64.wrap ((IntKind.u64.wrap ((BitVec.ofInt 64 (IntKind.u64.wrap ((IntKind.u64.wrap (x1 * (IntKind.u64.wrap ((BitVec.ofInt 64 a1 &&& BitVec.ofInt 64 4294967295).toNat : Nat)))) + x3)) &&& BitVec.ofInt 64 4294967295).toNat : Nat)) + (IntKind.u64.wrap ((IntKind.u64.wrap ((BitVec.ofInt 64 a0 &&& BitVec.ofInt 64 4294967295).toNat : Nat)) * x2)))) 32 hx5 (by kernel_rfl) (by kernel_rfl)) ?_
  refine Sz hT 2 [0, 1, 4] ⟨[(0, .p (.int .u64 a0)), (1, .p (.int .u64 a1)), (4, .p (.int .u64 (IntKind.u64.wrap ((IntKind.u64.wrap ((IntKind.u64.wrap (x1 * x2)) + x4)) + x5))))], [], 0⟩ ?_
  refine Qz hT 4 [4, 5] ⟨[(4, .p (.int .u64 (IntKind.u64.wrap ((IntKind.u64.wrap ((IntKind.u64.wrap (x1 * x2)) + x4)) + x5)))), (5, .p (.int .u64 (IntKind.u64.wrap (a0 * a1))))], [], 0⟩ ?_
  obtain rfl := Option.some.inj h
  exact rK [4, 5] [] ⟨[(4, .p (.int .u64 (IntKind.u64.wrap ((IntKind.u64.wrap ((IntKind.u64.wrap (x1 * x2)) + x4)) + x5)))), (5, .p (.int .u64 (IntKind.u64.wrap (a0 * a1))))], [], 1⟩ ⟨by kernel_rfl, rfl⟩

theorem math_bits_Mul_ok {n : Nat} {a0 : Int} {a1 : Int} {r : Int × Int} (h : math_bits_Mul n a0 a1 = some r) : PT Try.prog 135 [.p (.int .u64 a0), .p (.int .u64 a1)] (.tup [.p (.int .u64 r.1), .p (.int .u64 r.2)]) := by
  unfold math_bits_Mul at h
  refine PT_bodyA hT Try.func135 rfl (by kernel_rfl) fun bad w => ?_
  refine Qz hT 2 [0, 1] ⟨[(0, .p (.int .u64 a0)), (1, .p (.int .u64 a1))], [], 0⟩ ?_
  refine WA_seq ?_
  refine WA_cond false (by kernel_rfl) (fun hb => by cases hb) (fun _ => ?_)
  refine WA_skip ?_
  refine Qg hT 2 [23, 24] ⟨[(23, .p (.int .u64 a0)), (24, .p (.int .u64 a1))], [], 0⟩ ?_
  obtain ⟨r1, hr1, h⟩ := bsome h
  refine Pt en153 (math_bits_Mul64_ok hr1) ?_
  refine Sz hT 5 [8, 9] ⟨[(8, .p (.int .u64 r1.1)), (9, .p (.int .u64 r1.2))], [], 0⟩ ?_
  refine Qz hT 4 [4, 5] ⟨[(4, .p (.int .u64 r1.1)), (5, .p (.int .u64 r1.2))], [], 0⟩ ?_
  obtain rfl := Option.some.inj h
  exact rK [4, 5] [] ⟨[(4, .p (.int .u64 r1.1)), (5, .p (.int .u64 r1.2))], [], 1⟩ ⟨by kernel_rfl, rfl⟩

theorem Repeat_108_ok {n : Nat} {a0 : List Int} {a1 : Int} {r : List Int} (h : Repeat_108 n a0 a1 = some r) : GO Try.prog 108 [] [.ps .opt (s30.F a0), vi a1] (vo 100 1 (s30.F r)) [(100, ⟨1, 3, 1, false, true, s30.F r⟩)] := by
  unfold Repeat_108 at h
  refine GO_bodyA hT Try.func108 rfl [] (by kernel_rfl) fun bad w m => ?_
  refine Qz hT 1 [0, 1] ⟨[(0, .ps .opt (s30.F a0)), (1, vi a1)], [], 1⟩ ?_
  refine WA_seq ?_
  refine Qz hT 2 [0, 1, 10] ⟨[(0, .ps .opt (s30.F a0)), (1, vi a1), (10, vb (decide (a1 < 0)))], [], 1⟩ ?_
  refine Cd (decide (a1 < 0)) ?_ ?_
  · intro hb; replace h := ctrue hb h
    refine WA_region ?_
    cases h
  intro hb; replace h := cfalse hb h
  refine WA_skip ?_
  refine Qg hT 1 [0, 1, 13] ⟨[(0, .ps .opt (s30.F a0)), (1, vi a1), (13, .ps .opt (s30.F a0))], [], 1⟩ ?_
  refine One hT rfl (ev_len s30 .opt a0 (by kernel_rfl)) ?_
  refine Sg hT 3 [0, 15, 17] ⟨[(0, .ps .opt (s30.F a0)), (15, .p (.int .u64 (IntKind.u64.wrap (ln a0)))), (17, .p (.int .u64 (IntKind.u64.wrap a1)))], [], 1⟩ ?_
  obtain ⟨r1, hr1, h⟩ := bsome h
  refine Pt en135 (math_bits_Mul_ok hr1) ?_
  refine Sz hT 5 [0, 5, 6] ⟨[(0, .ps .opt (s30.F a0)), (5, .p (.int .u64 r1.1)), (6, .p (.int .u64 r1.2))], [], 1⟩ ?_
  refine WA_seq ?_
  refine WA_seq ?_
  obtain ⟨J3, hJ3, h⟩ := jsome h
  refine WA_join (fun s => ∃ (b2 : Bool), J3 b2 = some r ∧ s = ⟨[(0, .ps .opt (s30.F a0)), (6, .p (.int .u64 r1.2)), (26, vb b2)], [], 2⟩) ?_ ?_
  · refine Rg hT 3 [0, 6, 23] ⟨[(0, .ps .opt (s30.F a0)), (6, .p (.int .u64 r1.2)), (23, vb (decide (r1.1 > 0)))], [], 1⟩ ?_
    cases hb : (decide (r1.1 > 0) : Bool)
    · replace h := cfalse hb h
      refine Sg hT 3 [0, 6, 26] ⟨[(0, .ps .opt (s30.F a0)), (6, .p (.int .u64 r1.2)), (26, vb (decide (r1.2 > 9223372036854775807)))], [], 1⟩ ?_
      exact oK [0, 6, 26] [] ⟨decide (r1.2 > 9223372036854775807), h, rfl⟩
    replace h := ctrue hb h
    refine Sg hT 3 [0, 6, 26] ⟨[(0, .ps .opt (s30.F a0)), (6, .p (.int .u64 r1.2)), (26, vb true)], [], 1⟩ ?_
    exact oK [0, 6, 26] [] ⟨true, h, rfl⟩
  subst hJ3
  rintro s ⟨b2, h, rfl⟩
  refine Cd b2 ?_ ?_
  · intro hb; replace h := ctrue hb h
    refine WA_region ?_
    cases h
  intro hb; replace h := cfalse hb h
  refine WA_skip ?_
  refine Qg hT 2 [0, 29] ⟨[(0, .ps .opt (s30.F a0)), (29, vi (wr r1.2))], [], 2⟩ ?_
  obtain ⟨g4, h⟩ := gsome h
  refine One hT rfl (ev_make s30 (wr r1.2) 0 g4 (by kernel_rfl) (by kernel_rfl) rfl) ?_
  refine Sz hT 1 [0, 7] ⟨[(0, .ps .opt (s30.F a0)), (7, vo 30 2 (s30.F (List.replicate (wr r1.2).toNat (0 : Int))))], [(30, ⟨2, 3, 1, false, false, s30.F (List.replicate (wr r1.2).toNat (0 : Int))⟩)], 3⟩ ?_
  refine Qg hT 2 [7, 31, 32] ⟨[(7, vo 30 2 (s30.F (List.replicate (wr r1.2).toNat (0 : Int)))), (31, vo 30 2 (s30.F (List.replicate (wr r1.2).toNat (0 : Int)))), (32, .ps .opt (s30.F a0))], [(30, ⟨2, 3, 1, false, false, s30.F (List.replicate (wr r1.2).toNat (0 : Int))⟩)], 3⟩ ?_
  refine One hT rfl (ev_copy s30 30 2 (List.replicate (wr r1.2).toNat (0 : Int)) a0 (by kernel_rfl) (by kernel_rfl) (by kernel_rfl)) ?_
  refine WO_weak (Weak_leH [(33, vi ((min a0.length (List.replicate (wr r1.2).toNat (0 : Int)).length : Nat) : Int)), (7, vo 30 2 (s30.F (lcopy (List.replicate (wr r1.2).toNat (0 : Int)) a0))), (31, vo 30 2 (s30.F (lcopy (List.replicate (wr r1.2).toNat (0 : Int)) a0))), (32, .ps .opt (s30.F a0))] [(30, ⟨2, 3, 1, false, false, s30.F (lcopy (List.replicate (wr r1.2).toNat (0 : Int)) a0)⟩)] (by kernel_rfl) ⟨VLf.refl _, (VLf.slen (by simp [TE.len, lcopy_length, rcopy_length])), (VLf.slen (by simp [TE.len, lcopy_length, rcopy_length])), VLf.refl _, trivial⟩ (HLe.refl _)) ?_
  refine Sz hT 1 [7, 8] ⟨[(7, vo 30 2 (s30.F (lcopy (List.replicate (wr r1.2).toNat (0 : Int)) a0))), (8, vi ((min a0.length (List.replicate (wr r1.2).toNat (0 : Int)).length : Nat) : Int))], [(30, ⟨2, 3, 1, false, false, s30.F (lcopy (List.replicate (wr r1.2).toNat (0 : Int)) a0)⟩)], 3⟩ ?_
  refine WA_seq ?_
  refine WA_block ?_
  refine lK [7, 8] [(30, 30, 1)] (fun k s => ∃ q, q ≤ k ∧ q ≤ n ∧ ∃ (l5 : List Int), ∃ (i6 : Int), Repeat_108_L0 q a0 a1 r1 b2 l5 i6 = some r ∧ s = ⟨[(7, vo 30 1 (s30.F l5)), (8, vi i6)], [(30, ⟨1, 3, 1, false, false, s30.F l5⟩)], 2⟩) n ⟨n, Nat.le_refl _, Nat.le_refl _, lcopy (List.replicate (wr r1.2).toNat (0 : Int)) a0, ((min a0.length (List.replicate (wr r1.2).toNat (0 : Int)).length : Nat) : Int), h, rfl⟩ (by rintro s ⟨q, hq, _, l5, i6, h, _⟩; obtain rfl := Nat.le_zero.1 hq; rw [Repeat_108_L0] at h; cases h) ?_
  clear h
  rintro k1 s ⟨q1, hk1, hn1, l5, i6, h, rfl⟩
  rcases q1 with _ | q1
  · rw [Repeat_108_L0] at h; cases h
  rw [Repeat_108_L0] at h
  refine WA_seq ?_
  refine Qg hT 2 [7, 8, 34, 35] ⟨[(7, vo 30 1 (s30.F l5)), (8, vi i6), (34, vi i6), (35, vo 30 1 (s30.F l5))], [(30, ⟨1, 3, 1, false, false, s30.F l5⟩)], 2⟩ ?_
  refine One hT rfl (ev_len_own s30 30 1 true ⟨1, 3, 1, false, false, s30.F l5⟩ l5 (by kernel_rfl) rfl rfl) ?_
  refine Sz hT 1 [7, 8, 37] ⟨[(7, vo 30 1 (s30.F l5)), (8, vi i6), (37, vb (decide (i6 < (ln l5))))], [(30, ⟨1, 3, 1, false, false, s30.F l5⟩)], 2⟩ ?_
  refine Cd (decide (i6 < (ln l5))) ?_ ?_
  · intro hb; replace h := ctrue hb h
    refine WA_skip ?_
    refine WA_block ?_
    refine WA_drawW hT hM (by kernel_rfl) ?_
    refine WD_seg 3 ⟨[(40, vi i6), (39, vo 30 1 (s30.F l5)), (38, vi i6), (7, vo 30 1 (s30.F l5)), (8, vi i6), (37, vb (decide (i6 < (ln l5))))], [(30, ⟨1, 3, 1, false, false, s30.F l5⟩)], 2⟩ [] [] (by kernel_rfl) (by kernel_rfl) ?_
    obtain ⟨g7, h⟩ := gsome h
    refine WD_loc rfl (by kernel_rfl) (by kernel_rfl) (by kernel_rfl) (ev_subR s30 30 1 l5 i6 g7 (by kernel_rfl) (by kernel_rfl) (by kernel_rfl)) (by kernel_rfl) ?_
    refine WD_seg 2 ⟨[(43, vi i6), (42, vo 30 1 (s30.F l5)), (41, .sl 30 1 i6.toNat (l5.length - i6.toNat) false), (40, vi i6), (39, vo 30 1 (s30.F l5)), (38, vi i6), (7, vo 30 1 (s30.F l5)), (8, vi i6), (37, vb (decide (i6 < (ln l5))))], [(30, ⟨1, 3, 1, false, false, s30.F l5⟩)], 2⟩ [] [(3, [30])] (by kernel_rfl) (by kernel_rfl) ?_
    obtain ⟨g8, h⟩ := gsome h
    refine WD_loc rfl (by kernel_rfl) (by kernel_rfl) (by kernel_rfl) (ev_subL s30 30 1 l5 i6 g8 (by kernel_rfl) (by kernel_rfl) (by kernel_rfl)) (by kernel_rfl) ?_
    obtain ⟨g9, h⟩ := gsome h
    refine WD_wr rfl (by kernel_rfl) (by kernel_rfl) (by kernel_rfl) (ev_rcopy s30 30 1 l5 i6 g9 (by kernel_rfl) (by kernel_rfl) (by kernel_rfl)) (by kernel_rfl) ?_
    refine WD_seg 2 ⟨[(8, vi (wr (i6 + ((min i6.toNat (l5.length - i6.toNat) : Nat) : Int)))), (46, vi (wr (i6 + ((min i6.toNat (l5.length - i6.toNat) : Nat) : Int)))), (45, vi ((min i6.toNat (l5.length - i6.toNat) : Nat) : Int)), (44, .sl 30 1 0 i6.toNat true), (43, vi i6), (42, vo 30 1 (s30.F l5)), (41, .sl 30 1 i6.toNat (l5.length - i6.toNat) false), (40, vi i6), (39, vo 30 1 (s30.F l5)), (38, vi i6), (7, vo 30 1 (s30.F l5)), (8, vi i6), (37, vb (decide (i6 < (ln l5))))], [(30, ⟨1, 3, 1, false, false, s30.F (rcopy l5 i6.toNat)⟩)], 2⟩ [(7, [45, 30, 30])] [(3, [30]), (6, [30])] (by kernel_rfl) (by kernel_rfl) ?_
    refine WD_end (by kernel_rfl) (by kernel_rfl) (by kernel_rfl) ?_
    refine kW [7, 8] ⟨[(7, vo 30 1 (s30.F l5)), (8, vi (wr (i6 + ((min i6.toNat (l5.length - i6.toNat) : Nat) : Int))))], [(30, ⟨1, 3, 1, false, false, s30.F (rcopy l5 i6.toNat)⟩)], 2⟩ ?_
    refine Wk_step (Weak_leH [(7, vo 30 1 (s30.F (rcopy l5 i6.toNat))), (8, vi (wr (i6 + ((min i6.toNat (l5.length - i6.toNat) : Nat) : Int))))] [(30, ⟨1, 3, 1, false, false, s30.F (rcopy l5 i6.toNat)⟩)] (by kernel_rfl) ⟨(VLf.slen (by simp [TE.len, lcopy_length, rcopy_length])), VLf.refl _, trivial⟩ (HLe.refl _)) ?_
    exact wK [7, 8] [(30, 30, 1)] ⟨_, by omega, by omega, rcopy l5 i6.toNat, wr (i6 + ((min i6.toNat (l5.length - i6.toNat) : Nat) : Int)), h, rfl⟩
  intro hb; replace h := cfalse hb h
  refine WA_exit ?_
  refine Qz hT 2 [4] ⟨[(4, vo 30 1 (s30.F l5))], [(30, ⟨1, 3, 1, false, false, s30.F l5⟩)], 2⟩ ?_
  refine aW [4] ⟨[(4, vo 30 1 (s30.F l5))], [(30, ⟨1, 3, 1, false, false, s30.F l5⟩)], 2⟩ ?_
  refine WA_weak (Weak_leH [(4, vo 30 1 (s30.F l5))] [(30, ⟨1, 3, 1, false, true, s30.F l5⟩)] (by kernel_rfl) ⟨VLf.refl _, trivial⟩ ⟨rfl, .inr (.inr rfl), trivial⟩) ?_
  obtain rfl := Option.some.inj h
  exact rR [(30, 100, 1)] ⟨[(4, vo 100 1 (s30.F l5))], [(100, ⟨1, 3, 1, false, true, s30.F l5⟩)], 2⟩ ⟨by kernel_rfl, by kernel_rfl, rfl⟩

theorem tree_Threads_ok {n : Nat} {a0 : Prog} {r : List Int} (h : tree_Threads n a0 = some r) : PT Try.prog 66 [eProg a0] (.ps .fopt (s30.F r)) := by
  unfold tree_Threads at h
  refine PT_bodyA hT Try.func66 rfl (by kernel_rfl) fun bad w => ?_
  refine Qz hT 2 [1] ⟨[(1, .box 1 0 0 0)], [(1, ⟨0, 26, 2, true, false, [eProg a0]⟩)], 1⟩ ?_
  refine Qz hT 1 [1, 3] ⟨[(1, .box 1 0 0 0), (3, .ps .nil [])], [(1, ⟨0, 26, 2, true, false, [eProg a0]⟩)], 1⟩ ?_
  refine WA_seq ?_
  refine Qg hT 2 [3, 7] ⟨[(3, .ps .nil []), (7, .ps .opt (s24.F a0.Threads))], [(1, ⟨0, 26, 2, true, false, [eProg a0]⟩)], 1⟩ ?_
  refine One hT rfl (ev_len s24 .opt a0.Threads (by kernel_rfl)) ?_
  refine Sz hT 1 [3, 7, 8, 9] ⟨[(3, .ps .nil []), (7, .ps .opt (s24.F a0.Threads)), (8, vi (ln a0.Threads)), (9, vi 0)], [(1, ⟨0, 26, 2, true, false, [eProg a0]⟩)], 1⟩ ?_
  refine WA_block ?_
  refine aW [3, 7, 8, 9] ⟨[(3, .ps .nil []), (7, .ps .opt (s24.F a0.Threads)), (8, vi (ln a0.Threads)), (9, vi 0)], [(1, ⟨0, 26, 2, true, false, [eProg a0]⟩)], 1⟩ ?_
  refine WA_weak (Weak_own 3 5000 3 1 (by kernel_rfl) (by kernel_rfl) (by kernel_rfl) (by kernel_rfl)) ?_
  refine lK [3, 7, 8, 9] [(5000, 10003, 0)] (fun k s => ∃ q, q ≤ k ∧ q ≤ n ∧ ∃ (l1 : List Int), ∃ (i2 : Int), tree_Threads_L0 q a0 l1 i2 = some r ∧ s = ⟨[(3, vo 10003 0 (s30.F l1)), (7, .ps .opt (s24.F a0.Threads)), (8, vi (ln a0.Threads)), (9, vi i2)], [(10003, ⟨0, 3, 1, false, true, s30.F l1⟩)], 1⟩) n ⟨n, Nat.le_refl _, Nat.le_refl _, ([] : List Int), 0, h, rfl⟩ (by rintro s ⟨q, hq, _, l1, i2, h, _⟩; obtain rfl := Nat.le_zero.1 hq; rw [tree_Threads_L0] at h; cases h) ?_
  clear h
  rintro k1 s ⟨q1, hk1, hn1, l1, i2, h, rfl⟩
  rcases q1 with _ | q1
  · rw [tree_Threads_L0] at h; cases h
  rw [tree_Threads_L0] at h
  refine Qz hT 1 [3, 7, 8, 9, 10] ⟨[(3, vo 10003 0 (s30.F l1)), (7, .ps .opt (s24.F a0.Threads)), (8, vi (ln a0.Threads)), (9, vi i2), (10, vb (decide (i2 < (ln a0.Threads))))], [(10003, ⟨0, 3, 1, false, true, s30.F l1⟩)], 1⟩ ?_
  refine WA_seq ?_
  refine Cd (decide (i2 < (ln a0.Threads))) ?_ ?_
  · intro hb; replace h := ctrue hb h
    refine WA_skip ?_
    refine WA_seq ?_
    refine WA_block ?_
    refine Qg hT 1 [3, 7, 8, 9, 11] ⟨[(3, vo 10003 0 (s30.F l1)), (7, .ps .opt (s24.F a0.Threads)), (8, vi (ln a0.Threads)), (9, vi i2), (11, vi i2)], [(10003, ⟨0, 3, 1, false, true, s30.F l1⟩)], 1⟩ ?_
    obtain ⟨x3, hx3, h⟩ := bsome h
    refine One hT rfl (ev_index s24 .opt a0.Threads .i64 i2 hx3 (by decide) (by kernel_rfl) (by kernel_rfl)) ?_
    refine Sz hT 3 [3, 4, 5, 7, 8, 9] ⟨[(3, vo 10003 0 (s30.F l1)), (4, vi i2), (5, .ps .opt (s32.F x3)), (7, .ps .opt (s24.F a0.Threads)), (8, vi (ln a0.Threads)), (9, vi i2)], [(10003, ⟨0, 3, 1, false, true, s30.F l1⟩)], 1⟩ ?_
    refine Rg hT 4 [7, 8, 9, 14, 16, 17] ⟨[(7, .ps .opt (s24.F a0.Threads)), (8, vi (ln a0.Threads)), (9, vi i2), (14, vo 10003 0 (s30.F l1)), (16, vo 16 1 (s30.F [i2])), (17, .ps .opt (s32.F x3))], [(16, ⟨1, 3, 1, false, false, s30.F [i2]⟩), (10003, ⟨0, 3, 1, false, true, s30.F l1⟩)], 2⟩ ?_
    obtain ⟨r4, hr4, h⟩ := bsome h
    refine WO_go rfl (by kernel_rfl) [] [(100, ⟨1, 38, 11, false, true, s32.F r4⟩)] [.ps .nil [], .ps .opt (s32.F x3)] [.ps .nil [], .ps .opt (s32.F x3)] [] [(100, 18, 2)] [(18, ⟨2, 38, 11, false, true, s32.F r4⟩)] (vo 100 1 (s32.F r4)) (vo 18 2 (s32.F r4)) 3 rfl (by kernel_rfl) en109 (by kernel_rfl) (by kernel_rfl) (by kernel_rfl) (tree_listed_109_n_ok hr4) (by kernel_rfl) (by kernel_rfl) (by kernel_rfl) (by kernel_rfl) ?_
    refine Sg hT 0 [7, 8, 9, 14, 16, 18] ⟨[(7, .ps .opt (s24.F a0.Threads)), (8, vi (ln a0.Threads)), (9, vi i2), (14, vo 10003 0 (s30.F l1)), (16, vo 16 1 (s30.F [i2])), (18, vo 18 2 (s32.F r4))], [(18, ⟨2, 38, 11, false, true, s32.F r4⟩), (16, ⟨1, 3, 1, false, false, s30.F [i2]⟩), (10003, ⟨0, 3, 1, false, true, s30.F l1⟩)], 3⟩ ?_
    refine One hT rfl (ev_len_own s32 18 2 true ⟨2, 38, 11, false, true, s32.F r4⟩ r4 (by kernel_rfl) rfl rfl) ?_
    refine Sg hT 0 [7, 8, 9, 14, 16, 19] ⟨[(7, .ps .opt (s24.F a0.Threads)), (8, vi (ln a0.Threads)), (9, vi i2), (14, vo 10003 0 (s30.F l1)), (16, vo 16 1 (s30.F [i2])), (19, vi (ln r4))], [(18, ⟨2, 38, 11, false, true, s32.F r4⟩), (16, ⟨1, 3, 1, false, false, s30.F [i2]⟩), (10003, ⟨0, 3, 1, false, true, s30.F l1⟩)], 3⟩ ?_
    refine WO_weak (Weak_frz 16 1 ⟨1, 3, 1, false, false, s30.F [i2]⟩ (by kernel_rfl) rfl rfl [(7, .ps .opt (s24.F a0.Threads)), (8, vi (ln a0.Threads)), (9, vi i2), (14, vo 10003 0 (s30.F l1)), (16, .ps .opt (s30.F [i2])), (19, vi (ln r4))] [(18, ⟨2, 38, 11, false, true, s32.F r4⟩), (10003, ⟨0, 3, 1, false, true, s30.F l1⟩)] ⟨rfl, .keep _, rfl, .keep _, rfl, .keep _, rfl, .keep _, rfl, .hit true, rfl, .keep _, trivial⟩ ⟨rfl, .inl rfl, rfl, .inl rfl, trivial⟩) ?_
    obtain ⟨r5, hr5, h⟩ := bsome h
    refine WO_go rfl (by kernel_rfl) [] [(100, ⟨1, 3, 1, false, true, s30.F r5⟩)] [.ps .opt (s30.F [i2]), vi (ln r4)] [.ps .opt (s30.F [i2]), vi (ln r4)] [] [(100, 20, 3)] [(20, ⟨3, 3, 1, false, true, s30.F r5⟩)] (vo 100 1 (s30.F r5)) (vo 20 3 (s30.F r5)) 4 rfl (by kernel_rfl) en108 (by kernel_rfl) (by kernel_rfl) (by kernel_rfl) (Repeat_108_ok hr5) (by kernel_rfl) (by kernel_rfl) (by kernel_rfl) (by kernel_rfl) ?_
    refine Sg hT 0 [7, 8, 9, 14, 20] ⟨[(7, .ps .opt (s24.F a0.Threads)), (8, vi (ln a0.Threads)), (9, vi i2), (14, vo 10003 0 (s30.F l1)), (20, vo 20 3 (s30.F r5))], [(20, ⟨3, 3, 1, false, true, s30.F r5⟩), (18, ⟨2, 38, 11, false, true, s32.F r4⟩), (10003, ⟨0, 3, 1, false, true, s30.F l1⟩)], 4⟩ ?_
    obtain ⟨g6, h⟩ := gsome h
    refine WO_append hT s30 rfl (by kernel_rfl) 10003 0 true l1 r5 rfl (by kernel_rfl) (by kernel_rfl) (elems_own s30 20 3 true ⟨3, 3, 1, false, true, s30.F r5⟩ r5 (by kernel_rfl) (by kernel_rfl) rfl rfl rfl) g6 (by kernel_rfl) ?_
    refine Sz hT 1 [3, 7, 8, 9] ⟨[(3, vo 21 4 (s30.F (l1 ++ r5))), (7, .ps .opt (s24.F a0.Threads)), (8, vi (ln a0.Threads)), (9, vi i2)], [(21, ⟨4, 3, 1, false, true, s30.F (l1 ++ r5)⟩), (20, ⟨3, 3, 1, false, true, s30.F r5⟩), (18, ⟨2, 38, 11, false, true, s32.F r4⟩)], 5⟩ ?_
    refine Rg hT 2 [3, 7, 8, 9] ⟨[(3, vo 21 4 (s30.F (l1 ++ r5))), (7, .ps .opt (s24.F a0.Threads)), (8, vi (ln a0.Threads)), (9, vi (wr (i2 + 1)))], [(21, ⟨4, 3, 1, false, true, s30.F (l1 ++ r5)⟩), (20, ⟨3, 3, 1, false, true, s30.F r5⟩), (18, ⟨2, 38, 11, false, true, s32.F r4⟩)], 5⟩ ?_
    exact oK [3, 7, 8, 9] [(21, 10003, 0)] ⟨_, by omega, by omega, l1 ++ r5, wr (i2 + 1), h, rfl⟩
  intro hb; replace h := cfalse hb h
  refine WA_exit ?_
  refine Qg hT 1 [23] ⟨[(23, vo 10003 0 (s30.F l1))], [(10003, ⟨0, 3, 1, false, true, s30.F l1⟩)], 1⟩ ?_
  refine WO_weak (Weak_frz 10003 0 ⟨0, 3, 1, false, true, s30.F l1⟩ (by kernel_rfl) rfl rfl [(23, .ps .opt (s30.F l1))] [] ⟨rfl, .hit true, trivial⟩ trivial) ?_
  obtain ⟨r7, hr7, h⟩ := bsome h
  refine Pt en64 (Clip_64_ok hr7) ?_
  refine Sz hT 1 [2] ⟨[(2, .ps .fopt (s30.F r7))], [], 1⟩ ?_
  obtain rfl := Option.some.inj h
  exact rK [2] [] ⟨[(2, .ps .fopt (s30.F r7))], [], 1⟩ ⟨by kernel_rfl, rfl⟩

theorem Clone_155_ok {n : Nat} {a0 : List Expr} {r : List Expr} (h : Clone_155 n a0 = some r) : GO Try.prog 155 [] [.ps .opt (s33.F a0)] (vo 100 1 (s33.F r)) [(100, ⟨1, 35, 4, false, true, s33.F r⟩)] := by
  unfold Clone_155 at h
  refine GO_bodyA hT Try.func155 rfl [] (by kernel_rfl) fun bad w m => ?_
  refine Qz hT 1 [0] ⟨[(0, .ps .opt (s33.F a0))], [], 1⟩ ?_
  refine WA_seq ?_
  refine Qg hT 1 [0, 3] ⟨[(0, .ps .opt (s33.F a0)), (3, .ps .opt (s33.F a0))], [], 1⟩ ?_
  refine WO_isnil hT s33 rfl (by kernel_rfl) .opt a0 rfl (by kernel_rfl) (by kernel_rfl) ?_
  intro b1 hnil
  cases b1
  · clear hnil
    refine Sz hT 0 [0, 4] ⟨[(0, .ps .opt (s33.F a0)), (4, vb false)], [], 1⟩ ?_
    refine WA_cond false (by kernel_rfl) (fun hb => by cases hb) (fun _ => ?_)
    refine WA_skip ?_
    refine Qg hT 2 [5, 6] ⟨[(5, vo 5 1 (s33.F ([] : List Expr))), (6, .ps .opt (s33.F a0))], [(5, ⟨1, 35, 4, false, false, s33.F ([] : List Expr)⟩)], 2⟩ ?_
    obtain ⟨g2, h⟩ := gsome h
    refine WO_append hT s33 rfl (by kernel_rfl) 5 1 false ([] : List Expr) a0 rfl (by kernel_rfl) (by kernel_rfl) (by kernel_rfl) g2 (by kernel_rfl) ?_
    refine Sz hT 1 [2] ⟨[(2, vo 7 2 (s33.F (([] : List Expr) ++ a0)))], [(7, ⟨2, 35, 4, false, true, s33.F (([] : List Expr) ++ a0)⟩)], 3⟩ ?_
    obtain rfl := Option.some.inj h
    exact rK [2] [(7, 100, 1)] ⟨[(2, vo 100 1 (s33.F (([] : List Expr) ++ a0)))], [(100, ⟨1, 35, 4, false, true, s33.F (([] : List Expr) ++ a0)⟩)], 2⟩ ⟨by kernel_rfl, by kernel_rfl, rfl⟩
  · replace h : some ([] : List Expr) = some r := by (have e := hnil rfl; subst e; first | exact h | (obtain ⟨_, h⟩ := gsome h; simpa using h))
    clear hnil
    refine Sz hT 0 [0, 4] ⟨[(0, .ps .opt (s33.F a0)), (4, vb true)], [], 1⟩ ?_
    refine WA_cond true (by kernel_rfl) (fun _ => ?_) (fun hb => by cases hb)
    refine Qz hT 1 [2] ⟨[(2, .ps .nil [])], [], 1⟩ ?_
    refine aW [2] ⟨[(2, .ps .nil [])], [], 1⟩ ?_
    refine WA_weak (Weak_own 2 5000 35 4 (by kernel_rfl) (by kernel_rfl) (by kernel_rfl) (by kernel_rfl)) ?_
    obtain rfl := Option.some.inj h
    exact rK [2] [(5000, 100, 1)] ⟨[(2, vo 100 1 (s33.F ([] : List Expr)))], [(100, ⟨1, 35, 4, false, true, s33.F ([] : List Expr)⟩)], 2⟩ ⟨by kernel_rfl, by kernel_rfl, rfl⟩

theorem Clip_154_o_ok {n : Nat} {a0 : List Expr} {r : List Expr} (h : Clip_154_o n a0 = some r) : GO Try.prog 154 [(0, ⟨0, 35, 4, false, true, s33.F a0⟩)] [vo 0 0 (s33.F a0)] (.sl 100 1 0 (s33.F r).length false) [(100, ⟨1, 35, 4, false, true, s33.F r⟩)] := by
  unfold Clip_154_o at h
  refine GO_bodyA hT Try.func154 rfl [] (by kernel_rfl) fun bad w m => ?_
  refine Qz hT 1 [0] ⟨[(0, vo 0 0 (s33.F a0))], [(0, ⟨0, 35, 4, false, true, s33.F a0⟩)], 1⟩ ?_
  refine Qg hT 2 [0, 3, 4] ⟨[(0, vo 0 0 (s33.F a0)), (3, vo 0 0 (s33.F a0)), (4, vo 0 0 (s33.F a0))], [(0, ⟨0, 35, 4, false, true, s33.F a0⟩)], 1⟩ ?_
  refine One hT rfl (ev_len_own s33 0 0 true ⟨0, 35, 4, false, true, s33.F a0⟩ a0 (by kernel_rfl) rfl rfl) ?_
  refine Sg hT 1 [3, 5, 6] ⟨[(3, vo 0 0 (s33.F a0)), (5, vi (ln a0)), (6, vo 0 0 (s33.F a0))], [(0, ⟨0, 35, 4, false, true, s33.F a0⟩)], 1⟩ ?_
  refine One hT rfl (ev_len_own s33 0 0 true ⟨0, 35, 4, false, true, s33.F a0⟩ a0 (by kernel_rfl) rfl rfl) ?_
  refine Sg hT 0 [3, 5, 7] ⟨[(3, vo 0 0 (s33.F a0)), (5, vi (ln a0)), (7, vi (ln a0))], [(0, ⟨0, 35, 4, false, true, s33.F a0⟩)], 1⟩ ?_
  refine WO_clip hT s33 rfl (by kernel_rfl) 0 0 (s33.F a0).length true ⟨0, 35, 4, false, true, s33.F a0⟩ rfl (by kernel_rfl) (by kernel_rfl) rfl (by rw [TE.len]; kernel_rfl) (by rw [TE.len]; kernel_rfl) (by kernel_rfl) ?_
  refine Sz hT 1 [2] ⟨[(2, .sl 0 0 0 (s33.F a0).length false)], [(0, ⟨0, 35, 4, false, true, s33.F a0⟩)], 1⟩ ?_
  obtain rfl := Option.some.inj h
  exact rK [2] [(0, 100, 1)] ⟨[(2, .sl 100 1 0 (s33.F a0).length false)], [(100, ⟨1, 35, 4, false, true, s33.F a0⟩)], 2⟩ ⟨by kernel_rfl, by kernel_rfl, rfl⟩

def tree_copyExpr_spec (n : Nat) : Prop := (∀ {a0 : Expr} {r : Expr}, tree_copyExpr n a0 = some r → PT Try.prog 136 [eExpr a0] (eExpr r))
theorem tree_copyExpr_step (n : Nat) (ih : ∀ m, m < n → tree_copyExpr_spec m) : ∀ {a0 : Expr} {r : Expr}, tree_copyExpr n a0 = some r → PT Try.prog 136 [eExpr a0] (eExpr r) := by
  intro a0 r h
  rcases n with _ | n
  · rw [tree_copyExpr] at h; cases h
  rw [tree_copyExpr] at h
  refine PT_bodyA hT Try.func136 rfl (by kernel_rfl) fun bad w => ?_
  refine Qz hT 2 [1, 2] ⟨[(1, .box 1 0 0 0), (2, .box 2 1 0 0)], [(2, ⟨1, 35, 4, true, false, [.agg [vi 0, vi 0, vw b0, .ps .nil []]]⟩), (1, ⟨0, 35, 4, true, false, [eExpr a0]⟩)], 2⟩ ?_
  refine Qg hT 2 [1, 2, 6] ⟨[(1, .box 1 0 0 0), (2, .box 2 1 0 0), (6, .ps .opt (s33.F a0.Of))], [(2, ⟨1, 35, 4, true, false, [.agg [vi 0, vi 0, vw b0, .ps .nil []]]⟩), (1, ⟨0, 35, 4, true, false, [eExpr a0]⟩)], 2⟩ ?_
  obtain ⟨r1, hr1, h⟩ := bsome h
  refine WO_go rfl (by kernel_rfl) [] [(100, ⟨1, 35, 4, false, true, s33.F r1⟩)] [.ps .opt (s33.F a0.Of)] [.ps .opt (s33.F a0.Of)] [] [(100, 7, 2)] [(7, ⟨2, 35, 4, false, true, s33.F r1⟩)] (vo 100 1 (s33.F r1)) (vo 7 2 (s33.F r1)) 3 rfl (by kernel_rfl) en155 (by kernel_rfl) (by kernel_rfl) (by kernel_rfl) (Clone_155_ok hr1) (by kernel_rfl) (by kernel_rfl) (by kernel_rfl) (by kernel_rfl) ?_
  refine Sg hT 0 [1, 2, 7] ⟨[(1, .box 1 0 0 0), (2, .box 2 1 0 0), (7, vo 7 2 (s33.F r1))], [(7, ⟨2, 35, 4, false, true, s33.F r1⟩), (2, ⟨1, 35, 4, true, false, [.agg [vi 0, vi 0, vw b0, .ps .nil []]]⟩), (1, ⟨0, 35, 4, true, false, [eExpr a0]⟩)], 3⟩ ?_
  obtain ⟨r2, hr2, h⟩ := bsome h
  refine WO_go rfl (by kernel_rfl) [(0, ⟨0, 35, 4, false, true, s33.F r1⟩)] [(100, ⟨1, 35, 4, false, true, s33.F r2⟩)] [vo 7 2 (s33.F r1)] [vo 0 0 (s33.F r1)] [(7, 0, 0)] [(100, 8, 3)] [(8, ⟨3, 35, 4, false, true, s33.F r2⟩)] (.sl 100 1 0 (s33.F r2).length false) (.sl 8 3 0 (s33.F r2).length false) 4 rfl (by kernel_rfl) en154 (by kernel_rfl) (by kernel_rfl) (by kernel_rfl) (Clip_154_o_ok hr2) (by kernel_rfl) (by kernel_rfl) (by kernel_rfl) (by kernel_rfl) ?_
  refine Sz hT 2 [1, 2] ⟨[(1, .box 1 0 0 0), (2, .box 2 1 0 0)], [(1, ⟨0, 35, 4, true, false, [.agg [vi a0.Kind, vi a0.N, vw a0.Name, .sl 8 3 0 (s33.F r2).length false]]⟩), (8, ⟨3, 35, 4, false, true, s33.F r2⟩), (2, ⟨1, 35, 4, true, false, [.agg [vi 0, vi 0, vw b0, .ps .nil []]]⟩)], 4⟩ ?_
  refine WA_seq ?_
  refine Qg hT 2 [1, 2, 11] ⟨[(1, .box 1 0 0 0), (2, .box 2 1 0 0), (11, .sl 8 3 0 (s33.F r2).length false)], [(1, ⟨0, 35, 4, true, false, [.agg [vi a0.Kind, vi a0.N, vw a0.Name, .sl 8 3 0 (s33.F r2).length false]]⟩), (8, ⟨3, 35, 4, false, true, s33.F r2⟩), (2, ⟨1, 35, 4, true, false, [.agg [vi 0, vi 0, vw b0, .ps .nil []]]⟩)], 4⟩ ?_
  refine One hT rfl (ev_len_own s33 8 3 false ⟨3, 35, 4, false, true, s33.F r2⟩ r2 (by kernel_rfl) rfl rfl) ?_
  refine Sz hT 1 [1, 2, 11, 12, 13] ⟨[(1, .box 1 0 0 0), (2, .box 2 1 0 0), (11, .sl 8 3 0 (s33.F r2).length false), (12, vi (ln r2)), (13, vi 0)], [(1, ⟨0, 35, 4, true, false, [.agg [vi a0.Kind, vi a0.N, vw a0.Name, .sl 8 3 0 (s33.F r2).length false]]⟩), (8, ⟨3, 35, 4, false, true, s33.F r2⟩), (2, ⟨1, 35, 4, true, false, [.agg [vi 0, vi 0, vw b0, .ps .nil []]]⟩)], 4⟩ ?_
  refine WA_block ?_
  refine lK [1, 2, 11, 12, 13] [(1, 1, 0), (2, 2, 0), (8, 8, 0)] (fun k s => ∃ q, q ≤ k ∧ q ≤ n ∧ ∃ (l4 : List Expr), ∃ (w5 : ByteArray), ∃ (i6 : Int), tree_copyExpr_L0 q a0 r1 r2 l4 w5 i6 = some r ∧ s = ⟨[(1, .box 1 0 0 0), (2, .box 2 0 0 0), (11, .sl 8 0 0 (s33.F l4).length false), (12, vi (ln r2)), (13, vi i6)], [(1, ⟨0, 35, 4, true, false, [.agg [vi a0.Kind, vi a0.N, vw a0.Name, .sl 8 0 0 (s33.F l4).length false]]⟩), (2, ⟨0, 35, 4, true, false, [.agg [vi 0, vi 0, vw w5, .ps .nil []]]⟩), (8, ⟨0, 35, 4, false, true, s33.F l4⟩)], 1⟩) n ⟨n, Nat.le_refl _, Nat.le_refl _, r2, b0, 0, h, rfl⟩ (by rintro s ⟨q, hq, _, l4, w5, i6, h, _⟩; obtain rfl := Nat.le_zero.1 hq; rw [tree_copyExpr_L0] at h; cases h) ?_
  clear h
  rintro k1 s ⟨q1, hk1, hn1, l4, w5, i6, h, rfl⟩
  rcases q1 with _ | q1
  · rw [tree_copyExpr_L0] at h; cases h
  rw [tree_copyExpr_L0] at h
  refine Qz hT 1 [1, 2, 11, 12, 13, 14] ⟨[(1, .box 1 0 0 0), (2, .box 2 0 0 0), (11, .sl 8 0 0 (s33.F l4).length false), (12, vi (ln r2)), (13, vi i6), (14, vb (decide (i6 < (ln r2))))], [(1, ⟨0, 35, 4, true, false, [.agg [vi a0.Kind, vi a0.N, vw a0.Name, .sl 8 0 0 (s33.F l4).length false]]⟩), (2, ⟨0, 35, 4, true, false, [.agg [vi 0, vi 0, vw w5, .ps .nil []]]⟩), (8, ⟨0, 35, 4, false, true, s33.F l4⟩)], 1⟩ ?_
  refine WA_seq ?_
  refine Cd (decide (i6 < (ln r2))) ?_ ?_
  · intro hb; replace h := ctrue hb h
    refine WA_skip ?_
    refine WA_seq ?_
    refine WA_block ?_
    refine Qg hT 1 [1, 2, 11, 12, 13, 15] ⟨[(1, .box 1 0 0 0), (2, .box 2 0 0 0), (11, .sl 8 0 0 (s33.F l4).length false), (12, vi (ln r2)), (13, vi i6), (15, vi i6)], [(1, ⟨0, 35, 4, true, false, [.agg [vi a0.Kind, vi a0.N, vw a0.Name, .sl 8 0 0 (s33.F l4).length false]]⟩), (2, ⟨0, 35, 4, true, false, [.agg [vi 0, vi 0, vw w5, .ps .nil []]]⟩), (8, ⟨0, 35, 4, false, true, s33.F l4⟩)], 1⟩ ?_
    obtain ⟨x7, hx7, h⟩ := bsome h
    refine One hT rfl (ev_index_own s33 8 0 false ⟨0, 35, 4, false, true, s33.F l4⟩ l4 .i64 i6 hx7 (by kernel_rfl) (by kernel_rfl) rfl rfl rfl) ?_
    refine Sg hT 0 [1, 2, 11, 12, 13, 15, 16] ⟨[(1, .box 1 0 0 0), (2, .box 2 0 0 0), (11, .sl 8 0 0 (s33.F l4).length false), (12, vi (ln r2)), (13, vi i6), (15, vi i6), (16, .box 8 0 i6.toNat 0)], [(1, ⟨0, 35, 4, true, false, [.agg [vi a0.Kind, vi a0.N, vw a0.Name, .sl 8 0 0 (s33.F l4).length false]]⟩), (2, ⟨0, 35, 4, true, false, [.agg [vi 0, vi 0, vw w5, .ps .nil []]]⟩), (8, ⟨0, 35, 4, false, true, s33.F l4⟩)], 1⟩ ?_
    refine One hT rfl (ev_load_row s33 8 0 ⟨0, 35, 4, false, true, s33.F l4⟩ l4 i6.toNat 0 x7 (eExpr x7) (idx_some hx7).2 (by kernel_rfl) rfl rfl rfl (by kernel_rfl)) ?_
    refine Sz hT 3 [1, 2, 3, 4, 11, 12, 13] ⟨[(1, .box 1 0 0 0), (2, .box 2 0 0 0), (3, vi i6), (4, .box 4 1 0 0), (11, .sl 8 0 0 (s33.F l4).length false), (12, vi (ln r2)), (13, vi i6)], [(4, ⟨1, 35, 4, true, false, [eExpr x7]⟩), (1, ⟨0, 35, 4, true, false, [.agg [vi a0.Kind, vi a0.N, vw a0.Name, .sl 8 0 0 (s33.F l4).length false]]⟩), (2, ⟨0, 35, 4, true, false, [.agg [vi 0, vi 0, vw w5, .ps .nil []]]⟩), (8, ⟨0, 35, 4, false, true, s33.F l4⟩)], 2⟩ ?_
    refine WA_drawW hT hM (by kernel_rfl) ?_
    refine WD_seg 4 ⟨[(21, eExpr x7), (20, vi i6), (19, .sl 8 0 0 (s33.F l4).length false), (18, .box 1 0 0 3), (1, .box 1 0 0 0), (2, .box 2 0 0 0), (3, vi i6), (4, .box 4 1 0 0), (11, .sl 8 0 0 (s33.F l4).length false), (12, vi (ln r2)), (13, vi i6)], [(4, ⟨1, 35, 4, true, false, [eExpr x7]⟩), (1, ⟨0, 35, 4, true, false, [.agg [vi a0.Kind, vi a0.N, vw a0.Name, .sl 8 0 0 (s33.F l4).length false]]⟩), (2, ⟨0, 35, 4, true, false, [.agg [vi 0, vi 0, vw w5, .ps .nil []]]⟩), (8, ⟨0, 35, 4, false, true, s33.F l4⟩)], 2⟩ [] [(0, [1]), (1, [1]), (3, [4])] (by kernel_rfl) (by kernel_rfl) ?_
    obtain ⟨r8, hr8, h⟩ := bsome h
    refine WD_pt rfl (by kernel_rfl) (by kernel_rfl) [eExpr x7] (eExpr r8) rfl (by kernel_rfl) en136 (by kernel_rfl) ((ih _ (by omega)) hr8) (by kernel_rfl) ?_
    obtain ⟨x9, hx9, h⟩ := bsome h
    refine WD_loc rfl (by kernel_rfl) (by kernel_rfl) (by kernel_rfl) (ev_index_own s33 8 0 false ⟨0, 35, 4, false, true, s33.F l4⟩ l4 .i64 i6 hx9 (by kernel_rfl) (by kernel_rfl) rfl rfl rfl) (by kernel_rfl) ?_
    refine WD_wr rfl (by kernel_rfl) (by kernel_rfl) (by kernel_rfl) (ev_storeRow s33 8 0 ⟨0, 35, 4, false, true, s33.F l4⟩ l4 i6.toNat 0 x9 r8 (idx_some hx9).2 (by kernel_rfl) (by kernel_rfl) rfl rfl rfl rfl (by kernel_rfl) (by kernel_rfl) (by kernel_rfl)) (by kernel_rfl) ?_
    refine WD_end (by kernel_rfl) (by kernel_rfl) (by kernel_rfl) ?_
    refine kW [1, 2, 11, 12, 13] ⟨[(1, .box 1 0 0 0), (2, .box 2 0 0 0), (11, .sl 8 0 0 (s33.F l4).length false), (12, vi (ln r2)), (13, vi i6)], [(8, ⟨0, 35, 4, false, true, s33.F (l4.set i6.toNat r8)⟩), (4, ⟨1, 35, 4, true, false, [eExpr x7]⟩), (1, ⟨0, 35, 4, true, false, [.agg [vi a0.Kind, vi a0.N, vw a0.Name, .sl 8 0 0 (s33.F l4).length false]]⟩), (2, ⟨0, 35, 4, true, false, [.agg [vi 0, vi 0, vw w5, .ps .nil []]]⟩)], 2⟩ ?_
    refine Wk_step (Weak_leH [(1, .box 1 0 0 0), (2, .box 2 0 0 0), (11, .sl 8 0 0 (s33.F (l4.set i6.toNat r8)).length false), (12, vi (ln r2)), (13, vi i6)] [(8, ⟨0, 35, 4, false, true, s33.F (l4.set i6.toNat r8)⟩), (4, ⟨1, 35, 4, true, false, [eExpr x7]⟩), (1, ⟨0, 35, 4, true, false, [.agg [vi a0.Kind, vi a0.N, vw a0.Name, .sl 8 0 0 (s33.F (l4.set i6.toNat r8)).length false]]⟩), (2, ⟨0, 35, 4, true, false, [.agg [vi 0, vi 0, vw w5, .ps .nil []]]⟩)] (by kernel_rfl) ⟨VLf.refl _, VLf.refl _, (VLf.slen (by simp [TE.len, lcopy_length, rcopy_length])), VLf.refl _, VLf.refl _, trivial⟩ ⟨rfl, .inl rfl, rfl, .inl rfl, rfl, .inr (.inl ⟨rfl, rfl, CLe.agg ⟨VLf.refl _, VLf.refl _, VLf.refl _, (VLf.slen (by simp [TE.len, lcopy_length, rcopy_length])), trivial⟩, trivial⟩), rfl, .inl rfl, trivial⟩) ?_
    refine Wk_done ?_
    refine Rg hT 2 [1, 2, 11, 12, 13] ⟨[(1, .box 1 0 0 0), (2, .box 2 0 0 0), (11, .sl 8 0 0 (s33.F (l4.set i6.toNat r8)).length false), (12, vi (ln r2)), (13, vi (wr (i6 + 1)))], [(8, ⟨0, 35, 4, false, true, s33.F (l4.set i6.toNat r8)⟩), (4, ⟨1, 35, 4, true, false, [eExpr x7]⟩), (1, ⟨0, 35, 4, true, false, [.agg [vi a0.Kind, vi a0.N, vw a0.Name, .sl 8 0 0 (s33.F (l4.set i6.toNat r8)).length false]]⟩), (2, ⟨0, 35, 4, true, false, [.agg [vi 0, vi 0, vw w5, .ps .nil []]]⟩)], 2⟩ ?_
    exact oK [1, 2, 11, 12, 13] [(1, 1, 0), (2, 2, 0), (8, 8, 0)] ⟨_, by omega, by omega, l4.set i6.toNat r8, w5, wr (i6 + 1), h, rfl⟩
  intro hb; replace h := cfalse hb h
  refine WA_exit ?_
  refine Qz hT 2 [2] ⟨[(2, .box 2 0 0 0)], [(2, ⟨0, 35, 4, true, false, [.agg [vi a0.Kind, vi a0.N, vw a0.Name, .sl 8 0 0 (s33.F l4).length false]]⟩), (1, ⟨0, 35, 4, true, false, [.agg [vi a0.Kind, vi a0.N, vw a0.Name, .sl 8 0 0 (s33.F l4).length false]]⟩), (8, ⟨0, 35, 4, false, true, s33.F l4⟩)], 1⟩ ?_
  refine aW [2] ⟨[(2, .box 2 0 0 0)], [(2, ⟨0, 35, 4, true, false, [.agg [vi a0.Kind, vi a0.N, vw a0.Name, .sl 8 0 0 (s33.F l4).length false]]⟩), (1, ⟨0, 35, 4, true, false, [.agg [vi a0.Kind, vi a0.N, vw a0.Name, .sl 8 0 0 (s33.F l4).length false]]⟩), (8, ⟨0, 35, 4, false, true, s33.F l4⟩)], 1⟩ ?_
  refine WA_weak (Weak_frz 8 0 ⟨0, 35, 4, false, true, s33.F l4⟩ (by kernel_rfl) rfl rfl [(2, .box 2 0 0 0)] [(2, ⟨0, 35, 4, true, false, [.agg [vi a0.Kind, vi a0.N, vw a0.Name, .ps .opt (s33.F l4)]]⟩), (1, ⟨0, 35, 4, true, false, [.agg [vi a0.Kind, vi a0.N, vw a0.Name, .ps .opt (s33.F l4)]]⟩)] ⟨rfl, .keep _, trivial⟩ ⟨rfl, .inr ⟨rfl, rfl, .aggs ⟨.keep _, .keep _, .keep _, .hit false, trivial⟩, trivial⟩, rfl, .inr ⟨rfl, rfl, .aggs ⟨.keep _, .keep _, .keep _, .hit false, trivial⟩, trivial⟩, trivial⟩) ?_
  refine WA_weak (Weak_leH [(2, .box 2 0 0 0)] [(2, ⟨0, 35, 4, true, false, [eExpr (Expr.mk a0.Kind a0.N a0.Name l4)]⟩), (1, ⟨0, 35, 4, true, false, [.agg [vi a0.Kind, vi a0.N, vw a0.Name, .ps .opt (s33.F l4)]]⟩)] (by kernel_rfl) ⟨VLf.refl _, trivial⟩ ⟨rfl, .inr (.inl ⟨rfl, rfl, CLe.agg ⟨VLf.refl _, VLf.refl _, VLf.refl _, VLf.refl _, trivial⟩, trivial⟩), rfl, .inl rfl, trivial⟩) ?_
  obtain rfl := Option.some.inj h
  exact rR [(2, 1000, 0)] ⟨[(2, .box 1000 0 0 0)], [(1000, ⟨0, 35, 4, true, false, [eExpr (Expr.mk a0.Kind a0.N a0.Name l4)]⟩)], 1⟩ ⟨by kernel_rfl, rfl⟩
theorem tree_copyExpr_all (n : Nat) : tree_copyExpr_spec n := by
  induction n using Nat.strongRecOn with
  | _ n ih => exact tree_copyExpr_step n ih
theorem tree_copyExpr_ok {n : Nat} {a0 : Expr} {r : Expr} (h : tree_copyExpr n a0 = some r) : PT Try.prog 136 [eExpr a0] (eExpr r) := (tree_copyExpr_all n) h

theorem Clone_146_ok {n : Nat} {a0 : List Stmt} {r : List Stmt} (h : Clone_146 n a0 = some r) : GO Try.prog 146 [] [.ps .opt (s32.F a0)] (vo 100 1 (s32.F r)) [(100, ⟨1, 38, 11, false, true, s32.F r⟩)] := by
  unfold Clone_146 at h
  refine GO_bodyA hT Try.func146 rfl [] (by kernel_rfl) fun bad w m => ?_
  refine Qz hT 1 [0] ⟨[(0, .ps .opt (s32.F a0))], [], 1⟩ ?_
  refine WA_seq ?_
  refine Qg hT 1 [0, 3] ⟨[(0, .ps .opt (s32.F a0)), (3, .ps .opt (s32.F a0))], [], 1⟩ ?_
  refine WO_isnil hT s32 rfl (by kernel_rfl) .opt a0 rfl (by kernel_rfl) (by kernel_rfl) ?_
  intro b1 hnil
  cases b1
  · clear hnil
    refine Sz hT 0 [0, 4] ⟨[(0, .ps .opt (s32.F a0)), (4, vb false)], [], 1⟩ ?_
    refine WA_cond false (by kernel_rfl) (fun hb => by cases hb) (fun _ => ?_)
    refine WA_skip ?_
    refine Qg hT 2 [5, 6] ⟨[(5, vo 5 1 (s32.F ([] : List Stmt))), (6, .ps .opt (s32.F a0))], [(5, ⟨1, 38, 11, false, false, s32.F ([] : List Stmt)⟩)], 2⟩ ?_
    obtain ⟨g2, h⟩ := gsome h
    refine WO_append hT s32 rfl (by kernel_rfl) 5 1 false ([] : List Stmt) a0 rfl (by kernel_rfl) (by kernel_rfl) (by kernel_rfl) g2 (by kernel_rfl) ?_
    refine Sz hT 1 [2] ⟨[(2, vo 7 2 (s32.F (([] : List Stmt) ++ a0)))], [(7, ⟨2, 38, 11, false, true, s32.F (([] : List Stmt) ++ a0)⟩)], 3⟩ ?_
    obtain rfl := Option.some.inj h
    exact rK [2] [(7, 100, 1)] ⟨[(2, vo 100 1 (s32.F (([] : List Stmt) ++ a0)))], [(100, ⟨1, 38, 11, false, true, s32.F (([] : List Stmt) ++ a0)⟩)], 2⟩ ⟨by kernel_rfl, by kernel_rfl, rfl⟩
  · replace h : some ([] : List Stmt) = some r := by (have e := hnil rfl; subst e; first | exact h | (obtain ⟨_, h⟩ := gsome h; simpa using h))
    clear hnil
    refine Sz hT 0 [0, 4] ⟨[(0, .ps .opt (s32.F a0)), (4, vb true)], [], 1⟩ ?_
    refine WA_cond true (by kernel_rfl) (fun _ => ?_) (fun hb => by cases hb)
    refine Qz hT 1 [2] ⟨[(2, .ps .nil [])], [], 1⟩ ?_
    refine aW [2] ⟨[(2, .ps .nil [])], [], 1⟩ ?_
    refine WA_weak (Weak_own 2 5000 38 11 (by kernel_rfl) (by kernel_rfl) (by kernel_rfl) (by kernel_rfl)) ?_
    obtain rfl := Option.some.inj h
    exact rK [2] [(5000, 100, 1)] ⟨[(2, vo 100 1 (s32.F ([] : List Stmt)))], [(100, ⟨1, 38, 11, false, true, s32.F ([] : List Stmt)⟩)], 2⟩ ⟨by kernel_rfl, by kernel_rfl, rfl⟩

theorem Clip_111_o_ok {n : Nat} {a0 : List Stmt} {r : List Stmt} (h : Clip_111_o n a0 = some r) : GO Try.prog 111 [(0, ⟨0, 38, 11, false, true, s32.F a0⟩)] [vo 0 0 (s32.F a0)] (.sl 100 1 0 (s32.F r).length false) [(100, ⟨1, 38, 11, false, true, s32.F r⟩)] := by
  unfold Clip_111_o at h
  refine GO_bodyA hT Try.func111 rfl [] (by kernel_rfl) fun bad w m => ?_
  refine Qz hT 1 [0] ⟨[(0, vo 0 0 (s32.F a0))], [(0, ⟨0, 38, 11, false, true, s32.F a0⟩)], 1⟩ ?_
  refine Qg hT 2 [0, 3, 4] ⟨[(0, vo 0 0 (s32.F a0)), (3, vo 0 0 (s32.F a0)), (4, vo 0 0 (s32.F a0))], [(0, ⟨0, 38, 11, false, true, s32.F a0⟩)], 1⟩ ?_
  refine One hT rfl (ev_len_own s32 0 0 true ⟨0, 38, 11, false, true, s32.F a0⟩ a0 (by kernel_rfl) rfl rfl) ?_
  refine Sg hT 1 [3, 5, 6] ⟨[(3, vo 0 0 (s32.F a0)), (5, vi (ln a0)), (6, vo 0 0 (s32.F a0))], [(0, ⟨0, 38, 11, false, true, s32.F a0⟩)], 1⟩ ?_
  refine One hT rfl (ev_len_own s32 0 0 true ⟨0, 38, 11, false, true, s32.F a0⟩ a0 (by kernel_rfl) rfl rfl) ?_
  refine Sg hT 0 [3, 5, 7] ⟨[(3, vo 0 0 (s32.F a0)), (5, vi (ln a0)), (7, vi (ln a0))], [(0, ⟨0, 38, 11, false, true, s32.F a0⟩)], 1⟩ ?_
  refine WO_clip hT s32 rfl (by kernel_rfl) 0 0 (s32.F a0).length true ⟨0, 38, 11, false, true, s32.F a0⟩ rfl (by kernel_rfl) (by kernel_rfl) rfl (by rw [TE.len]; kernel_rfl) (by rw [TE.len]; kernel_rfl) (by kernel_rfl) ?_
  refine Sz hT 1 [2] ⟨[(2, .sl 0 0 0 (s32.F a0).length false)], [(0, ⟨0, 38, 11, false, true, s32.F a0⟩)], 1⟩ ?_
  obtain rfl := Option.some.inj h
  exact rK [2] [(0, 100, 1)] ⟨[(2, .sl 100 1 0 (s32.F a0).length false)], [(100, ⟨1, 38, 11, false, true, s32.F a0⟩)], 2⟩ ⟨by kernel_rfl, by kernel_rfl, rfl⟩

def tree_copyBlock_spec (n : Nat) : Prop := (∀ {a0 : List Stmt} {r : List Stmt}, tree_copyBlock n a0 = some r → GO Try.prog 124 [] [.ps .opt (s32.F a0)] (.sl 100 1 0 (s32.F r).length false) [(100, ⟨1, 38, 11, false, true, s32.F r⟩)]) ∧ (∀ {a0 : Stmt} {r : Stmt}, tree_copyStmt n a0 = some r → PT Try.prog 110 [eStmt a0] (eStmt r))
theorem tree_copyBlock_step (n : Nat) (ih : ∀ m, m < n → tree_copyBlock_spec m) : ∀ {a0 : List Stmt} {r : List Stmt}, tree_copyBlock n a0 = some r → GO Try.prog 124 [] [.ps .opt (s32.F a0)] (.sl 100 1 0 (s32.F r).length false) [(100, ⟨1, 38, 11, false, true, s32.F r⟩)] := by
  intro a0 r h
  rcases n with _ | n
  · rw [tree_copyBlock] at h; cases h
  rw [tree_copyBlock] at h
  refine GO_bodyA hT Try.func124 rfl [] (by kernel_rfl) fun bad w m => ?_
  refine Qz hT 1 [0] ⟨[(0, .ps .opt (s32.F a0))], [], 1⟩ ?_
  refine Qg hT 1 [6] ⟨[(6, .ps .opt (s32.F a0))], [], 1⟩ ?_
  obtain ⟨r1, hr1, h⟩ := bsome h
  refine WO_go rfl (by kernel_rfl) [] [(100, ⟨1, 38, 11, false, true, s32.F r1⟩)] [.ps .opt (s32.F a0)] [.ps .opt (s32.F a0)] [] [(100, 7, 1)] [(7, ⟨1, 38, 11, false, true, s32.F r1⟩)] (vo 100 1 (s32.F r1)) (vo 7 1 (s32.F r1)) 2 rfl (by kernel_rfl) en146 (by kernel_rfl) (by kernel_rfl) (by kernel_rfl) (Clone_146_ok hr1) (by kernel_rfl) (by kernel_rfl) (by kernel_rfl) (by kernel_rfl) ?_
  refine Sg hT 0 [7] ⟨[(7, vo 7 1 (s32.F r1))], [(7, ⟨1, 38, 11, false, true, s32.F r1⟩)], 2⟩ ?_
  obtain ⟨r2, hr2, h⟩ := bsome h
  refine WO_go rfl (by kernel_rfl) [(0, ⟨0, 38, 11, false, true, s32.F r1⟩)] [(100, ⟨1, 38, 11, false, true, s32.F r2⟩)] [vo 7 1 (s32.F r1)] [vo 0 0 (s32.F r1)] [(7, 0, 0)] [(100, 8, 2)] [(8, ⟨2, 38, 11, false, true, s32.F r2⟩)] (.sl 100 1 0 (s32.F r2).length false) (.sl 8 2 0 (s32.F r2).length false) 3 rfl (by kernel_rfl) en111 (by kernel_rfl) (by kernel_rfl) (by kernel_rfl) (Clip_111_o_ok hr2) (by kernel_rfl) (by kernel_rfl) (by kernel_rfl) (by kernel_rfl) ?_
  refine Sz hT 1 [3] ⟨[(3, .sl 8 2 0 (s32.F r2).length false)], [(8, ⟨2, 38, 11, false, true, s32.F r2⟩)], 3⟩ ?_
  refine WA_seq ?_
  refine Qg hT 1 [3, 9] ⟨[(3, .sl 8 2 0 (s32.F r2).length false), (9, .sl 8 2 0 (s32.F r2).length false)], [(8, ⟨2, 38, 11, false, true, s32.F r2⟩)], 3⟩ ?_
  refine One hT rfl (ev_len_own s32 8 2 false ⟨2, 38, 11, false, true, s32.F r2⟩ r2 (by kernel_rfl) rfl rfl) ?_
  refine Sz hT 1 [3, 9, 10, 11] ⟨[(3, .sl 8 2 0 (s32.F r2).length false), (9, .sl 8 2 0 (s32.F r2).length false), (10, vi (ln r2)), (11, vi 0)], [(8, ⟨2, 38, 11, false, true, s32.F r2⟩)], 3⟩ ?_
  refine WA_block ?_
  refine lK [3, 9, 10, 11] [(8, 8, 1)] (fun k s => ∃ q, q ≤ k ∧ q ≤ n ∧ ∃ (l3 : List Stmt), ∃ (i4 : Int), tree_copyBlock_L0 q a0 r1 r2 l3 i4 = some r ∧ s = ⟨[(3, .sl 8 1 0 (s32.F l3).length false), (9, .sl 8 1 0 (s32.F l3).length false), (10, vi (ln r2)), (11, vi i4)], [(8, ⟨1, 38, 11, false, true, s32.F l3⟩)], 2⟩) n ⟨n, Nat.le_refl _, Nat.le_refl _, r2, 0, h, rfl⟩ (by rintro s ⟨q, hq, _, l3, i4, h, _⟩; obtain rfl := Nat.le_zero.1 hq; rw [tree_copyBlock_L0] at h; cases h) ?_
  clear h
  rintro k1 s ⟨q1, hk1, hn1, l3, i4, h, rfl⟩
  rcases q1 with _ | q1
  · rw [tree_copyBlock_L0] at h; cases h
  rw [tree_copyBlock_L0] at h
  refine Qz hT 1 [3, 9, 10, 11, 12] ⟨[(3, .sl 8 1 0 (s32.F l3).length false), (9, .sl 8 1 0 (s32.F l3).length false), (10, vi (ln r2)), (11, vi i4), (12, vb (decide (i4 < (ln r2))))], [(8, ⟨1, 38, 11, false, true, s32.F l3⟩)], 2⟩ ?_
  refine WA_seq ?_
  refine Cd (decide (i4 < (ln r2))) ?_ ?_
  · intro hb; replace h := ctrue hb h
    refine WA_skip ?_
    refine WA_seq ?_
    refine WA_block ?_
    refine Qg hT 1 [3, 9, 10, 11, 13] ⟨[(3, .sl 8 1 0 (s32.F l3).length false), (9, .sl 8 1 0 (s32.F l3).length false), (10, vi (ln r2)), (11, vi i4), (13, vi i4)], [(8, ⟨1, 38, 11, false, true, s32.F l3⟩)], 2⟩ ?_
    obtain ⟨x5, hx5, h⟩ := bsome h
    refine One hT rfl (ev_index_own s32 8 1 false ⟨1, 38, 11, false, true, s32.F l3⟩ l3 .i64 i4 hx5 (by kernel_rfl) (by kernel_rfl) rfl rfl rfl) ?_
    refine Sg hT 0 [3, 9, 10, 11, 13, 14] ⟨[(3, .sl 8 1 0 (s32.F l3).length false), (9, .sl 8 1 0 (s32.F l3).length false), (10, vi (ln r2)), (11, vi i4), (13, vi i4), (14, .box 8 1 i4.toNat 0)], [(8, ⟨1, 38, 11, false, true, s32.F l3⟩)], 2⟩ ?_
    refine One hT rfl (ev_load_row s32 8 1 ⟨1, 38, 11, false, true, s32.F l3⟩ l3 i4.toNat 0 x5 (eStmt x5) (idx_some hx5).2 (by kernel_rfl) rfl rfl rfl (by kernel_rfl)) ?_
    refine Sz hT 3 [3, 4, 5, 9, 10, 11] ⟨[(3, .sl 8 1 0 (s32.F l3).length false), (4, vi i4), (5, .box 5 2 0 0), (9, .sl 8 1 0 (s32.F l3).length false), (10, vi (ln r2)), (11, vi i4)], [(5, ⟨2, 38, 11, true, false, [eStmt x5]⟩), (8, ⟨1, 38, 11, false, true, s32.F l3⟩)], 3⟩ ?_
    refine Rg hT 3 [3, 9, 10, 11, 16, 17, 18] ⟨[(3, .sl 8 1 0 (s32.F l3).length false), (9, .sl 8 1 0 (s32.F l3).length false), (10, vi (ln r2)), (11, vi i4), (16, .sl 8 1 0 (s32.F l3).length false), (17, vi i4), (18, eStmt x5)], [(5, ⟨2, 38, 11, true, false, [eStmt x5]⟩), (8, ⟨1, 38, 11, false, true, s32.F l3⟩)], 3⟩ ?_
    obtain ⟨r6, hr6, h⟩ := bsome h
    refine Pt en110 ((ih _ (by omega)).2 hr6) ?_
    refine Sg hT 0 [3, 9, 10, 11, 16, 17, 19] ⟨[(3, .sl 8 1 0 (s32.F l3).length false), (9, .sl 8 1 0 (s32.F l3).length false), (10, vi (ln r2)), (11, vi i4), (16, .sl 8 1 0 (s32.F l3).length false), (17, vi i4), (19, eStmt r6)], [(5, ⟨2, 38, 11, true, false, [eStmt x5]⟩), (8, ⟨1, 38, 11, false, true, s32.F l3⟩)], 3⟩ ?_
    obtain ⟨x7, hx7, h⟩ := bsome h
    refine One hT rfl (ev_index_own s32 8 1 false ⟨1, 38, 11, false, true, s32.F l3⟩ l3 .i64 i4 hx7 (by kernel_rfl) (by kernel_rfl) rfl rfl rfl) ?_
    refine Sg hT 0 [3, 9, 10, 11, 19, 20] ⟨[(3, .sl 8 1 0 (s32.F l3).length false), (9, .sl 8 1 0 (s32.F l3).length false), (10, vi (ln r2)), (11, vi i4), (19, eStmt r6), (20, .box 8 1 i4.toNat 0)], [(5, ⟨2, 38, 11, true, false, [eStmt x5]⟩), (8, ⟨1, 38, 11, false, true, s32.F l3⟩)], 3⟩ ?_
    refine One hT rfl (ev_storeRow s32 8 1 ⟨1, 38, 11, false, true, s32.F l3⟩ l3 i4.toNat 0 x7 r6 (idx_some hx7).2 (by kernel_rfl) (by kernel_rfl) rfl rfl rfl rfl (by kernel_rfl) (by kernel_rfl) (by kernel_rfl)) ?_
    refine oW [3, 9, 10, 11, 19] ⟨[(3, .sl 8 1 0 (s32.F l3).length false), (9, .sl 8 1 0 (s32.F l3).length false), (10, vi (ln r2)), (11, vi i4), (19, eStmt r6)], [(8, ⟨1, 38, 11, false, true, s32.F (l3.set i4.toNat r6)⟩), (5, ⟨2, 38, 11, true, false, [eStmt x5]⟩)], 3⟩ ?_
    refine WO_weak (Weak_leH [(3, .sl 8 1 0 (s32.F (l3.set i4.toNat r6)).length false), (9, .sl 8 1 0 (s32.F (l3.set i4.toNat r6)).length false), (10, vi (ln r2)), (11, vi i4), (19, eStmt r6)] [(8, ⟨1, 38, 11, false, true, s32.F (l3.set i4.toNat r6)⟩), (5, ⟨2, 38, 11, true, false, [eStmt x5]⟩)] (by kernel_rfl) ⟨(VLf.slen (by simp [TE.len, lcopy_length, rcopy_length])), (VLf.slen (by simp [TE.len, lcopy_length, rcopy_length])), VLf.refl _, VLf.refl _, VLf.refl _, trivial⟩ (HLe.refl _)) ?_
    refine Sz hT 0 [3, 9, 10, 11] ⟨[(3, .sl 8 1 0 (s32.F (l3.set i4.toNat r6)).length false), (9, .sl 8 1 0 (s32.F (l3.set i4.toNat r6)).length false), (10, vi (ln r2)), (11, vi i4)], [(8, ⟨1, 38, 11, false, true, s32.F (l3.set i4.toNat r6)⟩), (5, ⟨2, 38, 11, true, false, [eStmt x5]⟩)], 3⟩ ?_
    refine Rg hT 2 [3, 9, 10, 11] ⟨[(3, .sl 8 1 0 (s32.F (l3.set i4.toNat r6)).length false), (9, .sl 8 1 0 (s32.F (l3.set i4.toNat r6)).length false), (10, vi (ln r2)), (11, vi (wr (i4 + 1)))], [(8, ⟨1, 38, 11, false, true, s32.F (l3.set i4.toNat r6)⟩), (5, ⟨2, 38, 11, true, false, [eStmt x5]⟩)], 3⟩ ?_
    exact oK [3, 9, 10, 11] [(8, 8, 1)] ⟨_, by omega, by omega, l3.set i4.toNat r6, wr (i4 + 1), h, rfl⟩
  intro hb; replace h := cfalse hb h
  refine WA_exit ?_
  refine Qz hT 2 [2] ⟨[(2, .sl 8 1 0 (s32.F l3).length false)], [(8, ⟨1, 38, 11, false, true, s32.F l3⟩)], 2⟩ ?_
  obtain rfl := Option.some.inj h
  exact rK [2] [(8, 100, 1)] ⟨[(2, .sl 100 1 0 (s32.F l3).length false)], [(100, ⟨1, 38, 11, false, true, s32.F l3⟩)], 2⟩ ⟨by kernel_rfl, by kernel_rfl, rfl⟩
theorem tree_copyStmt_step (n : Nat) (ih : ∀ m, m < n → tree_copyBlock_spec m) : ∀ {a0 : Stmt} {r : Stmt}, tree_copyStmt n a0 = some r → PT Try.prog 110 [eStmt a0] (eStmt r) := by
  intro a0 r h
  rcases n with _ | n
  · rw [tree_copyStmt] at h; cases h
  rw [tree_copyStmt] at h
  refine PT_bodyA hT Try.func110 rfl (by kernel_rfl) fun bad w => ?_
  refine Qz hT 2 [1, 2] ⟨[(1, .box 1 0 0 0), (2, .box 2 1 0 0)], [(2, ⟨1, 38, 11, true, false, [.agg [vi 0, vw b0, vw b0, vi 0, vi 0, vi 0, vw b0, .ps .nil [], .ps .nil [], .ps .nil [], vz c0]]⟩), (1, ⟨0, 38, 11, true, false, [eStmt a0]⟩)], 2⟩ ?_
  refine WA_seq ?_
  refine WA_drawW hT hM (by kernel_rfl) ?_
  refine WD_seg 2 ⟨[(4, eExpr a0.E), (3, .box 1 0 0 4), (1, .box 1 0 0 0), (2, .box 2 1 0 0)], [(2, ⟨1, 38, 11, true, false, [.agg [vi 0, vw b0, vw b0, vi 0, vi 0, vi 0, vw b0, .ps .nil [], .ps .nil [], .ps .nil [], vz c0]]⟩), (1, ⟨0, 38, 11, true, false, [eStmt a0]⟩)], 2⟩ [] [(0, [1]), (1, [1])] (by kernel_rfl) (by kernel_rfl) ?_
  obtain ⟨r1, hr1, h⟩ := bsome h
  refine WD_pt rfl (by kernel_rfl) (by kernel_rfl) [eExpr a0.E] (eExpr r1) rfl (by kernel_rfl) en136 (by kernel_rfl) (tree_copyExpr_ok hr1) (by kernel_rfl) ?_
  refine WD_seg 2 ⟨[(7, .ps .opt (s32.F a0.Body)), (6, .box 1 0 0 8), (5, eExpr r1), (4, eExpr a0.E), (3, .box 1 0 0 4), (1, .box 1 0 0 0), (2, .box 2 1 0 0)], [(2, ⟨1, 38, 11, true, false, [.agg [vi 0, vw b0, vw b0, vi 0, vi 0, vi 0, vw b0, .ps .nil [], .ps .nil [], .ps .nil [], vz c0]]⟩), (1, ⟨0, 38, 11, true, false, [eStmt a0]⟩)], 2⟩ [] [(0, [1]), (1, [1]), (3, [1]), (4, [1])] (by kernel_rfl) (by kernel_rfl) ?_
  obtain ⟨r2, hr2, h⟩ := bsome h
  refine WD_pt rfl (by kernel_rfl) (by kernel_rfl) [.ps .opt (s32.F a0.Body)] (.ps .opt (s32.F r2)) rfl (by kernel_rfl) en124 (by kernel_rfl) (PT_of_GO ((ih _ (by omega)).1 hr2)) (by kernel_rfl) ?_
  refine WD_seg 2 ⟨[(10, .ps .opt (s32.F a0.Else)), (9, .box 1 0 0 9), (8, .ps .opt (s32.F r2)), (7, .ps .opt (s32.F a0.Body)), (6, .box 1 0 0 8), (5, eExpr r1), (4, eExpr a0.E), (3, .box 1 0 0 4), (1, .box 1 0 0 0), (2, .box 2 1 0 0)], [(2, ⟨1, 38, 11, true, false, [.agg [vi 0, vw b0, vw b0, vi 0, vi 0, vi 0, vw b0, .ps .nil [], .ps .nil [], .ps .nil [], vz c0]]⟩), (1, ⟨0, 38, 11, true, false, [eStmt a0]⟩)], 2⟩ [] [(0, [1]), (1, [1]), (3, [1]), (4, [1]), (6, [1]), (7, [1])] (by kernel_rfl) (by kernel_rfl) ?_
  obtain ⟨r3, hr3, h⟩ := bsome h
  refine WD_pt rfl (by kernel_rfl) (by kernel_rfl) [.ps .opt (s32.F a0.Else)] (.ps .opt (s32.F r3)) rfl (by kernel_rfl) en124 (by kernel_rfl) (PT_of_GO ((ih _ (by omega)).1 hr3)) (by kernel_rfl) ?_
  refine WD_seg 6 ⟨[(14, .box 1 0 0 9), (13, .box 1 0 0 8), (12, .box 1 0 0 4), (11, .ps .opt (s32.F r3)), (10, .ps .opt (s32.F a0.Else)), (9, .box 1 0 0 9), (8, .ps .opt (s32.F r2)), (7, .ps .opt (s32.F a0.Body)), (6, .box 1 0 0 8), (5, eExpr r1), (4, eExpr a0.E), (3, .box 1 0 0 4), (1, .box 1 0 0 0), (2, .box 2 1 0 0)], [(1, ⟨0, 38, 11, true, false, [.agg [vi a0.Kind, vw a0.Name, vw a0.Other, vi a0.N, vi r1.Kind, vi r1.N, vw r1.Name, .ps .opt (s33.F r1.Of), .ps .opt (s32.F r2), .ps .opt (s32.F r3), vz a0.At]]⟩), (2, ⟨1, 38, 11, true, false, [.agg [vi 0, vw b0, vw b0, vi 0, vi 0, vi 0, vw b0, .ps .nil [], .ps .nil [], .ps .nil [], vz c0]]⟩)], 2⟩ [(10, [1]), (12, [1]), (14, [1])] [(0, [1]), (1, [1]), (3, [1]), (4, [1]), (6, [1]), (7, [1]), (9, [1]), (11, [1]), (13, [1])] (by kernel_rfl) (by kernel_rfl) ?_
  refine WD_end (by kernel_rfl) (by kernel_rfl) (by kernel_rfl) ?_
  refine Wk_done ?_
  refine Qz hT 2 [2] ⟨[(2, .box 2 1 0 0)], [(2, ⟨1, 38, 11, true, false, [.agg [vi a0.Kind, vw a0.Name, vw a0.Other, vi a0.N, vi r1.Kind, vi r1.N, vw r1.Name, .ps .opt (s33.F r1.Of), .ps .opt (s32.F r2), .ps .opt (s32.F r3), vz a0.At]]⟩), (1, ⟨0, 38, 11, true, false, [.agg [vi a0.Kind, vw a0.Name, vw a0.Other, vi a0.N, vi r1.Kind, vi r1.N, vw r1.Name, .ps .opt (s33.F r1.Of), .ps .opt (s32.F r2), .ps .opt (s32.F r3), vz a0.At]]⟩)], 2⟩ ?_
  refine aW [2] ⟨[(2, .box 2 1 0 0)], [(2, ⟨1, 38, 11, true, false, [.agg [vi a0.Kind, vw a0.Name, vw a0.Other, vi a0.N, vi r1.Kind, vi r1.N, vw r1.Name, .ps .opt (s33.F r1.Of), .ps .opt (s32.F r2), .ps .opt (s32.F r3), vz a0.At]]⟩), (1, ⟨0, 38, 11, true, false, [.agg [vi a0.Kind, vw a0.Name, vw a0.Other, vi a0.N, vi r1.Kind, vi r1.N, vw r1.Name, .ps .opt (s33.F r1.Of), .ps .opt (s32.F r2), .ps .opt (s32.F r3), vz a0.At]]⟩)], 2⟩ ?_
  refine WA_weak (Weak_leH [(2, .box 2 1 0 0)] [(2, ⟨1, 38, 11, true, false, [eStmt (Stmt.mk a0.Kind a0.Name a0.Other a0.N r1 r2 r3 a0.At)]⟩), (1, ⟨0, 38, 11, true, false, [.agg [vi a0.Kind, vw a0.Name, vw a0.Other, vi a0.N, vi r1.Kind, vi r1.N, vw r1.Name, .ps .opt (s33.F r1.Of), .ps .opt (s32.F r2), .ps .opt (s32.F r3), vz a0.At]]⟩)] (by kernel_rfl) ⟨VLf.refl _, trivial⟩ ⟨rfl, .inr (.inl ⟨rfl, rfl, CLe.agg ⟨VLf.refl _, VLf.refl _, VLf.refl _, VLf.refl _, VLf.refl _, VLf.refl _, VLf.refl _, VLf.refl _, VLf.refl _, VLf.refl _, VLf.refl _, trivial⟩, trivial⟩), rfl, .inl rfl, trivial⟩) ?_
  obtain rfl := Option.some.inj h
  exact rR [(2, 1000, 0)] ⟨[(2, .box 1000 0 0 0)], [(1000, ⟨0, 38, 11, true, false, [eStmt (Stmt.mk a0.Kind a0.Name a0.Other a0.N r1 r2 r3 a0.At)]⟩)], 1⟩ ⟨by kernel_rfl, rfl⟩
theorem tree_copyBlock_all (n : Nat) : tree_copyBlock_spec n := by
  induction n using Nat.strongRecOn with
  | _ n ih => exact ⟨tree_copyBlock_step n ih, tree_copyStmt_step n ih⟩
theorem tree_copyBlock_ok {n : Nat} {a0 : List Stmt} {r : List Stmt} (h : tree_copyBlock n a0 = some r) : GO Try.prog 124 [] [.ps .opt (s32.F a0)] (.sl 100 1 0 (s32.F r).length false) [(100, ⟨1, 38, 11, false, true, s32.F r⟩)] := (tree_copyBlock_all n).1 h
theorem tree_copyStmt_ok {n : Nat} {a0 : Stmt} {r : Stmt} (h : tree_copyStmt n a0 = some r) : PT Try.prog 110 [eStmt a0] (eStmt r) := (tree_copyBlock_all n).2 h

theorem Clip_111_ok {n : Nat} {a0 : List Stmt} {r : List Stmt} (h : Clip_111 n a0 = some r) : PT Try.prog 111 [.ps .opt (s32.F a0)] (.ps .fopt (s32.F r)) := by
  unfold Clip_111 at h
  refine PT_bodyA hT Try.func111 rfl (by kernel_rfl) fun bad w => ?_
  refine Qz hT 1 [0] ⟨[(0, .ps .opt (s32.F a0))], [], 0⟩ ?_
  refine Qg hT 2 [0, 3, 4] ⟨[(0, .ps .opt (s32.F a0)), (3, .ps .opt (s32.F a0)), (4, .ps .opt (s32.F a0))], [], 0⟩ ?_
  refine One hT rfl (ev_len s32 .opt a0 (by kernel_rfl)) ?_
  refine Sg hT 1 [3, 5, 6] ⟨[(3, .ps .opt (s32.F a0)), (5, vi (ln a0)), (6, .ps .opt (s32.F a0))], [], 0⟩ ?_
  refine One hT rfl (ev_len s32 .opt a0 (by kernel_rfl)) ?_
  refine Sg hT 0 [3, 5, 7] ⟨[(3, .ps .opt (s32.F a0)), (5, vi (ln a0)), (7, vi (ln a0))], [], 0⟩ ?_
  obtain ⟨l1, hl1, h⟩ := bsome h
  refine One hT rfl (ev_slice s32 .opt a0 0 (ln a0) (some (ln a0)) l1 .fopt hl1 (by kernel_rfl) (by kernel_rfl) (by kernel_rfl) (by kernel_rfl) (by intro y hy; cases hy; rfl) rfl rfl (by decide)) ?_
  refine Sz hT 1 [2] ⟨[(2, .ps .fopt (s32.F l1))], [], 0⟩ ?_
  obtain rfl := Option.some.inj h
  exact rK [2] [] ⟨[(2, .ps .fopt (s32.F l1))], [], 1⟩ ⟨by kernel_rfl, rfl⟩

theorem tree_List_ok {n : Nat} {a0 : Prog} {r : List Stmt} (h : tree_List n a0 = some r) : PT Try.prog 67 [eProg a0] (.ps .fopt (s32.F r)) := by
  unfold tree_List at h
  refine PT_bodyA hT Try.func67 rfl (by kernel_rfl) fun bad w => ?_
  refine Qz hT 2 [1] ⟨[(1, .box 1 0 0 0)], [(1, ⟨0, 26, 2, true, false, [eProg a0]⟩)], 1⟩ ?_
  refine Qz hT 1 [1, 3] ⟨[(1, .box 1 0 0 0), (3, .ps .nil [])], [(1, ⟨0, 26, 2, true, false, [eProg a0]⟩)], 1⟩ ?_
  refine WA_seq ?_
  refine Qg hT 2 [3, 9] ⟨[(3, .ps .nil []), (9, .ps .opt (s24.F a0.Threads))], [(1, ⟨0, 26, 2, true, false, [eProg a0]⟩)], 1⟩ ?_
  refine One hT rfl (ev_len s24 .opt a0.Threads (by kernel_rfl)) ?_
  refine Sz hT 1 [3, 9, 10, 11] ⟨[(3, .ps .nil []), (9, .ps .opt (s24.F a0.Threads)), (10, vi (ln a0.Threads)), (11, vi 0)], [(1, ⟨0, 26, 2, true, false, [eProg a0]⟩)], 1⟩ ?_
  refine WA_block ?_
  refine aW [3, 9, 10, 11] ⟨[(3, .ps .nil []), (9, .ps .opt (s24.F a0.Threads)), (10, vi (ln a0.Threads)), (11, vi 0)], [(1, ⟨0, 26, 2, true, false, [eProg a0]⟩)], 1⟩ ?_
  refine WA_weak (Weak_own 3 5000 38 11 (by kernel_rfl) (by kernel_rfl) (by kernel_rfl) (by kernel_rfl)) ?_
  refine lK [3, 9, 10, 11] [(5000, 10003, 0)] (fun k s => ∃ q, q ≤ k ∧ q ≤ n ∧ ∃ (l1 : List Stmt), ∃ (i2 : Int), tree_List_L0 q a0 l1 i2 = some r ∧ s = ⟨[(3, vo 10003 0 (s32.F l1)), (9, .ps .opt (s24.F a0.Threads)), (10, vi (ln a0.Threads)), (11, vi i2)], [(10003, ⟨0, 38, 11, false, true, s32.F l1⟩)], 1⟩) n ⟨n, Nat.le_refl _, Nat.le_refl _, ([] : List Stmt), 0, h, rfl⟩ (by rintro s ⟨q, hq, _, l1, i2, h, _⟩; obtain rfl := Nat.le_zero.1 hq; rw [tree_List_L0] at h; cases h) ?_
  clear h
  rintro k1 s ⟨q1, hk1, hn1, l1, i2, h, rfl⟩
  rcases q1 with _ | q1
  · rw [tree_List_L0] at h; cases h
  rw [tree_List_L0] at h
  refine Qz hT 1 [3, 9, 10, 11, 12] ⟨[(3, vo 10003 0 (s32.F l1)), (9, .ps .opt (s24.F a0.Threads)), (10, vi (ln a0.Threads)), (11, vi i2), (12, vb (decide (i2 < (ln a0.Threads))))], [(10003, ⟨0, 38, 11, false, true, s32.F l1⟩)], 1⟩ ?_
  refine WA_seq ?_
  refine Cd (decide (i2 < (ln a0.Threads))) ?_ ?_
  · intro hb; replace h := ctrue hb h
    refine WA_skip ?_
    refine WA_seq ?_
    refine WA_block ?_
    refine Qg hT 0 [3, 9, 10, 11] ⟨[(3, vo 10003 0 (s32.F l1)), (9, .ps .opt (s24.F a0.Threads)), (10, vi (ln a0.Threads)), (11, vi i2)], [(10003, ⟨0, 38, 11, false, true, s32.F l1⟩)], 1⟩ ?_
    obtain ⟨x3, hx3, h⟩ := bsome h
    refine One hT rfl (ev_index s24 .opt a0.Threads .i64 i2 hx3 (by decide) (by kernel_rfl) (by kernel_rfl)) ?_
    refine Sz hT 2 [3, 5, 9, 10, 11] ⟨[(3, vo 10003 0 (s32.F l1)), (5, .ps .opt (s32.F x3)), (9, .ps .opt (s24.F a0.Threads)), (10, vi (ln a0.Threads)), (11, vi i2)], [(10003, ⟨0, 38, 11, false, true, s32.F l1⟩)], 1⟩ ?_
    refine Rg hT 2 [9, 10, 11, 15, 16] ⟨[(9, .ps .opt (s24.F a0.Threads)), (10, vi (ln a0.Threads)), (11, vi i2), (15, vo 10003 0 (s32.F l1)), (16, .ps .opt (s32.F x3))], [(10003, ⟨0, 38, 11, false, true, s32.F l1⟩)], 1⟩ ?_
    obtain ⟨r4, hr4, h⟩ := bsome h
    refine WO_go rfl (by kernel_rfl) [(0, ⟨0, 38, 11, false, true, s32.F l1⟩)] [(100, ⟨1, 38, 11, false, true, s32.F r4⟩)] [vo 10003 0 (s32.F l1), .ps .opt (s32.F x3)] [vo 0 0 (s32.F l1), .ps .opt (s32.F x3)] [(10003, 0, 0)] [(100, 17, 1)] [(17, ⟨1, 38, 11, false, true, s32.F r4⟩)] (vo 100 1 (s32.F r4)) (vo 17 1 (s32.F r4)) 2 rfl (by kernel_rfl) en109 (by kernel_rfl) (by kernel_rfl) (by kernel_rfl) (tree_listed_109_o_ok hr4) (by kernel_rfl) (by kernel_rfl) (by kernel_rfl) (by kernel_rfl) ?_
    refine Sz hT 1 [3, 9, 10, 11] ⟨[(3, vo 17 1 (s32.F r4)), (9, .ps .opt (s24.F a0.Threads)), (10, vi (ln a0.Threads)), (11, vi i2)], [(17, ⟨1, 38, 11, false, true, s32.F r4⟩)], 2⟩ ?_
    refine Rg hT 2 [3, 9, 10, 11] ⟨[(3, vo 17 1 (s32.F r4)), (9, .ps .opt (s24.F a0.Threads)), (10, vi (ln a0.Threads)), (11, vi (wr (i2 + 1)))], [(17, ⟨1, 38, 11, false, true, s32.F r4⟩)], 2⟩ ?_
    exact oK [3, 9, 10, 11] [(17, 10003, 0)] ⟨_, by omega, by omega, r4, wr (i2 + 1), h, rfl⟩
  intro hb; replace h := cfalse hb h
  refine WA_exit ?_
  refine WA_seq ?_
  refine Qg hT 1 [3, 19] ⟨[(3, vo 10003 0 (s32.F l1)), (19, vo 10003 0 (s32.F l1))], [(10003, ⟨0, 38, 11, false, true, s32.F l1⟩)], 1⟩ ?_
  refine One hT rfl (ev_len_own s32 10003 0 true ⟨0, 38, 11, false, true, s32.F l1⟩ l1 (by kernel_rfl) rfl rfl) ?_
  refine Sz hT 1 [3, 19, 20, 21] ⟨[(3, vo 10003 0 (s32.F l1)), (19, vo 10003 0 (s32.F l1)), (20, vi (ln l1)), (21, vi 0)], [(10003, ⟨0, 38, 11, false, true, s32.F l1⟩)], 1⟩ ?_
  refine WA_block ?_
  refine lK [3, 19, 20, 21] [(10003, 10003, 0)] (fun k s => ∃ q, q ≤ k ∧ q ≤ q1 ∧ ∃ (l5 : List Stmt), ∃ (i6 : Int), tree_List_L1 q a0 l1 i2 l5 i6 = some r ∧ s = ⟨[(3, vo 10003 0 (s32.F l5)), (19, vo 10003 0 (s32.F l5)), (20, vi (ln l1)), (21, vi i6)], [(10003, ⟨0, 38, 11, false, true, s32.F l5⟩)], 1⟩) q1 ⟨q1, Nat.le_refl _, Nat.le_refl _, l1, 0, h, rfl⟩ (by rintro s ⟨q, hq, _, l5, i6, h, _⟩; obtain rfl := Nat.le_zero.1 hq; rw [tree_List_L1] at h; cases h) ?_
  clear h
  rintro k2 s ⟨q2, hk2, hn2, l5, i6, h, rfl⟩
  rcases q2 with _ | q2
  · rw [tree_List_L1] at h; cases h
  rw [tree_List_L1] at h
  refine Qz hT 1 [3, 19, 20, 21, 22] ⟨[(3, vo 10003 0 (s32.F l5)), (19, vo 10003 0 (s32.F l5)), (20, vi (ln l1)), (21, vi i6), (22, vb (decide (i6 < (ln l1))))], [(10003, ⟨0, 38, 11, false, true, s32.F l5⟩)], 1⟩ ?_
  refine WA_seq ?_
  refine Cd (decide (i6 < (ln l1))) ?_ ?_
  · intro hb; replace h := ctrue hb h
    refine WA_skip ?_
    refine WA_seq ?_
    refine WA_block ?_
    refine Qg hT 1 [3, 19, 20, 21, 23] ⟨[(3, vo 10003 0 (s32.F l5)), (19, vo 10003 0 (s32.F l5)), (20, vi (ln l1)), (21, vi i6), (23, vi i6)], [(10003, ⟨0, 38, 11, false, true, s32.F l5⟩)], 1⟩ ?_
    obtain ⟨x7, hx7, h⟩ := bsome h
    refine One hT rfl (ev_index_own s32 10003 0 true ⟨0, 38, 11, false, true, s32.F l5⟩ l5 .i64 i6 hx7 (by kernel_rfl) (by kernel_rfl) rfl rfl rfl) ?_
    refine Sg hT 0 [3, 19, 20, 21, 23, 24] ⟨[(3, vo 10003 0 (s32.F l5)), (19, vo 10003 0 (s32.F l5)), (20, vi (ln l1)), (21, vi i6), (23, vi i6), (24, .box 10003 0 i6.toNat 0)], [(10003, ⟨0, 38, 11, false, true, s32.F l5⟩)], 1⟩ ?_
    refine One hT rfl (ev_load_row s32 10003 0 ⟨0, 38, 11, false, true, s32.F l5⟩ l5 i6.toNat 0 x7 (eStmt x7) (idx_some hx7).2 (by kernel_rfl) rfl rfl rfl (by kernel_rfl)) ?_
    refine Sz hT 3 [3, 6, 7, 19, 20, 21] ⟨[(3, vo 10003 0 (s32.F l5)), (6, vi i6), (7, .box 7 1 0 0), (19, vo 10003 0 (s32.F l5)), (20, vi (ln l1)), (21, vi i6)], [(7, ⟨1, 38, 11, true, false, [eStmt x7]⟩), (10003, ⟨0, 38, 11, false, true, s32.F l5⟩)], 2⟩ ?_
    refine Rg hT 3 [3, 19, 20, 21, 26, 27, 28] ⟨[(3, vo 10003 0 (s32.F l5)), (19, vo 10003 0 (s32.F l5)), (20, vi (ln l1)), (21, vi i6), (26, vo 10003 0 (s32.F l5)), (27, vi i6), (28, eStmt x7)], [(7, ⟨1, 38, 11, true, false, [eStmt x7]⟩), (10003, ⟨0, 38, 11, false, true, s32.F l5⟩)], 2⟩ ?_
    obtain ⟨r8, hr8, h⟩ := bsome h
    refine Pt en110 (tree_copyStmt_ok hr8) ?_
    refine Sg hT 0 [3, 19, 20, 21, 26, 27, 29] ⟨[(3, vo 10003 0 (s32.F l5)), (19, vo 10003 0 (s32.F l5)), (20, vi (ln l1)), (21, vi i6), (26, vo 10003 0 (s32.F l5)), (27, vi i6), (29, eStmt r8)], [(7, ⟨1, 38, 11, true, false, [eStmt x7]⟩), (10003, ⟨0, 38, 11, false, true, s32.F l5⟩)], 2⟩ ?_
    obtain ⟨x9, hx9, h⟩ := bsome h
    refine One hT rfl (ev_index_own s32 10003 0 true ⟨0, 38, 11, false, true, s32.F l5⟩ l5 .i64 i6 hx9 (by kernel_rfl) (by kernel_rfl) rfl rfl rfl) ?_
    refine Sg hT 0 [3, 19, 20, 21, 29, 30] ⟨[(3, vo 10003 0 (s32.F l5)), (19, vo 10003 0 (s32.F l5)), (20, vi (ln l1)), (21, vi i6), (29, eStmt r8), (30, .box 10003 0 i6.toNat 0)], [(7, ⟨1, 38, 11, true, false, [eStmt x7]⟩), (10003, ⟨0, 38, 11, false, true, s32.F l5⟩)], 2⟩ ?_
    refine One hT rfl (ev_storeRow s32 10003 0 ⟨0, 38, 11, false, true, s32.F l5⟩ l5 i6.toNat 0 x9 r8 (idx_some hx9).2 (by kernel_rfl) (by kernel_rfl) rfl rfl rfl rfl (by kernel_rfl) (by kernel_rfl) (by kernel_rfl)) ?_
    refine oW [3, 19, 20, 21, 29] ⟨[(3, vo 10003 0 (s32.F l5)), (19, vo 10003 0 (s32.F l5)), (20, vi (ln l1)), (21, vi i6), (29, eStmt r8)], [(10003, ⟨0, 38, 11, false, true, s32.F (l5.set i6.toNat r8)⟩), (7, ⟨1, 38, 11, true, false, [eStmt x7]⟩)], 2⟩ ?_
    refine WO_weak (Weak_leH [(3, vo 10003 0 (s32.F (l5.set i6.toNat r8))), (19, vo 10003 0 (s32.F (l5.set i6.toNat r8))), (20, vi (ln l1)), (21, vi i6), (29, eStmt r8)] [(10003, ⟨0, 38, 11, false, true, s32.F (l5.set i6.toNat r8)⟩), (7, ⟨1, 38, 11, true, false, [eStmt x7]⟩)] (by kernel_rfl) ⟨(VLf.slen (by simp [TE.len, lcopy_length, rcopy_length])), (VLf.slen (by simp [TE.len, lcopy_length, rcopy_length])), VLf.refl _, VLf.refl _, VLf.refl _, trivial⟩ (HLe.refl _)) ?_
    refine Sz hT 0 [3, 19, 20, 21] ⟨[(3, vo 10003 0 (s32.F (l5.set i6.toNat r8))), (19, vo 10003 0 (s32.F (l5.set i6.toNat r8))), (20, vi (ln l1)), (21, vi i6)], [(10003, ⟨0, 38, 11, false, true, s32.F (l5.set i6.toNat r8)⟩), (7, ⟨1, 38, 11, true, false, [eStmt x7]⟩)], 2⟩ ?_
    refine Rg hT 2 [3, 19, 20, 21] ⟨[(3, vo 10003 0 (s32.F (l5.set i6.toNat r8))), (19, vo 10003 0 (s32.F (l5.set i6.toNat r8))), (20, vi (ln l1)), (21, vi (wr (i6 + 1)))], [(10003, ⟨0, 38, 11, false, true, s32.F (l5.set i6.toNat r8)⟩), (7, ⟨1, 38, 11, true, false, [eStmt x7]⟩)], 2⟩ ?_
    exact oK [3, 19, 20, 21] [(10003, 10003, 0)] ⟨_, by omega, by omega, l5.set i6.toNat r8, wr (i6 + 1), h, rfl⟩
  intro hb; replace h := cfalse hb h
  refine WA_exit ?_
  refine Qg hT 1 [32] ⟨[(32, vo 10003 0 (s32.F l5))], [(10003, ⟨0, 38, 11, false, true, s32.F l5⟩)], 1⟩ ?_
  refine WO_weak (Weak_frz 10003 0 ⟨0, 38, 11, false, true, s32.F l5⟩ (by kernel_rfl) rfl rfl [(32, .ps .opt (s32.F l5))] [] ⟨rfl, .hit true, trivial⟩ trivial) ?_
  obtain ⟨r10, hr10, h⟩ := bsome h
  refine Pt en111 (Clip_111_ok hr10) ?_
  refine Sz hT 1 [2] ⟨[(2, .ps .fopt (s32.F r10))], [], 1⟩ ?_
  obtain rfl := Option.some.inj h
  exact rK [2] [] ⟨[(2, .ps .fopt (s32.F r10))], [], 1⟩ ⟨by kernel_rfl, rfl⟩

theorem Index_68_ok {n : Nat} {a0 : List Int} {a1 : Int} {r : Int} (h : Index_68 n a0 a1 = some r) : PT Try.prog 68 [.ps .opt (s30.F a0), vi a1] (vi r) := by
  unfold Index_68 at h
  refine PT_bodyA hT Try.func68 rfl (by kernel_rfl) fun bad w => ?_
  refine Qz hT 1 [0, 1] ⟨[(0, .ps .opt (s30.F a0)), (1, vi a1)], [], 0⟩ ?_
  refine WA_seq ?_
  refine Qg hT 1 [0, 1, 6] ⟨[(0, .ps .opt (s30.F a0)), (1, vi a1), (6, .ps .opt (s30.F a0))], [], 0⟩ ?_
  refine One hT rfl (ev_len s30 .opt a0 (by kernel_rfl)) ?_
  refine Sz hT 1 [0, 1, 7, 8] ⟨[(0, .ps .opt (s30.F a0)), (1, vi a1), (7, vi (ln a0)), (8, vi 0)], [], 0⟩ ?_
  refine WA_block ?_
  refine lK [0, 1, 7, 8] [] (fun k s => ∃ q, q ≤ k ∧ q ≤ n ∧ ∃ (i1 : Int), Index_68_L0 q a0 a1 i1 = some r ∧ s = ⟨[(0, .ps .opt (s30.F a0)), (1, vi a1), (7, vi (ln a0)), (8, vi i1)], [], 1⟩) n ⟨n, Nat.le_refl _, Nat.le_refl _, 0, h, rfl⟩ (by rintro s ⟨q, hq, _, i1, h, _⟩; obtain rfl := Nat.le_zero.1 hq; rw [Index_68_L0] at h; cases h) ?_
  clear h
  rintro k1 s ⟨q1, hk1, hn1, i1, h, rfl⟩
  rcases q1 with _ | q1
  · rw [Index_68_L0] at h; cases h
  rw [Index_68_L0] at h
  refine Qz hT 1 [0, 1, 7, 8, 9] ⟨[(0, .ps .opt (s30.F a0)), (1, vi a1), (7, vi (ln a0)), (8, vi i1), (9, vb (decide (i1 < (ln a0))))], [], 1⟩ ?_
  refine WA_seq ?_
  refine Cd (decide (i1 < (ln a0))) ?_ ?_
  · intro hb; replace h := ctrue hb h
    refine WA_skip ?_
    refine WA_seq ?_
    refine WA_block ?_
    refine Qz hT 2 [0, 1, 5, 7, 8] ⟨[(0, .ps .opt (s30.F a0)), (1, vi a1), (5, vi i1), (7, vi (ln a0)), (8, vi i1)], [], 1⟩ ?_
    refine Qg hT 3 [0, 1, 5, 7, 8, 11, 12, 13] ⟨[(0, .ps .opt (s30.F a0)), (1, vi a1), (5, vi i1), (7, vi (ln a0)), (8, vi i1), (11, vi a1), (12, .ps .opt (s30.F a0)), (13, vi i1)], [], 1⟩ ?_
    obtain ⟨x2, hx2, h⟩ := bsome h
    refine One hT rfl (ev_index s30 .opt a0 .i64 i1 hx2 (by decide) (by kernel_rfl) (by kernel_rfl)) ?_
    refine Sz hT 2 [0, 1, 5, 7, 8, 16] ⟨[(0, .ps .opt (s30.F a0)), (1, vi a1), (5, vi i1), (7, vi (ln a0)), (8, vi i1), (16, vb (a1 == x2))], [], 1⟩ ?_
    refine Cd (a1 == x2) ?_ ?_
    · intro hb; replace h := ctrue hb h
      refine Qz hT 2 [4] ⟨[(4, vi i1)], [], 1⟩ ?_
      obtain rfl := Option.some.inj h
      exact rK [4] [] ⟨[(4, vi i1)], [], 1⟩ ⟨by kernel_rfl, rfl⟩
    intro hb; replace h := cfalse hb h
    refine WA_skip ?_
    refine Rg hT 2 [0, 1, 7, 8] ⟨[(0, .ps .opt (s30.F a0)), (1, vi a1), (7, vi (ln a0)), (8, vi (wr (i1 + 1)))], [], 1⟩ ?_
    exact oK [0, 1, 7, 8] [] ⟨_, by omega, by omega, wr (i1 + 1), h, rfl⟩
  intro hb; replace h := cfalse hb h
  refine WA_exit ?_
  refine Qz hT 1 [4] ⟨[(4, vi (-1))], [], 1⟩ ?_
  obtain rfl := Option.some.inj h
  exact rK [4] [] ⟨[(4, vi (-1))], [], 1⟩ ⟨by kernel_rfl, rfl⟩

theorem bound_Check_ok {n : Nat} {a0 : Prog} {r : Cx × Int} (h : bound_Check n a0 = some r) : PT Try.prog 20 [eProg a0] (.tup [vz r.1, vi r.2]) := by
  unfold bound_Check at h
  refine PT_bodyA hT Try.func20 rfl (by kernel_rfl) fun bad w => ?_
  refine Qz hT 3 [1] ⟨[(1, .box 1 0 0 0)], [(1, ⟨0, 26, 2, true, false, [eProg a0]⟩)], 1⟩ ?_
  refine Qg hT 1 [1, 7] ⟨[(1, .box 1 0 0 0), (7, eProg a0)], [(1, ⟨0, 26, 2, true, false, [eProg a0]⟩)], 1⟩ ?_
  obtain ⟨r1, hr1, h⟩ := bsome h
  refine Pt en66 (tree_Threads_ok hr1) ?_
  refine Sz hT 1 [1, 4] ⟨[(1, .box 1 0 0 0), (4, .ps .fopt (s30.F r1))], [(1, ⟨0, 26, 2, true, false, [eProg a0]⟩)], 1⟩ ?_
  refine WA_seq ?_
  refine Qg hT 1 [1, 4, 9] ⟨[(1, .box 1 0 0 0), (4, .ps .fopt (s30.F r1)), (9, eProg a0)], [(1, ⟨0, 26, 2, true, false, [eProg a0]⟩)], 1⟩ ?_
  obtain ⟨r2, hr2, h⟩ := bsome h
  refine Pt en18 (bound_Size_ok hr2) ?_
  refine Sg hT 0 [1, 4, 10] ⟨[(1, .box 1 0 0 0), (4, .ps .fopt (s30.F r1)), (10, .ps .fopt (s30.F r2))], [(1, ⟨0, 26, 2, true, false, [eProg a0]⟩)], 1⟩ ?_
  refine One hT rfl (ev_len s30 .fopt r2 (by kernel_rfl)) ?_
  refine Sz hT 1 [1, 4, 10, 11, 12] ⟨[(1, .box 1 0 0 0), (4, .ps .fopt (s30.F r1)), (10, .ps .fopt (s30.F r2)), (11, vi (ln r2)), (12, vi 0)], [(1, ⟨0, 26, 2, true, false, [eProg a0]⟩)], 1⟩ ?_
  refine WA_block ?_
  refine lK [1, 4, 10, 11, 12] [(1, 1, 0)] (fun k s => ∃ q, q ≤ k ∧ q ≤ n ∧ ∃ (i3 : Int), bound_Check_L0 q a0 r1 r2 i3 = some r ∧ s = ⟨[(1, .box 1 0 0 0), (4, .ps .fopt (s30.F r1)), (10, .ps .fopt (s30.F r2)), (11, vi (ln r2)), (12, vi i3)], [(1, ⟨0, 26, 2, true, false, [eProg a0]⟩)], 1⟩) n ⟨n, Nat.le_refl _, Nat.le_refl _, 0, h, rfl⟩ (by rintro s ⟨q, hq, _, i3, h, _⟩; obtain rfl := Nat.le_zero.1 hq; rw [bound_Check_L0] at h; cases h) ?_
  clear h
  rintro k1 s ⟨q1, hk1, hn1, i3, h, rfl⟩
  rcases q1 with _ | q1
  · rw [bound_Check_L0] at h; cases h
  rw [bound_Check_L0] at h
  refine Qz hT 1 [1, 4, 10, 11, 12, 13] ⟨[(1, .box 1 0 0 0), (4, .ps .fopt (s30.F r1)), (10, .ps .fopt (s30.F r2)), (11, vi (ln r2)), (12, vi i3), (13, vb (decide (i3 < (ln r2))))], [(1, ⟨0, 26, 2, true, false, [eProg a0]⟩)], 1⟩ ?_
  refine WA_seq ?_
  refine Cd (decide (i3 < (ln r2))) ?_ ?_
  · intro hb; replace h := ctrue hb h
    refine WA_skip ?_
    refine WA_seq ?_
    refine WA_block ?_
    refine Qg hT 1 [1, 4, 10, 11, 12, 14] ⟨[(1, .box 1 0 0 0), (4, .ps .fopt (s30.F r1)), (10, .ps .fopt (s30.F r2)), (11, vi (ln r2)), (12, vi i3), (14, vi i3)], [(1, ⟨0, 26, 2, true, false, [eProg a0]⟩)], 1⟩ ?_
    obtain ⟨x4, hx4, h⟩ := bsome h
    refine One hT rfl (ev_index s30 .fopt r2 .i64 i3 hx4 (by decide) (by kernel_rfl) (by kernel_rfl)) ?_
    refine Sz hT 3 [1, 4, 5, 6, 10, 11, 12] ⟨[(1, .box 1 0 0 0), (4, .ps .fopt (s30.F r1)), (5, vi i3), (6, vi x4), (10, .ps .fopt (s30.F r2)), (11, vi (ln r2)), (12, vi i3)], [(1, ⟨0, 26, 2, true, false, [eProg a0]⟩)], 1⟩ ?_
    refine Qz hT 2 [1, 4, 5, 10, 11, 12, 18] ⟨[(1, .box 1 0 0 0), (4, .ps .fopt (s30.F r1)), (5, vi i3), (10, .ps .fopt (s30.F r2)), (11, vi (ln r2)), (12, vi i3), (18, vb (decide (x4 > 300)))], [(1, ⟨0, 26, 2, true, false, [eProg a0]⟩)], 1⟩ ?_
    refine Cd (decide (x4 > 300)) ?_ ?_
    · intro hb; replace h := ctrue hb h
      refine Qg hT 1 [4, 5, 19] ⟨[(4, .ps .fopt (s30.F r1)), (5, vi i3), (19, eProg a0)], [(1, ⟨0, 26, 2, true, false, [eProg a0]⟩)], 1⟩ ?_
      obtain ⟨r5, hr5, h⟩ := bsome h
      refine Pt en67 (tree_List_ok hr5) ?_
      refine Sg hT 2 [20, 21, 22] ⟨[(20, .ps .fopt (s32.F r5)), (21, .ps .fopt (s30.F r1)), (22, vi i3)], [(1, ⟨0, 26, 2, true, false, [eProg a0]⟩)], 1⟩ ?_
      obtain ⟨r6, hr6, h⟩ := bsome h
      refine Pt (vs := [.ps .fopt (s30.F r1), vi i3]) en68 (PT_args ((Index_68_ok hr6)) ⟨VLe.fopt_opt, VLe.refl _, trivial⟩) ?_
      refine Sg hT 0 [20, 23] ⟨[(20, .ps .fopt (s32.F r5)), (23, vi r6)], [(1, ⟨0, 26, 2, true, false, [eProg a0]⟩)], 1⟩ ?_
      obtain ⟨x7, hx7, h⟩ := bsome h
      refine One hT rfl (ev_index s32 .fopt r5 .i64 r6 hx7 (by decide) (by kernel_rfl) (by kernel_rfl)) ?_
      refine Sz hT 4 [2, 3] ⟨[(2, vz x7.At), (3, vi 5)], [(1, ⟨0, 26, 2, true, false, [eProg a0]⟩)], 1⟩ ?_
      obtain rfl := Option.some.inj h
      exact rK [2, 3] [] ⟨[(2, vz x7.At), (3, vi 5)], [], 1⟩ ⟨by kernel_rfl, rfl⟩
    intro hb; replace h := cfalse hb h
    refine WA_skip ?_
    refine Rg hT 2 [1, 4, 10, 11, 12] ⟨[(1, .box 1 0 0 0), (4, .ps .fopt (s30.F r1)), (10, .ps .fopt (s30.F r2)), (11, vi (ln r2)), (12, vi (wr (i3 + 1)))], [(1, ⟨0, 26, 2, true, false, [eProg a0]⟩)], 1⟩ ?_
    exact oK [1, 4, 10, 11, 12] [(1, 1, 0)] ⟨_, by omega, by omega, wr (i3 + 1), h, rfl⟩
  intro hb; replace h := cfalse hb h
  refine WA_exit ?_
  refine Qz hT 2 [2, 3] ⟨[(2, vz c0), (3, vi 0)], [(1, ⟨0, 26, 2, true, false, [eProg a0]⟩)], 1⟩ ?_
  obtain rfl := Option.some.inj h
  exact rK [2, 3] [] ⟨[(2, vz c0), (3, vi 0)], [], 1⟩ ⟨by kernel_rfl, rfl⟩

theorem law10_known_ok {n : Nat} {r : Bool} (h : law10_known n = some r) : PT Try.prog 16 [] (vb r) := by
  unfold law10_known at h
  refine PT_bodyA hT Try.func16 rfl (by kernel_rfl) fun bad w => ?_
  refine Qz hT 1 [] ⟨[], [], 0⟩ ?_
  refine WA_seq ?_
  refine WA_region ?_
  obtain ⟨r1, hr1, h⟩ := bsome h
  refine Pt en19 (law10_read_ok hr1) ?_
  obtain ⟨r2, hr2, h⟩ := bsome h
  refine Pt en18 (bound_Size_ok hr2) ?_
  refine Sz hT 1 [1] ⟨[(1, .ps .fopt (s30.F r2))], [], 0⟩ ?_
  refine WA_seq ?_
  obtain ⟨J4, hJ4, h⟩ := jsome h
  refine WA_join (fun s => ∃ (b3 : Bool), J4 b3 = some r ∧ s = ⟨[(0, vb b3)], [], 1⟩) ?_ ?_
  · refine Rg hT 1 [1, 4] ⟨[(1, .ps .fopt (s30.F r2)), (4, .ps .fopt (s30.F r2))], [], 0⟩ ?_
    refine One hT rfl (ev_len s30 .fopt r2 (by kernel_rfl)) ?_
    refine Sg hT 2 [1, 7] ⟨[(1, .ps .fopt (s30.F r2)), (7, vb ((ln r2) == 2))], [], 0⟩ ?_
    cases hb : (((ln r2) == 2) : Bool)
    · replace h := cfalse hb h
      refine Sg hT 12 [0] ⟨[(0, vb false)], [], 0⟩ ?_
      exact oK [0] [] ⟨false, h, rfl⟩
    replace h := ctrue hb h
    refine Sg hT 1 [1, 7, 8] ⟨[(1, .ps .fopt (s30.F r2)), (7, vb true), (8, .ps .fopt (s30.F r2))], [], 0⟩ ?_
    obtain ⟨x5, hx5, h⟩ := bsome h
    refine One hT rfl (ev_index s30 .fopt r2 .i64 0 hx5 (by decide) (by kernel_rfl) (by kernel_rfl)) ?_
    refine Sg hT 4 [1, 13] ⟨[(1, .ps .fopt (s30.F r2)), (13, vb (x5 == 4))], [], 0⟩ ?_
    cases hb : ((x5 == 4) : Bool)
    · replace h := cfalse hb h
      refine Sg hT 6 [0] ⟨[(0, vb false)], [], 0⟩ ?_
      exact oK [0] [] ⟨false, h, rfl⟩
    replace h := ctrue hb h
    refine Sg hT 1 [13, 14] ⟨[(13, vb true), (14, .ps .fopt (s30.F r2))], [], 0⟩ ?_
    obtain ⟨x6, hx6, h⟩ := bsome h
    refine One hT rfl (ev_index s30 .fopt r2 .i64 1 hx6 (by decide) (by kernel_rfl) (by kernel_rfl)) ?_
    refine Sg hT 4 [0] ⟨[(0, vb (x6 == 0))], [], 0⟩ ?_
    exact oK [0] [] ⟨(x6 == 0), h, rfl⟩
  subst hJ4
  rintro s ⟨b3, h, rfl⟩
  obtain rfl := Option.some.inj h
  exact rK [0] [] ⟨[(0, vb b3)], [], 1⟩ ⟨by kernel_rfl, rfl⟩

theorem law10_BoundKnown_ok {n : Nat} {r : Bool} (h : law10_BoundKnown n = some r) : PT Try.prog 4 [] (vb r) := by
  unfold law10_BoundKnown at h
  refine PT_bodyA hT Try.func4 rfl (by kernel_rfl) fun bad w => ?_
  refine Qz hT 1 [] ⟨[], [], 0⟩ ?_
  refine WA_seq ?_
  refine WA_region ?_
  obtain ⟨r1, hr1, h⟩ := bsome h
  refine Pt en19 (law10_read_ok hr1) ?_
  obtain ⟨r2, hr2, h⟩ := bsome h
  refine Pt en18 (bound_Size_ok hr2) ?_
  refine Sz hT 1 [1] ⟨[(1, .ps .fopt (s30.F r2))], [], 0⟩ ?_
  refine WA_seq ?_
  refine WA_region ?_
  obtain ⟨r3, hr3, h⟩ := bsome h
  refine Pt en19 (law10_read_ok hr3) ?_
  refine Sg hT 0 [1, 13] ⟨[(1, .ps .fopt (s30.F r2)), (13, eProg r3)], [], 0⟩ ?_
  obtain ⟨r4, hr4, h⟩ := bsome h
  refine Pt en20 (bound_Check_ok hr4) ?_
  refine Sz hT 5 [1, 3] ⟨[(1, .ps .fopt (s30.F r2)), (3, vi r4.2)], [], 0⟩ ?_
  refine WA_seq ?_
  refine WA_region ?_
  obtain ⟨r5, hr5, h⟩ := bsome h
  refine Pt en19 (law10_read_ok hr5) ?_
  refine Sg hT 0 [1, 3, 18] ⟨[(1, .ps .fopt (s30.F r2)), (3, vi r4.2), (18, eProg r5)], [], 0⟩ ?_
  obtain ⟨r6, hr6, h⟩ := bsome h
  refine Pt en20 (bound_Check_ok hr6) ?_
  refine Sz hT 5 [1, 3, 4, 5] ⟨[(1, .ps .fopt (s30.F r2)), (3, vi r4.2), (4, vz r6.1), (5, vi r6.2)], [], 0⟩ ?_
  refine Qg hT 1 [1, 3, 4, 5, 22] ⟨[(1, .ps .fopt (s30.F r2)), (3, vi r4.2), (4, vz r6.1), (5, vi r6.2), (22, .agg [vi 2, vw b0, vw b0, vi 0, vi 0, vi 0, vw b0, .ps .nil [], .ps .nil [], .ps .nil [], vz c0])], [], 0⟩ ?_
  refine One hT rfl (ev_bslice s32 23 [(Stmt.mk 2 b0 b0 0 (Expr.mk 0 0 b0 []) [] [] c0)] (by kernel_rfl)) ?_
  refine Sg hT 0 [1, 3, 4, 5, 23] ⟨[(1, .ps .fopt (s30.F r2)), (3, vi r4.2), (4, vz r6.1), (5, vi r6.2), (23, vo 23 0 (s32.F [(Stmt.mk 2 b0 b0 0 (Expr.mk 0 0 b0 []) [] [] c0)]))], [(23, ⟨0, 38, 11, false, false, s32.F [(Stmt.mk 2 b0 b0 0 (Expr.mk 0 0 b0 []) [] [] c0)]⟩)], 1⟩ ?_
  refine WO_weak (Weak_frz 23 0 ⟨0, 38, 11, false, false, s32.F [(Stmt.mk 2 b0 b0 0 (Expr.mk 0 0 b0 []) [] [] c0)]⟩ (by kernel_rfl) rfl rfl [(1, .ps .fopt (s30.F r2)), (3, vi r4.2), (4, vz r6.1), (5, vi r6.2), (23, .ps .opt (s32.F [(Stmt.mk 2 b0 b0 0 (Expr.mk 0 0 b0 []) [] [] c0)]))] [] ⟨rfl, .keep _, rfl, .keep _, rfl, .keep _, rfl, .keep _, rfl, .hit true, trivial⟩ trivial) ?_
  refine Sz hT 3 [1, 3, 4, 5, 6] ⟨[(1, .ps .fopt (s30.F r2)), (3, vi r4.2), (4, vz r6.1), (5, vi r6.2), (6, .box 6 1 0 0)], [(6, ⟨1, 38, 11, true, false, [.agg [vi 8, vw b0, vw b0, vi 1099511627776, vi 0, vi 0, vw b0, .ps .nil [], .ps .opt (s32.F [(Stmt.mk 2 b0 b0 0 (Expr.mk 0 0 b0 []) [] [] c0)]), .ps .nil [], vz c0]]⟩)], 2⟩ ?_
  refine Qg hT 1 [1, 3, 4, 5, 6, 25] ⟨[(1, .ps .fopt (s30.F r2)), (3, vi r4.2), (4, vz r6.1), (5, vi r6.2), (6, .box 6 1 0 0), (25, .agg [vi 8, vw b0, vw b0, vi 1099511627776, vi 0, vi 0, vw b0, .ps .nil [], .ps .opt (s32.F [(Stmt.mk 2 b0 b0 0 (Expr.mk 0 0 b0 []) [] [] c0)]), .ps .nil [], vz c0])], [(6, ⟨1, 38, 11, true, false, [.agg [vi 8, vw b0, vw b0, vi 1099511627776, vi 0, vi 0, vw b0, .ps .nil [], .ps .opt (s32.F [(Stmt.mk 2 b0 b0 0 (Expr.mk 0 0 b0 []) [] [] c0)]), .ps .nil [], vz c0]]⟩)], 2⟩ ?_
  refine One hT rfl (ev_bslice s32 26 [(Stmt.mk 8 b0 b0 1099511627776 (Expr.mk 0 0 b0 []) [(Stmt.mk 2 b0 b0 0 (Expr.mk 0 0 b0 []) [] [] c0)] [] c0)] (by kernel_rfl)) ?_
  refine Sg hT 0 [1, 3, 4, 5, 6, 26] ⟨[(1, .ps .fopt (s30.F r2)), (3, vi r4.2), (4, vz r6.1), (5, vi r6.2), (6, .box 6 1 0 0), (26, vo 26 2 (s32.F [(Stmt.mk 8 b0 b0 1099511627776 (Expr.mk 0 0 b0 []) [(Stmt.mk 2 b0 b0 0 (Expr.mk 0 0 b0 []) [] [] c0)] [] c0)]))], [(26, ⟨2, 38, 11, false, false, s32.F [(Stmt.mk 8 b0 b0 1099511627776 (Expr.mk 0 0 b0 []) [(Stmt.mk 2 b0 b0 0 (Expr.mk 0 0 b0 []) [] [] c0)] [] c0)]⟩), (6, ⟨1, 38, 11, true, false, [.agg [vi 8, vw b0, vw b0, vi 1099511627776, vi 0, vi 0, vw b0, .ps .nil [], .ps .opt (s32.F [(Stmt.mk 2 b0 b0 0 (Expr.mk 0 0 b0 []) [] [] c0)]), .ps .nil [], vz c0]]⟩)], 3⟩ ?_
  refine WO_weak (Weak_frz 26 2 ⟨2, 38, 11, false, false, s32.F [(Stmt.mk 8 b0 b0 1099511627776 (Expr.mk 0 0 b0 []) [(Stmt.mk 2 b0 b0 0 (Expr.mk 0 0 b0 []) [] [] c0)] [] c0)]⟩ (by kernel_rfl) rfl rfl [(1, .ps .fopt (s30.F r2)), (3, vi r4.2), (4, vz r6.1), (5, vi r6.2), (6, .box 6 1 0 0), (26, .ps .opt (s32.F [(Stmt.mk 8 b0 b0 1099511627776 (Expr.mk 0 0 b0 []) [(Stmt.mk 2 b0 b0 0 (Expr.mk 0 0 b0 []) [] [] c0)] [] c0)]))] [(6, ⟨1, 38, 11, true, false, [.agg [vi 8, vw b0, vw b0, vi 1099511627776, vi 0, vi 0, vw b0, .ps .nil [], .ps .opt (s32.F [(Stmt.mk 2 b0 b0 0 (Expr.mk 0 0 b0 []) [] [] c0)]), .ps .nil [], vz c0]]⟩)] ⟨rfl, .keep _, rfl, .keep _, rfl, .keep _, rfl, .keep _, rfl, .keep _, rfl, .hit true, trivial⟩ ⟨rfl, .inl rfl, trivial⟩) ?_
  refine Sz hT 3 [1, 3, 4, 5, 6, 7] ⟨[(1, .ps .fopt (s30.F r2)), (3, vi r4.2), (4, vz r6.1), (5, vi r6.2), (6, .box 6 1 0 0), (7, .box 7 3 0 0)], [(7, ⟨3, 38, 11, true, false, [.agg [vi 8, vw b0, vw b0, vi 4611686018427387904, vi 0, vi 0, vw b0, .ps .nil [], .ps .opt (s32.F [(Stmt.mk 8 b0 b0 1099511627776 (Expr.mk 0 0 b0 []) [(Stmt.mk 2 b0 b0 0 (Expr.mk 0 0 b0 []) [] [] c0)] [] c0)]), .ps .nil [], vz c0]]⟩), (6, ⟨1, 38, 11, true, false, [.agg [vi 8, vw b0, vw b0, vi 1099511627776, vi 0, vi 0, vw b0, .ps .nil [], .ps .opt (s32.F [(Stmt.mk 2 b0 b0 0 (Expr.mk 0 0 b0 []) [] [] c0)]), .ps .nil [], vz c0]]⟩)], 4⟩ ?_
  refine Qg hT 1 [1, 3, 4, 5, 6, 7, 28] ⟨[(1, .ps .fopt (s30.F r2)), (3, vi r4.2), (4, vz r6.1), (5, vi r6.2), (6, .box 6 1 0 0), (7, .box 7 3 0 0), (28, .agg [vi 8, vw b0, vw b0, vi 4611686018427387904, vi 0, vi 0, vw b0, .ps .nil [], .ps .opt (s32.F [(Stmt.mk 8 b0 b0 1099511627776 (Expr.mk 0 0 b0 []) [(Stmt.mk 2 b0 b0 0 (Expr.mk 0 0 b0 []) [] [] c0)] [] c0)]), .ps .nil [], vz c0])], [(7, ⟨3, 38, 11, true, false, [.agg [vi 8, vw b0, vw b0, vi 4611686018427387904, vi 0, vi 0, vw b0, .ps .nil [], .ps .opt (s32.F [(Stmt.mk 8 b0 b0 1099511627776 (Expr.mk 0 0 b0 []) [(Stmt.mk 2 b0 b0 0 (Expr.mk 0 0 b0 []) [] [] c0)] [] c0)]), .ps .nil [], vz c0]]⟩), (6, ⟨1, 38, 11, true, false, [.agg [vi 8, vw b0, vw b0, vi 1099511627776, vi 0, vi 0, vw b0, .ps .nil [], .ps .opt (s32.F [(Stmt.mk 2 b0 b0 0 (Expr.mk 0 0 b0 []) [] [] c0)]), .ps .nil [], vz c0]]⟩)], 4⟩ ?_
  refine One hT rfl (ev_bslice s32 29 [(Stmt.mk 8 b0 b0 4611686018427387904 (Expr.mk 0 0 b0 []) [(Stmt.mk 8 b0 b0 1099511627776 (Expr.mk 0 0 b0 []) [(Stmt.mk 2 b0 b0 0 (Expr.mk 0 0 b0 []) [] [] c0)] [] c0)] [] c0)] (by kernel_rfl)) ?_
  refine Sg hT 0 [1, 3, 4, 5, 6, 7, 29] ⟨[(1, .ps .fopt (s30.F r2)), (3, vi r4.2), (4, vz r6.1), (5, vi r6.2), (6, .box 6 1 0 0), (7, .box 7 3 0 0), (29, vo 29 4 (s32.F [(Stmt.mk 8 b0 b0 4611686018427387904 (Expr.mk 0 0 b0 []) [(Stmt.mk 8 b0 b0 1099511627776 (Expr.mk 0 0 b0 []) [(Stmt.mk 2 b0 b0 0 (Expr.mk 0 0 b0 []) [] [] c0)] [] c0)] [] c0)]))], [(29, ⟨4, 38, 11, false, false, s32.F [(Stmt.mk 8 b0 b0 4611686018427387904 (Expr.mk 0 0 b0 []) [(Stmt.mk 8 b0 b0 1099511627776 (Expr.mk 0 0 b0 []) [(Stmt.mk 2 b0 b0 0 (Expr.mk 0 0 b0 []) [] [] c0)] [] c0)] [] c0)]⟩), (7, ⟨3, 38, 11, true, false, [.agg [vi 8, vw b0, vw b0, vi 4611686018427387904, vi 0, vi 0, vw b0, .ps .nil [], .ps .opt (s32.F [(Stmt.mk 8 b0 b0 1099511627776 (Expr.mk 0 0 b0 []) [(Stmt.mk 2 b0 b0 0 (Expr.mk 0 0 b0 []) [] [] c0)] [] c0)]), .ps .nil [], vz c0]]⟩), (6, ⟨1, 38, 11, true, false, [.agg [vi 8, vw b0, vw b0, vi 1099511627776, vi 0, vi 0, vw b0, .ps .nil [], .ps .opt (s32.F [(Stmt.mk 2 b0 b0 0 (Expr.mk 0 0 b0 []) [] [] c0)]), .ps .nil [], vz c0]]⟩)], 5⟩ ?_
  refine WO_weak (Weak_frz 29 4 ⟨4, 38, 11, false, false, s32.F [(Stmt.mk 8 b0 b0 4611686018427387904 (Expr.mk 0 0 b0 []) [(Stmt.mk 8 b0 b0 1099511627776 (Expr.mk 0 0 b0 []) [(Stmt.mk 2 b0 b0 0 (Expr.mk 0 0 b0 []) [] [] c0)] [] c0)] [] c0)]⟩ (by kernel_rfl) rfl rfl [(1, .ps .fopt (s30.F r2)), (3, vi r4.2), (4, vz r6.1), (5, vi r6.2), (6, .box 6 1 0 0), (7, .box 7 3 0 0), (29, .ps .opt (s32.F [(Stmt.mk 8 b0 b0 4611686018427387904 (Expr.mk 0 0 b0 []) [(Stmt.mk 8 b0 b0 1099511627776 (Expr.mk 0 0 b0 []) [(Stmt.mk 2 b0 b0 0 (Expr.mk 0 0 b0 []) [] [] c0)] [] c0)] [] c0)]))] [(7, ⟨3, 38, 11, true, false, [.agg [vi 8, vw b0, vw b0, vi 4611686018427387904, vi 0, vi 0, vw b0, .ps .nil [], .ps .opt (s32.F [(Stmt.mk 8 b0 b0 1099511627776 (Expr.mk 0 0 b0 []) [(Stmt.mk 2 b0 b0 0 (Expr.mk 0 0 b0 []) [] [] c0)] [] c0)]), .ps .nil [], vz c0]]⟩), (6, ⟨1, 38, 11, true, false, [.agg [vi 8, vw b0, vw b0, vi 1099511627776, vi 0, vi 0, vw b0, .ps .nil [], .ps .opt (s32.F [(Stmt.mk 2 b0 b0 0 (Expr.mk 0 0 b0 []) [] [] c0)]), .ps .nil [], vz c0]]⟩)] ⟨rfl, .keep _, rfl, .keep _, rfl, .keep _, rfl, .keep _, rfl, .keep _, rfl, .keep _, rfl, .hit true, trivial⟩ ⟨rfl, .inl rfl, rfl, .inl rfl, trivial⟩) ?_
  refine Sz hT 3 [1, 3, 4, 5, 6, 7, 8] ⟨[(1, .ps .fopt (s30.F r2)), (3, vi r4.2), (4, vz r6.1), (5, vi r6.2), (6, .box 6 1 0 0), (7, .box 7 3 0 0), (8, .box 8 5 0 0)], [(8, ⟨5, 38, 11, true, false, [.agg [vi 8, vw b0, vw b0, vi (-5), vi 0, vi 0, vw b0, .ps .nil [], .ps .opt (s32.F [(Stmt.mk 8 b0 b0 4611686018427387904 (Expr.mk 0 0 b0 []) [(Stmt.mk 8 b0 b0 1099511627776 (Expr.mk 0 0 b0 []) [(Stmt.mk 2 b0 b0 0 (Expr.mk 0 0 b0 []) [] [] c0)] [] c0)] [] c0)]), .ps .nil [], vz c0]]⟩), (7, ⟨3, 38, 11, true, false, [.agg [vi 8, vw b0, vw b0, vi 4611686018427387904, vi 0, vi 0, vw b0, .ps .nil [], .ps .opt (s32.F [(Stmt.mk 8 b0 b0 1099511627776 (Expr.mk 0 0 b0 []) [(Stmt.mk 2 b0 b0 0 (Expr.mk 0 0 b0 []) [] [] c0)] [] c0)]), .ps .nil [], vz c0]]⟩), (6, ⟨1, 38, 11, true, false, [.agg [vi 8, vw b0, vw b0, vi 1099511627776, vi 0, vi 0, vw b0, .ps .nil [], .ps .opt (s32.F [(Stmt.mk 2 b0 b0 0 (Expr.mk 0 0 b0 []) [] [] c0)]), .ps .nil [], vz c0]]⟩)], 6⟩ ?_
  refine Qg hT 1 [1, 3, 4, 5, 6, 8, 31] ⟨[(1, .ps .fopt (s30.F r2)), (3, vi r4.2), (4, vz r6.1), (5, vi r6.2), (6, .box 6 1 0 0), (8, .box 8 5 0 0), (31, .agg [vi 8, vw b0, vw b0, vi 4611686018427387904, vi 0, vi 0, vw b0, .ps .nil [], .ps .opt (s32.F [(Stmt.mk 8 b0 b0 1099511627776 (Expr.mk 0 0 b0 []) [(Stmt.mk 2 b0 b0 0 (Expr.mk 0 0 b0 []) [] [] c0)] [] c0)]), .ps .nil [], vz c0])], [(8, ⟨5, 38, 11, true, false, [.agg [vi 8, vw b0, vw b0, vi (-5), vi 0, vi 0, vw b0, .ps .nil [], .ps .opt (s32.F [(Stmt.mk 8 b0 b0 4611686018427387904 (Expr.mk 0 0 b0 []) [(Stmt.mk 8 b0 b0 1099511627776 (Expr.mk 0 0 b0 []) [(Stmt.mk 2 b0 b0 0 (Expr.mk 0 0 b0 []) [] [] c0)] [] c0)] [] c0)]), .ps .nil [], vz c0]]⟩), (7, ⟨3, 38, 11, true, false, [.agg [vi 8, vw b0, vw b0, vi 4611686018427387904, vi 0, vi 0, vw b0, .ps .nil [], .ps .opt (s32.F [(Stmt.mk 8 b0 b0 1099511627776 (Expr.mk 0 0 b0 []) [(Stmt.mk 2 b0 b0 0 (Expr.mk 0 0 b0 []) [] [] c0)] [] c0)]), .ps .nil [], vz c0]]⟩), (6, ⟨1, 38, 11, true, false, [.agg [vi 8, vw b0, vw b0, vi 1099511627776, vi 0, vi 0, vw b0, .ps .nil [], .ps .opt (s32.F [(Stmt.mk 2 b0 b0 0 (Expr.mk 0 0 b0 []) [] [] c0)]), .ps .nil [], vz c0]]⟩)], 6⟩ ?_
  refine One hT rfl (ev_bslice s32 32 [(Stmt.mk 8 b0 b0 4611686018427387904 (Expr.mk 0 0 b0 []) [(Stmt.mk 8 b0 b0 1099511627776 (Expr.mk 0 0 b0 []) [(Stmt.mk 2 b0 b0 0 (Expr.mk 0 0 b0 []) [] [] c0)] [] c0)] [] c0)] (by kernel_rfl)) ?_
  refine Sg hT 2 [1, 3, 4, 5, 8, 32, 33, 34] ⟨[(1, .ps .fopt (s30.F r2)), (3, vi r4.2), (4, vz r6.1), (5, vi r6.2), (8, .box 8 5 0 0), (32, vo 32 6 (s32.F [(Stmt.mk 8 b0 b0 4611686018427387904 (Expr.mk 0 0 b0 []) [(Stmt.mk 8 b0 b0 1099511627776 (Expr.mk 0 0 b0 []) [(Stmt.mk 2 b0 b0 0 (Expr.mk 0 0 b0 []) [] [] c0)] [] c0)] [] c0)])), (33, .agg [vi 8, vw b0, vw b0, vi 1099511627776, vi 0, vi 0, vw b0, .ps .nil [], .ps .opt (s32.F [(Stmt.mk 2 b0 b0 0 (Expr.mk 0 0 b0 []) [] [] c0)]), .ps .nil [], vz c0]), (34, .agg [vi 8, vw b0, vw b0, vi 1099511627776, vi 0, vi 0, vw b0, .ps .nil [], .ps .opt (s32.F [(Stmt.mk 2 b0 b0 0 (Expr.mk 0 0 b0 []) [] [] c0)]), .ps .nil [], vz c0])], [(32, ⟨6, 38, 11, false, false, s32.F [(Stmt.mk 8 b0 b0 4611686018427387904 (Expr.mk 0 0 b0 []) [(Stmt.mk 8 b0 b0 1099511627776 (Expr.mk 0 0 b0 []) [(Stmt.mk 2 b0 b0 0 (Expr.mk 0 0 b0 []) [] [] c0)] [] c0)] [] c0)]⟩), (8, ⟨5, 38, 11, true, false, [.agg [vi 8, vw b0, vw b0, vi (-5), vi 0, vi 0, vw b0, .ps .nil [], .ps .opt (s32.F [(Stmt.mk 8 b0 b0 4611686018427387904 (Expr.mk 0 0 b0 []) [(Stmt.mk 8 b0 b0 1099511627776 (Expr.mk 0 0 b0 []) [(Stmt.mk 2 b0 b0 0 (Expr.mk 0 0 b0 []) [] [] c0)] [] c0)] [] c0)]), .ps .nil [], vz c0]]⟩), (7, ⟨3, 38, 11, true, false, [.agg [vi 8, vw b0, vw b0, vi 4611686018427387904, vi 0, vi 0, vw b0, .ps .nil [], .ps .opt (s32.F [(Stmt.mk 8 b0 b0 1099511627776 (Expr.mk 0 0 b0 []) [(Stmt.mk 2 b0 b0 0 (Expr.mk 0 0 b0 []) [] [] c0)] [] c0)]), .ps .nil [], vz c0]]⟩), (6, ⟨1, 38, 11, true, false, [.agg [vi 8, vw b0, vw b0, vi 1099511627776, vi 0, vi 0, vw b0, .ps .nil [], .ps .opt (s32.F [(Stmt.mk 2 b0 b0 0 (Expr.mk 0 0 b0 []) [] [] c0)]), .ps .nil [], vz c0]]⟩)], 7⟩ ?_
  refine One hT rfl (ev_bslice s32 35 [(Stmt.mk 8 b0 b0 1099511627776 (Expr.mk 0 0 b0 []) [(Stmt.mk 2 b0 b0 0 (Expr.mk 0 0 b0 []) [] [] c0)] [] c0), (Stmt.mk 8 b0 b0 1099511627776 (Expr.mk 0 0 b0 []) [(Stmt.mk 2 b0 b0 0 (Expr.mk 0 0 b0 []) [] [] c0)] [] c0)] (by kernel_rfl)) ?_
  refine Sg hT 1 [1, 3, 4, 5, 32, 35, 36] ⟨[(1, .ps .fopt (s30.F r2)), (3, vi r4.2), (4, vz r6.1), (5, vi r6.2), (32, vo 32 6 (s32.F [(Stmt.mk 8 b0 b0 4611686018427387904 (Expr.mk 0 0 b0 []) [(Stmt.mk 8 b0 b0 1099511627776 (Expr.mk 0 0 b0 []) [(Stmt.mk 2 b0 b0 0 (Expr.mk 0 0 b0 []) [] [] c0)] [] c0)] [] c0)])), (35, vo 35 7 (s32.F [(Stmt.mk 8 b0 b0 1099511627776 (Expr.mk 0 0 b0 []) [(Stmt.mk 2 b0 b0 0 (Expr.mk 0 0 b0 []) [] [] c0)] [] c0), (Stmt.mk 8 b0 b0 1099511627776 (Expr.mk 0 0 b0 []) [(Stmt.mk 2 b0 b0 0 (Expr.mk 0 0 b0 []) [] [] c0)] [] c0)])), (36, .agg [vi 8, vw b0, vw b0, vi (-5), vi 0, vi 0, vw b0, .ps .nil [], .ps .opt (s32.F [(Stmt.mk 8 b0 b0 4611686018427387904 (Expr.mk 0 0 b0 []) [(Stmt.mk 8 b0 b0 1099511627776 (Expr.mk 0 0 b0 []) [(Stmt.mk 2 b0 b0 0 (Expr.mk 0 0 b0 []) [] [] c0)] [] c0)] [] c0)]), .ps .nil [], vz c0])], [(35, ⟨7, 38, 11, false, false, s32.F [(Stmt.mk 8 b0 b0 1099511627776 (Expr.mk 0 0 b0 []) [(Stmt.mk 2 b0 b0 0 (Expr.mk 0 0 b0 []) [] [] c0)] [] c0), (Stmt.mk 8 b0 b0 1099511627776 (Expr.mk 0 0 b0 []) [(Stmt.mk 2 b0 b0 0 (Expr.mk 0 0 b0 []) [] [] c0)] [] c0)]⟩), (32, ⟨6, 38, 11, false, false, s32.F [(Stmt.mk 8 b0 b0 4611686018427387904 (Expr.mk 0 0 b0 []) [(Stmt.mk 8 b0 b0 1099511627776 (Expr.mk 0 0 b0 []) [(Stmt.mk 2 b0 b0 0 (Expr.mk 0 0 b0 []) [] [] c0)] [] c0)] [] c0)]⟩), (8, ⟨5, 38, 11, true, false, [.agg [vi 8, vw b0, vw b0, vi (-5), vi 0, vi 0, vw b0, .ps .nil [], .ps .opt (s32.F [(Stmt.mk 8 b0 b0 4611686018427387904 (Expr.mk 0 0 b0 []) [(Stmt.mk 8 b0 b0 1099511627776 (Expr.mk 0 0 b0 []) [(Stmt.mk 2 b0 b0 0 (Expr.mk 0 0 b0 []) [] [] c0)] [] c0)] [] c0)]), .ps .nil [], vz c0]]⟩), (7, ⟨3, 38, 11, true, false, [.agg [vi 8, vw b0, vw b0, vi 4611686018427387904, vi 0, vi 0, vw b0, .ps .nil [], .ps .opt (s32.F [(Stmt.mk 8 b0 b0 1099511627776 (Expr.mk 0 0 b0 []) [(Stmt.mk 2 b0 b0 0 (Expr.mk 0 0 b0 []) [] [] c0)] [] c0)]), .ps .nil [], vz c0]]⟩), (6, ⟨1, 38, 11, true, false, [.agg [vi 8, vw b0, vw b0, vi 1099511627776, vi 0, vi 0, vw b0, .ps .nil [], .ps .opt (s32.F [(Stmt.mk 2 b0 b0 0 (Expr.mk 0 0 b0 []) [] [] c0)]), .ps .nil [], vz c0]]⟩)], 8⟩ ?_
  refine One hT rfl (ev_bslice s32 37 [(Stmt.mk 8 b0 b0 (-5) (Expr.mk 0 0 b0 []) [(Stmt.mk 8 b0 b0 4611686018427387904 (Expr.mk 0 0 b0 []) [(Stmt.mk 8 b0 b0 1099511627776 (Expr.mk 0 0 b0 []) [(Stmt.mk 2 b0 b0 0 (Expr.mk 0 0 b0 []) [] [] c0)] [] c0)] [] c0)] [] c0)] (by kernel_rfl)) ?_
  refine Sg hT 0 [1, 3, 4, 5, 32, 35, 37] ⟨[(1, .ps .fopt (s30.F r2)), (3, vi r4.2), (4, vz r6.1), (5, vi r6.2), (32, vo 32 6 (s32.F [(Stmt.mk 8 b0 b0 4611686018427387904 (Expr.mk 0 0 b0 []) [(Stmt.mk 8 b0 b0 1099511627776 (Expr.mk 0 0 b0 []) [(Stmt.mk 2 b0 b0 0 (Expr.mk 0 0 b0 []) [] [] c0)] [] c0)] [] c0)])), (35, vo 35 7 (s32.F [(Stmt.mk 8 b0 b0 1099511627776 (Expr.mk 0 0 b0 []) [(Stmt.mk 2 b0 b0 0 (Expr.mk 0 0 b0 []) [] [] c0)] [] c0), (Stmt.mk 8 b0 b0 1099511627776 (Expr.mk 0 0 b0 []) [(Stmt.mk 2 b0 b0 0 (Expr.mk 0 0 b0 []) [] [] c0)] [] c0)])), (37, vo 37 8 (s32.F [(Stmt.mk 8 b0 b0 (-5) (Expr.mk 0 0 b0 []) [(Stmt.mk 8 b0 b0 4611686018427387904 (Expr.mk 0 0 b0 []) [(Stmt.mk 8 b0 b0 1099511627776 (Expr.mk 0 0 b0 []) [(Stmt.mk 2 b0 b0 0 (Expr.mk 0 0 b0 []) [] [] c0)] [] c0)] [] c0)] [] c0)]))], [(37, ⟨8, 38, 11, false, false, s32.F [(Stmt.mk 8 b0 b0 (-5) (Expr.mk 0 0 b0 []) [(Stmt.mk 8 b0 b0 4611686018427387904 (Expr.mk 0 0 b0 []) [(Stmt.mk 8 b0 b0 1099511627776 (Expr.mk 0 0 b0 []) [(Stmt.mk 2 b0 b0 0 (Expr.mk 0 0 b0 []) [] [] c0)] [] c0)] [] c0)] [] c0)]⟩), (35, ⟨7, 38, 11, false, false, s32.F [(Stmt.mk 8 b0 b0 1099511627776 (Expr.mk 0 0 b0 []) [(Stmt.mk 2 b0 b0 0 (Expr.mk 0 0 b0 []) [] [] c0)] [] c0), (Stmt.mk 8 b0 b0 1099511627776 (Expr.mk 0 0 b0 []) [(Stmt.mk 2 b0 b0 0 (Expr.mk 0 0 b0 []) [] [] c0)] [] c0)]⟩), (32, ⟨6, 38, 11, false, false, s32.F [(Stmt.mk 8 b0 b0 4611686018427387904 (Expr.mk 0 0 b0 []) [(Stmt.mk 8 b0 b0 1099511627776 (Expr.mk 0 0 b0 []) [(Stmt.mk 2 b0 b0 0 (Expr.mk 0 0 b0 []) [] [] c0)] [] c0)] [] c0)]⟩), (8, ⟨5, 38, 11, true, false, [.agg [vi 8, vw b0, vw b0, vi (-5), vi 0, vi 0, vw b0, .ps .nil [], .ps .opt (s32.F [(Stmt.mk 8 b0 b0 4611686018427387904 (Expr.mk 0 0 b0 []) [(Stmt.mk 8 b0 b0 1099511627776 (Expr.mk 0 0 b0 []) [(Stmt.mk 2 b0 b0 0 (Expr.mk 0 0 b0 []) [] [] c0)] [] c0)] [] c0)]), .ps .nil [], vz c0]]⟩), (7, ⟨3, 38, 11, true, false, [.agg [vi 8, vw b0, vw b0, vi 4611686018427387904, vi 0, vi 0, vw b0, .ps .nil [], .ps .opt (s32.F [(Stmt.mk 8 b0 b0 1099511627776 (Expr.mk 0 0 b0 []) [(Stmt.mk 2 b0 b0 0 (Expr.mk 0 0 b0 []) [] [] c0)] [] c0)]), .ps .nil [], vz c0]]⟩), (6, ⟨1, 38, 11, true, false, [.agg [vi 8, vw b0, vw b0, vi 1099511627776, vi 0, vi 0, vw b0, .ps .nil [], .ps .opt (s32.F [(Stmt.mk 2 b0 b0 0 (Expr.mk 0 0 b0 []) [] [] c0)]), .ps .nil [], vz c0]]⟩)], 9⟩ ?_
  refine WO_weak (Weak_frz 32 6 ⟨6, 38, 11, false, false, s32.F [(Stmt.mk 8 b0 b0 4611686018427387904 (Expr.mk 0 0 b0 []) [(Stmt.mk 8 b0 b0 1099511627776 (Expr.mk 0 0 b0 []) [(Stmt.mk 2 b0 b0 0 (Expr.mk 0 0 b0 []) [] [] c0)] [] c0)] [] c0)]⟩ (by kernel_rfl) rfl rfl [(1, .ps .fopt (s30.F r2)), (3, vi r4.2), (4, vz r6.1), (5, vi r6.2), (32, .ps .opt (s32.F [(Stmt.mk 8 b0 b0 4611686018427387904 (Expr.mk 0 0 b0 []) [(Stmt.mk 8 b0 b0 1099511627776 (Expr.mk 0 0 b0 []) [(Stmt.mk 2 b0 b0 0 (Expr.mk 0 0 b0 []) [] [] c0)] [] c0)] [] c0)])), (35, vo 35 7 (s32.F [(Stmt.mk 8 b0 b0 1099511627776 (Expr.mk 0 0 b0 []) [(Stmt.mk 2 b0 b0 0 (Expr.mk 0 0 b0 []) [] [] c0)] [] c0), (Stmt.mk 8 b0 b0 1099511627776 (Expr.mk 0 0 b0 []) [(Stmt.mk 2 b0 b0 0 (Expr.mk 0 0 b0 []) [] [] c0)] [] c0)])), (37, vo 37 8 (s32.F [(Stmt.mk 8 b0 b0 (-5) (Expr.mk 0 0 b0 []) [(Stmt.mk 8 b0 b0 4611686018427387904 (Expr.mk 0 0 b0 []) [(Stmt.mk 8 b0 b0 1099511627776 (Expr.mk 0 0 b0 []) [(Stmt.mk 2 b0 b0 0 (Expr.mk 0 0 b0 []) [] [] c0)] [] c0)] [] c0)] [] c0)]))] [(37, ⟨8, 38, 11, false, false, s32.F [(Stmt.mk 8 b0 b0 (-5) (Expr.mk 0 0 b0 []) [(Stmt.mk 8 b0 b0 4611686018427387904 (Expr.mk 0 0 b0 []) [(Stmt.mk 8 b0 b0 1099511627776 (Expr.mk 0 0 b0 []) [(Stmt.mk 2 b0 b0 0 (Expr.mk 0 0 b0 []) [] [] c0)] [] c0)] [] c0)] [] c0)]⟩), (35, ⟨7, 38, 11, false, false, s32.F [(Stmt.mk 8 b0 b0 1099511627776 (Expr.mk 0 0 b0 []) [(Stmt.mk 2 b0 b0 0 (Expr.mk 0 0 b0 []) [] [] c0)] [] c0), (Stmt.mk 8 b0 b0 1099511627776 (Expr.mk 0 0 b0 []) [(Stmt.mk 2 b0 b0 0 (Expr.mk 0 0 b0 []) [] [] c0)] [] c0)]⟩), (8, ⟨5, 38, 11, true, false, [.agg [vi 8, vw b0, vw b0, vi (-5), vi 0, vi 0, vw b0, .ps .nil [], .ps .opt (s32.F [(Stmt.mk 8 b0 b0 4611686018427387904 (Expr.mk 0 0 b0 []) [(Stmt.mk 8 b0 b0 1099511627776 (Expr.mk 0 0 b0 []) [(Stmt.mk 2 b0 b0 0 (Expr.mk 0 0 b0 []) [] [] c0)] [] c0)] [] c0)]), .ps .nil [], vz c0]]⟩), (7, ⟨3, 38, 11, true, false, [.agg [vi 8, vw b0, vw b0, vi 4611686018427387904, vi 0, vi 0, vw b0, .ps .nil [], .ps .opt (s32.F [(Stmt.mk 8 b0 b0 1099511627776 (Expr.mk 0 0 b0 []) [(Stmt.mk 2 b0 b0 0 (Expr.mk 0 0 b0 []) [] [] c0)] [] c0)]), .ps .nil [], vz c0]]⟩), (6, ⟨1, 38, 11, true, false, [.agg [vi 8, vw b0, vw b0, vi 1099511627776, vi 0, vi 0, vw b0, .ps .nil [], .ps .opt (s32.F [(Stmt.mk 2 b0 b0 0 (Expr.mk 0 0 b0 []) [] [] c0)]), .ps .nil [], vz c0]]⟩)] ⟨rfl, .keep _, rfl, .keep _, rfl, .keep _, rfl, .keep _, rfl, .hit true, rfl, .keep _, rfl, .keep _, trivial⟩ ⟨rfl, .inl rfl, rfl, .inl rfl, rfl, .inl rfl, rfl, .inl rfl, rfl, .inl rfl, trivial⟩) ?_
  refine WO_weak (Weak_frz 35 7 ⟨7, 38, 11, false, false, s32.F [(Stmt.mk 8 b0 b0 1099511627776 (Expr.mk 0 0 b0 []) [(Stmt.mk 2 b0 b0 0 (Expr.mk 0 0 b0 []) [] [] c0)] [] c0), (Stmt.mk 8 b0 b0 1099511627776 (Expr.mk 0 0 b0 []) [(Stmt.mk 2 b0 b0 0 (Expr.mk 0 0 b0 []) [] [] c0)] [] c0)]⟩ (by kernel_rfl) rfl rfl [(1, .ps .fopt (s30.F r2)), (3, vi r4.2), (4, vz r6.1), (5, vi r6.2), (32, .ps .opt (s32.F [(Stmt.mk 8 b0 b0 4611686018427387904 (Expr.mk 0 0 b0 []) [(Stmt.mk 8 b0 b0 1099511627776 (Expr.mk 0 0 b0 []) [(Stmt.mk 2 b0 b0 0 (Expr.mk 0 0 b0 []) [] [] c0)] [] c0)] [] c0)])), (35, .ps .opt (s32.F [(Stmt.mk 8 b0 b0 1099511627776 (Expr.mk 0 0 b0 []) [(Stmt.mk 2 b0 b0 0 (Expr.mk 0 0 b0 []) [] [] c0)] [] c0), (Stmt.mk 8 b0 b0 1099511627776 (Expr.mk 0 0 b0 []) [(Stmt.mk 2 b0 b0 0 (Expr.mk 0 0 b0 []) [] [] c0)] [] c0)])), (37, vo 37 8 (s32.F [(Stmt.mk 8 b0 b0 (-5) (Expr.mk 0 0 b0 []) [(Stmt.mk 8 b0 b0 4611686018427387904 (Expr.mk 0 0 b0 []) [(Stmt.mk 8 b0 b0 1099511627776 (Expr.mk 0 0 b0 []) [(Stmt.mk 2 b0 b0 0 (Expr.mk 0 0 b0 []) [] [] c0)] [] c0)] [] c0)] [] c0)]))] [(37, ⟨8, 38, 11, false, false, s32.F [(Stmt.mk 8 b0 b0 (-5) (Expr.mk 0 0 b0 []) [(Stmt.mk 8 b0 b0 4611686018427387904 (Expr.mk 0 0 b0 []) [(Stmt.mk 8 b0 b0 1099511627776 (Expr.mk 0 0 b0 []) [(Stmt.mk 2 b0 b0 0 (Expr.mk 0 0 b0 []) [] [] c0)] [] c0)] [] c0)] [] c0)]⟩), (8, ⟨5, 38, 11, true, false, [.agg [vi 8, vw b0, vw b0, vi (-5), vi 0, vi 0, vw b0, .ps .nil [], .ps .opt (s32.F [(Stmt.mk 8 b0 b0 4611686018427387904 (Expr.mk 0 0 b0 []) [(Stmt.mk 8 b0 b0 1099511627776 (Expr.mk 0 0 b0 []) [(Stmt.mk 2 b0 b0 0 (Expr.mk 0 0 b0 []) [] [] c0)] [] c0)] [] c0)]), .ps .nil [], vz c0]]⟩), (7, ⟨3, 38, 11, true, false, [.agg [vi 8, vw b0, vw b0, vi 4611686018427387904, vi 0, vi 0, vw b0, .ps .nil [], .ps .opt (s32.F [(Stmt.mk 8 b0 b0 1099511627776 (Expr.mk 0 0 b0 []) [(Stmt.mk 2 b0 b0 0 (Expr.mk 0 0 b0 []) [] [] c0)] [] c0)]), .ps .nil [], vz c0]]⟩), (6, ⟨1, 38, 11, true, false, [.agg [vi 8, vw b0, vw b0, vi 1099511627776, vi 0, vi 0, vw b0, .ps .nil [], .ps .opt (s32.F [(Stmt.mk 2 b0 b0 0 (Expr.mk 0 0 b0 []) [] [] c0)]), .ps .nil [], vz c0]]⟩)] ⟨rfl, .keep _, rfl, .keep _, rfl, .keep _, rfl, .keep _, rfl, .keep _, rfl, .hit true, rfl, .keep _, trivial⟩ ⟨rfl, .inl rfl, rfl, .inl rfl, rfl, .inl rfl, rfl, .inl rfl, trivial⟩) ?_
  refine WO_weak (Weak_frz 37 8 ⟨8, 38, 11, false, false, s32.F [(Stmt.mk 8 b0 b0 (-5) (Expr.mk 0 0 b0 []) [(Stmt.mk 8 b0 b0 4611686018427387904 (Expr.mk 0 0 b0 []) [(Stmt.mk 8 b0 b0 1099511627776 (Expr.mk 0 0 b0 []) [(Stmt.mk 2 b0 b0 0 (Expr.mk 0 0 b0 []) [] [] c0)] [] c0)] [] c0)] [] c0)]⟩ (by kernel_rfl) rfl rfl [(1, .ps .fopt (s30.F r2)), (3, vi r4.2), (4, vz r6.1), (5, vi r6.2), (32, .ps .opt (s32.F [(Stmt.mk 8 b0 b0 4611686018427387904 (Expr.mk 0 0 b0 []) [(Stmt.mk 8 b0 b0 1099511627776 (Expr.mk 0 0 b0 []) [(Stmt.mk 2 b0 b0 0 (Expr.mk 0 0 b0 []) [] [] c0)] [] c0)] [] c0)])), (35, .ps .opt (s32.F [(Stmt.mk 8 b0 b0 1099511627776 (Expr.mk 0 0 b0 []) [(Stmt.mk 2 b0 b0 0 (Expr.mk 0 0 b0 []) [] [] c0)] [] c0), (Stmt.mk 8 b0 b0 1099511627776 (Expr.mk 0 0 b0 []) [(Stmt.mk 2 b0 b0 0 (Expr.mk 0 0 b0 []) [] [] c0)] [] c0)])), (37, .ps .opt (s32.F [(Stmt.mk 8 b0 b0 (-5) (Expr.mk 0 0 b0 []) [(Stmt.mk 8 b0 b0 4611686018427387904 (Expr.mk 0 0 b0 []) [(Stmt.mk 8 b0 b0 1099511627776 (Expr.mk 0 0 b0 []) [(Stmt.mk 2 b0 b0 0 (Expr.mk 0 0 b0 []) [] [] c0)] [] c0)] [] c0)] [] c0)]))] [(8, ⟨5, 38, 11, true, false, [.agg [vi 8, vw b0, vw b0, vi (-5), vi 0, vi 0, vw b0, .ps .nil [], .ps .opt (s32.F [(Stmt.mk 8 b0 b0 4611686018427387904 (Expr.mk 0 0 b0 []) [(Stmt.mk 8 b0 b0 1099511627776 (Expr.mk 0 0 b0 []) [(Stmt.mk 2 b0 b0 0 (Expr.mk 0 0 b0 []) [] [] c0)] [] c0)] [] c0)]), .ps .nil [], vz c0]]⟩), (7, ⟨3, 38, 11, true, false, [.agg [vi 8, vw b0, vw b0, vi 4611686018427387904, vi 0, vi 0, vw b0, .ps .nil [], .ps .opt (s32.F [(Stmt.mk 8 b0 b0 1099511627776 (Expr.mk 0 0 b0 []) [(Stmt.mk 2 b0 b0 0 (Expr.mk 0 0 b0 []) [] [] c0)] [] c0)]), .ps .nil [], vz c0]]⟩), (6, ⟨1, 38, 11, true, false, [.agg [vi 8, vw b0, vw b0, vi 1099511627776, vi 0, vi 0, vw b0, .ps .nil [], .ps .opt (s32.F [(Stmt.mk 2 b0 b0 0 (Expr.mk 0 0 b0 []) [] [] c0)]), .ps .nil [], vz c0]]⟩)] ⟨rfl, .keep _, rfl, .keep _, rfl, .keep _, rfl, .keep _, rfl, .keep _, rfl, .keep _, rfl, .hit true, trivial⟩ ⟨rfl, .inl rfl, rfl, .inl rfl, rfl, .inl rfl, trivial⟩) ?_
  refine Sg hT 1 [1, 3, 4, 5, 38] ⟨[(1, .ps .fopt (s30.F r2)), (3, vi r4.2), (4, vz r6.1), (5, vi r6.2), (38, vo 38 9 (s24.F [[(Stmt.mk 8 b0 b0 4611686018427387904 (Expr.mk 0 0 b0 []) [(Stmt.mk 8 b0 b0 1099511627776 (Expr.mk 0 0 b0 []) [(Stmt.mk 2 b0 b0 0 (Expr.mk 0 0 b0 []) [] [] c0)] [] c0)] [] c0)], [(Stmt.mk 8 b0 b0 1099511627776 (Expr.mk 0 0 b0 []) [(Stmt.mk 2 b0 b0 0 (Expr.mk 0 0 b0 []) [] [] c0)] [] c0), (Stmt.mk 8 b0 b0 1099511627776 (Expr.mk 0 0 b0 []) [(Stmt.mk 2 b0 b0 0 (Expr.mk 0 0 b0 []) [] [] c0)] [] c0)], [(Stmt.mk 8 b0 b0 (-5) (Expr.mk 0 0 b0 []) [(Stmt.mk 8 b0 b0 4611686018427387904 (Expr.mk 0 0 b0 []) [(Stmt.mk 8 b0 b0 1099511627776 (Expr.mk 0 0 b0 []) [(Stmt.mk 2 b0 b0 0 (Expr.mk 0 0 b0 []) [] [] c0)] [] c0)] [] c0)] [] c0)]]))], [(38, ⟨9, 32, 1, false, false, s24.F [[(Stmt.mk 8 b0 b0 4611686018427387904 (Expr.mk 0 0 b0 []) [(Stmt.mk 8 b0 b0 1099511627776 (Expr.mk 0 0 b0 []) [(Stmt.mk 2 b0 b0 0 (Expr.mk 0 0 b0 []) [] [] c0)] [] c0)] [] c0)], [(Stmt.mk 8 b0 b0 1099511627776 (Expr.mk 0 0 b0 []) [(Stmt.mk 2 b0 b0 0 (Expr.mk 0 0 b0 []) [] [] c0)] [] c0), (Stmt.mk 8 b0 b0 1099511627776 (Expr.mk 0 0 b0 []) [(Stmt.mk 2 b0 b0 0 (Expr.mk 0 0 b0 []) [] [] c0)] [] c0)], [(Stmt.mk 8 b0 b0 (-5) (Expr.mk 0 0 b0 []) [(Stmt.mk 8 b0 b0 4611686018427387904 (Expr.mk 0 0 b0 []) [(Stmt.mk 8 b0 b0 1099511627776 (Expr.mk 0 0 b0 []) [(Stmt.mk 2 b0 b0 0 (Expr.mk 0 0 b0 []) [] [] c0)] [] c0)] [] c0)] [] c0)]]⟩), (8, ⟨5, 38, 11, true, false, [.agg [vi 8, vw b0, vw b0, vi (-5), vi 0, vi 0, vw b0, .ps .nil [], .ps .opt (s32.F [(Stmt.mk 8 b0 b0 4611686018427387904 (Expr.mk 0 0 b0 []) [(Stmt.mk 8 b0 b0 1099511627776 (Expr.mk 0 0 b0 []) [(Stmt.mk 2 b0 b0 0 (Expr.mk 0 0 b0 []) [] [] c0)] [] c0)] [] c0)]), .ps .nil [], vz c0]]⟩), (7, ⟨3, 38, 11, true, false, [.agg [vi 8, vw b0, vw b0, vi 4611686018427387904, vi 0, vi 0, vw b0, .ps .nil [], .ps .opt (s32.F [(Stmt.mk 8 b0 b0 1099511627776 (Expr.mk 0 0 b0 []) [(Stmt.mk 2 b0 b0 0 (Expr.mk 0 0 b0 []) [] [] c0)] [] c0)]), .ps .nil [], vz c0]]⟩), (6, ⟨1, 38, 11, true, false, [.agg [vi 8, vw b0, vw b0, vi 1099511627776, vi 0, vi 0, vw b0, .ps .nil [], .ps .opt (s32.F [(Stmt.mk 2 b0 b0 0 (Expr.mk 0 0 b0 []) [] [] c0)]), .ps .nil [], vz c0]]⟩)], 10⟩ ?_
  refine WO_weak (Weak_frz 38 9 ⟨9, 32, 1, false, false, s24.F [[(Stmt.mk 8 b0 b0 4611686018427387904 (Expr.mk 0 0 b0 []) [(Stmt.mk 8 b0 b0 1099511627776 (Expr.mk 0 0 b0 []) [(Stmt.mk 2 b0 b0 0 (Expr.mk 0 0 b0 []) [] [] c0)] [] c0)] [] c0)], [(Stmt.mk 8 b0 b0 1099511627776 (Expr.mk 0 0 b0 []) [(Stmt.mk 2 b0 b0 0 (Expr.mk 0 0 b0 []) [] [] c0)] [] c0), (Stmt.mk 8 b0 b0 1099511627776 (Expr.mk 0 0 b0 []) [(Stmt.mk 2 b0 b0 0 (Expr.mk 0 0 b0 []) [] [] c0)] [] c0)], [(Stmt.mk 8 b0 b0 (-5) (Expr.mk 0 0 b0 []) [(Stmt.mk 8 b0 b0 4611686018427387904 (Expr.mk 0 0 b0 []) [(Stmt.mk 8 b0 b0 1099511627776 (Expr.mk 0 0 b0 []) [(Stmt.mk 2 b0 b0 0 (Expr.mk 0 0 b0 []) [] [] c0)] [] c0)] [] c0)] [] c0)]]⟩ (by kernel_rfl) rfl rfl [(1, .ps .fopt (s30.F r2)), (3, vi r4.2), (4, vz r6.1), (5, vi r6.2), (38, .ps .opt (s24.F [[(Stmt.mk 8 b0 b0 4611686018427387904 (Expr.mk 0 0 b0 []) [(Stmt.mk 8 b0 b0 1099511627776 (Expr.mk 0 0 b0 []) [(Stmt.mk 2 b0 b0 0 (Expr.mk 0 0 b0 []) [] [] c0)] [] c0)] [] c0)], [(Stmt.mk 8 b0 b0 1099511627776 (Expr.mk 0 0 b0 []) [(Stmt.mk 2 b0 b0 0 (Expr.mk 0 0 b0 []) [] [] c0)] [] c0), (Stmt.mk 8 b0 b0 1099511627776 (Expr.mk 0 0 b0 []) [(Stmt.mk 2 b0 b0 0 (Expr.mk 0 0 b0 []) [] [] c0)] [] c0)], [(Stmt.mk 8 b0 b0 (-5) (Expr.mk 0 0 b0 []) [(Stmt.mk 8 b0 b0 4611686018427387904 (Expr.mk 0 0 b0 []) [(Stmt.mk 8 b0 b0 1099511627776 (Expr.mk 0 0 b0 []) [(Stmt.mk 2 b0 b0 0 (Expr.mk 0 0 b0 []) [] [] c0)] [] c0)] [] c0)] [] c0)]]))] [(8, ⟨5, 38, 11, true, false, [.agg [vi 8, vw b0, vw b0, vi (-5), vi 0, vi 0, vw b0, .ps .nil [], .ps .opt (s32.F [(Stmt.mk 8 b0 b0 4611686018427387904 (Expr.mk 0 0 b0 []) [(Stmt.mk 8 b0 b0 1099511627776 (Expr.mk 0 0 b0 []) [(Stmt.mk 2 b0 b0 0 (Expr.mk 0 0 b0 []) [] [] c0)] [] c0)] [] c0)]), .ps .nil [], vz c0]]⟩), (7, ⟨3, 38, 11, true, false, [.agg [vi 8, vw b0, vw b0, vi 4611686018427387904, vi 0, vi 0, vw b0, .ps .nil [], .ps .opt (s32.F [(Stmt.mk 8 b0 b0 1099511627776 (Expr.mk 0 0 b0 []) [(Stmt.mk 2 b0 b0 0 (Expr.mk 0 0 b0 []) [] [] c0)] [] c0)]), .ps .nil [], vz c0]]⟩), (6, ⟨1, 38, 11, true, false, [.agg [vi 8, vw b0, vw b0, vi 1099511627776, vi 0, vi 0, vw b0, .ps .nil [], .ps .opt (s32.F [(Stmt.mk 2 b0 b0 0 (Expr.mk 0 0 b0 []) [] [] c0)]), .ps .nil [], vz c0]]⟩)] ⟨rfl, .keep _, rfl, .keep _, rfl, .keep _, rfl, .keep _, rfl, .hit true, trivial⟩ ⟨rfl, .inl rfl, rfl, .inl rfl, rfl, .inl rfl, trivial⟩) ?_
  refine Sg hT 1 [1, 3, 4, 5, 39] ⟨[(1, .ps .fopt (s30.F r2)), (3, vi r4.2), (4, vz r6.1), (5, vi r6.2), (39, .agg [.ps .nil [], .ps .opt (s24.F [[(Stmt.mk 8 b0 b0 4611686018427387904 (Expr.mk 0 0 b0 []) [(Stmt.mk 8 b0 b0 1099511627776 (Expr.mk 0 0 b0 []) [(Stmt.mk 2 b0 b0 0 (Expr.mk 0 0 b0 []) [] [] c0)] [] c0)] [] c0)], [(Stmt.mk 8 b0 b0 1099511627776 (Expr.mk 0 0 b0 []) [(Stmt.mk 2 b0 b0 0 (Expr.mk 0 0 b0 []) [] [] c0)] [] c0), (Stmt.mk 8 b0 b0 1099511627776 (Expr.mk 0 0 b0 []) [(Stmt.mk 2 b0 b0 0 (Expr.mk 0 0 b0 []) [] [] c0)] [] c0)], [(Stmt.mk 8 b0 b0 (-5) (Expr.mk 0 0 b0 []) [(Stmt.mk 8 b0 b0 4611686018427387904 (Expr.mk 0 0 b0 []) [(Stmt.mk 8 b0 b0 1099511627776 (Expr.mk 0 0 b0 []) [(Stmt.mk 2 b0 b0 0 (Expr.mk 0 0 b0 []) [] [] c0)] [] c0)] [] c0)] [] c0)]])])], [(8, ⟨5, 38, 11, true, false, [.agg [vi 8, vw b0, vw b0, vi (-5), vi 0, vi 0, vw b0, .ps .nil [], .ps .opt (s32.F [(Stmt.mk 8 b0 b0 4611686018427387904 (Expr.mk 0 0 b0 []) [(Stmt.mk 8 b0 b0 1099511627776 (Expr.mk 0 0 b0 []) [(Stmt.mk 2 b0 b0 0 (Expr.mk 0 0 b0 []) [] [] c0)] [] c0)] [] c0)]), .ps .nil [], vz c0]]⟩), (7, ⟨3, 38, 11, true, false, [.agg [vi 8, vw b0, vw b0, vi 4611686018427387904, vi 0, vi 0, vw b0, .ps .nil [], .ps .opt (s32.F [(Stmt.mk 8 b0 b0 1099511627776 (Expr.mk 0 0 b0 []) [(Stmt.mk 2 b0 b0 0 (Expr.mk 0 0 b0 []) [] [] c0)] [] c0)]), .ps .nil [], vz c0]]⟩), (6, ⟨1, 38, 11, true, false, [.agg [vi 8, vw b0, vw b0, vi 1099511627776, vi 0, vi 0, vw b0, .ps .nil [], .ps .opt (s32.F [(Stmt.mk 2 b0 b0 0 (Expr.mk 0 0 b0 []) [] [] c0)]), .ps .nil [], vz c0]]⟩)], 10⟩ ?_
  obtain ⟨r7, hr7, h⟩ := bsome h
  refine Pt (vs := [.agg [.ps .nil [], .ps .opt (s24.F [[(Stmt.mk 8 b0 b0 4611686018427387904 (Expr.mk 0 0 b0 []) [(Stmt.mk 8 b0 b0 1099511627776 (Expr.mk 0 0 b0 []) [(Stmt.mk 2 b0 b0 0 (Expr.mk 0 0 b0 []) [] [] c0)] [] c0)] [] c0)], [(Stmt.mk 8 b0 b0 1099511627776 (Expr.mk 0 0 b0 []) [(Stmt.mk 2 b0 b0 0 (Expr.mk 0 0 b0 []) [] [] c0)] [] c0), (Stmt.mk 8 b0 b0 1099511627776 (Expr.mk 0 0 b0 []) [(Stmt.mk 2 b0 b0 0 (Expr.mk 0 0 b0 []) [] [] c0)] [] c0)], [(Stmt.mk 8 b0 b0 (-5) (Expr.mk 0 0 b0 []) [(Stmt.mk 8 b0 b0 4611686018427387904 (Expr.mk 0 0 b0 []) [(Stmt.mk 8 b0 b0 1099511627776 (Expr.mk 0 0 b0 []) [(Stmt.mk 2 b0 b0 0 (Expr.mk 0 0 b0 []) [] [] c0)] [] c0)] [] c0)] [] c0)]])]]) en18 (PT_args ((bound_Size_ok hr7)) ⟨VLe.agg ⟨VLe.nil_opt, VLe.refl _, trivial⟩, trivial⟩) ?_
  refine Sz hT 1 [1, 3, 4, 5, 9] ⟨[(1, .ps .fopt (s30.F r2)), (3, vi r4.2), (4, vz r6.1), (5, vi r6.2), (9, .ps .fopt (s30.F r7))], [(8, ⟨5, 38, 11, true, false, [.agg [vi 8, vw b0, vw b0, vi (-5), vi 0, vi 0, vw b0, .ps .nil [], .ps .opt (s32.F [(Stmt.mk 8 b0 b0 4611686018427387904 (Expr.mk 0 0 b0 []) [(Stmt.mk 8 b0 b0 1099511627776 (Expr.mk 0 0 b0 []) [(Stmt.mk 2 b0 b0 0 (Expr.mk 0 0 b0 []) [] [] c0)] [] c0)] [] c0)]), .ps .nil [], vz c0]]⟩), (7, ⟨3, 38, 11, true, false, [.agg [vi 8, vw b0, vw b0, vi 4611686018427387904, vi 0, vi 0, vw b0, .ps .nil [], .ps .opt (s32.F [(Stmt.mk 8 b0 b0 1099511627776 (Expr.mk 0 0 b0 []) [(Stmt.mk 2 b0 b0 0 (Expr.mk 0 0 b0 []) [] [] c0)] [] c0)]), .ps .nil [], vz c0]]⟩), (6, ⟨1, 38, 11, true, false, [.agg [vi 8, vw b0, vw b0, vi 1099511627776, vi 0, vi 0, vw b0, .ps .nil [], .ps .opt (s32.F [(Stmt.mk 2 b0 b0 0 (Expr.mk 0 0 b0 []) [] [] c0)]), .ps .nil [], vz c0]]⟩)], 10⟩ ?_
  refine WA_seq ?_
  refine WA_seq ?_
  obtain ⟨J9, hJ9, h⟩ := jsome h
  refine WA_join (fun s => ∃ (b8 : Bool), J9 b8 = some r ∧ s = ⟨[(1, .ps .fopt (s30.F r2)), (3, vi r4.2), (4, vz r6.1), (5, vi r6.2), (9, .ps .fopt (s30.F r7)), (52, vb b8)], [], 1⟩) ?_ ?_
  · refine WA_region ?_
    obtain ⟨r10, hr10, h⟩ := bsome h
    refine Pt en16 (law10_known_ok hr10) ?_
    refine Sg hT 2 [1, 3, 4, 5, 9, 43] ⟨[(1, .ps .fopt (s30.F r2)), (3, vi r4.2), (4, vz r6.1), (5, vi r6.2), (9, .ps .fopt (s30.F r7)), (43, vb (!r10))], [(8, ⟨5, 38, 11, true, false, [.agg [vi 8, vw b0, vw b0, vi (-5), vi 0, vi 0, vw b0, .ps .nil [], .ps .opt (s32.F [(Stmt.mk 8 b0 b0 4611686018427387904 (Expr.mk 0 0 b0 []) [(Stmt.mk 8 b0 b0 1099511627776 (Expr.mk 0 0 b0 []) [(Stmt.mk 2 b0 b0 0 (Expr.mk 0 0 b0 []) [] [] c0)] [] c0)] [] c0)]), .ps .nil [], vz c0]]⟩), (7, ⟨3, 38, 11, true, false, [.agg [vi 8, vw b0, vw b0, vi 4611686018427387904, vi 0, vi 0, vw b0, .ps .nil [], .ps .opt (s32.F [(Stmt.mk 8 b0 b0 1099511627776 (Expr.mk 0 0 b0 []) [(Stmt.mk 2 b0 b0 0 (Expr.mk 0 0 b0 []) [] [] c0)] [] c0)]), .ps .nil [], vz c0]]⟩), (6, ⟨1, 38, 11, true, false, [.agg [vi 8, vw b0, vw b0, vi 1099511627776, vi 0, vi 0, vw b0, .ps .nil [], .ps .opt (s32.F [(Stmt.mk 2 b0 b0 0 (Expr.mk 0 0 b0 []) [] [] c0)]), .ps .nil [], vz c0]]⟩)], 10⟩ ?_
    cases hb : (!r10 : Bool)
    · replace h := cfalse hb h
      refine Sg hT 1 [1, 3, 4, 5, 9, 43, 44] ⟨[(1, .ps .fopt (s30.F r2)), (3, vi r4.2), (4, vz r6.1), (5, vi r6.2), (9, .ps .fopt (s30.F r7)), (43, vb false), (44, .ps .fopt (s30.F r2))], [(8, ⟨5, 38, 11, true, false, [.agg [vi 8, vw b0, vw b0, vi (-5), vi 0, vi 0, vw b0, .ps .nil [], .ps .opt (s32.F [(Stmt.mk 8 b0 b0 4611686018427387904 (Expr.mk 0 0 b0 []) [(Stmt.mk 8 b0 b0 1099511627776 (Expr.mk 0 0 b0 []) [(Stmt.mk 2 b0 b0 0 (Expr.mk 0 0 b0 []) [] [] c0)] [] c0)] [] c0)]), .ps .nil [], vz c0]]⟩), (7, ⟨3, 38, 11, true, false, [.agg [vi 8, vw b0, vw b0, vi 4611686018427387904, vi 0, vi 0, vw b0, .ps .nil [], .ps .opt (s32.F [(Stmt.mk 8 b0 b0 1099511627776 (Expr.mk 0 0 b0 []) [(Stmt.mk 2 b0 b0 0 (Expr.mk 0 0 b0 []) [] [] c0)] [] c0)]), .ps .nil [], vz c0]]⟩), (6, ⟨1, 38, 11, true, false, [.agg [vi 8, vw b0, vw b0, vi 1099511627776, vi 0, vi 0, vw b0, .ps .nil [], .ps .opt (s32.F [(Stmt.mk 2 b0 b0 0 (Expr.mk 0 0 b0 []) [] [] c0)]), .ps .nil [], vz c0]]⟩)], 10⟩ ?_
      refine One hT rfl (ev_len s30 .fopt r2 (by kernel_rfl)) ?_
      refine Sg hT 3 [1, 3, 4, 5, 9, 48] ⟨[(1, .ps .fopt (s30.F r2)), (3, vi r4.2), (4, vz r6.1), (5, vi r6.2), (9, .ps .fopt (s30.F r7)), (48, vb ((ln r2) != 4))], [(8, ⟨5, 38, 11, true, false, [.agg [vi 8, vw b0, vw b0, vi (-5), vi 0, vi 0, vw b0, .ps .nil [], .ps .opt (s32.F [(Stmt.mk 8 b0 b0 4611686018427387904 (Expr.mk 0 0 b0 []) [(Stmt.mk 8 b0 b0 1099511627776 (Expr.mk 0 0 b0 []) [(Stmt.mk 2 b0 b0 0 (Expr.mk 0 0 b0 []) [] [] c0)] [] c0)] [] c0)]), .ps .nil [], vz c0]]⟩), (7, ⟨3, 38, 11, true, false, [.agg [vi 8, vw b0, vw b0, vi 4611686018427387904, vi 0, vi 0, vw b0, .ps .nil [], .ps .opt (s32.F [(Stmt.mk 8 b0 b0 1099511627776 (Expr.mk 0 0 b0 []) [(Stmt.mk 2 b0 b0 0 (Expr.mk 0 0 b0 []) [] [] c0)] [] c0)]), .ps .nil [], vz c0]]⟩), (6, ⟨1, 38, 11, true, false, [.agg [vi 8, vw b0, vw b0, vi 1099511627776, vi 0, vi 0, vw b0, .ps .nil [], .ps .opt (s32.F [(Stmt.mk 2 b0 b0 0 (Expr.mk 0 0 b0 []) [] [] c0)]), .ps .nil [], vz c0]]⟩)], 10⟩ ?_
      cases hb : (((ln r2) != 4) : Bool)
      · replace h := cfalse hb h
        refine Sg hT 1 [1, 3, 4, 5, 9, 48, 49] ⟨[(1, .ps .fopt (s30.F r2)), (3, vi r4.2), (4, vz r6.1), (5, vi r6.2), (9, .ps .fopt (s30.F r7)), (48, vb false), (49, .ps .fopt (s30.F r7))], [(8, ⟨5, 38, 11, true, false, [.agg [vi 8, vw b0, vw b0, vi (-5), vi 0, vi 0, vw b0, .ps .nil [], .ps .opt (s32.F [(Stmt.mk 8 b0 b0 4611686018427387904 (Expr.mk 0 0 b0 []) [(Stmt.mk 8 b0 b0 1099511627776 (Expr.mk 0 0 b0 []) [(Stmt.mk 2 b0 b0 0 (Expr.mk 0 0 b0 []) [] [] c0)] [] c0)] [] c0)]), .ps .nil [], vz c0]]⟩), (7, ⟨3, 38, 11, true, false, [.agg [vi 8, vw b0, vw b0, vi 4611686018427387904, vi 0, vi 0, vw b0, .ps .nil [], .ps .opt (s32.F [(Stmt.mk 8 b0 b0 1099511627776 (Expr.mk 0 0 b0 []) [(Stmt.mk 2 b0 b0 0 (Expr.mk 0 0 b0 []) [] [] c0)] [] c0)]), .ps .nil [], vz c0]]⟩), (6, ⟨1, 38, 11, true, false, [.agg [vi 8, vw b0, vw b0, vi 1099511627776, vi 0, vi 0, vw b0, .ps .nil [], .ps .opt (s32.F [(Stmt.mk 2 b0 b0 0 (Expr.mk 0 0 b0 []) [] [] c0)]), .ps .nil [], vz c0]]⟩)], 10⟩ ?_
        refine One hT rfl (ev_len s30 .fopt r7 (by kernel_rfl)) ?_
        refine Sg hT 2 [1, 3, 4, 5, 9, 52] ⟨[(1, .ps .fopt (s30.F r2)), (3, vi r4.2), (4, vz r6.1), (5, vi r6.2), (9, .ps .fopt (s30.F r7)), (52, vb ((ln r7) != 3))], [(8, ⟨5, 38, 11, true, false, [.agg [vi 8, vw b0, vw b0, vi (-5), vi 0, vi 0, vw b0, .ps .nil [], .ps .opt (s32.F [(Stmt.mk 8 b0 b0 4611686018427387904 (Expr.mk 0 0 b0 []) [(Stmt.mk 8 b0 b0 1099511627776 (Expr.mk 0 0 b0 []) [(Stmt.mk 2 b0 b0 0 (Expr.mk 0 0 b0 []) [] [] c0)] [] c0)] [] c0)]), .ps .nil [], vz c0]]⟩), (7, ⟨3, 38, 11, true, false, [.agg [vi 8, vw b0, vw b0, vi 4611686018427387904, vi 0, vi 0, vw b0, .ps .nil [], .ps .opt (s32.F [(Stmt.mk 8 b0 b0 1099511627776 (Expr.mk 0 0 b0 []) [(Stmt.mk 2 b0 b0 0 (Expr.mk 0 0 b0 []) [] [] c0)] [] c0)]), .ps .nil [], vz c0]]⟩), (6, ⟨1, 38, 11, true, false, [.agg [vi 8, vw b0, vw b0, vi 1099511627776, vi 0, vi 0, vw b0, .ps .nil [], .ps .opt (s32.F [(Stmt.mk 2 b0 b0 0 (Expr.mk 0 0 b0 []) [] [] c0)]), .ps .nil [], vz c0]]⟩)], 10⟩ ?_
        exact oK [1, 3, 4, 5, 9, 52] [] ⟨((ln r7) != 3), h, rfl⟩
      replace h := ctrue hb h
      refine Sg hT 4 [1, 3, 4, 5, 9, 52] ⟨[(1, .ps .fopt (s30.F r2)), (3, vi r4.2), (4, vz r6.1), (5, vi r6.2), (9, .ps .fopt (s30.F r7)), (52, vb true)], [(8, ⟨5, 38, 11, true, false, [.agg [vi 8, vw b0, vw b0, vi (-5), vi 0, vi 0, vw b0, .ps .nil [], .ps .opt (s32.F [(Stmt.mk 8 b0 b0 4611686018427387904 (Expr.mk 0 0 b0 []) [(Stmt.mk 8 b0 b0 1099511627776 (Expr.mk 0 0 b0 []) [(Stmt.mk 2 b0 b0 0 (Expr.mk 0 0 b0 []) [] [] c0)] [] c0)] [] c0)]), .ps .nil [], vz c0]]⟩), (7, ⟨3, 38, 11, true, false, [.agg [vi 8, vw b0, vw b0, vi 4611686018427387904, vi 0, vi 0, vw b0, .ps .nil [], .ps .opt (s32.F [(Stmt.mk 8 b0 b0 1099511627776 (Expr.mk 0 0 b0 []) [(Stmt.mk 2 b0 b0 0 (Expr.mk 0 0 b0 []) [] [] c0)] [] c0)]), .ps .nil [], vz c0]]⟩), (6, ⟨1, 38, 11, true, false, [.agg [vi 8, vw b0, vw b0, vi 1099511627776, vi 0, vi 0, vw b0, .ps .nil [], .ps .opt (s32.F [(Stmt.mk 2 b0 b0 0 (Expr.mk 0 0 b0 []) [] [] c0)]), .ps .nil [], vz c0]]⟩)], 10⟩ ?_
      exact oK [1, 3, 4, 5, 9, 52] [] ⟨true, h, rfl⟩
    replace h := ctrue hb h
    refine Sg hT 9 [1, 3, 4, 5, 9, 52] ⟨[(1, .ps .fopt (s30.F r2)), (3, vi r4.2), (4, vz r6.1), (5, vi r6.2), (9, .ps .fopt (s30.F r7)), (52, vb true)], [(8, ⟨5, 38, 11, true, false, [.agg [vi 8, vw b0, vw b0, vi (-5), vi 0, vi 0, vw b0, .ps .nil [], .ps .opt (s32.F [(Stmt.mk 8 b0 b0 4611686018427387904 (Expr.mk 0 0 b0 []) [(Stmt.mk 8 b0 b0 1099511627776 (Expr.mk 0 0 b0 []) [(Stmt.mk 2 b0 b0 0 (Expr.mk 0 0 b0 []) [] [] c0)] [] c0)] [] c0)]), .ps .nil [], vz c0]]⟩), (7, ⟨3, 38, 11, true, false, [.agg [vi 8, vw b0, vw b0, vi 4611686018427387904, vi 0, vi 0, vw b0, .ps .nil [], .ps .opt (s32.F [(Stmt.mk 8 b0 b0 1099511627776 (Expr.mk 0 0 b0 []) [(Stmt.mk 2 b0 b0 0 (Expr.mk 0 0 b0 []) [] [] c0)] [] c0)]), .ps .nil [], vz c0]]⟩), (6, ⟨1, 38, 11, true, false, [.agg [vi 8, vw b0, vw b0, vi 1099511627776, vi 0, vi 0, vw b0, .ps .nil [], .ps .opt (s32.F [(Stmt.mk 2 b0 b0 0 (Expr.mk 0 0 b0 []) [] [] c0)]), .ps .nil [], vz c0]]⟩)], 10⟩ ?_
    exact oK [1, 3, 4, 5, 9, 52] [] ⟨true, h, rfl⟩
  subst hJ9
  rintro s ⟨b8, h, rfl⟩
  refine Cd b8 ?_ ?_
  · intro hb; replace h := ctrue hb h
    refine Qz hT 1 [0] ⟨[(0, vb false)], [], 1⟩ ?_
    obtain rfl := Option.some.inj h
    exact rK [0] [] ⟨[(0, vb false)], [], 1⟩ ⟨by kernel_rfl, rfl⟩
  intro hb; replace h := cfalse hb h
  refine WA_skip ?_
  refine WA_seq ?_
  obtain ⟨J12, hJ12, h⟩ := jsome h
  refine WA_join (fun s => ∃ (b11 : Bool), J12 b11 = some r ∧ s = ⟨[(0, vb b11)], [], 1⟩) ?_ ?_
  · refine Rg hT 1 [1, 3, 4, 5, 9, 53] ⟨[(1, .ps .fopt (s30.F r2)), (3, vi r4.2), (4, vz r6.1), (5, vi r6.2), (9, .ps .fopt (s30.F r7)), (53, .ps .fopt (s30.F r2))], [], 1⟩ ?_
    obtain ⟨x13, hx13, h⟩ := bsome h
    refine One hT rfl (ev_index s30 .fopt r2 .i64 0 hx13 (by decide) (by kernel_rfl) (by kernel_rfl)) ?_
    refine Sg hT 3 [1, 3, 4, 5, 9, 57] ⟨[(1, .ps .fopt (s30.F r2)), (3, vi r4.2), (4, vz r6.1), (5, vi r6.2), (9, .ps .fopt (s30.F r7)), (57, vb (x13 == 10))], [], 1⟩ ?_
    cases hb : ((x13 == 10) : Bool)
    · replace h := cfalse hb h
      refine Sg hT 53 [0] ⟨[(0, vb false)], [], 1⟩ ?_
      exact oK [0] [] ⟨false, h, rfl⟩
    replace h := ctrue hb h
    refine Sg hT 1 [1, 3, 4, 5, 9, 57, 58] ⟨[(1, .ps .fopt (s30.F r2)), (3, vi r4.2), (4, vz r6.1), (5, vi r6.2), (9, .ps .fopt (s30.F r7)), (57, vb true), (58, .ps .fopt (s30.F r2))], [], 1⟩ ?_
    obtain ⟨x14, hx14, h⟩ := bsome h
    refine One hT rfl (ev_index s30 .fopt r2 .i64 1 hx14 (by decide) (by kernel_rfl) (by kernel_rfl)) ?_
    refine Sg hT 4 [1, 3, 4, 5, 9, 63] ⟨[(1, .ps .fopt (s30.F r2)), (3, vi r4.2), (4, vz r6.1), (5, vi r6.2), (9, .ps .fopt (s30.F r7)), (63, vb (x14 == 9))], [], 1⟩ ?_
    cases hb : ((x14 == 9) : Bool)
    · replace h := cfalse hb h
      refine Sg hT 47 [0] ⟨[(0, vb false)], [], 1⟩ ?_
      exact oK [0] [] ⟨false, h, rfl⟩
    replace h := ctrue hb h
    refine Sg hT 1 [1, 3, 4, 5, 9, 63, 64] ⟨[(1, .ps .fopt (s30.F r2)), (3, vi r4.2), (4, vz r6.1), (5, vi r6.2), (9, .ps .fopt (s30.F r7)), (63, vb true), (64, .ps .fopt (s30.F r2))], [], 1⟩ ?_
    obtain ⟨x15, hx15, h⟩ := bsome h
    refine One hT rfl (ev_index s30 .fopt r2 .i64 2 hx15 (by decide) (by kernel_rfl) (by kernel_rfl)) ?_
    refine Sg hT 4 [1, 3, 4, 5, 9, 69] ⟨[(1, .ps .fopt (s30.F r2)), (3, vi r4.2), (4, vz r6.1), (5, vi r6.2), (9, .ps .fopt (s30.F r7)), (69, vb (x15 == 15))], [], 1⟩ ?_
    cases hb : ((x15 == 15) : Bool)
    · replace h := cfalse hb h
      refine Sg hT 41 [0] ⟨[(0, vb false)], [], 1⟩ ?_
      exact oK [0] [] ⟨false, h, rfl⟩
    replace h := ctrue hb h
    refine Sg hT 1 [3, 4, 5, 9, 69, 70] ⟨[(3, vi r4.2), (4, vz r6.1), (5, vi r6.2), (9, .ps .fopt (s30.F r7)), (69, vb true), (70, .ps .fopt (s30.F r2))], [], 1⟩ ?_
    obtain ⟨x16, hx16, h⟩ := bsome h
    refine One hT rfl (ev_index s30 .fopt r2 .i64 3 hx16 (by decide) (by kernel_rfl) (by kernel_rfl)) ?_
    refine Sg hT 4 [3, 4, 5, 9, 75] ⟨[(3, vi r4.2), (4, vz r6.1), (5, vi r6.2), (9, .ps .fopt (s30.F r7)), (75, vb (x16 == 2))], [], 1⟩ ?_
    cases hb : ((x16 == 2) : Bool)
    · replace h := cfalse hb h
      refine Sg hT 35 [0] ⟨[(0, vb false)], [], 1⟩ ?_
      exact oK [0] [] ⟨false, h, rfl⟩
    replace h := ctrue hb h
    refine Sg hT 4 [4, 5, 9, 79] ⟨[(4, vz r6.1), (5, vi r6.2), (9, .ps .fopt (s30.F r7)), (79, vb (r4.2 == 0))], [], 1⟩ ?_
    cases hb : ((r4.2 == 0) : Bool)
    · replace h := cfalse hb h
      refine Sg hT 31 [0] ⟨[(0, vb false)], [], 1⟩ ?_
      exact oK [0] [] ⟨false, h, rfl⟩
    replace h := ctrue hb h
    refine Sg hT 4 [4, 9, 83] ⟨[(4, vz r6.1), (9, .ps .fopt (s30.F r7)), (83, vb (r6.2 == 5))], [], 1⟩ ?_
    cases hb : ((r6.2 == 5) : Bool)
    · replace h := cfalse hb h
      refine Sg hT 27 [0] ⟨[(0, vb false)], [], 1⟩ ?_
      exact oK [0] [] ⟨false, h, rfl⟩
    replace h := ctrue hb h
    refine Sg hT 4 [9, 87] ⟨[(9, .ps .fopt (s30.F r7)), (87, vb ((FloatKind.f64.format.order r6.1.re (⟨4607182418800017408, 4620693217682128896⟩ : Cx).re == some .eq) && (FloatKind.f64.format.order r6.1.im (⟨4607182418800017408, 4620693217682128896⟩ : Cx).im == some .eq)))], [], 1⟩ ?_
    cases hb : (((FloatKind.f64.format.order r6.1.re (⟨4607182418800017408, 4620693217682128896⟩ : Cx).re == some .eq) && (FloatKind.f64.format.order r6.1.im (⟨4607182418800017408, 4620693217682128896⟩ : Cx).im == some .eq)) : Bool)
    · replace h := cfalse hb h
      refine Sg hT 23 [0] ⟨[(0, vb false)], [], 1⟩ ?_
      exact oK [0] [] ⟨false, h, rfl⟩
    replace h := ctrue hb h
    refine Sg hT 1 [9, 87, 88] ⟨[(9, .ps .fopt (s30.F r7)), (87, vb true), (88, .ps .fopt (s30.F r7))], [], 1⟩ ?_
    obtain ⟨x17, hx17, h⟩ := bsome h
    refine One hT rfl (ev_index s30 .fopt r7 .i64 0 hx17 (by decide) (by kernel_rfl) (by kernel_rfl)) ?_
    refine Sg hT 4 [9, 93] ⟨[(9, .ps .fopt (s30.F r7)), (93, vb (x17 == 2147483647))], [], 1⟩ ?_
    cases hb : ((x17 == 2147483647) : Bool)
    · replace h := cfalse hb h
      refine Sg hT 17 [0] ⟨[(0, vb false)], [], 1⟩ ?_
      exact oK [0] [] ⟨false, h, rfl⟩
    replace h := ctrue hb h
    refine Sg hT 1 [9, 93, 94] ⟨[(9, .ps .fopt (s30.F r7)), (93, vb true), (94, .ps .fopt (s30.F r7))], [], 1⟩ ?_
    obtain ⟨x18, hx18, h⟩ := bsome h
    refine One hT rfl (ev_index s30 .fopt r7 .i64 1 hx18 (by decide) (by kernel_rfl) (by kernel_rfl)) ?_
    refine Sg hT 4 [9, 99] ⟨[(9, .ps .fopt (s30.F r7)), (99, vb (x18 == 2147483647))], [], 1⟩ ?_
    cases hb : ((x18 == 2147483647) : Bool)
    · replace h := cfalse hb h
      refine Sg hT 11 [0] ⟨[(0, vb false)], [], 1⟩ ?_
      exact oK [0] [] ⟨false, h, rfl⟩
    replace h := ctrue hb h
    refine Sg hT 1 [99, 100] ⟨[(99, vb true), (100, .ps .fopt (s30.F r7))], [], 1⟩ ?_
    obtain ⟨x19, hx19, h⟩ := bsome h
    refine One hT rfl (ev_index s30 .fopt r7 .i64 2 hx19 (by decide) (by kernel_rfl) (by kernel_rfl)) ?_
    refine Sg hT 4 [105] ⟨[(105, vb (x19 == 0))], [], 1⟩ ?_
    cases hb : ((x19 == 0) : Bool)
    · replace h := cfalse hb h
      refine Sg hT 5 [0] ⟨[(0, vb false)], [], 1⟩ ?_
      exact oK [0] [] ⟨false, h, rfl⟩
    replace h := ctrue hb h
    refine Sg hT 1 [105, 106] ⟨[(105, vb true), (106, .agg [vi 1, vi 0, vw b0, .ps .nil []])], [], 1⟩ ?_
    obtain ⟨r20, hr20, h⟩ := bsome h
    refine Pt (vs := [.agg [vi 1, vi 0, vw b0, .ps .nil []]]) en21 (PT_args ((bound_Expr_ok hr20)) ⟨VLe.agg ⟨VLe.refl _, VLe.refl _, VLe.refl _, VLe.nil_opt, trivial⟩, trivial⟩) ?_
    refine Sg hT 3 [0] ⟨[(0, vb (r20 == 1))], [], 1⟩ ?_
    exact oK [0] [] ⟨(r20 == 1), h, rfl⟩
  subst hJ12
  rintro s ⟨b11, h, rfl⟩
  obtain rfl := Option.some.inj h
  exact rK [0] [] ⟨[(0, vb b11)], [], 1⟩ ⟨by kernel_rfl, rfl⟩

end Go.Su.Ytlfpfdkjfibdhaa
