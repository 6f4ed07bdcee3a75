/-
  The functions of the program compute that.
-/
import Derived.Test.YtfmgnboplbgniaaBTPa
namespace Go.Su.Ytfmgnboplbgniaa
open Go.Mx Go.Proofs
set_option maxRecDepth 100000
set_option maxHeartbeats 20000000
set_option linter.unusedVariables false
set_option linter.unusedSimpArgs false

theorem ref1_Reader_name_ok {n : Nat} {a0 : Reader} {r : ByteArray × Reader} (h : ref1_Reader_name n a0 = some r) : GO Try.prog 104 [(0, ⟨0, 122, 4, true, false, [eReader a0]⟩)] [.box 0 0 0 0] (vw r.1) [(0, ⟨0, 122, 4, true, false, [eReader r.2]⟩)] := by
  unfold ref1_Reader_name at h
  refine GO_bodyA hT Try.func104 rfl [] (by kernel_rfl) fun bad w m => ?_
  refine Qzd hT 1 [0] [] ?_
  refine WA_seq ?_
  refine WA_seq ?_
  obtain ⟨J2, hJ2, h⟩ := jsome h
  refine WA_join (fun s => ∃ (b1 : Bool), J2 b1 = some r ∧ s = ⟨[(0, .box 0 0 0 0), (34, vb b1)], [(0, ⟨0, 122, 4, true, false, [eReader a0]⟩)], 2⟩) ?_ ?_
  · refine WA_drawW hT hM (by kernel_rfl) ?_
    refine Ds 5 [(7, vb a0.Fail), (6, vb a0.Fail), (5, .box 0 0 0 2), (4, .box 0 0 0 0), (3, .box 0 0 0 0)] [] [(1, [0]), (2, [0]), (3, [0])] ?_
    cases hb : (a0.Fail : Bool)
    · replace h := cfalse hb h
      refine Ds 8 [(15, vi a0.At), (14, .box 0 0 0 1), (13, .box 0 0 0 0), (12, .box 0 0 0 0), (11, .ps .opt (s117.F a0.T)), (10, .box 0 0 0 0), (9, .box 0 0 0 0), (8, .box 0 0 0 0)] [] [(6, [0]), (7, [0]), (8, [0]), (10, [0]), (11, [0]), (12, [0])] ?_
      obtain ⟨x3, hx3, h⟩ := bsome h
      refine WD_loc' rfl (by kernel_rfl) (by kernel_rfl) (by kernel_rfl) (ev_index s117 .opt a0.T .i64 a0.At hx3 (by decide) (by kernel_rfl) (by kernel_rfl)) (by kernel_rfl) ?_
      refine Dt (.ref (eToken x3) 0) ?_
      refine Ds 5 [(21, vb (x3.Kind != 1)), (20, vb (x3.Kind != 1)), (19, vb (x3.Kind != 1)), (18, vi x3.Kind), (17, .ref (eToken x3) 0)] [] [] ?_
      cases hb : ((x3.Kind != 1) : Bool)
      · replace h := cfalse hb h
        refine Ds 8 [(29, vi a0.At), (28, .box 0 0 0 1), (27, .box 0 0 0 0), (26, .box 0 0 0 0), (25, .ps .opt (s117.F a0.T)), (24, .box 0 0 0 0), (23, .box 0 0 0 0), (22, .box 0 0 0 0)] [] [(20, [0]), (21, [0]), (22, [0]), (24, [0]), (25, [0]), (26, [0])] ?_
        obtain ⟨x4, hx4, h⟩ := bsome h
        refine WD_loc' rfl (by kernel_rfl) (by kernel_rfl) (by kernel_rfl) (ev_index s117 .opt a0.T .i64 a0.At hx4 (by decide) (by kernel_rfl) (by kernel_rfl)) (by kernel_rfl) ?_
        refine Dt (.ref (eToken x4) 0) ?_
        refine Ds 2 [(32, vw x4.Text), (31, .ref (eToken x4) 1)] [] [] ?_
        obtain ⟨r5, hr5, h⟩ := bsome h
        refine WD_pt' rfl (by kernel_rfl) (by kernel_rfl) [vw x4.Text] (vb r5) rfl (by kernel_rfl) en131 (by kernel_rfl) (ref1_Keyword_ok hr5) (by kernel_rfl) ?_
        refine Ds 1 [(34, vb r5)] [] [] ?_
        refine WD_end (by kernel_rfl) (by kernel_rfl) (by kernel_rfl) ?_
        exact wK [0, 34] [(0, 0, 0)] ⟨r5, h, rfl⟩
      replace h := ctrue hb h
      refine Ds 13 [(34, vb true), (33, .p Go.undef), (32, .p Go.undef), (31, .p Go.undef), (30, .p Go.undef), (29, .p Go.undef), (28, .p Go.undef), (27, .p Go.undef), (26, .p Go.undef), (25, .p Go.undef), (24, .p Go.undef), (23, .p Go.undef), (22, .p Go.undef)] [] [] ?_
      refine WD_end (by kernel_rfl) (by kernel_rfl) (by kernel_rfl) ?_
      exact wK [0, 34] [(0, 0, 0)] ⟨true, h, rfl⟩
    replace h := ctrue hb h
    refine Ds 27 [(34, vb true), (33, .p Go.undef), (32, .p Go.undef), (31, .p Go.undef), (30, .p Go.undef), (29, .p Go.undef), (28, .p Go.undef), (27, .p Go.undef), (26, .p Go.undef), (25, .p Go.undef), (24, .p Go.undef), (23, .p Go.undef), (22, .p Go.undef), (21, vb true), (20, vb true), (19, .p Go.undef), (18, .p Go.undef), (17, .p Go.undef), (16, .p Go.undef), (15, .p Go.undef), (14, .p Go.undef), (13, .p Go.undef), (12, .p Go.undef), (11, .p Go.undef), (10, .p Go.undef), (9, .p Go.undef), (8, .p Go.undef)] [] [] ?_
    refine WD_end (by kernel_rfl) (by kernel_rfl) (by kernel_rfl) ?_
    exact wK [0, 34] [(0, 0, 0)] ⟨true, h, rfl⟩
  subst hJ2
  rintro s ⟨b1, h, rfl⟩
  refine Cd b1 ?_ ?_
  · intro hb; replace h := ctrue hb h
    refine Qgd hT 1 [35] [(35, .box 0 0 0 0)] ?_
    obtain ⟨r6, hr6, h⟩ := bsome h
    refine WO_go' rfl (by kernel_rfl) [(0, ⟨0, 122, 4, true, false, [eReader a0]⟩)] [(0, ⟨0, 122, 4, true, false, [eReader r6]⟩)] [.box 0 0 0 0] [.box 0 0 0 0] [(0, 0, 0)] [(0, 0, 0)] [(0, ⟨0, 122, 4, true, false, [eReader r6]⟩)] (.tup []) (.tup []) 3 rfl (by kernel_rfl) en103 (by kernel_rfl) (by kernel_rfl) (by kernel_rfl) (ref1_Reader_fail_ok hr6) (by kernel_rfl) (by kernel_rfl) (by kernel_rfl) (by kernel_rfl) ?_
    refine Sz hT 0 [] ⟨[], [(0, ⟨0, 122, 4, true, false, [eReader r6]⟩)], 3⟩ ?_
    refine Qzd hT 1 [2] [(2, vw b0)] ?_
    obtain rfl := Option.some.inj h
    exact rK [2] [(0, 0, 0)] ⟨[(2, vw b0)], [(0, ⟨0, 122, 4, true, false, [eReader r6]⟩)], 2⟩ ⟨by kernel_rfl, by kernel_rfl, rfl⟩
  intro hb; replace h := cfalse hb h
  refine WA_skip ?_
  refine Qz hT 8 [0] ⟨[(0, .box 0 0 0 0)], [(0, ⟨0, 122, 4, true, false, [.agg [.ps .opt (s117.F a0.T), vi (wr (a0.At + 1)), vb a0.Fail, vi a0.Bad]]⟩)], 2⟩ ?_
  refine WA_seq ?_
  refine WA_drawW hT hM (by kernel_rfl) ?_
  refine Ds 9 [(52, vi (wr ((wr (a0.At + 1)) - 1))), (51, vi (wr (a0.At + 1))), (50, .box 0 0 0 1), (49, .box 0 0 0 0), (48, .box 0 0 0 0), (47, .ps .opt (s117.F a0.T)), (46, .box 0 0 0 0), (45, .box 0 0 0 0), (44, .box 0 0 0 0)] [] [(1, [0]), (2, [0]), (3, [0]), (5, [0]), (6, [0]), (7, [0])] ?_
  obtain ⟨x7, hx7, h⟩ := bsome h
  refine WD_loc' rfl (by kernel_rfl) (by kernel_rfl) (by kernel_rfl) (ev_index s117 .opt a0.T .i64 (wr ((wr (a0.At + 1)) - 1)) hx7 (by decide) (by kernel_rfl) (by kernel_rfl)) (by kernel_rfl) ?_
  refine Dt (.ref (eToken x7) 0) ?_
  refine Ds 3 [(2, vw x7.Text), (55, vw x7.Text), (54, .ref (eToken x7) 1)] [] [] ?_
  refine WD_end (by kernel_rfl) (by kernel_rfl) (by kernel_rfl) ?_
  refine Wk_done ?_
  refine aW [2] ⟨[(2, vw x7.Text)], [(0, ⟨0, 122, 4, true, false, [.agg [.ps .opt (s117.F a0.T), vi (wr (a0.At + 1)), vb a0.Fail, vi a0.Bad]]⟩)], 2⟩ ?_
  refine WA_weak (Weak_leH [(2, vw x7.Text)] [(0, ⟨0, 122, 4, true, false, [eReader (Reader.mk a0.T (wr (a0.At + 1)) a0.Fail a0.Bad)]⟩)] (by kernel_rfl) ⟨VLf.refl _, trivial⟩ ⟨rfl, .inr (.inl ⟨rfl, rfl, CLe.agg ⟨VLf.refl _, VLf.refl _, VLf.refl _, VLf.refl _, trivial⟩, trivial⟩), trivial⟩) ?_
  obtain rfl := Option.some.inj h
  exact rR [(0, 0, 0)] ⟨[(2, vw x7.Text)], [(0, ⟨0, 122, 4, true, false, [eReader (Reader.mk a0.T (wr (a0.At + 1)) a0.Fail a0.Bad)]⟩)], 2⟩ ⟨by kernel_rfl, by kernel_rfl, rfl⟩

theorem ref1_Reader_number_ok {n : Nat} {a0 : Reader} {a1 : Int} {r : Int × Reader} (h : ref1_Reader_number n a0 a1 = some r) : GO Try.prog 105 [(0, ⟨0, 122, 4, true, false, [eReader a0]⟩)] [.box 0 0 0 0, vi a1] (vi r.1) [(0, ⟨0, 122, 4, true, false, [eReader r.2]⟩)] := by
  unfold ref1_Reader_number at h
  refine GO_bodyA hT Try.func105 rfl [] (by kernel_rfl) fun bad w m => ?_
  refine Qzd hT 1 [0, 1] [] ?_
  refine WA_seq ?_
  refine WA_seq ?_
  obtain ⟨J2, hJ2, h⟩ := jsome h
  refine WA_join (fun s => ∃ (b1 : Bool), J2 b1 = some r ∧ s = ⟨[(0, .box 0 0 0 0), (37, vb b1)], [(0, ⟨0, 122, 4, true, false, [eReader a0]⟩)], 2⟩) ?_ ?_
  · refine WA_drawW hT hM (by kernel_rfl) ?_
    refine Ds 5 [(9, vb a0.Fail), (8, vb a0.Fail), (7, .box 0 0 0 2), (6, .box 0 0 0 0), (5, .box 0 0 0 0)] [] [(1, [0]), (2, [0]), (3, [0])] ?_
    cases hb : (a0.Fail : Bool)
    · replace h := cfalse hb h
      refine Ds 8 [(17, vi a0.At), (16, .box 0 0 0 1), (15, .box 0 0 0 0), (14, .box 0 0 0 0), (13, .ps .opt (s117.F a0.T)), (12, .box 0 0 0 0), (11, .box 0 0 0 0), (10, .box 0 0 0 0)] [] [(6, [0]), (7, [0]), (8, [0]), (10, [0]), (11, [0]), (12, [0])] ?_
      obtain ⟨x3, hx3, h⟩ := bsome h
      refine WD_loc' rfl (by kernel_rfl) (by kernel_rfl) (by kernel_rfl) (ev_index s117 .opt a0.T .i64 a0.At hx3 (by decide) (by kernel_rfl) (by kernel_rfl)) (by kernel_rfl) ?_
      refine Dt (.ref (eToken x3) 0) ?_
      refine Ds 5 [(23, vb (x3.Kind != 2)), (22, vb (x3.Kind != 2)), (21, vb (x3.Kind != 2)), (20, vi x3.Kind), (19, .ref (eToken x3) 0)] [] [] ?_
      cases hb : ((x3.Kind != 2) : Bool)
      · replace h := cfalse hb h
        refine Ds 8 [(31, vi a0.At), (30, .box 0 0 0 1), (29, .box 0 0 0 0), (28, .box 0 0 0 0), (27, .ps .opt (s117.F a0.T)), (26, .box 0 0 0 0), (25, .box 0 0 0 0), (24, .box 0 0 0 0)] [] [(20, [0]), (21, [0]), (22, [0]), (24, [0]), (25, [0]), (26, [0])] ?_
        obtain ⟨x4, hx4, h⟩ := bsome h
        refine WD_loc' rfl (by kernel_rfl) (by kernel_rfl) (by kernel_rfl) (ev_index s117 .opt a0.T .i64 a0.At hx4 (by decide) (by kernel_rfl) (by kernel_rfl)) (by kernel_rfl) ?_
        refine Dt (.ref (eToken x4) 0) ?_
        refine Ds 5 [(37, vb (decide (x4.N > a1))), (36, vb (decide (x4.N > a1))), (35, vi a1), (34, vi x4.N), (33, .ref (eToken x4) 2)] [] [] ?_
        refine WD_end (by kernel_rfl) (by kernel_rfl) (by kernel_rfl) ?_
        exact wK [0, 37] [(0, 0, 0)] ⟨decide (x4.N > a1), h, rfl⟩
      replace h := ctrue hb h
      refine Ds 14 [(37, vb true), (36, .p Go.undef), (35, .p Go.undef), (34, .p Go.undef), (33, .p Go.undef), (32, .p Go.undef), (31, .p Go.undef), (30, .p Go.undef), (29, .p Go.undef), (28, .p Go.undef), (27, .p Go.undef), (26, .p Go.undef), (25, .p Go.undef), (24, .p Go.undef)] [] [] ?_
      refine WD_end (by kernel_rfl) (by kernel_rfl) (by kernel_rfl) ?_
      exact wK [0, 37] [(0, 0, 0)] ⟨true, h, rfl⟩
    replace h := ctrue hb h
    refine Ds 28 [(37, vb true), (36, .p Go.undef), (35, .p Go.undef), (34, .p Go.undef), (33, .p Go.undef), (32, .p Go.undef), (31, .p Go.undef), (30, .p Go.undef), (29, .p Go.undef), (28, .p Go.undef), (27, .p Go.undef), (26, .p Go.undef), (25, .p Go.undef), (24, .p Go.undef), (23, vb true), (22, vb true), (21, .p Go.undef), (20, .p Go.undef), (19, .p Go.undef), (18, .p Go.undef), (17, .p Go.undef), (16, .p Go.undef), (15, .p Go.undef), (14, .p Go.undef), (13, .p Go.undef), (12, .p Go.undef), (11, .p Go.undef), (10, .p Go.undef)] [] [] ?_
    refine WD_end (by kernel_rfl) (by kernel_rfl) (by kernel_rfl) ?_
    exact wK [0, 37] [(0, 0, 0)] ⟨true, h, rfl⟩
  subst hJ2
  rintro s ⟨b1, h, rfl⟩
  refine Cd b1 ?_ ?_
  · intro hb; replace h := ctrue hb h
    refine Qgd hT 1 [38] [(38, .box 0 0 0 0)] ?_
    obtain ⟨r5, hr5, h⟩ := bsome h
    refine WO_go' rfl (by kernel_rfl) [(0, ⟨0, 122, 4, true, false, [eReader a0]⟩)] [(0, ⟨0, 122, 4, true, false, [eReader r5]⟩)] [.box 0 0 0 0] [.box 0 0 0 0] [(0, 0, 0)] [(0, 0, 0)] [(0, ⟨0, 122, 4, true, false, [eReader r5]⟩)] (.tup []) (.tup []) 3 rfl (by kernel_rfl) en103 (by kernel_rfl) (by kernel_rfl) (by kernel_rfl) (ref1_Reader_fail_ok hr5) (by kernel_rfl) (by kernel_rfl) (by kernel_rfl) (by kernel_rfl) ?_
    refine Sz hT 0 [] ⟨[], [(0, ⟨0, 122, 4, true, false, [eReader r5]⟩)], 3⟩ ?_
    refine Qzd hT 1 [4] [(4, vi 0)] ?_
    obtain rfl := Option.some.inj h
    exact rK [4] [(0, 0, 0)] ⟨[(4, vi 0)], [(0, ⟨0, 122, 4, true, false, [eReader r5]⟩)], 2⟩ ⟨by kernel_rfl, by kernel_rfl, rfl⟩
  intro hb; replace h := cfalse hb h
  refine WA_skip ?_
  refine Qz hT 8 [0] ⟨[(0, .box 0 0 0 0)], [(0, ⟨0, 122, 4, true, false, [.agg [.ps .opt (s117.F a0.T), vi (wr (a0.At + 1)), vb a0.Fail, vi a0.Bad]]⟩)], 2⟩ ?_
  refine WA_seq ?_
  refine WA_drawW hT hM (by kernel_rfl) ?_
  refine Ds 9 [(55, vi (wr ((wr (a0.At + 1)) - 1))), (54, vi (wr (a0.At + 1))), (53, .box 0 0 0 1), (52, .box 0 0 0 0), (51, .box 0 0 0 0), (50, .ps .opt (s117.F a0.T)), (49, .box 0 0 0 0), (48, .box 0 0 0 0), (47, .box 0 0 0 0)] [] [(1, [0]), (2, [0]), (3, [0]), (5, [0]), (6, [0]), (7, [0])] ?_
  obtain ⟨x6, hx6, h⟩ := bsome h
  refine WD_loc' rfl (by kernel_rfl) (by kernel_rfl) (by kernel_rfl) (ev_index s117 .opt a0.T .i64 (wr ((wr (a0.At + 1)) - 1)) hx6 (by decide) (by kernel_rfl) (by kernel_rfl)) (by kernel_rfl) ?_
  refine Dt (.ref (eToken x6) 0) ?_
  refine Ds 3 [(4, vi x6.N), (58, vi x6.N), (57, .ref (eToken x6) 2)] [] [] ?_
  refine WD_end (by kernel_rfl) (by kernel_rfl) (by kernel_rfl) ?_
  refine Wk_done ?_
  refine aW [4] ⟨[(4, vi x6.N)], [(0, ⟨0, 122, 4, true, false, [.agg [.ps .opt (s117.F a0.T), vi (wr (a0.At + 1)), vb a0.Fail, vi a0.Bad]]⟩)], 2⟩ ?_
  refine WA_weak (Weak_leH [(4, vi x6.N)] [(0, ⟨0, 122, 4, true, false, [eReader (Reader.mk a0.T (wr (a0.At + 1)) a0.Fail a0.Bad)]⟩)] (by kernel_rfl) ⟨VLf.refl _, trivial⟩ ⟨rfl, .inr (.inl ⟨rfl, rfl, CLe.agg ⟨VLf.refl _, VLf.refl _, VLf.refl _, VLf.refl _, trivial⟩, trivial⟩), trivial⟩) ?_
  obtain rfl := Option.some.inj h
  exact rR [(0, 0, 0)] ⟨[(4, vi x6.N)], [(0, ⟨0, 122, 4, true, false, [eReader (Reader.mk a0.T (wr (a0.At + 1)) a0.Fail a0.Bad)]⟩)], 2⟩ ⟨by kernel_rfl, by kernel_rfl, rfl⟩

theorem ref1_Reader_word_ok {n : Nat} {a0 : Reader} {a1 : ByteArray} {r : Bool} (h : ref1_Reader_word n a0 a1 = some r) : PT Try.prog 106 [.ref (eReader a0) 0, vw a1] (vb r) := by
  unfold ref1_Reader_word at h
  refine PT_bodyA hT Try.func106 rfl (by kernel_rfl) fun bad w => ?_
  refine Qzd hT 1 [0, 1] [] ?_
  refine WA_seq ?_
  obtain ⟨J2, hJ2, h⟩ := jsome h
  refine WA_join (fun s => ∃ (b1 : Bool), J2 b1 = some r ∧ s = ⟨[(4, vb b1)], [], 1⟩) ?_ ?_
  · refine WA_drawW hT hM (by kernel_rfl) ?_
    refine Ds 6 [(10, vb (!a0.Fail)), (9, vb (!a0.Fail)), (8, vb a0.Fail), (7, .ref (eReader a0) 2), (6, .ref (eReader a0) 0), (5, .ref (eReader a0) 0)] [] [] ?_
    cases hb : (!a0.Fail : Bool)
    · replace h := cfalse hb h
      refine Ds 29 [(4, vb false), (38, vb false), (37, .p Go.undef), (36, .p Go.undef), (35, .p Go.undef), (34, .p Go.undef), (33, .p Go.undef), (32, .p Go.undef), (31, .p Go.undef), (30, .p Go.undef), (29, .p Go.undef), (28, .p Go.undef), (27, .p Go.undef), (26, .p Go.undef), (25, .p Go.undef), (24, vb false), (23, vb false), (22, .p Go.undef), (21, .p Go.undef), (20, .p Go.undef), (19, .p Go.undef), (18, .p Go.undef), (17, .p Go.undef), (16, .p Go.undef), (15, .p Go.undef), (14, .p Go.undef), (13, .p Go.undef), (12, .p Go.undef), (11, .p Go.undef)] [] [] ?_
      refine WD_end (by kernel_rfl) (by kernel_rfl) (by kernel_rfl) ?_
      exact wK [4] [] ⟨false, h, rfl⟩
    replace h := ctrue hb h
    refine Ds 8 [(18, vi a0.At), (17, .ref (eReader a0) 1), (16, .ref (eReader a0) 0), (15, .ref (eReader a0) 0), (14, .ps .opt (s117.F a0.T)), (13, .ref (eReader a0) 0), (12, .ref (eReader a0) 0), (11, .ref (eReader a0) 0)] [] [] ?_
    obtain ⟨x3, hx3, h⟩ := bsome h
    refine WD_loc' rfl (by kernel_rfl) (by kernel_rfl) (by kernel_rfl) (ev_index s117 .opt a0.T .i64 a0.At hx3 (by decide) (by kernel_rfl) (by kernel_rfl)) (by kernel_rfl) ?_
    refine Dt (.ref (eToken x3) 0) ?_
    refine Ds 5 [(24, vb (x3.Kind == 1)), (23, vb (x3.Kind == 1)), (22, vb (x3.Kind == 1)), (21, vi x3.Kind), (20, .ref (eToken x3) 0)] [] [] ?_
    cases hb : ((x3.Kind == 1) : Bool)
    · replace h := cfalse hb h
      refine Ds 15 [(4, vb false), (38, vb false), (37, .p Go.undef), (36, .p Go.undef), (35, .p Go.undef), (34, .p Go.undef), (33, .p Go.undef), (32, .p Go.undef), (31, .p Go.undef), (30, .p Go.undef), (29, .p Go.undef), (28, .p Go.undef), (27, .p Go.undef), (26, .p Go.undef), (25, .p Go.undef)] [] [] ?_
      refine WD_end (by kernel_rfl) (by kernel_rfl) (by kernel_rfl) ?_
      exact wK [4] [] ⟨false, h, rfl⟩
    replace h := ctrue hb h
    refine Ds 8 [(32, vi a0.At), (31, .ref (eReader a0) 1), (30, .ref (eReader a0) 0), (29, .ref (eReader a0) 0), (28, .ps .opt (s117.F a0.T)), (27, .ref (eReader a0) 0), (26, .ref (eReader a0) 0), (25, .ref (eReader a0) 0)] [] [] ?_
    obtain ⟨x4, hx4, h⟩ := bsome h
    refine WD_loc' rfl (by kernel_rfl) (by kernel_rfl) (by kernel_rfl) (ev_index s117 .opt a0.T .i64 a0.At hx4 (by decide) (by kernel_rfl) (by kernel_rfl)) (by kernel_rfl) ?_
    refine Dt (.ref (eToken x4) 0) ?_
    refine Ds 6 [(4, vb (bytesEq x4.Text a1)), (38, vb (bytesEq x4.Text a1)), (37, vb (bytesEq x4.Text a1)), (36, vw a1), (35, vw x4.Text), (34, .ref (eToken x4) 1)] [] [] ?_
    refine WD_end (by kernel_rfl) (by kernel_rfl) (by kernel_rfl) ?_
    exact wK [4] [] ⟨bytesEq x4.Text a1, h, rfl⟩
  subst hJ2
  rintro s ⟨b1, h, rfl⟩
  obtain rfl := Option.some.inj h
  exact rK [4] [] ⟨[(4, vb b1)], [], 1⟩ ⟨by kernel_rfl, rfl⟩

theorem ref1_Reader_sign_ok {n : Nat} {a0 : Reader} {a1 : ByteArray} {r : Bool} (h : ref1_Reader_sign n a0 a1 = some r) : PT Try.prog 133 [.ref (eReader a0) 0, vw a1] (vb r) := by
  unfold ref1_Reader_sign at h
  refine PT_bodyA hT Try.func133 rfl (by kernel_rfl) fun bad w => ?_
  refine Qzd hT 1 [0, 1] [] ?_
  refine WA_seq ?_
  obtain ⟨J2, hJ2, h⟩ := jsome h
  refine WA_join (fun s => ∃ (b1 : Bool), J2 b1 = some r ∧ s = ⟨[(4, vb b1)], [], 1⟩) ?_ ?_
  · refine WA_drawW hT hM (by kernel_rfl) ?_
    refine Ds 6 [(10, vb (!a0.Fail)), (9, vb (!a0.Fail)), (8, vb a0.Fail), (7, .ref (eReader a0) 2), (6, .ref (eReader a0) 0), (5, .ref (eReader a0) 0)] [] [] ?_
    cases hb : (!a0.Fail : Bool)
    · replace h := cfalse hb h
      refine Ds 29 [(4, vb false), (38, vb false), (37, .p Go.undef), (36, .p Go.undef), (35, .p Go.undef), (34, .p Go.undef), (33, .p Go.undef), (32, .p Go.undef), (31, .p Go.undef), (30, .p Go.undef), (29, .p Go.undef), (28, .p Go.undef), (27, .p Go.undef), (26, .p Go.undef), (25, .p Go.undef), (24, vb false), (23, vb false), (22, .p Go.undef), (21, .p Go.undef), (20, .p Go.undef), (19, .p Go.undef), (18, .p Go.undef), (17, .p Go.undef), (16, .p Go.undef), (15, .p Go.undef), (14, .p Go.undef), (13, .p Go.undef), (12, .p Go.undef), (11, .p Go.undef)] [] [] ?_
      refine WD_end (by kernel_rfl) (by kernel_rfl) (by kernel_rfl) ?_
      exact wK [4] [] ⟨false, h, rfl⟩
    replace h := ctrue hb h
    refine Ds 8 [(18, vi a0.At), (17, .ref (eReader a0) 1), (16, .ref (eReader a0) 0), (15, .ref (eReader a0) 0), (14, .ps .opt (s117.F a0.T)), (13, .ref (eReader a0) 0), (12, .ref (eReader a0) 0), (11, .ref (eReader a0) 0)] [] [] ?_
    obtain ⟨x3, hx3, h⟩ := bsome h
    refine WD_loc' rfl (by kernel_rfl) (by kernel_rfl) (by kernel_rfl) (ev_index s117 .opt a0.T .i64 a0.At hx3 (by decide) (by kernel_rfl) (by kernel_rfl)) (by kernel_rfl) ?_
    refine Dt (.ref (eToken x3) 0) ?_
    refine Ds 5 [(24, vb (x3.Kind == 3)), (23, vb (x3.Kind == 3)), (22, vb (x3.Kind == 3)), (21, vi x3.Kind), (20, .ref (eToken x3) 0)] [] [] ?_
    cases hb : ((x3.Kind == 3) : Bool)
    · replace h := cfalse hb h
      refine Ds 15 [(4, vb false), (38, vb false), (37, .p Go.undef), (36, .p Go.undef), (35, .p Go.undef), (34, .p Go.undef), (33, .p Go.undef), (32, .p Go.undef), (31, .p Go.undef), (30, .p Go.undef), (29, .p Go.undef), (28, .p Go.undef), (27, .p Go.undef), (26, .p Go.undef), (25, .p Go.undef)] [] [] ?_
      refine WD_end (by kernel_rfl) (by kernel_rfl) (by kernel_rfl) ?_
      exact wK [4] [] ⟨false, h, rfl⟩
    replace h := ctrue hb h
    refine Ds 8 [(32, vi a0.At), (31, .ref (eReader a0) 1), (30, .ref (eReader a0) 0), (29, .ref (eReader a0) 0), (28, .ps .opt (s117.F a0.T)), (27, .ref (eReader a0) 0), (26, .ref (eReader a0) 0), (25, .ref (eReader a0) 0)] [] [] ?_
    obtain ⟨x4, hx4, h⟩ := bsome h
    refine WD_loc' rfl (by kernel_rfl) (by kernel_rfl) (by kernel_rfl) (ev_index s117 .opt a0.T .i64 a0.At hx4 (by decide) (by kernel_rfl) (by kernel_rfl)) (by kernel_rfl) ?_
    refine Dt (.ref (eToken x4) 0) ?_
    refine Ds 6 [(4, vb (bytesEq x4.Text a1)), (38, vb (bytesEq x4.Text a1)), (37, vb (bytesEq x4.Text a1)), (36, vw a1), (35, vw x4.Text), (34, .ref (eToken x4) 1)] [] [] ?_
    refine WD_end (by kernel_rfl) (by kernel_rfl) (by kernel_rfl) ?_
    exact wK [4] [] ⟨bytesEq x4.Text a1, h, rfl⟩
  subst hJ2
  rintro s ⟨b1, h, rfl⟩
  obtain rfl := Option.some.inj h
  exact rK [4] [] ⟨[(4, vb b1)], [], 1⟩ ⟨by kernel_rfl, rfl⟩

theorem ref1_Reader_must_ok {n : Nat} {a0 : Reader} {a1 : ByteArray} {r : Reader} (h : ref1_Reader_must n a0 a1 = some r) : GO Try.prog 132 [(0, ⟨0, 122, 4, true, false, [eReader a0]⟩)] [.box 0 0 0 0, vw a1] (.tup []) [(0, ⟨0, 122, 4, true, false, [eReader r]⟩)] := by
  unfold ref1_Reader_must at h
  refine GO_bodyA hT Try.func132 rfl [] (by kernel_rfl) fun bad w m => ?_
  refine WA_seq ?_
  refine Qgd hT 2 [0, 4, 5] [(4, .box 0 0 0 0), (5, vw a1)] ?_
  obtain ⟨r1, hr1, h⟩ := bsome h
  refine WO_ptb' rfl (by kernel_rfl) [0] [.box 0 0 0 0, vw a1] [.ref (eReader a0) 0, vw a1] (vb r1) rfl (by kernel_rfl) en133 (by kernel_rfl) (by kernel_rfl) (by kernel_rfl) (ref1_Reader_sign_ok hr1) (by kernel_rfl) ?_
  refine Szd hT 1 [0, 7] [(7, vb (!r1))] ?_
  refine Cd (!r1) ?_ ?_
  · intro hb; replace h := ctrue hb h
    refine Qgd hT 1 [8] [(8, .box 0 0 0 0)] ?_
    obtain ⟨r2, hr2, h⟩ := bsome h
    refine WO_go' rfl (by kernel_rfl) [(0, ⟨0, 122, 4, true, false, [eReader a0]⟩)] [(0, ⟨0, 122, 4, true, false, [eReader r2]⟩)] [.box 0 0 0 0] [.box 0 0 0 0] [(0, 0, 0)] [(0, 0, 0)] [(0, ⟨0, 122, 4, true, false, [eReader r2]⟩)] (.tup []) (.tup []) 2 rfl (by kernel_rfl) en103 (by kernel_rfl) (by kernel_rfl) (by kernel_rfl) (ref1_Reader_fail_ok hr2) (by kernel_rfl) (by kernel_rfl) (by kernel_rfl) (by kernel_rfl) ?_
    refine Sz hT 0 [] ⟨[], [(0, ⟨0, 122, 4, true, false, [eReader r2]⟩)], 2⟩ ?_
    obtain rfl := Option.some.inj h
    exact rK [] [(0, 0, 0)] ⟨[], [(0, ⟨0, 122, 4, true, false, [eReader r2]⟩)], 2⟩ ⟨by kernel_rfl, by kernel_rfl, rfl⟩
  intro hb; replace h := cfalse hb h
  refine WA_skip ?_
  refine Rg hT 8 [] ⟨[], [(0, ⟨0, 122, 4, true, false, [.agg [.ps .opt (s117.F a0.T), vi (wr (a0.At + 1)), vb a0.Fail, vi a0.Bad]]⟩)], 1⟩ ?_
  refine oW [] ⟨[], [(0, ⟨0, 122, 4, true, false, [.agg [.ps .opt (s117.F a0.T), vi (wr (a0.At + 1)), vb a0.Fail, vi a0.Bad]]⟩)], 1⟩ ?_
  refine WO_weak (Weak_leH [] [(0, ⟨0, 122, 4, true, false, [eReader (Reader.mk a0.T (wr (a0.At + 1)) a0.Fail a0.Bad)]⟩)] (by kernel_rfl) trivial ⟨rfl, .inr (.inl ⟨rfl, rfl, CLe.agg ⟨VLf.refl _, VLf.refl _, VLf.refl _, VLf.refl _, trivial⟩, trivial⟩), trivial⟩) ?_
  obtain rfl := Option.some.inj h
  exact oR [(0, 0, 0)] (s' := ⟨[], [(0, ⟨0, 122, 4, true, false, [eReader (Reader.mk a0.T (wr (a0.At + 1)) a0.Fail a0.Bad)]⟩)], 2⟩) ⟨by kernel_rfl, by kernel_rfl, rfl⟩

theorem ref1_binary_ok {n : Nat} {a0 : Int} {a1 : Expr} {a2 : Expr} {r : Expr} (h : ref1_binary n a0 a1 a2 = some r) : PT Try.prog 160 [vi a0, eExpr a1, eExpr a2] (eExpr r) := by
  unfold ref1_binary at h
  refine PT_bodyA hT Try.func160 rfl (by kernel_rfl) fun bad w => ?_
  refine Qz hT 3 [0, 4, 5, 6] ⟨[(0, vi a0), (4, .box 4 0 0 0), (5, .box 5 1 0 0), (6, .box 6 2 0 0)], [(6, ⟨2, 35, 4, true, false, [.agg [vi 0, vi 0, vw b0, .ps .nil []]]⟩), (5, ⟨1, 35, 4, true, false, [eExpr a2]⟩), (4, ⟨0, 35, 4, true, false, [eExpr a1]⟩)], 3⟩ ?_
  refine Qgd hT 3 [6, 7, 8, 9] [(7, vi a0), (8, eExpr a1), (9, eExpr a2)] ?_
  refine One' hT rfl (ev_bslice s33 10 [a1, a2] (by kernel_rfl)) ?_
  refine Sgh hT 0 [6, 7, 10] [(10, vo 10 3 (s33.F [a1, a2]))] [(10, ⟨3, 35, 4, false, false, s33.F [a1, a2]⟩), (6, ⟨2, 35, 4, true, false, [.agg [vi 0, vi 0, vw b0, .ps .nil []]]⟩), (5, ⟨1, 35, 4, true, false, [eExpr a2]⟩), (4, ⟨0, 35, 4, true, false, [eExpr a1]⟩)] 4 ?_
  refine WO_weak (Weak_frz 10 3 ⟨3, 35, 4, false, false, s33.F [a1, a2]⟩ (by kernel_rfl) rfl rfl [(6, .box 6 2 0 0), (7, vi a0), (10, .ps .opt (s33.F [a1, a2]))] [(6, ⟨2, 35, 4, true, false, [.agg [vi 0, vi 0, vw b0, .ps .nil []]]⟩), (5, ⟨1, 35, 4, true, false, [eExpr a2]⟩), (4, ⟨0, 35, 4, true, false, [eExpr a1]⟩)] ⟨rfl, .keep _, rfl, .keep _, rfl, .hit true, trivial⟩ ⟨rfl, .inl rfl, rfl, .inl rfl, rfl, .inl rfl, trivial⟩) ?_
  refine Sz hT 2 [6] ⟨[(6, .box 6 2 0 0)], [(6, ⟨2, 35, 4, true, false, [.agg [vi a0, vi 0, vw b0, .ps .opt (s33.F [a1, a2])]]⟩), (5, ⟨1, 35, 4, true, false, [eExpr a2]⟩), (4, ⟨0, 35, 4, true, false, [eExpr a1]⟩)], 4⟩ ?_
  refine aW [6] ⟨[(6, .box 6 2 0 0)], [(6, ⟨2, 35, 4, true, false, [.agg [vi a0, vi 0, vw b0, .ps .opt (s33.F [a1, a2])]]⟩), (5, ⟨1, 35, 4, true, false, [eExpr a2]⟩), (4, ⟨0, 35, 4, true, false, [eExpr a1]⟩)], 4⟩ ?_
  refine WA_weak (Weak_leH [(6, .box 6 2 0 0)] [(6, ⟨2, 35, 4, true, false, [eExpr (Expr.mk a0 0 b0 [a1, a2])]⟩), (5, ⟨1, 35, 4, true, false, [eExpr a2]⟩), (4, ⟨0, 35, 4, true, false, [eExpr a1]⟩)] (by kernel_rfl) ⟨VLf.refl _, trivial⟩ ⟨rfl, .inr (.inl ⟨rfl, rfl, CLe.agg ⟨VLf.refl _, VLf.refl _, VLf.refl _, VLf.refl _, trivial⟩, trivial⟩), rfl, .inl rfl, rfl, .inl rfl, trivial⟩) ?_
  obtain rfl := Option.some.inj h
  exact rR [(6, 1000, 0)] ⟨[(6, .box 1000 0 0 0)], [(1000, ⟨0, 35, 4, true, false, [eExpr (Expr.mk a0 0 b0 [a1, a2])]⟩)], 1⟩ ⟨by kernel_rfl, rfl⟩

def ref1_Reader_factor_spec (n : Nat) : Prop := (∀ {a0 : Reader} {a1 : Int} {r : Expr × Reader}, ref1_Reader_factor n a0 a1 = some r → GO Try.prog 162 [(0, ⟨0, 122, 4, true, false, [eReader a0]⟩)] [.box 0 0 0 0, vi a1] (eExpr r.1) [(0, ⟨0, 122, 4, true, false, [eReader r.2]⟩)]) ∧ (∀ {a0 : Reader} {a1 : Int} {r : Expr × Reader}, ref1_Reader_term n a0 a1 = some r → GO Try.prog 161 [(0, ⟨0, 122, 4, true, false, [eReader a0]⟩)] [.box 0 0 0 0, vi a1] (eExpr r.1) [(0, ⟨0, 122, 4, true, false, [eReader r.2]⟩)]) ∧ (∀ {a0 : Reader} {a1 : Int} {r : Expr × Reader}, ref1_Reader_sum n a0 a1 = some r → GO Try.prog 159 [(0, ⟨0, 122, 4, true, false, [eReader a0]⟩)] [.box 0 0 0 0, vi a1] (eExpr r.1) [(0, ⟨0, 122, 4, true, false, [eReader r.2]⟩)]) ∧ (∀ {a0 : Reader} {a1 : Int} {r : Expr × Reader}, ref1_Reader_expr n a0 a1 = some r → GO Try.prog 158 [(0, ⟨0, 122, 4, true, false, [eReader a0]⟩)] [.box 0 0 0 0, vi a1] (eExpr r.1) [(0, ⟨0, 122, 4, true, false, [eReader r.2]⟩)])
theorem ref1_Reader_factor_step (n : Nat) (ih : ∀ m, m < n → ref1_Reader_factor_spec m) : ∀ {a0 : Reader} {a1 : Int} {r : Expr × Reader}, ref1_Reader_factor n a0 a1 = some r → GO Try.prog 162 [(0, ⟨0, 122, 4, true, false, [eReader a0]⟩)] [.box 0 0 0 0, vi a1] (eExpr r.1) [(0, ⟨0, 122, 4, true, false, [eReader r.2]⟩)] := by
  intro a0 a1 r h
  rcases n with _ | n
  · rw [ref1_Reader_factor] at h; cases h
  rw [ref1_Reader_factor] at h
  refine GO_bodyA hT Try.func162 rfl [1000] (by kernel_rfl) fun bad w m => ?_
  refine Qzh hT 1 [0, 1, 4] [(4, .box 4 1 0 0)] [(4, ⟨1, 35, 4, true, false, [.agg [vi 0, vi 0, vw b0, .ps .nil []]]⟩), (0, ⟨0, 122, 4, true, false, [eReader a0]⟩)] 2 ?_
  refine WA_seq ?_
  refine Qzd hT 4 [0, 1, 4, 10] [(10, vb a0.Fail)] ?_
  refine Cd a0.Fail ?_ ?_
  · intro hb; replace h := ctrue hb h
    refine Qzd hT 2 [4] [] ?_
    refine aW [4] ⟨[(4, .box 4 1 0 0)], [(4, ⟨1, 35, 4, true, false, [.agg [vi 0, vi 0, vw b0, .ps .nil []]]⟩), (0, ⟨0, 122, 4, true, false, [eReader a0]⟩)], 2⟩ ?_
    refine WA_weak (Weak_leH [(4, .box 4 1 0 0)] [(4, ⟨1, 35, 4, true, false, [eExpr (Expr.mk 0 0 b0 [])]⟩), (0, ⟨0, 122, 4, true, false, [eReader a0]⟩)] (by kernel_rfl) ⟨VLf.refl _, trivial⟩ ⟨rfl, .inr (.inl ⟨rfl, rfl, CLe.agg ⟨VLf.refl _, VLf.refl _, VLf.refl _, (VLe.f VLe.nil_opt rfl), trivial⟩, trivial⟩), rfl, .inl rfl, trivial⟩) ?_
    obtain rfl := Option.some.inj h
    exact rR [(0, 0, 0), (4, 1000, 1)] ⟨[(4, .box 1000 1 0 0)], [(0, ⟨0, 122, 4, true, false, [eReader a0]⟩), (1000, ⟨1, 35, 4, true, false, [eExpr (Expr.mk 0 0 b0 [])]⟩)], 2⟩ ⟨by kernel_rfl, by kernel_rfl, rfl⟩
  intro hb; replace h := cfalse hb h
  refine WA_skip ?_
  refine WA_seq ?_
  refine WA_drawW hT hM (by kernel_rfl) ?_
  refine Ds 8 [(19, vi a0.At), (18, .box 0 0 0 1), (17, .box 0 0 0 0), (16, .box 0 0 0 0), (15, .ps .opt (s117.F a0.T)), (14, .box 0 0 0 0), (13, .box 0 0 0 0), (12, .box 0 0 0 0)] [] [(1, [0]), (2, [0]), (3, [0]), (5, [0]), (6, [0]), (7, [0])] ?_
  obtain ⟨x1, hx1, h⟩ := bsome h
  refine WD_loc' rfl (by kernel_rfl) (by kernel_rfl) (by kernel_rfl) (ev_index s117 .opt a0.T .i64 a0.At hx1 (by decide) (by kernel_rfl) (by kernel_rfl)) (by kernel_rfl) ?_
  refine Dt (.ref (eToken x1) 0) ?_
  refine Dh 3 [(5, .box 5 2 0 0), (21, eToken x1)] [(5, ⟨2, 124, 4, true, false, [eToken x1]⟩), (4, ⟨1, 35, 4, true, false, [.agg [vi 0, vi 0, vw b0, .ps .nil []]]⟩), (0, ⟨0, 122, 4, true, false, [eReader a0]⟩)] 3 [(10, [5]), (11, [5])] [] ?_
  refine WD_end (by kernel_rfl) (by kernel_rfl) (by kernel_rfl) ?_
  refine Wk_done ?_
  refine WA_seq ?_
  refine WA_block ?_
  refine Qzd hT 4 [0, 1, 4, 5, 22] [(22, vb (x1.Kind == 2))] ?_
  refine Cd (x1.Kind == 2) ?_ ?_
  · intro hb; replace h := ctrue hb h
    refine Qzh hT 8 [4, 5] [] [(0, ⟨0, 122, 4, true, false, [.agg [.ps .opt (s117.F a0.T), vi (wr (a0.At + 1)), vb a0.Fail, vi a0.Bad]]⟩), (5, ⟨2, 124, 4, true, false, [eToken x1]⟩), (4, ⟨1, 35, 4, true, false, [.agg [vi 0, vi 0, vw b0, .ps .nil []]]⟩)] 3 ?_
    refine Qz hT 4 [4] ⟨[(4, .box 4 1 0 0)], [(4, ⟨1, 35, 4, true, false, [.agg [vi 1, vi x1.N, vw b0, .ps .nil []]]⟩), (0, ⟨0, 122, 4, true, false, [.agg [.ps .opt (s117.F a0.T), vi (wr (a0.At + 1)), vb a0.Fail, vi a0.Bad]]⟩), (5, ⟨2, 124, 4, true, false, [eToken x1]⟩)], 3⟩ ?_
    refine aW [4] ⟨[(4, .box 4 1 0 0)], [(4, ⟨1, 35, 4, true, false, [.agg [vi 1, vi x1.N, vw b0, .ps .nil []]]⟩), (0, ⟨0, 122, 4, true, false, [.agg [.ps .opt (s117.F a0.T), vi (wr (a0.At + 1)), vb a0.Fail, vi a0.Bad]]⟩), (5, ⟨2, 124, 4, true, false, [eToken x1]⟩)], 3⟩ ?_
    refine WA_weak (Weak_leH [(4, .box 4 1 0 0)] [(4, ⟨1, 35, 4, true, false, [eExpr (Expr.mk 1 x1.N b0 [])]⟩), (0, ⟨0, 122, 4, true, false, [eReader (Reader.mk a0.T (wr (a0.At + 1)) a0.Fail a0.Bad)]⟩), (5, ⟨2, 124, 4, true, false, [eToken x1]⟩)] (by kernel_rfl) ⟨VLf.refl _, trivial⟩ ⟨rfl, .inr (.inl ⟨rfl, rfl, CLe.agg ⟨VLf.refl _, VLf.refl _, VLf.refl _, (VLe.f VLe.nil_opt rfl), trivial⟩, trivial⟩), rfl, .inr (.inl ⟨rfl, rfl, CLe.agg ⟨VLf.refl _, VLf.refl _, VLf.refl _, VLf.refl _, trivial⟩, trivial⟩), rfl, .inl rfl, trivial⟩) ?_
    obtain rfl := Option.some.inj h
    exact rR [(0, 0, 0), (4, 1000, 1)] ⟨[(4, .box 1000 1 0 0)], [(0, ⟨0, 122, 4, true, false, [eReader (Reader.mk a0.T (wr (a0.At + 1)) a0.Fail a0.Bad)]⟩), (1000, ⟨1, 35, 4, true, false, [eExpr (Expr.mk 1 x1.N b0 [])]⟩)], 2⟩ ⟨by kernel_rfl, by kernel_rfl, rfl⟩
  intro hb; replace h := cfalse hb h
  refine WA_seq ?_
  obtain ⟨J4, hJ4, h⟩ := jsome h
  refine WA_join (fun s => ∃ (w2 : ByteArray), ∃ (b3 : Bool), J4 w2 b3 = some r ∧ s = ⟨[(0, .box 0 0 0 0), (1, vi a1), (4, .box 4 1 0 0), (5, .box 5 1 0 0), (36, vb b3)], [(0, ⟨0, 122, 4, true, false, [eReader a0]⟩), (4, ⟨1, 35, 4, true, false, [.agg [vi 0, vi 0, vw w2, .ps .nil []]]⟩), (5, ⟨1, 124, 4, true, false, [eToken x1]⟩)], 2⟩) ?_ ?_
  · refine Rgd hT 4 [0, 1, 4, 5, 40] [(40, vb (x1.Kind == 1))] ?_
    cases hb : ((x1.Kind == 1) : Bool)
    · replace h := cfalse hb h
      refine Sgd hT 6 [0, 1, 4, 5, 36] [(36, vb false)] ?_
      exact oK [0, 1, 4, 5, 36] [(0, 0, 0), (4, 4, 1), (5, 5, 1)] ⟨b0, false, h, rfl⟩
    replace h := ctrue hb h
    refine Sgd hT 2 [0, 1, 4, 5, 40, 42] [(42, vw x1.Text)] ?_
    obtain ⟨r5, hr5, h⟩ := bsome h
    refine Pt' en131 (ref1_Keyword_ok hr5) ?_
    refine Sgd hT 3 [0, 1, 4, 5, 36] [(36, vb (!r5))] ?_
    exact oK [0, 1, 4, 5, 36] [(0, 0, 0), (4, 4, 1), (5, 5, 1)] ⟨b0, !r5, h, rfl⟩
  subst hJ4
  rintro s ⟨w2, b3, h, rfl⟩
  refine Cd b3 ?_ ?_
  · intro hb; replace h := ctrue hb h
    refine Qz hT 8 [4, 5] ⟨[(4, .box 4 1 0 0), (5, .box 5 1 0 0)], [(0, ⟨0, 122, 4, true, false, [.agg [.ps .opt (s117.F a0.T), vi (wr (a0.At + 1)), vb a0.Fail, vi a0.Bad]]⟩), (4, ⟨1, 35, 4, true, false, [.agg [vi 0, vi 0, vw w2, .ps .nil []]]⟩), (5, ⟨1, 124, 4, true, false, [eToken x1]⟩)], 2⟩ ?_
    refine Qz hT 4 [4] ⟨[(4, .box 4 1 0 0)], [(4, ⟨1, 35, 4, true, false, [.agg [vi 2, vi 0, vw x1.Text, .ps .nil []]]⟩), (0, ⟨0, 122, 4, true, false, [.agg [.ps .opt (s117.F a0.T), vi (wr (a0.At + 1)), vb a0.Fail, vi a0.Bad]]⟩), (5, ⟨1, 124, 4, true, false, [eToken x1]⟩)], 2⟩ ?_
    refine aW [4] ⟨[(4, .box 4 1 0 0)], [(4, ⟨1, 35, 4, true, false, [.agg [vi 2, vi 0, vw x1.Text, .ps .nil []]]⟩), (0, ⟨0, 122, 4, true, false, [.agg [.ps .opt (s117.F a0.T), vi (wr (a0.At + 1)), vb a0.Fail, vi a0.Bad]]⟩), (5, ⟨1, 124, 4, true, false, [eToken x1]⟩)], 2⟩ ?_
    refine WA_weak (Weak_leH [(4, .box 4 1 0 0)] [(4, ⟨1, 35, 4, true, false, [eExpr (Expr.mk 2 0 x1.Text [])]⟩), (0, ⟨0, 122, 4, true, false, [eReader (Reader.mk a0.T (wr (a0.At + 1)) a0.Fail a0.Bad)]⟩), (5, ⟨1, 124, 4, true, false, [eToken x1]⟩)] (by kernel_rfl) ⟨VLf.refl _, trivial⟩ ⟨rfl, .inr (.inl ⟨rfl, rfl, CLe.agg ⟨VLf.refl _, VLf.refl _, VLf.refl _, (VLe.f VLe.nil_opt rfl), trivial⟩, trivial⟩), rfl, .inr (.inl ⟨rfl, rfl, CLe.agg ⟨VLf.refl _, VLf.refl _, VLf.refl _, VLf.refl _, trivial⟩, trivial⟩), rfl, .inl rfl, trivial⟩) ?_
    obtain rfl := Option.some.inj h
    exact rR [(0, 0, 0), (4, 1000, 1)] ⟨[(4, .box 1000 1 0 0)], [(0, ⟨0, 122, 4, true, false, [eReader (Reader.mk a0.T (wr (a0.At + 1)) a0.Fail a0.Bad)]⟩), (1000, ⟨1, 35, 4, true, false, [eExpr (Expr.mk 2 0 x1.Text [])]⟩)], 2⟩ ⟨by kernel_rfl, by kernel_rfl, rfl⟩
  intro hb; replace h := cfalse hb h
  refine WA_seq ?_
  obtain ⟨J7, hJ7, h⟩ := jsome h
  refine WA_join (fun s => ∃ (b6 : Bool), J7 b6 = some r ∧ s = ⟨[(0, .box 0 0 0 0), (1, vi a1), (4, .box 4 1 0 0), (56, vb b6)], [(0, ⟨0, 122, 4, true, false, [eReader a0]⟩), (4, ⟨1, 35, 4, true, false, [.agg [vi 0, vi 0, vw w2, .ps .nil []]]⟩)], 2⟩) ?_ ?_
  · refine Rgd hT 1 [0, 1, 4, 57] [(57, .box 0 0 0 0)] ?_
    obtain ⟨r8, hr8, h⟩ := bsome h
    refine WO_ptb' rfl (by kernel_rfl) [0] [.box 0 0 0 0, vw tx33] [.ref (eReader a0) 0, vw tx33] (vb r8) rfl (by kernel_rfl) en133 (by kernel_rfl) (by kernel_rfl) (by kernel_rfl) (ref1_Reader_sign_ok hr8) (by kernel_rfl) ?_
    refine Sgd hT 1 [0, 1, 4, 59] [(59, vb r8)] ?_
    cases hb : (r8 : Bool)
    · replace h := cfalse hb h
      refine Sgd hT 4 [0, 1, 4, 56] [(56, vb false)] ?_
      exact oK [0, 1, 4, 56] [(0, 0, 0), (4, 4, 1)] ⟨false, h, rfl⟩
    replace h := ctrue hb h
    refine Sgd hT 4 [0, 1, 4, 56] [(56, vb (decide (a1 < 8)))] ?_
    exact oK [0, 1, 4, 56] [(0, 0, 0), (4, 4, 1)] ⟨decide (a1 < 8), h, rfl⟩
  subst hJ7
  rintro s ⟨b6, h, rfl⟩
  refine Cd b6 ?_ ?_
  · intro hb; replace h := ctrue hb h
    refine Qz hT 8 [0, 1, 4] ⟨[(0, .box 0 0 0 0), (1, vi a1), (4, .box 4 1 0 0)], [(0, ⟨0, 122, 4, true, false, [.agg [.ps .opt (s117.F a0.T), vi (wr (a0.At + 1)), vb a0.Fail, vi a0.Bad]]⟩), (4, ⟨1, 35, 4, true, false, [.agg [vi 0, vi 0, vw w2, .ps .nil []]]⟩)], 2⟩ ?_
    refine Qgd hT 3 [4, 70, 72] [(70, .box 0 0 0 0), (72, vi (wr (a1 + 1)))] ?_
    obtain ⟨r9, hr9, h⟩ := bsome h
    refine WO_go' rfl (by kernel_rfl) [(0, ⟨0, 122, 4, true, false, [eReader (Reader.mk a0.T (wr (a0.At + 1)) a0.Fail a0.Bad)]⟩)] [(0, ⟨0, 122, 4, true, false, [eReader r9.2]⟩)] [.box 0 0 0 0, vi (wr (a1 + 1))] [.box 0 0 0 0, vi (wr (a1 + 1))] [(0, 0, 0)] [(0, 0, 0)] [(0, ⟨0, 122, 4, true, false, [eReader r9.2]⟩)] (eExpr r9.1) (eExpr r9.1) 3 rfl (by kernel_rfl) en162 (by kernel_rfl) (by kernel_rfl) (by kernel_rfl) ((ih _ (by omega)).1 hr9) (by kernel_rfl) (by kernel_rfl) (by kernel_rfl) (by kernel_rfl) ?_
    refine Sg hT 0 [4, 73] ⟨[(4, .box 4 1 0 0), (73, eExpr r9.1)], [(0, ⟨0, 122, 4, true, false, [eReader r9.2]⟩), (4, ⟨1, 35, 4, true, false, [.agg [vi 0, vi 0, vw w2, .ps .nil []]]⟩)], 3⟩ ?_
    refine One' hT rfl (ev_bslice s33 74 [r9.1] (by kernel_rfl)) ?_
    refine Sg hT 0 [4, 74] ⟨[(4, .box 4 1 0 0), (74, vo 74 3 (s33.F [r9.1]))], [(74, ⟨3, 35, 4, false, false, s33.F [r9.1]⟩), (0, ⟨0, 122, 4, true, false, [eReader r9.2]⟩), (4, ⟨1, 35, 4, true, false, [.agg [vi 0, vi 0, vw w2, .ps .nil []]]⟩)], 4⟩ ?_
    refine WO_weak (Weak_frz 74 3 ⟨3, 35, 4, false, false, s33.F [r9.1]⟩ (by kernel_rfl) rfl rfl [(4, .box 4 1 0 0), (74, .ps .opt (s33.F [r9.1]))] [(0, ⟨0, 122, 4, true, false, [eReader r9.2]⟩), (4, ⟨1, 35, 4, true, false, [.agg [vi 0, vi 0, vw w2, .ps .nil []]]⟩)] ⟨rfl, .keep _, rfl, .hit true, trivial⟩ ⟨rfl, .inl rfl, rfl, .inl rfl, trivial⟩) ?_
    refine Sz hT 2 [4] ⟨[(4, .box 4 1 0 0)], [(4, ⟨1, 35, 4, true, false, [.agg [vi 3, vi 0, vw b0, .ps .opt (s33.F [r9.1])]]⟩), (0, ⟨0, 122, 4, true, false, [eReader r9.2]⟩)], 4⟩ ?_
    refine aW [4] ⟨[(4, .box 4 1 0 0)], [(4, ⟨1, 35, 4, true, false, [.agg [vi 3, vi 0, vw b0, .ps .opt (s33.F [r9.1])]]⟩), (0, ⟨0, 122, 4, true, false, [eReader r9.2]⟩)], 4⟩ ?_
    refine WA_weak (Weak_leH [(4, .box 4 1 0 0)] [(4, ⟨1, 35, 4, true, false, [eExpr (Expr.mk 3 0 b0 [r9.1])]⟩), (0, ⟨0, 122, 4, true, false, [eReader r9.2]⟩)] (by kernel_rfl) ⟨VLf.refl _, trivial⟩ ⟨rfl, .inr (.inl ⟨rfl, rfl, CLe.agg ⟨VLf.refl _, VLf.refl _, VLf.refl _, VLf.refl _, trivial⟩, trivial⟩), rfl, .inl rfl, trivial⟩) ?_
    obtain rfl := Option.some.inj h
    exact rR [(0, 0, 0), (4, 1000, 1)] ⟨[(4, .box 1000 1 0 0)], [(0, ⟨0, 122, 4, true, false, [eReader r9.2]⟩), (1000, ⟨1, 35, 4, true, false, [eExpr (Expr.mk 3 0 b0 [r9.1])]⟩)], 2⟩ ⟨by kernel_rfl, by kernel_rfl, rfl⟩
  intro hb; replace h := cfalse hb h
  refine WA_seq ?_
  obtain ⟨J11, hJ11, h⟩ := jsome h
  refine WA_join (fun s => ∃ (b10 : Bool), J11 b10 = some r ∧ s = ⟨[(0, .box 0 0 0 0), (1, vi a1), (4, .box 4 1 0 0), (76, vb b10)], [(0, ⟨0, 122, 4, true, false, [eReader a0]⟩), (4, ⟨1, 35, 4, true, false, [.agg [vi 0, vi 0, vw w2, .ps .nil []]]⟩)], 2⟩) ?_ ?_
  · refine Rgd hT 1 [0, 1, 4, 77] [(77, .box 0 0 0 0)] ?_
    obtain ⟨r12, hr12, h⟩ := bsome h
    refine WO_ptb' rfl (by kernel_rfl) [0] [.box 0 0 0 0, vw tx34] [.ref (eReader a0) 0, vw tx34] (vb r12) rfl (by kernel_rfl) en133 (by kernel_rfl) (by kernel_rfl) (by kernel_rfl) (ref1_Reader_sign_ok hr12) (by kernel_rfl) ?_
    refine Sgd hT 1 [0, 1, 4, 79] [(79, vb r12)] ?_
    cases hb : (r12 : Bool)
    · replace h := cfalse hb h
      refine Sgd hT 4 [0, 1, 4, 76] [(76, vb false)] ?_
      exact oK [0, 1, 4, 76] [(0, 0, 0), (4, 4, 1)] ⟨false, h, rfl⟩
    replace h := ctrue hb h
    refine Sgd hT 4 [0, 1, 4, 76] [(76, vb (decide (a1 < 8)))] ?_
    exact oK [0, 1, 4, 76] [(0, 0, 0), (4, 4, 1)] ⟨decide (a1 < 8), h, rfl⟩
  subst hJ11
  rintro s ⟨b10, h, rfl⟩
  refine Cd b10 ?_ ?_
  · intro hb; replace h := ctrue hb h
    refine Qz hT 8 [0, 1, 4] ⟨[(0, .box 0 0 0 0), (1, vi a1), (4, .box 4 1 0 0)], [(0, ⟨0, 122, 4, true, false, [.agg [.ps .opt (s117.F a0.T), vi (wr (a0.At + 1)), vb a0.Fail, vi a0.Bad]]⟩), (4, ⟨1, 35, 4, true, false, [.agg [vi 0, vi 0, vw w2, .ps .nil []]]⟩)], 2⟩ ?_
    refine Qgd hT 3 [0, 4, 90, 92] [(90, .box 0 0 0 0), (92, vi (wr (a1 + 1)))] ?_
    obtain ⟨r13, hr13, h⟩ := bsome h
    refine WO_go' rfl (by kernel_rfl) [(0, ⟨0, 122, 4, true, false, [eReader (Reader.mk a0.T (wr (a0.At + 1)) a0.Fail a0.Bad)]⟩)] [(0, ⟨0, 122, 4, true, false, [eReader r13.2]⟩)] [.box 0 0 0 0, vi (wr (a1 + 1))] [.box 0 0 0 0, vi (wr (a1 + 1))] [(0, 0, 0)] [(0, 0, 0)] [(0, ⟨0, 122, 4, true, false, [eReader r13.2]⟩)] (eExpr r13.1) (eExpr r13.1) 3 rfl (by kernel_rfl) en158 (by kernel_rfl) (by kernel_rfl) (by kernel_rfl) ((ih _ (by omega)).2.2.2 hr13) (by kernel_rfl) (by kernel_rfl) (by kernel_rfl) (by kernel_rfl) ?_
    refine Szh hT 2 [0, 4, 6] [(6, .box 6 3 0 0)] [(6, ⟨3, 35, 4, true, false, [eExpr r13.1]⟩), (0, ⟨0, 122, 4, true, false, [eReader r13.2]⟩), (4, ⟨1, 35, 4, true, false, [.agg [vi 0, vi 0, vw w2, .ps .nil []]]⟩)] 4 ?_
    refine Qgd hT 1 [4, 6, 94] [(94, .box 0 0 0 0)] ?_
    obtain ⟨r14, hr14, h⟩ := bsome h
    refine WO_go' rfl (by kernel_rfl) [(0, ⟨0, 122, 4, true, false, [eReader r13.2]⟩)] [(0, ⟨0, 122, 4, true, false, [eReader r14]⟩)] [.box 0 0 0 0, vw tx35] [.box 0 0 0 0, vw tx35] [(0, 0, 0)] [(0, 0, 0)] [(0, ⟨0, 122, 4, true, false, [eReader r14]⟩)] (.tup []) (.tup []) 5 rfl (by kernel_rfl) en132 (by kernel_rfl) (by kernel_rfl) (by kernel_rfl) (ref1_Reader_must_ok hr14) (by kernel_rfl) (by kernel_rfl) (by kernel_rfl) (by kernel_rfl) ?_
    refine Szh hT 0 [4, 6] [] [(0, ⟨0, 122, 4, true, false, [eReader r14]⟩), (6, ⟨3, 35, 4, true, false, [eExpr r13.1]⟩), (4, ⟨1, 35, 4, true, false, [.agg [vi 0, vi 0, vw w2, .ps .nil []]]⟩)] 5 ?_
    refine Qz hT 2 [4] ⟨[(4, .box 4 1 0 0)], [(4, ⟨1, 35, 4, true, false, [eExpr r13.1]⟩), (0, ⟨0, 122, 4, true, false, [eReader r14]⟩), (6, ⟨3, 35, 4, true, false, [eExpr r13.1]⟩)], 5⟩ ?_
    obtain rfl := Option.some.inj h
    exact rK [4] [(0, 0, 0), (4, 1000, 1)] ⟨[(4, .box 1000 1 0 0)], [(0, ⟨0, 122, 4, true, false, [eReader r14]⟩), (1000, ⟨1, 35, 4, true, false, [eExpr r13.1]⟩)], 2⟩ ⟨by kernel_rfl, by kernel_rfl, rfl⟩
  intro hb; replace h := cfalse hb h
  refine WA_skip ?_
  refine Qgd hT 1 [4, 97] [(97, .box 0 0 0 0)] ?_
  obtain ⟨r15, hr15, h⟩ := bsome h
  refine WO_go' rfl (by kernel_rfl) [(0, ⟨0, 122, 4, true, false, [eReader a0]⟩)] [(0, ⟨0, 122, 4, true, false, [eReader r15]⟩)] [.box 0 0 0 0] [.box 0 0 0 0] [(0, 0, 0)] [(0, 0, 0)] [(0, ⟨0, 122, 4, true, false, [eReader r15]⟩)] (.tup []) (.tup []) 3 rfl (by kernel_rfl) en103 (by kernel_rfl) (by kernel_rfl) (by kernel_rfl) (ref1_Reader_fail_ok hr15) (by kernel_rfl) (by kernel_rfl) (by kernel_rfl) (by kernel_rfl) ?_
  refine Sz hT 0 [4] ⟨[(4, .box 4 1 0 0)], [(0, ⟨0, 122, 4, true, false, [eReader r15]⟩), (4, ⟨1, 35, 4, true, false, [.agg [vi 0, vi 0, vw w2, .ps .nil []]]⟩)], 3⟩ ?_
  refine Qz hT 2 [4] ⟨[(4, .box 4 1 0 0)], [(4, ⟨1, 35, 4, true, false, [.agg [vi 0, vi 0, vw b0, .ps .nil []]]⟩), (0, ⟨0, 122, 4, true, false, [eReader r15]⟩)], 3⟩ ?_
  refine aW [4] ⟨[(4, .box 4 1 0 0)], [(4, ⟨1, 35, 4, true, false, [.agg [vi 0, vi 0, vw b0, .ps .nil []]]⟩), (0, ⟨0, 122, 4, true, false, [eReader r15]⟩)], 3⟩ ?_
  refine WA_weak (Weak_leH [(4, .box 4 1 0 0)] [(4, ⟨1, 35, 4, true, false, [eExpr (Expr.mk 0 0 b0 [])]⟩), (0, ⟨0, 122, 4, true, false, [eReader r15]⟩)] (by kernel_rfl) ⟨VLf.refl _, trivial⟩ ⟨rfl, .inr (.inl ⟨rfl, rfl, CLe.agg ⟨VLf.refl _, VLf.refl _, VLf.refl _, (VLe.f VLe.nil_opt rfl), trivial⟩, trivial⟩), rfl, .inl rfl, trivial⟩) ?_
  obtain rfl := Option.some.inj h
  exact rR [(0, 0, 0), (4, 1000, 1)] ⟨[(4, .box 1000 1 0 0)], [(0, ⟨0, 122, 4, true, false, [eReader r15]⟩), (1000, ⟨1, 35, 4, true, false, [eExpr (Expr.mk 0 0 b0 [])]⟩)], 2⟩ ⟨by kernel_rfl, by kernel_rfl, rfl⟩
theorem ref1_Reader_term_step (n : Nat) (ih : ∀ m, m < n → ref1_Reader_factor_spec m) : ∀ {a0 : Reader} {a1 : Int} {r : Expr × Reader}, ref1_Reader_term n a0 a1 = some r → GO Try.prog 161 [(0, ⟨0, 122, 4, true, false, [eReader a0]⟩)] [.box 0 0 0 0, vi a1] (eExpr r.1) [(0, ⟨0, 122, 4, true, false, [eReader r.2]⟩)] := by
  intro a0 a1 r h
  rcases n with _ | n
  · rw [ref1_Reader_term] at h; cases h
  rw [ref1_Reader_term] at h
  refine GO_bodyA hT Try.func161 rfl [1000] (by kernel_rfl) fun bad w m => ?_
  refine Qzh hT 1 [0, 1, 4] [(4, .box 4 1 0 0)] [(4, ⟨1, 35, 4, true, false, [.agg [vi 0, vi 0, vw b0, .ps .nil []]]⟩), (0, ⟨0, 122, 4, true, false, [eReader a0]⟩)] 2 ?_
  refine Qgd hT 2 [0, 1, 4, 7, 8] [(7, .box 0 0 0 0), (8, vi a1)] ?_
  obtain ⟨r1, hr1, h⟩ := bsome h
  refine WO_go' rfl (by kernel_rfl) [(0, ⟨0, 122, 4, true, false, [eReader a0]⟩)] [(0, ⟨0, 122, 4, true, false, [eReader r1.2]⟩)] [.box 0 0 0 0, vi a1] [.box 0 0 0 0, vi a1] [(0, 0, 0)] [(0, 0, 0)] [(0, ⟨0, 122, 4, true, false, [eReader r1.2]⟩)] (eExpr r1.1) (eExpr r1.1) 3 rfl (by kernel_rfl) en162 (by kernel_rfl) (by kernel_rfl) (by kernel_rfl) ((ih _ (by omega)).1 hr1) (by kernel_rfl) (by kernel_rfl) (by kernel_rfl) (by kernel_rfl) ?_
  refine Szh hT 2 [0, 1, 4, 5] [(5, .box 5 3 0 0)] [(5, ⟨3, 35, 4, true, false, [eExpr r1.1]⟩), (0, ⟨0, 122, 4, true, false, [eReader r1.2]⟩), (4, ⟨1, 35, 4, true, false, [.agg [vi 0, vi 0, vw b0, .ps .nil []]]⟩)] 4 ?_
  refine WA_seq ?_
  obtain ⟨J5, hJ5, h⟩ := jsome h
  refine WA_join (fun s => ∃ (w2 : ByteArray), ∃ (v3 : Expr), ∃ (v4 : Reader), J5 w2 v3 v4 = some r ∧ s = ⟨[(4, .box 4 1 0 0), (5, .box 5 1 0 0)], [(0, ⟨0, 122, 4, true, false, [eReader v4]⟩), (4, ⟨1, 35, 4, true, false, [.agg [vi 0, vi 0, vw w2, .ps .nil []]]⟩), (5, ⟨1, 35, 4, true, false, [eExpr v3]⟩)], 2⟩) ?_ ?_
  · refine WA_block ?_
    refine lK [0, 1, 4, 5] [(0, 0, 0), (4, 4, 1), (5, 5, 1)] (fun k s => ∃ q, q ≤ k ∧ q ≤ n ∧ ∃ (v7 : Reader), ∃ (w8 : ByteArray), ∃ (v9 : Expr), ref1_Reader_term_L0 q a0 a1 r1 J5 v7 w8 v9 = some r ∧ s = ⟨[(0, .box 0 0 0 0), (1, vi a1), (4, .box 4 1 0 0), (5, .box 5 1 0 0)], [(0, ⟨0, 122, 4, true, false, [eReader v7]⟩), (4, ⟨1, 35, 4, true, false, [.agg [vi 0, vi 0, vw w8, .ps .nil []]]⟩), (5, ⟨1, 35, 4, true, false, [eExpr v9]⟩)], 2⟩) n ⟨n, Nat.le_refl _, Nat.le_refl _, r1.2, b0, r1.1, h, rfl⟩ (by rintro s ⟨q, hq, _, v7, w8, v9, h, _⟩; obtain rfl := Nat.le_zero.1 hq; rw [ref1_Reader_term_L0] at h; cases h) ?_
    clear h
    rintro k1 s ⟨q1, hk1, hn1, v7, w8, v9, h, rfl⟩
    rcases q1 with _ | q1
    · rw [ref1_Reader_term_L0] at h; cases h
    rw [ref1_Reader_term_L0] at h
    refine WA_seq ?_
    refine Qzd hT 5 [0, 1, 4, 5, 14] [(14, vb (!v7.Fail))] ?_
    refine Cd (!v7.Fail) ?_ ?_
    · intro hb; replace h := ctrue hb h
      refine WA_skip ?_
      refine WA_block ?_
      refine Qzd hT 1 [0, 1, 4, 5, 6] [(6, vi 0)] ?_
      refine WA_seq ?_
      obtain ⟨J11, hJ11, h⟩ := jsome h
      refine WA_join (fun s => ∃ (i10 : Int), J11 i10 = some r ∧ s = ⟨[(0, .box 0 0 0 0), (1, vi a1), (4, .box 4 1 0 0), (5, .box 5 1 0 0), (6, vi i10)], [(0, ⟨0, 122, 4, true, false, [eReader v7]⟩), (4, ⟨1, 35, 4, true, false, [.agg [vi 0, vi 0, vw w8, .ps .nil []]]⟩), (5, ⟨1, 35, 4, true, false, [eExpr v9]⟩)], 2⟩) ?_ ?_
      · refine WA_block ?_
        refine Qgd hT 1 [0, 1, 4, 5, 6, 16] [(16, .box 0 0 0 0)] ?_
        obtain ⟨r12, hr12, h⟩ := bsome h
        refine WO_ptb' rfl (by kernel_rfl) [0] [.box 0 0 0 0, vw tx36] [.ref (eReader v7) 0, vw tx36] (vb r12) rfl (by kernel_rfl) en133 (by kernel_rfl) (by kernel_rfl) (by kernel_rfl) (ref1_Reader_sign_ok hr12) (by kernel_rfl) ?_
        refine Sz hT 1 [0, 1, 4, 5, 6, 15] ⟨[(0, .box 0 0 0 0), (1, vi a1), (4, .box 4 1 0 0), (5, .box 5 1 0 0), (6, vi 0), (15, vb r12)], [(0, ⟨0, 122, 4, true, false, [eReader v7]⟩), (4, ⟨1, 35, 4, true, false, [.agg [vi 0, vi 0, vw w8, .ps .nil []]]⟩), (5, ⟨1, 35, 4, true, false, [eExpr v9]⟩)], 2⟩ ?_
        refine Cd r12 ?_ ?_
        · intro hb; replace h := ctrue hb h
          refine Rgd hT 1 [0, 1, 4, 5, 6] [(6, vi 6)] ?_
          exact oK [0, 1, 4, 5, 6] [(0, 0, 0), (4, 4, 1), (5, 5, 1)] ⟨6, h, rfl⟩
        intro hb; replace h := cfalse hb h
        refine Qgd hT 1 [0, 1, 4, 5, 6, 19] [(19, .box 0 0 0 0)] ?_
        obtain ⟨r13, hr13, h⟩ := bsome h
        refine WO_ptb' rfl (by kernel_rfl) [0] [.box 0 0 0 0, vw tx37] [.ref (eReader v7) 0, vw tx37] (vb r13) rfl (by kernel_rfl) en133 (by kernel_rfl) (by kernel_rfl) (by kernel_rfl) (ref1_Reader_sign_ok hr13) (by kernel_rfl) ?_
        refine Szd hT 1 [0, 1, 4, 5, 6, 18] [(18, vb r13)] ?_
        refine Cd r13 ?_ ?_
        · intro hb; replace h := ctrue hb h
          refine Rgd hT 1 [0, 1, 4, 5, 6] [(6, vi 7)] ?_
          exact oK [0, 1, 4, 5, 6] [(0, 0, 0), (4, 4, 1), (5, 5, 1)] ⟨7, h, rfl⟩
        intro hb; replace h := cfalse hb h
        refine Qgd hT 1 [0, 1, 4, 5, 6, 22] [(22, .box 0 0 0 0)] ?_
        obtain ⟨r14, hr14, h⟩ := bsome h
        refine WO_ptb' rfl (by kernel_rfl) [0] [.box 0 0 0 0, vw tx38] [.ref (eReader v7) 0, vw tx38] (vb r14) rfl (by kernel_rfl) en133 (by kernel_rfl) (by kernel_rfl) (by kernel_rfl) (ref1_Reader_sign_ok hr14) (by kernel_rfl) ?_
        refine Szd hT 1 [0, 1, 4, 5, 6, 21] [(21, vb r14)] ?_
        refine Cd r14 ?_ ?_
        · intro hb; replace h := ctrue hb h
          refine Rgd hT 1 [0, 1, 4, 5, 6] [(6, vi 8)] ?_
          exact oK [0, 1, 4, 5, 6] [(0, 0, 0), (4, 4, 1), (5, 5, 1)] ⟨8, h, rfl⟩
        intro hb; replace h := cfalse hb h
        exact sK [0, 1, 4, 5, 6] [(0, 0, 0), (4, 4, 1), (5, 5, 1)] ⟨0, h, rfl⟩
      subst hJ11
      rintro s ⟨i10, h, rfl⟩
      skip
      refine WA_seq ?_
      refine Qzd hT 2 [0, 1, 4, 5, 6, 25] [(25, vb (i10 == 0))] ?_
      refine Cd (i10 == 0) ?_ ?_
      · intro hb; replace h := ctrue hb h
        exact eK [4, 5] [(0, 0, 0), (4, 4, 1), (5, 5, 1)] ⟨w8, v9, v7, h, rfl⟩
      intro hb; replace h := cfalse hb h
      refine WA_skip ?_
      refine Qz hT 8 [0, 1, 4, 5, 6] ⟨[(0, .box 0 0 0 0), (1, vi a1), (4, .box 4 1 0 0), (5, .box 5 1 0 0), (6, vi i10)], [(0, ⟨0, 122, 4, true, false, [.agg [.ps .opt (s117.F v7.T), vi (wr (v7.At + 1)), vb v7.Fail, vi v7.Bad]]⟩), (4, ⟨1, 35, 4, true, false, [.agg [vi 0, vi 0, vw w8, .ps .nil []]]⟩), (5, ⟨1, 35, 4, true, false, [eExpr v9]⟩)], 2⟩ ?_
      refine WA_drawW hT hM (by kernel_rfl) ?_
      refine Ds 4 [(36, vi a1), (35, .box 0 0 0 0), (34, eExpr v9), (33, vi i10)] [] [(1, [5])] ?_
      obtain ⟨r15, hr15, h⟩ := bsome h
      refine WD_go' rfl (by kernel_rfl) (by kernel_rfl) [(0, ⟨0, 122, 4, true, false, [eReader (Reader.mk v7.T (wr (v7.At + 1)) v7.Fail v7.Bad)]⟩)] [(0, ⟨0, 122, 4, true, false, [eReader r15.2]⟩)] [.box 0 0 0 0, vi a1] [.box 0 0 0 0, vi a1] [(0, 0, 0)] [(0, 0, 0)] [(0, ⟨0, 122, 4, true, false, [eReader r15.2]⟩)] (eExpr r15.1) (eExpr r15.1) 3 rfl (by kernel_rfl) en162 (by kernel_rfl) (by kernel_rfl) (by kernel_rfl) ((ih _ (by omega)).1 hr15) (by kernel_rfl) (by kernel_rfl) (by kernel_rfl) (by kernel_rfl) ?_
      obtain ⟨r16, hr16, h⟩ := bsome h
      refine WD_pt' rfl (by kernel_rfl) (by kernel_rfl) [vi i10, eExpr v9, eExpr r15.1] (eExpr r16) rfl (by kernel_rfl) en160 (by kernel_rfl) (ref1_binary_ok hr16) (by kernel_rfl) ?_
      refine Dh 1 [] [(5, ⟨1, 35, 4, true, false, [eExpr r16]⟩), (0, ⟨0, 122, 4, true, false, [eReader r15.2]⟩), (4, ⟨1, 35, 4, true, false, [.agg [vi 0, vi 0, vw w8, .ps .nil []]]⟩)] 3 [(6, [5])] [] ?_
      refine WD_end (by kernel_rfl) (by kernel_rfl) (by kernel_rfl) ?_
      exact wK [0, 1, 4, 5] [(0, 0, 0), (4, 4, 1), (5, 5, 1)] ⟨_, by omega, by omega, r15.2, w8, r16, h, rfl⟩
    intro hb; replace h := cfalse hb h
    exact eK [4, 5] [(0, 0, 0), (4, 4, 1), (5, 5, 1)] ⟨w8, v9, v7, h, rfl⟩
  subst hJ5
  rintro s ⟨w2, v3, v4, h, rfl⟩
  refine Qz hT 2 [4] ⟨[(4, .box 4 1 0 0)], [(4, ⟨1, 35, 4, true, false, [eExpr v3]⟩), (0, ⟨0, 122, 4, true, false, [eReader v4]⟩), (5, ⟨1, 35, 4, true, false, [eExpr v3]⟩)], 2⟩ ?_
  obtain rfl := Option.some.inj h
  exact rK [4] [(0, 0, 0), (4, 1000, 1)] ⟨[(4, .box 1000 1 0 0)], [(0, ⟨0, 122, 4, true, false, [eReader v4]⟩), (1000, ⟨1, 35, 4, true, false, [eExpr v3]⟩)], 2⟩ ⟨by kernel_rfl, by kernel_rfl, rfl⟩
theorem ref1_Reader_sum_step (n : Nat) (ih : ∀ m, m < n → ref1_Reader_factor_spec m) : ∀ {a0 : Reader} {a1 : Int} {r : Expr × Reader}, ref1_Reader_sum n a0 a1 = some r → GO Try.prog 159 [(0, ⟨0, 122, 4, true, false, [eReader a0]⟩)] [.box 0 0 0 0, vi a1] (eExpr r.1) [(0, ⟨0, 122, 4, true, false, [eReader r.2]⟩)] := by
  intro a0 a1 r h
  rcases n with _ | n
  · rw [ref1_Reader_sum] at h; cases h
  rw [ref1_Reader_sum] at h
  refine GO_bodyA hT Try.func159 rfl [1000] (by kernel_rfl) fun bad w m => ?_
  refine Qzh hT 1 [0, 1, 4] [(4, .box 4 1 0 0)] [(4, ⟨1, 35, 4, true, false, [.agg [vi 0, vi 0, vw b0, .ps .nil []]]⟩), (0, ⟨0, 122, 4, true, false, [eReader a0]⟩)] 2 ?_
  refine Qgd hT 2 [0, 1, 4, 7, 8] [(7, .box 0 0 0 0), (8, vi a1)] ?_
  obtain ⟨r1, hr1, h⟩ := bsome h
  refine WO_go' rfl (by kernel_rfl) [(0, ⟨0, 122, 4, true, false, [eReader a0]⟩)] [(0, ⟨0, 122, 4, true, false, [eReader r1.2]⟩)] [.box 0 0 0 0, vi a1] [.box 0 0 0 0, vi a1] [(0, 0, 0)] [(0, 0, 0)] [(0, ⟨0, 122, 4, true, false, [eReader r1.2]⟩)] (eExpr r1.1) (eExpr r1.1) 3 rfl (by kernel_rfl) en161 (by kernel_rfl) (by kernel_rfl) (by kernel_rfl) ((ih _ (by omega)).2.1 hr1) (by kernel_rfl) (by kernel_rfl) (by kernel_rfl) (by kernel_rfl) ?_
  refine Szh hT 2 [0, 1, 4, 5] [(5, .box 5 3 0 0)] [(5, ⟨3, 35, 4, true, false, [eExpr r1.1]⟩), (0, ⟨0, 122, 4, true, false, [eReader r1.2]⟩), (4, ⟨1, 35, 4, true, false, [.agg [vi 0, vi 0, vw b0, .ps .nil []]]⟩)] 4 ?_
  refine WA_seq ?_
  obtain ⟨J5, hJ5, h⟩ := jsome h
  refine WA_join (fun s => ∃ (w2 : ByteArray), ∃ (v3 : Expr), ∃ (v4 : Reader), J5 w2 v3 v4 = some r ∧ s = ⟨[(4, .box 4 1 0 0), (5, .box 5 1 0 0)], [(0, ⟨0, 122, 4, true, false, [eReader v4]⟩), (4, ⟨1, 35, 4, true, false, [.agg [vi 0, vi 0, vw w2, .ps .nil []]]⟩), (5, ⟨1, 35, 4, true, false, [eExpr v3]⟩)], 2⟩) ?_ ?_
  · refine WA_block ?_
    refine lK [0, 1, 4, 5] [(0, 0, 0), (4, 4, 1), (5, 5, 1)] (fun k s => ∃ q, q ≤ k ∧ q ≤ n ∧ ∃ (v7 : Reader), ∃ (w8 : ByteArray), ∃ (v9 : Expr), ref1_Reader_sum_L0 q a0 a1 r1 J5 v7 w8 v9 = some r ∧ s = ⟨[(0, .box 0 0 0 0), (1, vi a1), (4, .box 4 1 0 0), (5, .box 5 1 0 0)], [(0, ⟨0, 122, 4, true, false, [eReader v7]⟩), (4, ⟨1, 35, 4, true, false, [.agg [vi 0, vi 0, vw w8, .ps .nil []]]⟩), (5, ⟨1, 35, 4, true, false, [eExpr v9]⟩)], 2⟩) n ⟨n, Nat.le_refl _, Nat.le_refl _, r1.2, b0, r1.1, h, rfl⟩ (by rintro s ⟨q, hq, _, v7, w8, v9, h, _⟩; obtain rfl := Nat.le_zero.1 hq; rw [ref1_Reader_sum_L0] at h; cases h) ?_
    clear h
    rintro k1 s ⟨q1, hk1, hn1, v7, w8, v9, h, rfl⟩
    rcases q1 with _ | q1
    · rw [ref1_Reader_sum_L0] at h; cases h
    rw [ref1_Reader_sum_L0] at h
    refine WA_seq ?_
    refine Qzd hT 5 [0, 1, 4, 5, 14] [(14, vb (!v7.Fail))] ?_
    refine Cd (!v7.Fail) ?_ ?_
    · intro hb; replace h := ctrue hb h
      refine WA_skip ?_
      refine WA_block ?_
      refine Qzd hT 1 [0, 1, 4, 5, 6] [(6, vi 0)] ?_
      refine WA_seq ?_
      obtain ⟨J11, hJ11, h⟩ := jsome h
      refine WA_join (fun s => ∃ (i10 : Int), J11 i10 = some r ∧ s = ⟨[(0, .box 0 0 0 0), (1, vi a1), (4, .box 4 1 0 0), (5, .box 5 1 0 0), (6, vi i10)], [(0, ⟨0, 122, 4, true, false, [eReader v7]⟩), (4, ⟨1, 35, 4, true, false, [.agg [vi 0, vi 0, vw w8, .ps .nil []]]⟩), (5, ⟨1, 35, 4, true, false, [eExpr v9]⟩)], 2⟩) ?_ ?_
      · refine WA_block ?_
        refine Qgd hT 1 [0, 1, 4, 5, 6, 16] [(16, .box 0 0 0 0)] ?_
        obtain ⟨r12, hr12, h⟩ := bsome h
        refine WO_ptb' rfl (by kernel_rfl) [0] [.box 0 0 0 0, vw tx39] [.ref (eReader v7) 0, vw tx39] (vb r12) rfl (by kernel_rfl) en133 (by kernel_rfl) (by kernel_rfl) (by kernel_rfl) (ref1_Reader_sign_ok hr12) (by kernel_rfl) ?_
        refine Szd hT 1 [0, 1, 4, 5, 6, 15] [(15, vb r12)] ?_
        refine Cd r12 ?_ ?_
        · intro hb; replace h := ctrue hb h
          refine Rgd hT 1 [0, 1, 4, 5, 6] [(6, vi 4)] ?_
          exact oK [0, 1, 4, 5, 6] [(0, 0, 0), (4, 4, 1), (5, 5, 1)] ⟨4, h, rfl⟩
        intro hb; replace h := cfalse hb h
        refine Qgd hT 1 [0, 1, 4, 5, 6, 19] [(19, .box 0 0 0 0)] ?_
        obtain ⟨r13, hr13, h⟩ := bsome h
        refine WO_ptb' rfl (by kernel_rfl) [0] [.box 0 0 0 0, vw tx33] [.ref (eReader v7) 0, vw tx33] (vb r13) rfl (by kernel_rfl) en133 (by kernel_rfl) (by kernel_rfl) (by kernel_rfl) (ref1_Reader_sign_ok hr13) (by kernel_rfl) ?_
        refine Szd hT 1 [0, 1, 4, 5, 6, 18] [(18, vb r13)] ?_
        refine Cd r13 ?_ ?_
        · intro hb; replace h := ctrue hb h
          refine Rgd hT 1 [0, 1, 4, 5, 6] [(6, vi 5)] ?_
          exact oK [0, 1, 4, 5, 6] [(0, 0, 0), (4, 4, 1), (5, 5, 1)] ⟨5, h, rfl⟩
        intro hb; replace h := cfalse hb h
        exact sK [0, 1, 4, 5, 6] [(0, 0, 0), (4, 4, 1), (5, 5, 1)] ⟨0, h, rfl⟩
      subst hJ11
      rintro s ⟨i10, h, rfl⟩
      skip
      refine WA_seq ?_
      refine Qzd hT 2 [0, 1, 4, 5, 6, 22] [(22, vb (i10 == 0))] ?_
      refine Cd (i10 == 0) ?_ ?_
      · intro hb; replace h := ctrue hb h
        exact eK [4, 5] [(0, 0, 0), (4, 4, 1), (5, 5, 1)] ⟨w8, v9, v7, h, rfl⟩
      intro hb; replace h := cfalse hb h
      refine WA_skip ?_
      refine Qz hT 8 [0, 1, 4, 5, 6] ⟨[(0, .box 0 0 0 0), (1, vi a1), (4, .box 4 1 0 0), (5, .box 5 1 0 0), (6, vi i10)], [(0, ⟨0, 122, 4, true, false, [.agg [.ps .opt (s117.F v7.T), vi (wr (v7.At + 1)), vb v7.Fail, vi v7.Bad]]⟩), (4, ⟨1, 35, 4, true, false, [.agg [vi 0, vi 0, vw w8, .ps .nil []]]⟩), (5, ⟨1, 35, 4, true, false, [eExpr v9]⟩)], 2⟩ ?_
      refine WA_drawW hT hM (by kernel_rfl) ?_
      refine Ds 4 [(33, vi a1), (32, .box 0 0 0 0), (31, eExpr v9), (30, vi i10)] [] [(1, [5])] ?_
      obtain ⟨r14, hr14, h⟩ := bsome h
      refine WD_go' rfl (by kernel_rfl) (by kernel_rfl) [(0, ⟨0, 122, 4, true, false, [eReader (Reader.mk v7.T (wr (v7.At + 1)) v7.Fail v7.Bad)]⟩)] [(0, ⟨0, 122, 4, true, false, [eReader r14.2]⟩)] [.box 0 0 0 0, vi a1] [.box 0 0 0 0, vi a1] [(0, 0, 0)] [(0, 0, 0)] [(0, ⟨0, 122, 4, true, false, [eReader r14.2]⟩)] (eExpr r14.1) (eExpr r14.1) 3 rfl (by kernel_rfl) en161 (by kernel_rfl) (by kernel_rfl) (by kernel_rfl) ((ih _ (by omega)).2.1 hr14) (by kernel_rfl) (by kernel_rfl) (by kernel_rfl) (by kernel_rfl) ?_
      obtain ⟨r15, hr15, h⟩ := bsome h
      refine WD_pt' rfl (by kernel_rfl) (by kernel_rfl) [vi i10, eExpr v9, eExpr r14.1] (eExpr r15) rfl (by kernel_rfl) en160 (by kernel_rfl) (ref1_binary_ok hr15) (by kernel_rfl) ?_
      refine Dh 1 [] [(5, ⟨1, 35, 4, true, false, [eExpr r15]⟩), (0, ⟨0, 122, 4, true, false, [eReader r14.2]⟩), (4, ⟨1, 35, 4, true, false, [.agg [vi 0, vi 0, vw w8, .ps .nil []]]⟩)] 3 [(6, [5])] [] ?_
      refine WD_end (by kernel_rfl) (by kernel_rfl) (by kernel_rfl) ?_
      exact wK [0, 1, 4, 5] [(0, 0, 0), (4, 4, 1), (5, 5, 1)] ⟨_, by omega, by omega, r14.2, w8, r15, h, rfl⟩
    intro hb; replace h := cfalse hb h
    exact eK [4, 5] [(0, 0, 0), (4, 4, 1), (5, 5, 1)] ⟨w8, v9, v7, h, rfl⟩
  subst hJ5
  rintro s ⟨w2, v3, v4, h, rfl⟩
  refine Qz hT 2 [4] ⟨[(4, .box 4 1 0 0)], [(4, ⟨1, 35, 4, true, false, [eExpr v3]⟩), (0, ⟨0, 122, 4, true, false, [eReader v4]⟩), (5, ⟨1, 35, 4, true, false, [eExpr v3]⟩)], 2⟩ ?_
  obtain rfl := Option.some.inj h
  exact rK [4] [(0, 0, 0), (4, 1000, 1)] ⟨[(4, .box 1000 1 0 0)], [(0, ⟨0, 122, 4, true, false, [eReader v4]⟩), (1000, ⟨1, 35, 4, true, false, [eExpr v3]⟩)], 2⟩ ⟨by kernel_rfl, by kernel_rfl, rfl⟩
theorem ref1_Reader_expr_step (n : Nat) (ih : ∀ m, m < n → ref1_Reader_factor_spec m) : ∀ {a0 : Reader} {a1 : Int} {r : Expr × Reader}, ref1_Reader_expr n a0 a1 = some r → GO Try.prog 158 [(0, ⟨0, 122, 4, true, false, [eReader a0]⟩)] [.box 0 0 0 0, vi a1] (eExpr r.1) [(0, ⟨0, 122, 4, true, false, [eReader r.2]⟩)] := by
  intro a0 a1 r h
  rcases n with _ | n
  · rw [ref1_Reader_expr] at h; cases h
  rw [ref1_Reader_expr] at h
  refine GO_bodyA hT Try.func158 rfl [1000] (by kernel_rfl) fun bad w m => ?_
  refine Qzh hT 1 [0, 1, 4] [(4, .box 4 1 0 0)] [(4, ⟨1, 35, 4, true, false, [.agg [vi 0, vi 0, vw b0, .ps .nil []]]⟩), (0, ⟨0, 122, 4, true, false, [eReader a0]⟩)] 2 ?_
  refine Qgd hT 2 [0, 1, 4, 7, 8] [(7, .box 0 0 0 0), (8, vi a1)] ?_
  obtain ⟨r1, hr1, h⟩ := bsome h
  refine WO_go' rfl (by kernel_rfl) [(0, ⟨0, 122, 4, true, false, [eReader a0]⟩)] [(0, ⟨0, 122, 4, true, false, [eReader r1.2]⟩)] [.box 0 0 0 0, vi a1] [.box 0 0 0 0, vi a1] [(0, 0, 0)] [(0, 0, 0)] [(0, ⟨0, 122, 4, true, false, [eReader r1.2]⟩)] (eExpr r1.1) (eExpr r1.1) 3 rfl (by kernel_rfl) en159 (by kernel_rfl) (by kernel_rfl) (by kernel_rfl) ((ih _ (by omega)).2.2.1 hr1) (by kernel_rfl) (by kernel_rfl) (by kernel_rfl) (by kernel_rfl) ?_
  refine Szh hT 2 [0, 1, 4, 5] [(5, .box 5 3 0 0)] [(5, ⟨3, 35, 4, true, false, [eExpr r1.1]⟩), (0, ⟨0, 122, 4, true, false, [eReader r1.2]⟩), (4, ⟨1, 35, 4, true, false, [.agg [vi 0, vi 0, vw b0, .ps .nil []]]⟩)] 4 ?_
  refine Qzd hT 1 [0, 1, 4, 5, 6] [(6, vi 0)] ?_
  refine WA_seq ?_
  obtain ⟨J4, hJ4, h⟩ := jsome h
  refine WA_join (fun s => ∃ (w2 : ByteArray), ∃ (i3 : Int), J4 w2 i3 = some r ∧ s = ⟨[(0, .box 0 0 0 0), (1, vi a1), (4, .box 4 1 0 0), (5, .box 5 1 0 0), (6, vi i3)], [(0, ⟨0, 122, 4, true, false, [eReader r1.2]⟩), (4, ⟨1, 35, 4, true, false, [.agg [vi 0, vi 0, vw w2, .ps .nil []]]⟩), (5, ⟨1, 35, 4, true, false, [eExpr r1.1]⟩)], 2⟩) ?_ ?_
  · refine WA_block ?_
    refine Qgd hT 1 [0, 1, 4, 5, 6, 11] [(11, .box 0 0 0 0)] ?_
    obtain ⟨r5, hr5, h⟩ := bsome h
    refine WO_ptb' rfl (by kernel_rfl) [0] [.box 0 0 0 0, vw tx40] [.ref (eReader r1.2) 0, vw tx40] (vb r5) rfl (by kernel_rfl) en133 (by kernel_rfl) (by kernel_rfl) (by kernel_rfl) (ref1_Reader_sign_ok hr5) (by kernel_rfl) ?_
    refine Szd hT 1 [0, 1, 4, 5, 6, 10] [(10, vb r5)] ?_
    refine Cd r5 ?_ ?_
    · intro hb; replace h := ctrue hb h
      refine Rgd hT 1 [0, 1, 4, 5, 6] [(6, vi 9)] ?_
      exact oK [0, 1, 4, 5, 6] [(0, 0, 0), (4, 4, 1), (5, 5, 1)] ⟨b0, 9, h, rfl⟩
    intro hb; replace h := cfalse hb h
    refine Qgd hT 1 [0, 1, 4, 5, 6, 14] [(14, .box 0 0 0 0)] ?_
    obtain ⟨r6, hr6, h⟩ := bsome h
    refine WO_ptb' rfl (by kernel_rfl) [0] [.box 0 0 0 0, vw tx12] [.ref (eReader r1.2) 0, vw tx12] (vb r6) rfl (by kernel_rfl) en133 (by kernel_rfl) (by kernel_rfl) (by kernel_rfl) (ref1_Reader_sign_ok hr6) (by kernel_rfl) ?_
    refine Szd hT 1 [0, 1, 4, 5, 6, 13] [(13, vb r6)] ?_
    refine Cd r6 ?_ ?_
    · intro hb; replace h := ctrue hb h
      refine Rgd hT 1 [0, 1, 4, 5, 6] [(6, vi 10)] ?_
      exact oK [0, 1, 4, 5, 6] [(0, 0, 0), (4, 4, 1), (5, 5, 1)] ⟨b0, 10, h, rfl⟩
    intro hb; replace h := cfalse hb h
    exact sK [0, 1, 4, 5, 6] [(0, 0, 0), (4, 4, 1), (5, 5, 1)] ⟨b0, 0, h, rfl⟩
  subst hJ4
  rintro s ⟨w2, i3, h, rfl⟩
  refine WA_seq ?_
  refine Qzd hT 2 [0, 1, 4, 5, 6, 17] [(17, vb (i3 == 0))] ?_
  refine Cd (i3 == 0) ?_ ?_
  · intro hb; replace h := ctrue hb h
    refine Qz hT 2 [4] ⟨[(4, .box 4 1 0 0)], [(4, ⟨1, 35, 4, true, false, [eExpr r1.1]⟩), (0, ⟨0, 122, 4, true, false, [eReader r1.2]⟩), (5, ⟨1, 35, 4, true, false, [eExpr r1.1]⟩)], 2⟩ ?_
    obtain rfl := Option.some.inj h
    exact rK [4] [(0, 0, 0), (4, 1000, 1)] ⟨[(4, .box 1000 1 0 0)], [(0, ⟨0, 122, 4, true, false, [eReader r1.2]⟩), (1000, ⟨1, 35, 4, true, false, [eExpr r1.1]⟩)], 2⟩ ⟨by kernel_rfl, by kernel_rfl, rfl⟩
  intro hb; replace h := cfalse hb h
  refine WA_skip ?_
  refine Qzh hT 8 [0, 1, 4, 5, 6] [] [(0, ⟨0, 122, 4, true, false, [.agg [.ps .opt (s117.F r1.2.T), vi (wr (r1.2.At + 1)), vb r1.2.Fail, vi r1.2.Bad]]⟩), (4, ⟨1, 35, 4, true, false, [.agg [vi 0, vi 0, vw w2, .ps .nil []]]⟩), (5, ⟨1, 35, 4, true, false, [eExpr r1.1]⟩)] 2 ?_
  refine WA_seq ?_
  refine WA_drawW hT hM (by kernel_rfl) ?_
  refine Ds 4 [(29, vi a1), (28, .box 0 0 0 0), (27, eExpr r1.1), (26, vi i3)] [] [(1, [5])] ?_
  obtain ⟨r7, hr7, h⟩ := bsome h
  refine WD_go' rfl (by kernel_rfl) (by kernel_rfl) [(0, ⟨0, 122, 4, true, false, [eReader (Reader.mk r1.2.T (wr (r1.2.At + 1)) r1.2.Fail r1.2.Bad)]⟩)] [(0, ⟨0, 122, 4, true, false, [eReader r7.2]⟩)] [.box 0 0 0 0, vi a1] [.box 0 0 0 0, vi a1] [(0, 0, 0)] [(0, 0, 0)] [(0, ⟨0, 122, 4, true, false, [eReader r7.2]⟩)] (eExpr r7.1) (eExpr r7.1) 3 rfl (by kernel_rfl) en159 (by kernel_rfl) (by kernel_rfl) (by kernel_rfl) ((ih _ (by omega)).2.2.1 hr7) (by kernel_rfl) (by kernel_rfl) (by kernel_rfl) (by kernel_rfl) ?_
  obtain ⟨r8, hr8, h⟩ := bsome h
  refine WD_pt' rfl (by kernel_rfl) (by kernel_rfl) [vi i3, eExpr r1.1, eExpr r7.1] (eExpr r8) rfl (by kernel_rfl) en160 (by kernel_rfl) (ref1_binary_ok hr8) (by kernel_rfl) ?_
  refine Dh 1 [] [(4, ⟨1, 35, 4, true, false, [eExpr r8]⟩), (0, ⟨0, 122, 4, true, false, [eReader r7.2]⟩), (5, ⟨1, 35, 4, true, false, [eExpr r1.1]⟩)] 3 [(6, [4])] [] ?_
  refine WD_end (by kernel_rfl) (by kernel_rfl) (by kernel_rfl) ?_
  refine Wk_done ?_
  obtain rfl := Option.some.inj h
  exact rK [4] [(0, 0, 0), (4, 1000, 1)] ⟨[(4, .box 1000 1 0 0)], [(0, ⟨0, 122, 4, true, false, [eReader r7.2]⟩), (1000, ⟨1, 35, 4, true, false, [eExpr r8]⟩)], 2⟩ ⟨by kernel_rfl, by kernel_rfl, rfl⟩
theorem ref1_Reader_factor_all (n : Nat) : ref1_Reader_factor_spec n := by
  induction n using Nat.strongRecOn with
  | _ n ih => exact ⟨ref1_Reader_factor_step n ih, ref1_Reader_term_step n ih, ref1_Reader_sum_step n ih, ref1_Reader_expr_step n ih⟩
theorem ref1_Reader_factor_ok {n : Nat} {a0 : Reader} {a1 : Int} {r : Expr × Reader} (h : ref1_Reader_factor n a0 a1 = some r) : GO Try.prog 162 [(0, ⟨0, 122, 4, true, false, [eReader a0]⟩)] [.box 0 0 0 0, vi a1] (eExpr r.1) [(0, ⟨0, 122, 4, true, false, [eReader r.2]⟩)] := (ref1_Reader_factor_all n).1 h
theorem ref1_Reader_term_ok {n : Nat} {a0 : Reader} {a1 : Int} {r : Expr × Reader} (h : ref1_Reader_term n a0 a1 = some r) : GO Try.prog 161 [(0, ⟨0, 122, 4, true, false, [eReader a0]⟩)] [.box 0 0 0 0, vi a1] (eExpr r.1) [(0, ⟨0, 122, 4, true, false, [eReader r.2]⟩)] := (ref1_Reader_factor_all n).2.1 h
theorem ref1_Reader_sum_ok {n : Nat} {a0 : Reader} {a1 : Int} {r : Expr × Reader} (h : ref1_Reader_sum n a0 a1 = some r) : GO Try.prog 159 [(0, ⟨0, 122, 4, true, false, [eReader a0]⟩)] [.box 0 0 0 0, vi a1] (eExpr r.1) [(0, ⟨0, 122, 4, true, false, [eReader r.2]⟩)] := (ref1_Reader_factor_all n).2.2.1 h
theorem ref1_Reader_expr_ok {n : Nat} {a0 : Reader} {a1 : Int} {r : Expr × Reader} (h : ref1_Reader_expr n a0 a1 = some r) : GO Try.prog 158 [(0, ⟨0, 122, 4, true, false, [eReader a0]⟩)] [.box 0 0 0 0, vi a1] (eExpr r.1) [(0, ⟨0, 122, 4, true, false, [eReader r.2]⟩)] := (ref1_Reader_factor_all n).2.2.2 h

theorem ref1_Reader_whole_ok {n : Nat} {a0 : Reader} {a1 : ByteArray} {r : Expr × Reader} (h : ref1_Reader_whole n a0 a1 = some r) : GO Try.prog 151 [(0, ⟨0, 122, 4, true, false, [eReader a0]⟩)] [.box 0 0 0 0, vw a1] (eExpr r.1) [(0, ⟨0, 122, 4, true, false, [eReader r.2]⟩)] := by
  unfold ref1_Reader_whole at h
  refine GO_bodyA hT Try.func151 rfl [1000] (by kernel_rfl) fun bad w m => ?_
  refine Qz hT 1 [0, 4] ⟨[(0, .box 0 0 0 0), (4, .box 4 1 0 0)], [(4, ⟨1, 35, 4, true, false, [.agg [vi 0, vi 0, vw b0, .ps .nil []]]⟩), (0, ⟨0, 122, 4, true, false, [eReader a0]⟩)], 2⟩ ?_
  refine WA_seq ?_
  refine Qzd hT 5 [0, 4, 9] [(9, vb (!a0.Fail))] ?_
  obtain ⟨J6, hJ6, h⟩ := jsome h
  refine WA_join (fun s => ∃ (i1 : Int), ∃ (i2 : Int), ∃ (w3 : ByteArray), ∃ (l4 : List Expr), ∃ (v5 : Reader), J6 i1 i2 w3 l4 v5 = some r ∧ s = ⟨[(4, .box 4 1 0 0)], [(0, ⟨0, 122, 4, true, false, [eReader v5]⟩), (4, ⟨1, 35, 4, true, false, [.agg [vi i1, vi i2, vw w3, .ps .opt (s33.F l4)]]⟩)], 2⟩) ?_ ?_
  · refine Cd (!a0.Fail) ?_ ?_
    · intro hb; replace h := ctrue hb h
      refine Rgd hT 1 [4, 10] [(10, .box 0 0 0 0)] ?_
      obtain ⟨r7, hr7, h⟩ := bsome h
      refine WO_go' rfl (by kernel_rfl) [(0, ⟨0, 122, 4, true, false, [eReader a0]⟩)] [(0, ⟨0, 122, 4, true, false, [eReader r7.2]⟩)] [.box 0 0 0 0, vi 0] [.box 0 0 0 0, vi 0] [(0, 0, 0)] [(0, 0, 0)] [(0, ⟨0, 122, 4, true, false, [eReader r7.2]⟩)] (eExpr r7.1) (eExpr r7.1) 3 rfl (by kernel_rfl) en158 (by kernel_rfl) (by kernel_rfl) (by kernel_rfl) (ref1_Reader_expr_ok hr7) (by kernel_rfl) (by kernel_rfl) (by kernel_rfl) (by kernel_rfl) ?_
      refine Sg hT 1 [4] ⟨[(4, .box 4 1 0 0)], [(4, ⟨1, 35, 4, true, false, [eExpr r7.1]⟩), (0, ⟨0, 122, 4, true, false, [eReader r7.2]⟩)], 3⟩ ?_
      exact oK [4] [(0, 0, 0), (4, 4, 1)] ⟨r7.1.Kind, r7.1.N, r7.1.Name, r7.1.Of, r7.2, h, rfl⟩
    intro hb; replace h := cfalse hb h
    refine aW [4] ⟨[(4, .box 4 1 0 0)], [(4, ⟨1, 35, 4, true, false, [.agg [vi 0, vi 0, vw b0, .ps .nil []]]⟩), (0, ⟨0, 122, 4, true, false, [eReader a0]⟩)], 2⟩ ?_
    refine WA_weak (Weak_leH [(4, .box 4 1 0 0)] [(4, ⟨1, 35, 4, true, false, [.agg [vi 0, vi 0, vw b0, .ps .opt (s33.F [])]]⟩), (0, ⟨0, 122, 4, true, false, [eReader a0]⟩)] (by kernel_rfl) ⟨VLf.refl _, trivial⟩ ⟨rfl, .inr (.inl ⟨rfl, rfl, CLe.agg ⟨VLf.refl _, VLf.refl _, VLf.refl _, (VLe.f VLe.nil_opt rfl), trivial⟩, trivial⟩), rfl, .inl rfl, trivial⟩) ?_
    exact sR [(0, 0, 0), (4, 4, 1)] ⟨0, 0, b0, [], a0, h, rfl⟩
  subst hJ6
  rintro s ⟨i1, i2, w3, l4, v5, h, rfl⟩
  refine Qz hT 2 [4] ⟨[(4, .box 4 1 0 0)], [(4, ⟨1, 35, 4, true, false, [.agg [vi i1, vi i2, vw w3, .ps .opt (s33.F l4)]]⟩), (0, ⟨0, 122, 4, true, false, [eReader v5]⟩)], 2⟩ ?_
  refine aW [4] ⟨[(4, .box 4 1 0 0)], [(4, ⟨1, 35, 4, true, false, [.agg [vi i1, vi i2, vw w3, .ps .opt (s33.F l4)]]⟩), (0, ⟨0, 122, 4, true, false, [eReader v5]⟩)], 2⟩ ?_
  refine WA_weak (Weak_leH [(4, .box 4 1 0 0)] [(4, ⟨1, 35, 4, true, false, [eExpr (Expr.mk i1 i2 w3 l4)]⟩), (0, ⟨0, 122, 4, true, false, [eReader v5]⟩)] (by kernel_rfl) ⟨VLf.refl _, trivial⟩ ⟨rfl, .inr (.inl ⟨rfl, rfl, CLe.agg ⟨VLf.refl _, VLf.refl _, VLf.refl _, VLf.refl _, trivial⟩, trivial⟩), rfl, .inl rfl, trivial⟩) ?_
  obtain rfl := Option.some.inj h
  exact rR [(0, 0, 0), (4, 1000, 1)] ⟨[(4, .box 1000 1 0 0)], [(0, ⟨0, 122, 4, true, false, [eReader v5]⟩), (1000, ⟨1, 35, 4, true, false, [eExpr (Expr.mk i1 i2 w3 l4)]⟩)], 2⟩ ⟨by kernel_rfl, by kernel_rfl, rfl⟩

def ref1_Reader_stmt_spec (n : Nat) : Prop := (∀ {a0 : Reader} {a1 : ByteArray} {a2 : Int} {r : Stmt × Reader}, ref1_Reader_stmt n a0 a1 a2 = some r → GO Try.prog 134 [(0, ⟨0, 122, 4, true, false, [eReader a0]⟩)] [.box 0 0 0 0, vw a1, vi a2] (eStmt r.1) [(0, ⟨0, 122, 4, true, false, [eReader r.2]⟩)]) ∧ (∀ {a0 : Reader} {a1 : ByteArray} {a2 : Int} {r : (List Stmt) × Reader}, ref1_Reader_block n a0 a1 a2 = some r → GO Try.prog 107 [(0, ⟨0, 122, 4, true, false, [eReader a0]⟩)] [.box 0 0 0 0, vw a1, vi a2] (vo 100 1 (s32.F r.1)) [(0, ⟨0, 122, 4, true, false, [eReader r.2]⟩), (100, ⟨1, 38, 11, false, true, s32.F r.1⟩)])
theorem ref1_Reader_stmt_step (n : Nat) (ih : ∀ m, m < n → ref1_Reader_stmt_spec m) : ∀ {a0 : Reader} {a1 : ByteArray} {a2 : Int} {r : Stmt × Reader}, ref1_Reader_stmt n a0 a1 a2 = some r → GO Try.prog 134 [(0, ⟨0, 122, 4, true, false, [eReader a0]⟩)] [.box 0 0 0 0, vw a1, vi a2] (eStmt r.1) [(0, ⟨0, 122, 4, true, false, [eReader r.2]⟩)] := by
  intro a0 a1 a2 r h
  rcases n with _ | n
  · rw [ref1_Reader_stmt] at h; cases h
  rw [ref1_Reader_stmt] at h
  refine GO_bodyA hT Try.func134 rfl [1000] (by kernel_rfl) fun bad w m => ?_
  refine Qzh hT 1 [0, 1, 2, 6] [(6, .box 6 1 0 0)] [(6, ⟨1, 38, 11, true, false, [.agg [vi 0, vw b0, vw b0, vi 0, vi 0, vi 0, vw b0, .ps .nil [], .ps .nil [], .ps .nil [], vz c0]]⟩), (0, ⟨0, 122, 4, true, false, [eReader a0]⟩)] 2 ?_
  refine WA_seq ?_
  refine WA_drawW hT hM (by kernel_rfl) ?_
  refine Ds 8 [(16, vi a0.At), (15, .box 0 0 0 1), (14, .box 0 0 0 0), (13, .box 0 0 0 0), (12, .ps .opt (s117.F a0.T)), (11, .box 0 0 0 0), (10, .box 0 0 0 0), (9, .box 0 0 0 0)] [] [(1, [0]), (2, [0]), (3, [0]), (5, [0]), (6, [0]), (7, [0])] ?_
  obtain ⟨x1, hx1, h⟩ := bsome h
  refine WD_loc' rfl (by kernel_rfl) (by kernel_rfl) (by kernel_rfl) (ev_index s117 .opt a0.T .i64 a0.At hx1 (by decide) (by kernel_rfl) (by kernel_rfl)) (by kernel_rfl) ?_
  refine Dt (.ref (eToken x1) 0) ?_
  refine Dh 3 [(7, .box 7 2 0 0), (18, eToken x1)] [(7, ⟨2, 124, 4, true, false, [eToken x1]⟩), (6, ⟨1, 38, 11, true, false, [.agg [vi 0, vw b0, vw b0, vi 0, vi 0, vi 0, vw b0, .ps .nil [], .ps .nil [], .ps .nil [], vz c0]]⟩), (0, ⟨0, 122, 4, true, false, [eReader a0]⟩)] 3 [(10, [7]), (11, [7])] [] ?_
  refine WD_end (by kernel_rfl) (by kernel_rfl) (by kernel_rfl) ?_
  refine Wk_done ?_
  refine Qgd hT 3 [0, 1, 2, 6, 7, 19, 21] [(19, vw a1), (21, vi x1.At)] ?_
  obtain ⟨r2, hr2, h⟩ := bsome h
  refine Pt' en28 (ref1_Place_ok hr2) ?_
  refine Szh hT 3 [0, 1, 2, 6, 7, 8] [(8, .box 8 3 0 0)] [(8, ⟨3, 38, 11, true, false, [.agg [vi 0, vw b0, vw b0, vi 0, vi 0, vi 0, vw b0, .ps .nil [], .ps .nil [], .ps .nil [], vz r2]]⟩), (7, ⟨2, 124, 4, true, false, [eToken x1]⟩), (6, ⟨1, 38, 11, true, false, [.agg [vi 0, vw b0, vw b0, vi 0, vi 0, vi 0, vw b0, .ps .nil [], .ps .nil [], .ps .nil [], vz c0]]⟩), (0, ⟨0, 122, 4, true, false, [eReader a0]⟩)] 4 ?_
  refine WA_seq ?_
  refine Qzd hT 3 [0, 1, 2, 6, 7, 8, 26] [(26, vb (x1.Kind != 1))] ?_
  refine Cd (x1.Kind != 1) ?_ ?_
  · intro hb; replace h := ctrue hb h
    refine Qgd hT 1 [6, 8, 27] [(27, .box 0 0 0 0)] ?_
    obtain ⟨r3, hr3, h⟩ := bsome h
    refine WO_go' rfl (by kernel_rfl) [(0, ⟨0, 122, 4, true, false, [eReader a0]⟩)] [(0, ⟨0, 122, 4, true, false, [eReader r3]⟩)] [.box 0 0 0 0] [.box 0 0 0 0] [(0, 0, 0)] [(0, 0, 0)] [(0, ⟨0, 122, 4, true, false, [eReader r3]⟩)] (.tup []) (.tup []) 5 rfl (by kernel_rfl) en103 (by kernel_rfl) (by kernel_rfl) (by kernel_rfl) (ref1_Reader_fail_ok hr3) (by kernel_rfl) (by kernel_rfl) (by kernel_rfl) (by kernel_rfl) ?_
    refine Szh hT 0 [6, 8] [] [(0, ⟨0, 122, 4, true, false, [eReader r3]⟩), (8, ⟨3, 38, 11, true, false, [.agg [vi 0, vw b0, vw b0, vi 0, vi 0, vi 0, vw b0, .ps .nil [], .ps .nil [], .ps .nil [], vz r2]]⟩), (7, ⟨2, 124, 4, true, false, [eToken x1]⟩), (6, ⟨1, 38, 11, true, false, [.agg [vi 0, vw b0, vw b0, vi 0, vi 0, vi 0, vw b0, .ps .nil [], .ps .nil [], .ps .nil [], vz c0]]⟩)] 5 ?_
    refine Qz hT 2 [6] ⟨[(6, .box 6 1 0 0)], [(6, ⟨1, 38, 11, true, false, [.agg [vi 0, vw b0, vw b0, vi 0, vi 0, vi 0, vw b0, .ps .nil [], .ps .nil [], .ps .nil [], vz r2]]⟩), (0, ⟨0, 122, 4, true, false, [eReader r3]⟩), (8, ⟨3, 38, 11, true, false, [.agg [vi 0, vw b0, vw b0, vi 0, vi 0, vi 0, vw b0, .ps .nil [], .ps .nil [], .ps .nil [], vz r2]]⟩), (7, ⟨2, 124, 4, true, false, [eToken x1]⟩)], 5⟩ ?_
    refine aW [6] ⟨[(6, .box 6 1 0 0)], [(6, ⟨1, 38, 11, true, false, [.agg [vi 0, vw b0, vw b0, vi 0, vi 0, vi 0, vw b0, .ps .nil [], .ps .nil [], .ps .nil [], vz r2]]⟩), (0, ⟨0, 122, 4, true, false, [eReader r3]⟩), (8, ⟨3, 38, 11, true, false, [.agg [vi 0, vw b0, vw b0, vi 0, vi 0, vi 0, vw b0, .ps .nil [], .ps .nil [], .ps .nil [], vz r2]]⟩), (7, ⟨2, 124, 4, true, false, [eToken x1]⟩)], 5⟩ ?_
    refine WA_weak (Weak_leH [(6, .box 6 1 0 0)] [(6, ⟨1, 38, 11, true, false, [eStmt (Stmt.mk 0 b0 b0 0 (Expr.mk 0 0 b0 []) [] [] r2)]⟩), (0, ⟨0, 122, 4, true, false, [eReader r3]⟩), (8, ⟨3, 38, 11, true, false, [.agg [vi 0, vw b0, vw b0, vi 0, vi 0, vi 0, vw b0, .ps .nil [], .ps .nil [], .ps .nil [], vz r2]]⟩), (7, ⟨2, 124, 4, true, false, [eToken x1]⟩)] (by kernel_rfl) ⟨VLf.refl _, trivial⟩ ⟨rfl, .inr (.inl ⟨rfl, rfl, CLe.agg ⟨VLf.refl _, VLf.refl _, VLf.refl _, VLf.refl _, VLf.refl _, VLf.refl _, VLf.refl _, (VLe.f VLe.nil_opt rfl), (VLe.f VLe.nil_opt rfl), (VLe.f VLe.nil_opt rfl), VLf.refl _, trivial⟩, trivial⟩), rfl, .inl rfl, rfl, .inl rfl, rfl, .inl rfl, trivial⟩) ?_
    obtain rfl := Option.some.inj h
    exact rR [(0, 0, 0), (6, 1000, 1)] ⟨[(6, .box 1000 1 0 0)], [(0, ⟨0, 122, 4, true, false, [eReader r3]⟩), (1000, ⟨1, 38, 11, true, false, [eStmt (Stmt.mk 0 b0 b0 0 (Expr.mk 0 0 b0 []) [] [] r2)]⟩)], 2⟩ ⟨by kernel_rfl, by kernel_rfl, rfl⟩
  intro hb; replace h := cfalse hb h
  refine WA_skip ?_
  refine Qzh hT 8 [0, 1, 2, 6, 7, 8] [] [(0, ⟨0, 122, 4, true, false, [.agg [.ps .opt (s117.F a0.T), vi (wr (a0.At + 1)), vb a0.Fail, vi a0.Bad]]⟩), (8, ⟨3, 38, 11, true, false, [.agg [vi 0, vw b0, vw b0, vi 0, vi 0, vi 0, vw b0, .ps .nil [], .ps .nil [], .ps .nil [], vz r2]]⟩), (7, ⟨2, 124, 4, true, false, [eToken x1]⟩), (6, ⟨1, 38, 11, true, false, [.agg [vi 0, vw b0, vw b0, vi 0, vi 0, vi 0, vw b0, .ps .nil [], .ps .nil [], .ps .nil [], vz c0]]⟩)] 4 ?_
  refine WA_seq ?_
  refine Qzd hT 2 [0, 1, 2, 6, 7, 8, 38] [(38, vw x1.Text)] ?_
  obtain ⟨J18, hJ18, h⟩ := jsome h
  refine WA_join (fun s => ∃ (w4 : ByteArray), ∃ (w5 : ByteArray), ∃ (w6 : ByteArray), ∃ (i7 : Int), ∃ (w8 : ByteArray), ∃ (w9 : ByteArray), ∃ (i10 : Int), ∃ (i11 : Int), ∃ (i12 : Int), ∃ (w13 : ByteArray), ∃ (l14 : List Expr), ∃ (l15 : List Stmt), ∃ (l16 : List Stmt), ∃ (v17 : Reader), J18 w4 w5 w6 i7 w8 w9 i10 i11 i12 w13 l14 l15 l16 v17 = some r ∧ s = ⟨[(6, .box 6 1 0 0), (8, .box 8 1 0 0)], [(0, ⟨0, 122, 4, true, false, [eReader v17]⟩), (6, ⟨1, 38, 11, true, false, [.agg [vi 0, vw w4, vw w5, vi 0, vi 0, vi 0, vw w6, .ps .nil [], .ps .nil [], .ps .nil [], vz c0]]⟩), (8, ⟨1, 38, 11, true, false, [.agg [vi i7, vw w8, vw w9, vi i10, vi i11, vi i12, vw w13, .ps .opt (s33.F l14), vo 19508 1 (s32.F l15), vo 20508 1 (s32.F l16), vz r2]]⟩), (19508, ⟨1, 38, 11, false, true, s32.F l15⟩), (20508, ⟨1, 38, 11, false, true, s32.F l16⟩)], 2⟩) ?_ ?_
  · refine WA_block ?_
    refine WA_seq ?_
    refine Qzd hT 2 [0, 1, 2, 6, 7, 8, 38, 60] [(60, vb (bytesEq x1.Text k_lock))] ?_
    obtain ⟨J26, hJ26, h⟩ := jsome h
    refine WA_join (fun s => ∃ (w19 : ByteArray), ∃ (w20 : ByteArray), ∃ (w21 : ByteArray), ∃ (w22 : ByteArray), ∃ (w23 : ByteArray), ∃ (w24 : ByteArray), ∃ (b25 : Bool), J26 w19 w20 w21 w22 w23 w24 b25 = some r ∧ s = ⟨[(0, .box 0 0 0 0), (1, vw a1), (2, vi a2), (6, .box 6 1 0 0), (7, .box 7 1 0 0), (8, .box 8 1 0 0), (38, vw x1.Text), (60, vb b25)], [(0, ⟨0, 122, 4, true, false, [.agg [.ps .opt (s117.F a0.T), vi (wr (a0.At + 1)), vb a0.Fail, vi a0.Bad]]⟩), (6, ⟨1, 38, 11, true, false, [.agg [vi 0, vw w19, vw w20, vi 0, vi 0, vi 0, vw w21, .ps .nil [], .ps .nil [], .ps .nil [], vz c0]]⟩), (7, ⟨1, 124, 4, true, false, [eToken x1]⟩), (8, ⟨1, 38, 11, true, false, [.agg [vi 0, vw w22, vw w23, vi 0, vi 0, vi 0, vw w24, .ps .nil [], .ps .nil [], .ps .nil [], vz r2]]⟩)], 2⟩) ?_ ?_
    · refine Cd (bytesEq x1.Text k_lock) ?_ ?_
      · intro hb; replace h := ctrue hb h
        exact sK [0, 1, 2, 6, 7, 8, 38, 60] [(0, 0, 0), (6, 6, 1), (7, 7, 1), (8, 8, 1)] ⟨b0, b0, b0, b0, b0, b0, bytesEq x1.Text k_lock, h, rfl⟩
      intro hb; replace h := cfalse hb h
      refine Qzd hT 2 [0, 1, 2, 6, 7, 8, 38, 60] [(60, vb (bytesEq x1.Text k_unlock))] ?_
      refine Cd (bytesEq x1.Text k_unlock) ?_ ?_
      · intro hb; replace h := ctrue hb h
        exact sK [0, 1, 2, 6, 7, 8, 38, 60] [(0, 0, 0), (6, 6, 1), (7, 7, 1), (8, 8, 1)] ⟨b0, b0, b0, b0, b0, b0, bytesEq x1.Text k_unlock, h, rfl⟩
      intro hb; replace h := cfalse hb h
      refine Qzd hT 2 [0, 1, 2, 6, 7, 8, 38, 60] [(60, vb (bytesEq x1.Text k_goto))] ?_
      refine Cd (bytesEq x1.Text k_goto) ?_ ?_
      · intro hb; replace h := ctrue hb h
        exact sK [0, 1, 2, 6, 7, 8, 38, 60] [(0, 0, 0), (6, 6, 1), (7, 7, 1), (8, 8, 1)] ⟨b0, b0, b0, b0, b0, b0, bytesEq x1.Text k_goto, h, rfl⟩
      intro hb; replace h := cfalse hb h
      refine Rgd hT 2 [0, 1, 2, 6, 7, 8, 38, 60] [(60, vb (bytesEq x1.Text k_label))] ?_
      exact oK [0, 1, 2, 6, 7, 8, 38, 60] [(0, 0, 0), (6, 6, 1), (7, 7, 1), (8, 8, 1)] ⟨b0, b0, b0, b0, b0, b0, bytesEq x1.Text k_label, h, rfl⟩
    subst hJ26
    rintro s ⟨w19, w20, w21, w22, w23, w24, b25, h, rfl⟩
    skip
    refine Cd b25 ?_ ?_
    · intro hb; replace h := ctrue hb h
      refine Qzh hT 2 [0, 6, 7, 8] [] [(8, ⟨1, 38, 11, true, false, [.agg [vi 2, vw w22, vw w23, vi 0, vi 0, vi 0, vw w24, .ps .nil [], .ps .nil [], .ps .nil [], vz r2]]⟩), (0, ⟨0, 122, 4, true, false, [.agg [.ps .opt (s117.F a0.T), vi (wr (a0.At + 1)), vb a0.Fail, vi a0.Bad]]⟩), (6, ⟨1, 38, 11, true, false, [.agg [vi 0, vw w19, vw w20, vi 0, vi 0, vi 0, vw w21, .ps .nil [], .ps .nil [], .ps .nil [], vz c0]]⟩), (7, ⟨1, 124, 4, true, false, [eToken x1]⟩)] 2 ?_
      refine WA_seq ?_
      refine Qzd hT 2 [0, 6, 8, 67] [(67, vw x1.Text)] ?_
      obtain ⟨J28, hJ28, h⟩ := jsome h
      refine WA_join (fun s => ∃ (i27 : Int), J28 i27 = some r ∧ s = ⟨[(0, .box 0 0 0 0), (6, .box 6 1 0 0), (8, .box 8 1 0 0)], [(0, ⟨0, 122, 4, true, false, [.agg [.ps .opt (s117.F a0.T), vi (wr (a0.At + 1)), vb a0.Fail, vi a0.Bad]]⟩), (6, ⟨1, 38, 11, true, false, [.agg [vi 0, vw w19, vw w20, vi 0, vi 0, vi 0, vw w21, .ps .nil [], .ps .nil [], .ps .nil [], vz c0]]⟩), (8, ⟨1, 38, 11, true, false, [.agg [vi i27, vw w22, vw w23, vi 0, vi 0, vi 0, vw w24, .ps .nil [], .ps .nil [], .ps .nil [], vz r2]]⟩)], 2⟩) ?_ ?_
      · refine WA_block ?_
        refine Qzd hT 2 [0, 6, 8, 67, 68] [(68, vb (bytesEq x1.Text k_unlock))] ?_
        refine Cd (bytesEq x1.Text k_unlock) ?_ ?_
        · intro hb; replace h := ctrue hb h
          refine Rgh hT 2 [0, 6, 8] [] [(8, ⟨1, 38, 11, true, false, [.agg [vi 3, vw w22, vw w23, vi 0, vi 0, vi 0, vw w24, .ps .nil [], .ps .nil [], .ps .nil [], vz r2]]⟩), (0, ⟨0, 122, 4, true, false, [.agg [.ps .opt (s117.F a0.T), vi (wr (a0.At + 1)), vb a0.Fail, vi a0.Bad]]⟩), (6, ⟨1, 38, 11, true, false, [.agg [vi 0, vw w19, vw w20, vi 0, vi 0, vi 0, vw w21, .ps .nil [], .ps .nil [], .ps .nil [], vz c0]]⟩), (7, ⟨1, 124, 4, true, false, [eToken x1]⟩)] 2 ?_
          exact oK [0, 6, 8] [(0, 0, 0), (6, 6, 1), (8, 8, 1)] ⟨3, h, rfl⟩
        intro hb; replace h := cfalse hb h
        refine Qzd hT 2 [0, 6, 8, 67, 71] [(71, vb (bytesEq x1.Text k_goto))] ?_
        refine Cd (bytesEq x1.Text k_goto) ?_ ?_
        · intro hb; replace h := ctrue hb h
          refine Rgh hT 2 [0, 6, 8] [] [(8, ⟨1, 38, 11, true, false, [.agg [vi 9, vw w22, vw w23, vi 0, vi 0, vi 0, vw w24, .ps .nil [], .ps .nil [], .ps .nil [], vz r2]]⟩), (0, ⟨0, 122, 4, true, false, [.agg [.ps .opt (s117.F a0.T), vi (wr (a0.At + 1)), vb a0.Fail, vi a0.Bad]]⟩), (6, ⟨1, 38, 11, true, false, [.agg [vi 0, vw w19, vw w20, vi 0, vi 0, vi 0, vw w21, .ps .nil [], .ps .nil [], .ps .nil [], vz c0]]⟩), (7, ⟨1, 124, 4, true, false, [eToken x1]⟩)] 2 ?_
          exact oK [0, 6, 8] [(0, 0, 0), (6, 6, 1), (8, 8, 1)] ⟨9, h, rfl⟩
        intro hb; replace h := cfalse hb h
        refine Qzd hT 2 [0, 6, 8, 74] [(74, vb (bytesEq x1.Text k_label))] ?_
        refine Cd (bytesEq x1.Text k_label) ?_ ?_
        · intro hb; replace h := ctrue hb h
          refine Rg hT 2 [0, 6, 8] ⟨[(0, .box 0 0 0 0), (6, .box 6 1 0 0), (8, .box 8 1 0 0)], [(8, ⟨1, 38, 11, true, false, [.agg [vi 10, vw w22, vw w23, vi 0, vi 0, vi 0, vw w24, .ps .nil [], .ps .nil [], .ps .nil [], vz r2]]⟩), (0, ⟨0, 122, 4, true, false, [.agg [.ps .opt (s117.F a0.T), vi (wr (a0.At + 1)), vb a0.Fail, vi a0.Bad]]⟩), (6, ⟨1, 38, 11, true, false, [.agg [vi 0, vw w19, vw w20, vi 0, vi 0, vi 0, vw w21, .ps .nil [], .ps .nil [], .ps .nil [], vz c0]]⟩), (7, ⟨1, 124, 4, true, false, [eToken x1]⟩)], 2⟩ ?_
          exact oK [0, 6, 8] [(0, 0, 0), (6, 6, 1), (8, 8, 1)] ⟨10, h, rfl⟩
        intro hb; replace h := cfalse hb h
        exact sK [0, 6, 8] [(0, 0, 0), (6, 6, 1), (8, 8, 1)] ⟨2, h, rfl⟩
      subst hJ28
      rintro s ⟨i27, h, rfl⟩
      skip
      refine Rgd hT 1 [6, 8, 77] [(77, .box 0 0 0 0)] ?_
      obtain ⟨r29, hr29, h⟩ := bsome h
      refine WO_go' rfl (by kernel_rfl) [(0, ⟨0, 122, 4, true, false, [eReader (Reader.mk a0.T (wr (a0.At + 1)) a0.Fail a0.Bad)]⟩)] [(0, ⟨0, 122, 4, true, false, [eReader r29.2]⟩)] [.box 0 0 0 0] [.box 0 0 0 0] [(0, 0, 0)] [(0, 0, 0)] [(0, ⟨0, 122, 4, true, false, [eReader r29.2]⟩)] (vw r29.1) (vw r29.1) 3 rfl (by kernel_rfl) en104 (by kernel_rfl) (by kernel_rfl) (by kernel_rfl) (ref1_Reader_name_ok hr29) (by kernel_rfl) (by kernel_rfl) (by kernel_rfl) (by kernel_rfl) ?_
      refine Sgh hT 2 [6, 8] [] [(8, ⟨1, 38, 11, true, false, [.agg [vi i27, vw r29.1, vw w23, vi 0, vi 0, vi 0, vw w24, .ps .nil [], .ps .nil [], .ps .nil [], vz r2]]⟩), (0, ⟨0, 122, 4, true, false, [eReader r29.2]⟩), (6, ⟨1, 38, 11, true, false, [.agg [vi 0, vw w19, vw w20, vi 0, vi 0, vi 0, vw w21, .ps .nil [], .ps .nil [], .ps .nil [], vz c0]]⟩)] 3 ?_
      refine oW [6, 8] ⟨[(6, .box 6 1 0 0), (8, .box 8 1 0 0)], [(8, ⟨1, 38, 11, true, false, [.agg [vi i27, vw r29.1, vw w23, vi 0, vi 0, vi 0, vw w24, .ps .nil [], .ps .nil [], .ps .nil [], vz r2]]⟩), (0, ⟨0, 122, 4, true, false, [eReader r29.2]⟩), (6, ⟨1, 38, 11, true, false, [.agg [vi 0, vw w19, vw w20, vi 0, vi 0, vi 0, vw w21, .ps .nil [], .ps .nil [], .ps .nil [], vz c0]]⟩)], 3⟩ ?_
      refine WO_weak (Weak_ownH 8 5000 8 ⟨1, 38, 11, true, false, [.agg [vi i27, vw r29.1, vw w23, vi 0, vi 0, vi 0, vw w24, .ps .nil [], .ps .nil [], .ps .nil [], vz r2]]⟩ (.agg [vi i27, vw r29.1, vw w23, vi 0, vi 0, vi 0, vw w24, .ps .nil [], .ps .nil [], .ps .nil [], vz r2]) (.agg [vi i27, vw r29.1, vw w23, vi 0, vi 0, vi 0, vw w24, .ps .nil [], vo 5000 3 (s32.F ([] : List Stmt)), .ps .nil [], vz r2]) 38 11 (by kernel_rfl) (by kernel_rfl) (by kernel_rfl) (by kernel_rfl) (by kernel_rfl) (by kernel_rfl) (by kernel_rfl)) ?_
      refine WO_weak (Weak_ownH 8 5001 9 ⟨1, 38, 11, true, false, [.agg [vi i27, vw r29.1, vw w23, vi 0, vi 0, vi 0, vw w24, .ps .nil [], vo 5000 3 (s32.F ([] : List Stmt)), .ps .nil [], vz r2]]⟩ (.agg [vi i27, vw r29.1, vw w23, vi 0, vi 0, vi 0, vw w24, .ps .nil [], vo 5000 3 (s32.F ([] : List Stmt)), .ps .nil [], vz r2]) (.agg [vi i27, vw r29.1, vw w23, vi 0, vi 0, vi 0, vw w24, .ps .nil [], vo 5000 3 (s32.F ([] : List Stmt)), vo 5001 4 (s32.F ([] : List Stmt)), vz r2]) 38 11 (by kernel_rfl) (by kernel_rfl) (by kernel_rfl) (by kernel_rfl) (by kernel_rfl) (by kernel_rfl) (by kernel_rfl)) ?_
      refine WO_weak (Weak_leH [(6, .box 6 1 0 0), (8, .box 8 1 0 0)] [(5001, ⟨4, 38, 11, false, true, s32.F ([] : List Stmt)⟩), (8, ⟨1, 38, 11, true, false, [.agg [vi i27, vw r29.1, vw w23, vi 0, vi 0, vi 0, vw w24, .ps .opt (s33.F []), vo 5000 3 (s32.F ([] : List Stmt)), vo 5001 4 (s32.F ([] : List Stmt)), vz r2]]⟩), (5000, ⟨3, 38, 11, false, true, s32.F ([] : List Stmt)⟩), (0, ⟨0, 122, 4, true, false, [eReader r29.2]⟩), (6, ⟨1, 38, 11, true, false, [.agg [vi 0, vw w19, vw w20, vi 0, vi 0, vi 0, vw w21, .ps .nil [], .ps .nil [], .ps .nil [], vz c0]]⟩)] (by kernel_rfl) ⟨VLf.refl _, VLf.refl _, trivial⟩ ⟨rfl, .inl rfl, rfl, .inr (.inl ⟨rfl, rfl, CLe.agg ⟨VLf.refl _, VLf.refl _, VLf.refl _, VLf.refl _, VLf.refl _, VLf.refl _, VLf.refl _, (VLe.f VLe.nil_opt rfl), VLf.refl _, VLf.refl _, VLf.refl _, trivial⟩, trivial⟩), rfl, .inl rfl, rfl, .inl rfl, rfl, .inl rfl, trivial⟩) ?_
      exact oR [(0, 0, 0), (6, 6, 1), (8, 8, 1), (5000, 19508, 1), (5001, 20508, 1)] ⟨w19, w20, w21, i27, r29.1, w23, 0, 0, 0, w24, [], ([] : List Stmt), ([] : List Stmt), r29.2, h, rfl⟩
    intro hb; replace h := cfalse hb h
    refine Qzd hT 2 [0, 1, 2, 6, 7, 8, 38, 80] [(80, vb (bytesEq x1.Text k_send))] ?_
    refine Cd (bytesEq x1.Text k_send) ?_ ?_
    · intro hb; replace h := ctrue hb h
      refine Qzh hT 2 [0, 1, 6, 8] [] [(8, ⟨1, 38, 11, true, false, [.agg [vi 4, vw w22, vw w23, vi 0, vi 0, vi 0, vw w24, .ps .nil [], .ps .nil [], .ps .nil [], vz r2]]⟩), (0, ⟨0, 122, 4, true, false, [.agg [.ps .opt (s117.F a0.T), vi (wr (a0.At + 1)), vb a0.Fail, vi a0.Bad]]⟩), (6, ⟨1, 38, 11, true, false, [.agg [vi 0, vw w19, vw w20, vi 0, vi 0, vi 0, vw w21, .ps .nil [], .ps .nil [], .ps .nil [], vz c0]]⟩), (7, ⟨1, 124, 4, true, false, [eToken x1]⟩)] 2 ?_
      refine Qgd hT 1 [0, 1, 6, 8, 83] [(83, .box 0 0 0 0)] ?_
      obtain ⟨r30, hr30, h⟩ := bsome h
      refine WO_go' rfl (by kernel_rfl) [(0, ⟨0, 122, 4, true, false, [eReader (Reader.mk a0.T (wr (a0.At + 1)) a0.Fail a0.Bad)]⟩)] [(0, ⟨0, 122, 4, true, false, [eReader r30.2]⟩)] [.box 0 0 0 0] [.box 0 0 0 0] [(0, 0, 0)] [(0, 0, 0)] [(0, ⟨0, 122, 4, true, false, [eReader r30.2]⟩)] (vw r30.1) (vw r30.1) 3 rfl (by kernel_rfl) en104 (by kernel_rfl) (by kernel_rfl) (by kernel_rfl) (ref1_Reader_name_ok hr30) (by kernel_rfl) (by kernel_rfl) (by kernel_rfl) (by kernel_rfl) ?_
      refine Szh hT 2 [0, 1, 6, 8] [] [(8, ⟨1, 38, 11, true, false, [.agg [vi 4, vw r30.1, vw w23, vi 0, vi 0, vi 0, vw w24, .ps .nil [], .ps .nil [], .ps .nil [], vz r2]]⟩), (0, ⟨0, 122, 4, true, false, [eReader r30.2]⟩), (6, ⟨1, 38, 11, true, false, [.agg [vi 0, vw w19, vw w20, vi 0, vi 0, vi 0, vw w21, .ps .nil [], .ps .nil [], .ps .nil [], vz c0]]⟩), (7, ⟨1, 124, 4, true, false, [eToken x1]⟩)] 3 ?_
      refine Rgd hT 2 [6, 8, 86, 87] [(86, .box 0 0 0 0), (87, vw a1)] ?_
      obtain ⟨r31, hr31, h⟩ := bsome h
      refine WO_go' rfl (by kernel_rfl) [(0, ⟨0, 122, 4, true, false, [eReader r30.2]⟩)] [(0, ⟨0, 122, 4, true, false, [eReader r31.2]⟩)] [.box 0 0 0 0, vw a1] [.box 0 0 0 0, vw a1] [(0, 0, 0)] [(0, 0, 0)] [(0, ⟨0, 122, 4, true, false, [eReader r31.2]⟩)] (eExpr r31.1) (eExpr r31.1) 4 rfl (by kernel_rfl) en151 (by kernel_rfl) (by kernel_rfl) (by kernel_rfl) (ref1_Reader_whole_ok hr31) (by kernel_rfl) (by kernel_rfl) (by kernel_rfl) (by kernel_rfl) ?_
      refine Sgh hT 2 [6, 8] [] [(8, ⟨1, 38, 11, true, false, [.agg [vi 4, vw r30.1, vw w23, vi 0, vi r31.1.Kind, vi r31.1.N, vw r31.1.Name, .ps .opt (s33.F r31.1.Of), .ps .nil [], .ps .nil [], vz r2]]⟩), (0, ⟨0, 122, 4, true, false, [eReader r31.2]⟩), (6, ⟨1, 38, 11, true, false, [.agg [vi 0, vw w19, vw w20, vi 0, vi 0, vi 0, vw w21, .ps .nil [], .ps .nil [], .ps .nil [], vz c0]]⟩), (7, ⟨1, 124, 4, true, false, [eToken x1]⟩)] 4 ?_
      refine oW [6, 8] ⟨[(6, .box 6 1 0 0), (8, .box 8 1 0 0)], [(8, ⟨1, 38, 11, true, false, [.agg [vi 4, vw r30.1, vw w23, vi 0, vi r31.1.Kind, vi r31.1.N, vw r31.1.Name, .ps .opt (s33.F r31.1.Of), .ps .nil [], .ps .nil [], vz r2]]⟩), (0, ⟨0, 122, 4, true, false, [eReader r31.2]⟩), (6, ⟨1, 38, 11, true, false, [.agg [vi 0, vw w19, vw w20, vi 0, vi 0, vi 0, vw w21, .ps .nil [], .ps .nil [], .ps .nil [], vz c0]]⟩), (7, ⟨1, 124, 4, true, false, [eToken x1]⟩)], 4⟩ ?_
      refine WO_weak (Weak_ownH 8 5000 8 ⟨1, 38, 11, true, false, [.agg [vi 4, vw r30.1, vw w23, vi 0, vi r31.1.Kind, vi r31.1.N, vw r31.1.Name, .ps .opt (s33.F r31.1.Of), .ps .nil [], .ps .nil [], vz r2]]⟩ (.agg [vi 4, vw r30.1, vw w23, vi 0, vi r31.1.Kind, vi r31.1.N, vw r31.1.Name, .ps .opt (s33.F r31.1.Of), .ps .nil [], .ps .nil [], vz r2]) (.agg [vi 4, vw r30.1, vw w23, vi 0, vi r31.1.Kind, vi r31.1.N, vw r31.1.Name, .ps .opt (s33.F r31.1.Of), vo 5000 4 (s32.F ([] : List Stmt)), .ps .nil [], vz r2]) 38 11 (by kernel_rfl) (by kernel_rfl) (by kernel_rfl) (by kernel_rfl) (by kernel_rfl) (by kernel_rfl) (by kernel_rfl)) ?_
      refine WO_weak (Weak_ownH 8 5001 9 ⟨1, 38, 11, true, false, [.agg [vi 4, vw r30.1, vw w23, vi 0, vi r31.1.Kind, vi r31.1.N, vw r31.1.Name, .ps .opt (s33.F r31.1.Of), vo 5000 4 (s32.F ([] : List Stmt)), .ps .nil [], vz r2]]⟩ (.agg [vi 4, vw r30.1, vw w23, vi 0, vi r31.1.Kind, vi r31.1.N, vw r31.1.Name, .ps .opt (s33.F r31.1.Of), vo 5000 4 (s32.F ([] : List Stmt)), .ps .nil [], vz r2]) (.agg [vi 4, vw r30.1, vw w23, vi 0, vi r31.1.Kind, vi r31.1.N, vw r31.1.Name, .ps .opt (s33.F r31.1.Of), vo 5000 4 (s32.F ([] : List Stmt)), vo 5001 5 (s32.F ([] : List Stmt)), vz r2]) 38 11 (by kernel_rfl) (by kernel_rfl) (by kernel_rfl) (by kernel_rfl) (by kernel_rfl) (by kernel_rfl) (by kernel_rfl)) ?_
      exact oR [(0, 0, 0), (6, 6, 1), (8, 8, 1), (5000, 19508, 1), (5001, 20508, 1)] ⟨w19, w20, w21, 4, r30.1, w23, 0, r31.1.Kind, r31.1.N, r31.1.Name, r31.1.Of, ([] : List Stmt), ([] : List Stmt), r31.2, h, rfl⟩
    intro hb; replace h := cfalse hb h
    refine Qz hT 2 [0, 1, 2, 6, 7, 8, 38, 90] ⟨[(0, .box 0 0 0 0), (1, vw a1), (2, vi a2), (6, .box 6 1 0 0), (7, .box 7 1 0 0), (8, .box 8 1 0 0), (38, vw x1.Text), (90, vb (bytesEq x1.Text k_recv))], [(0, ⟨0, 122, 4, true, false, [.agg [.ps .opt (s117.F a0.T), vi (wr (a0.At + 1)), vb a0.Fail, vi a0.Bad]]⟩), (6, ⟨1, 38, 11, true, false, [.agg [vi 0, vw w19, vw w20, vi 0, vi 0, vi 0, vw w21, .ps .nil [], .ps .nil [], .ps .nil [], vz c0]]⟩), (7, ⟨1, 124, 4, true, false, [eToken x1]⟩), (8, ⟨1, 38, 11, true, false, [.agg [vi 0, vw w22, vw w23, vi 0, vi 0, vi 0, vw w24, .ps .nil [], .ps .nil [], .ps .nil [], vz r2]]⟩)], 2⟩ ?_
    refine Cd (bytesEq x1.Text k_recv) ?_ ?_
    · intro hb; replace h := ctrue hb h
      refine Qzh hT 2 [0, 6, 8] [] [(8, ⟨1, 38, 11, true, false, [.agg [vi 5, vw w22, vw w23, vi 0, vi 0, vi 0, vw w24, .ps .nil [], .ps .nil [], .ps .nil [], vz r2]]⟩), (0, ⟨0, 122, 4, true, false, [.agg [.ps .opt (s117.F a0.T), vi (wr (a0.At + 1)), vb a0.Fail, vi a0.Bad]]⟩), (6, ⟨1, 38, 11, true, false, [.agg [vi 0, vw w19, vw w20, vi 0, vi 0, vi 0, vw w21, .ps .nil [], .ps .nil [], .ps .nil [], vz c0]]⟩), (7, ⟨1, 124, 4, true, false, [eToken x1]⟩)] 2 ?_
      refine Qgd hT 1 [0, 6, 8, 93] [(93, .box 0 0 0 0)] ?_
      obtain ⟨r32, hr32, h⟩ := bsome h
      refine WO_go' rfl (by kernel_rfl) [(0, ⟨0, 122, 4, true, false, [eReader (Reader.mk a0.T (wr (a0.At + 1)) a0.Fail a0.Bad)]⟩)] [(0, ⟨0, 122, 4, true, false, [eReader r32.2]⟩)] [.box 0 0 0 0] [.box 0 0 0 0] [(0, 0, 0)] [(0, 0, 0)] [(0, ⟨0, 122, 4, true, false, [eReader r32.2]⟩)] (vw r32.1) (vw r32.1) 3 rfl (by kernel_rfl) en104 (by kernel_rfl) (by kernel_rfl) (by kernel_rfl) (ref1_Reader_name_ok hr32) (by kernel_rfl) (by kernel_rfl) (by kernel_rfl) (by kernel_rfl) ?_
      refine Szh hT 2 [0, 6, 8] [] [(8, ⟨1, 38, 11, true, false, [.agg [vi 5, vw r32.1, vw w23, vi 0, vi 0, vi 0, vw w24, .ps .nil [], .ps .nil [], .ps .nil [], vz r2]]⟩), (0, ⟨0, 122, 4, true, false, [eReader r32.2]⟩), (6, ⟨1, 38, 11, true, false, [.agg [vi 0, vw w19, vw w20, vi 0, vi 0, vi 0, vw w21, .ps .nil [], .ps .nil [], .ps .nil [], vz c0]]⟩), (7, ⟨1, 124, 4, true, false, [eToken x1]⟩)] 3 ?_
      refine Rgd hT 1 [6, 8, 96] [(96, .box 0 0 0 0)] ?_
      obtain ⟨r33, hr33, h⟩ := bsome h
      refine WO_go' rfl (by kernel_rfl) [(0, ⟨0, 122, 4, true, false, [eReader r32.2]⟩)] [(0, ⟨0, 122, 4, true, false, [eReader r33.2]⟩)] [.box 0 0 0 0] [.box 0 0 0 0] [(0, 0, 0)] [(0, 0, 0)] [(0, ⟨0, 122, 4, true, false, [eReader r33.2]⟩)] (vw r33.1) (vw r33.1) 4 rfl (by kernel_rfl) en104 (by kernel_rfl) (by kernel_rfl) (by kernel_rfl) (ref1_Reader_name_ok hr33) (by kernel_rfl) (by kernel_rfl) (by kernel_rfl) (by kernel_rfl) ?_
      refine Sgh hT 2 [6, 8] [] [(8, ⟨1, 38, 11, true, false, [.agg [vi 5, vw r32.1, vw r33.1, vi 0, vi 0, vi 0, vw w24, .ps .nil [], .ps .nil [], .ps .nil [], vz r2]]⟩), (0, ⟨0, 122, 4, true, false, [eReader r33.2]⟩), (6, ⟨1, 38, 11, true, false, [.agg [vi 0, vw w19, vw w20, vi 0, vi 0, vi 0, vw w21, .ps .nil [], .ps .nil [], .ps .nil [], vz c0]]⟩), (7, ⟨1, 124, 4, true, false, [eToken x1]⟩)] 4 ?_
      refine oW [6, 8] ⟨[(6, .box 6 1 0 0), (8, .box 8 1 0 0)], [(8, ⟨1, 38, 11, true, false, [.agg [vi 5, vw r32.1, vw r33.1, vi 0, vi 0, vi 0, vw w24, .ps .nil [], .ps .nil [], .ps .nil [], vz r2]]⟩), (0, ⟨0, 122, 4, true, false, [eReader r33.2]⟩), (6, ⟨1, 38, 11, true, false, [.agg [vi 0, vw w19, vw w20, vi 0, vi 0, vi 0, vw w21, .ps .nil [], .ps .nil [], .ps .nil [], vz c0]]⟩), (7, ⟨1, 124, 4, true, false, [eToken x1]⟩)], 4⟩ ?_
      refine WO_weak (Weak_ownH 8 5000 8 ⟨1, 38, 11, true, false, [.agg [vi 5, vw r32.1, vw r33.1, vi 0, vi 0, vi 0, vw w24, .ps .nil [], .ps .nil [], .ps .nil [], vz r2]]⟩ (.agg [vi 5, vw r32.1, vw r33.1, vi 0, vi 0, vi 0, vw w24, .ps .nil [], .ps .nil [], .ps .nil [], vz r2]) (.agg [vi 5, vw r32.1, vw r33.1, vi 0, vi 0, vi 0, vw w24, .ps .nil [], vo 5000 4 (s32.F ([] : List Stmt)), .ps .nil [], vz r2]) 38 11 (by kernel_rfl) (by kernel_rfl) (by kernel_rfl) (by kernel_rfl) (by kernel_rfl) (by kernel_rfl) (by kernel_rfl)) ?_
      refine WO_weak (Weak_ownH 8 5001 9 ⟨1, 38, 11, true, false, [.agg [vi 5, vw r32.1, vw r33.1, vi 0, vi 0, vi 0, vw w24, .ps .nil [], vo 5000 4 (s32.F ([] : List Stmt)), .ps .nil [], vz r2]]⟩ (.agg [vi 5, vw r32.1, vw r33.1, vi 0, vi 0, vi 0, vw w24, .ps .nil [], vo 5000 4 (s32.F ([] : List Stmt)), .ps .nil [], vz r2]) (.agg [vi 5, vw r32.1, vw r33.1, vi 0, vi 0, vi 0, vw w24, .ps .nil [], vo 5000 4 (s32.F ([] : List Stmt)), vo 5001 5 (s32.F ([] : List Stmt)), vz r2]) 38 11 (by kernel_rfl) (by kernel_rfl) (by kernel_rfl) (by kernel_rfl) (by kernel_rfl) (by kernel_rfl) (by kernel_rfl)) ?_
      refine WO_weak (Weak_leH [(6, .box 6 1 0 0), (8, .box 8 1 0 0)] [(5001, ⟨5, 38, 11, false, true, s32.F ([] : List Stmt)⟩), (8, ⟨1, 38, 11, true, false, [.agg [vi 5, vw r32.1, vw r33.1, vi 0, vi 0, vi 0, vw w24, .ps .opt (s33.F []), vo 5000 4 (s32.F ([] : List Stmt)), vo 5001 5 (s32.F ([] : List Stmt)), vz r2]]⟩), (5000, ⟨4, 38, 11, false, true, s32.F ([] : List Stmt)⟩), (0, ⟨0, 122, 4, true, false, [eReader r33.2]⟩), (6, ⟨1, 38, 11, true, false, [.agg [vi 0, vw w19, vw w20, vi 0, vi 0, vi 0, vw w21, .ps .nil [], .ps .nil [], .ps .nil [], vz c0]]⟩), (7, ⟨1, 124, 4, true, false, [eToken x1]⟩)] (by kernel_rfl) ⟨VLf.refl _, VLf.refl _, trivial⟩ ⟨rfl, .inl rfl, rfl, .inr (.inl ⟨rfl, rfl, CLe.agg ⟨VLf.refl _, VLf.refl _, VLf.refl _, VLf.refl _, VLf.refl _, VLf.refl _, VLf.refl _, (VLe.f VLe.nil_opt rfl), VLf.refl _, VLf.refl _, VLf.refl _, trivial⟩, trivial⟩), rfl, .inl rfl, rfl, .inl rfl, rfl, .inl rfl, rfl, .inl rfl, trivial⟩) ?_
      exact oR [(0, 0, 0), (6, 6, 1), (8, 8, 1), (5000, 19508, 1), (5001, 20508, 1)] ⟨w19, w20, w21, 5, r32.1, r33.1, 0, 0, 0, w24, [], ([] : List Stmt), ([] : List Stmt), r33.2, h, rfl⟩
    intro hb; replace h := cfalse hb h
    refine Qzd hT 2 [0, 1, 2, 6, 7, 8, 38, 99] [(99, vb (bytesEq x1.Text k_print))] ?_
    refine Cd (bytesEq x1.Text k_print) ?_ ?_
    · intro hb; replace h := ctrue hb h
      refine Qzh hT 2 [0, 1, 6, 8] [] [(8, ⟨1, 38, 11, true, false, [.agg [vi 6, vw w22, vw w23, vi 0, vi 0, vi 0, vw w24, .ps .nil [], .ps .nil [], .ps .nil [], vz r2]]⟩), (0, ⟨0, 122, 4, true, false, [.agg [.ps .opt (s117.F a0.T), vi (wr (a0.At + 1)), vb a0.Fail, vi a0.Bad]]⟩), (6, ⟨1, 38, 11, true, false, [.agg [vi 0, vw w19, vw w20, vi 0, vi 0, vi 0, vw w21, .ps .nil [], .ps .nil [], .ps .nil [], vz c0]]⟩), (7, ⟨1, 124, 4, true, false, [eToken x1]⟩)] 2 ?_
      refine Rgd hT 2 [6, 8, 102, 103] [(102, .box 0 0 0 0), (103, vw a1)] ?_
      obtain ⟨r34, hr34, h⟩ := bsome h
      refine WO_go' rfl (by kernel_rfl) [(0, ⟨0, 122, 4, true, false, [eReader (Reader.mk a0.T (wr (a0.At + 1)) a0.Fail a0.Bad)]⟩)] [(0, ⟨0, 122, 4, true, false, [eReader r34.2]⟩)] [.box 0 0 0 0, vw a1] [.box 0 0 0 0, vw a1] [(0, 0, 0)] [(0, 0, 0)] [(0, ⟨0, 122, 4, true, false, [eReader r34.2]⟩)] (eExpr r34.1) (eExpr r34.1) 3 rfl (by kernel_rfl) en151 (by kernel_rfl) (by kernel_rfl) (by kernel_rfl) (ref1_Reader_whole_ok hr34) (by kernel_rfl) (by kernel_rfl) (by kernel_rfl) (by kernel_rfl) ?_
      refine Sg hT 2 [6, 8] ⟨[(6, .box 6 1 0 0), (8, .box 8 1 0 0)], [(8, ⟨1, 38, 11, true, false, [.agg [vi 6, vw w22, vw w23, vi 0, vi r34.1.Kind, vi r34.1.N, vw r34.1.Name, .ps .opt (s33.F r34.1.Of), .ps .nil [], .ps .nil [], vz r2]]⟩), (0, ⟨0, 122, 4, true, false, [eReader r34.2]⟩), (6, ⟨1, 38, 11, true, false, [.agg [vi 0, vw w19, vw w20, vi 0, vi 0, vi 0, vw w21, .ps .nil [], .ps .nil [], .ps .nil [], vz c0]]⟩), (7, ⟨1, 124, 4, true, false, [eToken x1]⟩)], 3⟩ ?_
      refine oW [6, 8] ⟨[(6, .box 6 1 0 0), (8, .box 8 1 0 0)], [(8, ⟨1, 38, 11, true, false, [.agg [vi 6, vw w22, vw w23, vi 0, vi r34.1.Kind, vi r34.1.N, vw r34.1.Name, .ps .opt (s33.F r34.1.Of), .ps .nil [], .ps .nil [], vz r2]]⟩), (0, ⟨0, 122, 4, true, false, [eReader r34.2]⟩), (6, ⟨1, 38, 11, true, false, [.agg [vi 0, vw w19, vw w20, vi 0, vi 0, vi 0, vw w21, .ps .nil [], .ps .nil [], .ps .nil [], vz c0]]⟩), (7, ⟨1, 124, 4, true, false, [eToken x1]⟩)], 3⟩ ?_
      refine WO_weak (Weak_ownH 8 5000 8 ⟨1, 38, 11, true, false, [.agg [vi 6, vw w22, vw w23, vi 0, vi r34.1.Kind, vi r34.1.N, vw r34.1.Name, .ps .opt (s33.F r34.1.Of), .ps .nil [], .ps .nil [], vz r2]]⟩ (.agg [vi 6, vw w22, vw w23, vi 0, vi r34.1.Kind, vi r34.1.N, vw r34.1.Name, .ps .opt (s33.F r34.1.Of), .ps .nil [], .ps .nil [], vz r2]) (.agg [vi 6, vw w22, vw w23, vi 0, vi r34.1.Kind, vi r34.1.N, vw r34.1.Name, .ps .opt (s33.F r34.1.Of), vo 5000 3 (s32.F ([] : List Stmt)), .ps .nil [], vz r2]) 38 11 (by kernel_rfl) (by kernel_rfl) (by kernel_rfl) (by kernel_rfl) (by kernel_rfl) (by kernel_rfl) (by kernel_rfl)) ?_
      refine WO_weak (Weak_ownH 8 5001 9 ⟨1, 38, 11, true, false, [.agg [vi 6, vw w22, vw w23, vi 0, vi r34.1.Kind, vi r34.1.N, vw r34.1.Name, .ps .opt (s33.F r34.1.Of), vo 5000 3 (s32.F ([] : List Stmt)), .ps .nil [], vz r2]]⟩ (.agg [vi 6, vw w22, vw w23, vi 0, vi r34.1.Kind, vi r34.1.N, vw r34.1.Name, .ps .opt (s33.F r34.1.Of), vo 5000 3 (s32.F ([] : List Stmt)), .ps .nil [], vz r2]) (.agg [vi 6, vw w22, vw w23, vi 0, vi r34.1.Kind, vi r34.1.N, vw r34.1.Name, .ps .opt (s33.F r34.1.Of), vo 5000 3 (s32.F ([] : List Stmt)), vo 5001 4 (s32.F ([] : List Stmt)), vz r2]) 38 11 (by kernel_rfl) (by kernel_rfl) (by kernel_rfl) (by kernel_rfl) (by kernel_rfl) (by kernel_rfl) (by kernel_rfl)) ?_
      exact oR [(0, 0, 0), (6, 6, 1), (8, 8, 1), (5000, 19508, 1), (5001, 20508, 1)] ⟨w19, w20, w21, 6, w22, w23, 0, r34.1.Kind, r34.1.N, r34.1.Name, r34.1.Of, ([] : List Stmt), ([] : List Stmt), r34.2, h, rfl⟩
    intro hb; replace h := cfalse hb h
    refine Qzd hT 2 [0, 1, 2, 6, 7, 8, 38, 106] [(106, vb (bytesEq x1.Text k_if))] ?_
    refine Cd (bytesEq x1.Text k_if) ?_ ?_
    · intro hb; replace h := ctrue hb h
      refine Qzh hT 2 [0, 1, 2, 6, 8] [] [(8, ⟨1, 38, 11, true, false, [.agg [vi 7, vw w22, vw w23, vi 0, vi 0, vi 0, vw w24, .ps .nil [], .ps .nil [], .ps .nil [], vz r2]]⟩), (0, ⟨0, 122, 4, true, false, [.agg [.ps .opt (s117.F a0.T), vi (wr (a0.At + 1)), vb a0.Fail, vi a0.Bad]]⟩), (6, ⟨1, 38, 11, true, false, [.agg [vi 0, vw w19, vw w20, vi 0, vi 0, vi 0, vw w21, .ps .nil [], .ps .nil [], .ps .nil [], vz c0]]⟩), (7, ⟨1, 124, 4, true, false, [eToken x1]⟩)] 2 ?_
      refine Qgd hT 2 [0, 1, 2, 6, 8, 109, 110] [(109, .box 0 0 0 0), (110, vw a1)] ?_
      obtain ⟨r35, hr35, h⟩ := bsome h
      refine WO_go' rfl (by kernel_rfl) [(0, ⟨0, 122, 4, true, false, [eReader (Reader.mk a0.T (wr (a0.At + 1)) a0.Fail a0.Bad)]⟩)] [(0, ⟨0, 122, 4, true, false, [eReader r35.2]⟩)] [.box 0 0 0 0, vw a1] [.box 0 0 0 0, vw a1] [(0, 0, 0)] [(0, 0, 0)] [(0, ⟨0, 122, 4, true, false, [eReader r35.2]⟩)] (eExpr r35.1) (eExpr r35.1) 3 rfl (by kernel_rfl) en151 (by kernel_rfl) (by kernel_rfl) (by kernel_rfl) (ref1_Reader_whole_ok hr35) (by kernel_rfl) (by kernel_rfl) (by kernel_rfl) (by kernel_rfl) ?_
      refine Szh hT 2 [0, 1, 2, 6, 8] [] [(8, ⟨1, 38, 11, true, false, [.agg [vi 7, vw w22, vw w23, vi 0, vi r35.1.Kind, vi r35.1.N, vw r35.1.Name, .ps .opt (s33.F r35.1.Of), .ps .nil [], .ps .nil [], vz r2]]⟩), (0, ⟨0, 122, 4, true, false, [eReader r35.2]⟩), (6, ⟨1, 38, 11, true, false, [.agg [vi 0, vw w19, vw w20, vi 0, vi 0, vi 0, vw w21, .ps .nil [], .ps .nil [], .ps .nil [], vz c0]]⟩), (7, ⟨1, 124, 4, true, false, [eToken x1]⟩)] 3 ?_
      refine Qgd hT 4 [0, 1, 2, 6, 8, 113, 114, 116] [(113, .box 0 0 0 0), (114, vw a1), (116, vi (wr (a2 + 1)))] ?_
      obtain ⟨r36, hr36, h⟩ := bsome h
      refine WO_go' rfl (by kernel_rfl) [(0, ⟨0, 122, 4, true, false, [eReader r35.2]⟩)] [(0, ⟨0, 122, 4, true, false, [eReader r36.2]⟩), (100, ⟨1, 38, 11, false, true, s32.F r36.1⟩)] [.box 0 0 0 0, vw a1, vi (wr (a2 + 1))] [.box 0 0 0 0, vw a1, vi (wr (a2 + 1))] [(0, 0, 0)] [(100, 117, 3), (0, 0, 0)] [(117, ⟨3, 38, 11, false, true, s32.F r36.1⟩), (0, ⟨0, 122, 4, true, false, [eReader r36.2]⟩)] (vo 100 1 (s32.F r36.1)) (vo 117 3 (s32.F r36.1)) 4 rfl (by kernel_rfl) en107 (by kernel_rfl) (by kernel_rfl) (by kernel_rfl) ((ih _ (by omega)).2 hr36) (by kernel_rfl) (by kernel_rfl) (by kernel_rfl) (by kernel_rfl) ?_
      refine Szh hT 2 [0, 1, 2, 6, 8] [] [(8, ⟨1, 38, 11, true, false, [.agg [vi 7, vw w22, vw w23, vi 0, vi r35.1.Kind, vi r35.1.N, vw r35.1.Name, .ps .opt (s33.F r35.1.Of), vo 117 3 (s32.F r36.1), .ps .nil [], vz r2]]⟩), (117, ⟨3, 38, 11, false, true, s32.F r36.1⟩), (0, ⟨0, 122, 4, true, false, [eReader r36.2]⟩), (6, ⟨1, 38, 11, true, false, [.agg [vi 0, vw w19, vw w20, vi 0, vi 0, vi 0, vw w21, .ps .nil [], .ps .nil [], .ps .nil [], vz c0]]⟩), (7, ⟨1, 124, 4, true, false, [eToken x1]⟩)] 4 ?_
      refine Qgd hT 1 [0, 1, 2, 6, 8, 119] [(119, .box 0 0 0 0)] ?_
      obtain ⟨r37, hr37, h⟩ := bsome h
      refine WO_ptb' rfl (by kernel_rfl) [0] [.box 0 0 0 0, vw k_else] [.ref (eReader r36.2) 0, vw k_else] (vb r37) rfl (by kernel_rfl) en106 (by kernel_rfl) (by kernel_rfl) (by kernel_rfl) (ref1_Reader_word_ok hr37) (by kernel_rfl) ?_
      refine Szd hT 0 [0, 1, 2, 6, 8, 120] [(120, vb r37)] ?_
      refine Cd r37 ?_ ?_
      · intro hb; replace h := ctrue hb h
        refine Qz hT 8 [0, 1, 2, 6, 8] ⟨[(0, .box 0 0 0 0), (1, vw a1), (2, vi a2), (6, .box 6 1 0 0), (8, .box 8 1 0 0)], [(0, ⟨0, 122, 4, true, false, [.agg [.ps .opt (s117.F r36.2.T), vi (wr (r36.2.At + 1)), vb r36.2.Fail, vi r36.2.Bad]]⟩), (8, ⟨1, 38, 11, true, false, [.agg [vi 7, vw w22, vw w23, vi 0, vi r35.1.Kind, vi r35.1.N, vw r35.1.Name, .ps .opt (s33.F r35.1.Of), vo 117 3 (s32.F r36.1), .ps .nil [], vz r2]]⟩), (117, ⟨3, 38, 11, false, true, s32.F r36.1⟩), (6, ⟨1, 38, 11, true, false, [.agg [vi 0, vw w19, vw w20, vi 0, vi 0, vi 0, vw w21, .ps .nil [], .ps .nil [], .ps .nil [], vz c0]]⟩), (7, ⟨1, 124, 4, true, false, [eToken x1]⟩)], 4⟩ ?_
        refine Rgd hT 4 [6, 8, 128, 129, 131] [(128, .box 0 0 0 0), (129, vw a1), (131, vi (wr (a2 + 1)))] ?_
        obtain ⟨r38, hr38, h⟩ := bsome h
        refine WO_go' rfl (by kernel_rfl) [(0, ⟨0, 122, 4, true, false, [eReader (Reader.mk r36.2.T (wr (r36.2.At + 1)) r36.2.Fail r36.2.Bad)]⟩)] [(0, ⟨0, 122, 4, true, false, [eReader r38.2]⟩), (100, ⟨1, 38, 11, false, true, s32.F r38.1⟩)] [.box 0 0 0 0, vw a1, vi (wr (a2 + 1))] [.box 0 0 0 0, vw a1, vi (wr (a2 + 1))] [(0, 0, 0)] [(100, 132, 4), (0, 0, 0)] [(132, ⟨4, 38, 11, false, true, s32.F r38.1⟩), (0, ⟨0, 122, 4, true, false, [eReader r38.2]⟩)] (vo 100 1 (s32.F r38.1)) (vo 132 4 (s32.F r38.1)) 5 rfl (by kernel_rfl) en107 (by kernel_rfl) (by kernel_rfl) (by kernel_rfl) ((ih _ (by omega)).2 hr38) (by kernel_rfl) (by kernel_rfl) (by kernel_rfl) (by kernel_rfl) ?_
        refine Sgh hT 2 [6, 8] [] [(8, ⟨1, 38, 11, true, false, [.agg [vi 7, vw w22, vw w23, vi 0, vi r35.1.Kind, vi r35.1.N, vw r35.1.Name, .ps .opt (s33.F r35.1.Of), vo 117 3 (s32.F r36.1), vo 132 4 (s32.F r38.1), vz r2]]⟩), (132, ⟨4, 38, 11, false, true, s32.F r38.1⟩), (0, ⟨0, 122, 4, true, false, [eReader r38.2]⟩), (117, ⟨3, 38, 11, false, true, s32.F r36.1⟩), (6, ⟨1, 38, 11, true, false, [.agg [vi 0, vw w19, vw w20, vi 0, vi 0, vi 0, vw w21, .ps .nil [], .ps .nil [], .ps .nil [], vz c0]]⟩), (7, ⟨1, 124, 4, true, false, [eToken x1]⟩)] 5 ?_
        exact oK [6, 8] [(0, 0, 0), (6, 6, 1), (8, 8, 1), (117, 19508, 1), (132, 20508, 1)] ⟨w19, w20, w21, 7, w22, w23, 0, r35.1.Kind, r35.1.N, r35.1.Name, r35.1.Of, r36.1, r38.1, r38.2, h, rfl⟩
      intro hb; replace h := cfalse hb h
      refine aW [6, 8] ⟨[(6, .box 6 1 0 0), (8, .box 8 1 0 0)], [(8, ⟨1, 38, 11, true, false, [.agg [vi 7, vw w22, vw w23, vi 0, vi r35.1.Kind, vi r35.1.N, vw r35.1.Name, .ps .opt (s33.F r35.1.Of), vo 117 3 (s32.F r36.1), .ps .nil [], vz r2]]⟩), (117, ⟨3, 38, 11, false, true, s32.F r36.1⟩), (0, ⟨0, 122, 4, true, false, [eReader r36.2]⟩), (6, ⟨1, 38, 11, true, false, [.agg [vi 0, vw w19, vw w20, vi 0, vi 0, vi 0, vw w21, .ps .nil [], .ps .nil [], .ps .nil [], vz c0]]⟩), (7, ⟨1, 124, 4, true, false, [eToken x1]⟩)], 4⟩ ?_
      refine WA_weak (Weak_ownH 8 5000 9 ⟨1, 38, 11, true, false, [.agg [vi 7, vw w22, vw w23, vi 0, vi r35.1.Kind, vi r35.1.N, vw r35.1.Name, .ps .opt (s33.F r35.1.Of), vo 117 3 (s32.F r36.1), .ps .nil [], vz r2]]⟩ (.agg [vi 7, vw w22, vw w23, vi 0, vi r35.1.Kind, vi r35.1.N, vw r35.1.Name, .ps .opt (s33.F r35.1.Of), vo 117 3 (s32.F r36.1), .ps .nil [], vz r2]) (.agg [vi 7, vw w22, vw w23, vi 0, vi r35.1.Kind, vi r35.1.N, vw r35.1.Name, .ps .opt (s33.F r35.1.Of), vo 117 3 (s32.F r36.1), vo 5000 4 (s32.F ([] : List Stmt)), vz r2]) 38 11 (by kernel_rfl) (by kernel_rfl) (by kernel_rfl) (by kernel_rfl) (by kernel_rfl) (by kernel_rfl) (by kernel_rfl)) ?_
      exact sR [(0, 0, 0), (6, 6, 1), (8, 8, 1), (117, 19508, 1), (5000, 20508, 1)] ⟨w19, w20, w21, 7, w22, w23, 0, r35.1.Kind, r35.1.N, r35.1.Name, r35.1.Of, r36.1, ([] : List Stmt), r36.2, h, rfl⟩
    intro hb; replace h := cfalse hb h
    refine Qzd hT 2 [0, 1, 2, 6, 7, 8, 134] [(134, vb (bytesEq x1.Text k_repeat))] ?_
    refine Cd (bytesEq x1.Text k_repeat) ?_ ?_
    · intro hb; replace h := ctrue hb h
      refine Qzh hT 2 [0, 1, 2, 6, 8] [] [(8, ⟨1, 38, 11, true, false, [.agg [vi 8, vw w22, vw w23, vi 0, vi 0, vi 0, vw w24, .ps .nil [], .ps .nil [], .ps .nil [], vz r2]]⟩), (0, ⟨0, 122, 4, true, false, [.agg [.ps .opt (s117.F a0.T), vi (wr (a0.At + 1)), vb a0.Fail, vi a0.Bad]]⟩), (6, ⟨1, 38, 11, true, false, [.agg [vi 0, vw w19, vw w20, vi 0, vi 0, vi 0, vw w21, .ps .nil [], .ps .nil [], .ps .nil [], vz c0]]⟩), (7, ⟨1, 124, 4, true, false, [eToken x1]⟩)] 2 ?_
      refine Qgd hT 1 [0, 1, 2, 6, 8, 137] [(137, .box 0 0 0 0)] ?_
      obtain ⟨r39, hr39, h⟩ := bsome h
      refine WO_go' rfl (by kernel_rfl) [(0, ⟨0, 122, 4, true, false, [eReader (Reader.mk a0.T (wr (a0.At + 1)) a0.Fail a0.Bad)]⟩)] [(0, ⟨0, 122, 4, true, false, [eReader r39.2]⟩)] [.box 0 0 0 0, vi 9] [.box 0 0 0 0, vi 9] [(0, 0, 0)] [(0, 0, 0)] [(0, ⟨0, 122, 4, true, false, [eReader r39.2]⟩)] (vi r39.1) (vi r39.1) 3 rfl (by kernel_rfl) en105 (by kernel_rfl) (by kernel_rfl) (by kernel_rfl) (ref1_Reader_number_ok hr39) (by kernel_rfl) (by kernel_rfl) (by kernel_rfl) (by kernel_rfl) ?_
      refine Szh hT 2 [0, 1, 2, 6, 8] [] [(8, ⟨1, 38, 11, true, false, [.agg [vi 8, vw w22, vw w23, vi r39.1, vi 0, vi 0, vw w24, .ps .nil [], .ps .nil [], .ps .nil [], vz r2]]⟩), (0, ⟨0, 122, 4, true, false, [eReader r39.2]⟩), (6, ⟨1, 38, 11, true, false, [.agg [vi 0, vw w19, vw w20, vi 0, vi 0, vi 0, vw w21, .ps .nil [], .ps .nil [], .ps .nil [], vz c0]]⟩), (7, ⟨1, 124, 4, true, false, [eToken x1]⟩)] 3 ?_
      refine Rgd hT 4 [6, 8, 140, 141, 143] [(140, .box 0 0 0 0), (141, vw a1), (143, vi (wr (a2 + 1)))] ?_
      obtain ⟨r40, hr40, h⟩ := bsome h
      refine WO_go' rfl (by kernel_rfl) [(0, ⟨0, 122, 4, true, false, [eReader r39.2]⟩)] [(0, ⟨0, 122, 4, true, false, [eReader r40.2]⟩), (100, ⟨1, 38, 11, false, true, s32.F r40.1⟩)] [.box 0 0 0 0, vw a1, vi (wr (a2 + 1))] [.box 0 0 0 0, vw a1, vi (wr (a2 + 1))] [(0, 0, 0)] [(100, 144, 3), (0, 0, 0)] [(144, ⟨3, 38, 11, false, true, s32.F r40.1⟩), (0, ⟨0, 122, 4, true, false, [eReader r40.2]⟩)] (vo 100 1 (s32.F r40.1)) (vo 144 3 (s32.F r40.1)) 4 rfl (by kernel_rfl) en107 (by kernel_rfl) (by kernel_rfl) (by kernel_rfl) ((ih _ (by omega)).2 hr40) (by kernel_rfl) (by kernel_rfl) (by kernel_rfl) (by kernel_rfl) ?_
      refine Sgh hT 2 [6, 8] [] [(8, ⟨1, 38, 11, true, false, [.agg [vi 8, vw w22, vw w23, vi r39.1, vi 0, vi 0, vw w24, .ps .nil [], vo 144 3 (s32.F r40.1), .ps .nil [], vz r2]]⟩), (144, ⟨3, 38, 11, false, true, s32.F r40.1⟩), (0, ⟨0, 122, 4, true, false, [eReader r40.2]⟩), (6, ⟨1, 38, 11, true, false, [.agg [vi 0, vw w19, vw w20, vi 0, vi 0, vi 0, vw w21, .ps .nil [], .ps .nil [], .ps .nil [], vz c0]]⟩), (7, ⟨1, 124, 4, true, false, [eToken x1]⟩)] 4 ?_
      refine oW [6, 8] ⟨[(6, .box 6 1 0 0), (8, .box 8 1 0 0)], [(8, ⟨1, 38, 11, true, false, [.agg [vi 8, vw w22, vw w23, vi r39.1, vi 0, vi 0, vw w24, .ps .nil [], vo 144 3 (s32.F r40.1), .ps .nil [], vz r2]]⟩), (144, ⟨3, 38, 11, false, true, s32.F r40.1⟩), (0, ⟨0, 122, 4, true, false, [eReader r40.2]⟩), (6, ⟨1, 38, 11, true, false, [.agg [vi 0, vw w19, vw w20, vi 0, vi 0, vi 0, vw w21, .ps .nil [], .ps .nil [], .ps .nil [], vz c0]]⟩), (7, ⟨1, 124, 4, true, false, [eToken x1]⟩)], 4⟩ ?_
      refine WO_weak (Weak_ownH 8 5000 9 ⟨1, 38, 11, true, false, [.agg [vi 8, vw w22, vw w23, vi r39.1, vi 0, vi 0, vw w24, .ps .nil [], vo 144 3 (s32.F r40.1), .ps .nil [], vz r2]]⟩ (.agg [vi 8, vw w22, vw w23, vi r39.1, vi 0, vi 0, vw w24, .ps .nil [], vo 144 3 (s32.F r40.1), .ps .nil [], vz r2]) (.agg [vi 8, vw w22, vw w23, vi r39.1, vi 0, vi 0, vw w24, .ps .nil [], vo 144 3 (s32.F r40.1), vo 5000 4 (s32.F ([] : List Stmt)), vz r2]) 38 11 (by kernel_rfl) (by kernel_rfl) (by kernel_rfl) (by kernel_rfl) (by kernel_rfl) (by kernel_rfl) (by kernel_rfl)) ?_
      refine WO_weak (Weak_leH [(6, .box 6 1 0 0), (8, .box 8 1 0 0)] [(5000, ⟨4, 38, 11, false, true, s32.F ([] : List Stmt)⟩), (8, ⟨1, 38, 11, true, false, [.agg [vi 8, vw w22, vw w23, vi r39.1, vi 0, vi 0, vw w24, .ps .opt (s33.F []), vo 144 3 (s32.F r40.1), vo 5000 4 (s32.F ([] : List Stmt)), vz r2]]⟩), (144, ⟨3, 38, 11, false, true, s32.F r40.1⟩), (0, ⟨0, 122, 4, true, false, [eReader r40.2]⟩), (6, ⟨1, 38, 11, true, false, [.agg [vi 0, vw w19, vw w20, vi 0, vi 0, vi 0, vw w21, .ps .nil [], .ps .nil [], .ps .nil [], vz c0]]⟩), (7, ⟨1, 124, 4, true, false, [eToken x1]⟩)] (by kernel_rfl) ⟨VLf.refl _, VLf.refl _, trivial⟩ ⟨rfl, .inl rfl, rfl, .inr (.inl ⟨rfl, rfl, CLe.agg ⟨VLf.refl _, VLf.refl _, VLf.refl _, VLf.refl _, VLf.refl _, VLf.refl _, VLf.refl _, (VLe.f VLe.nil_opt rfl), VLf.refl _, VLf.refl _, VLf.refl _, trivial⟩, trivial⟩), rfl, .inl rfl, rfl, .inl rfl, rfl, .inl rfl, rfl, .inl rfl, trivial⟩) ?_
      exact oR [(0, 0, 0), (6, 6, 1), (8, 8, 1), (144, 19508, 1), (5000, 20508, 1)] ⟨w19, w20, w21, 8, w22, w23, r39.1, 0, 0, w24, [], r40.1, ([] : List Stmt), r40.2, h, rfl⟩
    intro hb; replace h := cfalse hb h
    refine WA_seq ?_
    refine Qg hT 2 [0, 1, 6, 7, 8, 40] ⟨[(0, .box 0 0 0 0), (1, vw a1), (6, .box 6 1 0 0), (7, .box 7 1 0 0), (8, .box 8 1 0 0), (40, vw x1.Text)], [(0, ⟨0, 122, 4, true, false, [.agg [.ps .opt (s117.F a0.T), vi (wr (a0.At + 1)), vb a0.Fail, vi a0.Bad]]⟩), (6, ⟨1, 38, 11, true, false, [.agg [vi 0, vw w19, vw w20, vi 0, vi 0, vi 0, vw w21, .ps .nil [], .ps .nil [], .ps .nil [], vz c0]]⟩), (7, ⟨1, 124, 4, true, false, [eToken x1]⟩), (8, ⟨1, 38, 11, true, false, [.agg [vi 0, vw w22, vw w23, vi 0, vi 0, vi 0, vw w24, .ps .nil [], .ps .nil [], .ps .nil [], vz r2]]⟩)], 2⟩ ?_
    obtain ⟨r41, hr41, h⟩ := bsome h
    refine Pt' en131 (ref1_Keyword_ok hr41) ?_
    refine Szd hT 0 [0, 1, 6, 7, 8, 41] [(41, vb r41)] ?_
    refine Cd r41 ?_ ?_
    · intro hb; replace h := ctrue hb h
      refine Qgd hT 6 [6, 8, 42, 47] [(42, .box 0 0 0 0), (47, vi (wr ((wr (a0.At + 1)) - 1)))] ?_
      obtain ⟨r42, hr42, h⟩ := bsome h
      refine WO_go' rfl (by kernel_rfl) [(0, ⟨0, 122, 4, true, false, [eReader (Reader.mk a0.T (wr (a0.At + 1)) a0.Fail a0.Bad)]⟩)] [(0, ⟨0, 122, 4, true, false, [eReader r42]⟩)] [.box 0 0 0 0, vi (wr ((wr (a0.At + 1)) - 1))] [.box 0 0 0 0, vi (wr ((wr (a0.At + 1)) - 1))] [(0, 0, 0)] [(0, 0, 0)] [(0, ⟨0, 122, 4, true, false, [eReader r42]⟩)] (.tup []) (.tup []) 3 rfl (by kernel_rfl) en130 (by kernel_rfl) (by kernel_rfl) (by kernel_rfl) (ref1_Reader_failAt_ok hr42) (by kernel_rfl) (by kernel_rfl) (by kernel_rfl) (by kernel_rfl) ?_
      refine Szh hT 0 [6, 8] [] [(0, ⟨0, 122, 4, true, false, [eReader r42]⟩), (6, ⟨1, 38, 11, true, false, [.agg [vi 0, vw w19, vw w20, vi 0, vi 0, vi 0, vw w21, .ps .nil [], .ps .nil [], .ps .nil [], vz c0]]⟩), (7, ⟨1, 124, 4, true, false, [eToken x1]⟩), (8, ⟨1, 38, 11, true, false, [.agg [vi 0, vw w22, vw w23, vi 0, vi 0, vi 0, vw w24, .ps .nil [], .ps .nil [], .ps .nil [], vz r2]]⟩)] 3 ?_
      refine Qz hT 2 [6] ⟨[(6, .box 6 1 0 0)], [(6, ⟨1, 38, 11, true, false, [.agg [vi 0, vw w22, vw w23, vi 0, vi 0, vi 0, vw w24, .ps .nil [], .ps .nil [], .ps .nil [], vz r2]]⟩), (0, ⟨0, 122, 4, true, false, [eReader r42]⟩), (7, ⟨1, 124, 4, true, false, [eToken x1]⟩), (8, ⟨1, 38, 11, true, false, [.agg [vi 0, vw w22, vw w23, vi 0, vi 0, vi 0, vw w24, .ps .nil [], .ps .nil [], .ps .nil [], vz r2]]⟩)], 3⟩ ?_
      refine aW [6] ⟨[(6, .box 6 1 0 0)], [(6, ⟨1, 38, 11, true, false, [.agg [vi 0, vw w22, vw w23, vi 0, vi 0, vi 0, vw w24, .ps .nil [], .ps .nil [], .ps .nil [], vz r2]]⟩), (0, ⟨0, 122, 4, true, false, [eReader r42]⟩), (7, ⟨1, 124, 4, true, false, [eToken x1]⟩), (8, ⟨1, 38, 11, true, false, [.agg [vi 0, vw w22, vw w23, vi 0, vi 0, vi 0, vw w24, .ps .nil [], .ps .nil [], .ps .nil [], vz r2]]⟩)], 3⟩ ?_
      refine WA_weak (Weak_leH [(6, .box 6 1 0 0)] [(6, ⟨1, 38, 11, true, false, [eStmt (Stmt.mk 0 w22 w23 0 (Expr.mk 0 0 w24 []) [] [] r2)]⟩), (0, ⟨0, 122, 4, true, false, [eReader r42]⟩), (7, ⟨1, 124, 4, true, false, [eToken x1]⟩), (8, ⟨1, 38, 11, true, false, [.agg [vi 0, vw w22, vw w23, vi 0, vi 0, vi 0, vw w24, .ps .nil [], .ps .nil [], .ps .nil [], vz r2]]⟩)] (by kernel_rfl) ⟨VLf.refl _, trivial⟩ ⟨rfl, .inr (.inl ⟨rfl, rfl, CLe.agg ⟨VLf.refl _, VLf.refl _, VLf.refl _, VLf.refl _, VLf.refl _, VLf.refl _, VLf.refl _, (VLe.f VLe.nil_opt rfl), (VLe.f VLe.nil_opt rfl), (VLe.f VLe.nil_opt rfl), VLf.refl _, trivial⟩, trivial⟩), rfl, .inl rfl, rfl, .inl rfl, rfl, .inl rfl, trivial⟩) ?_
      obtain rfl := Option.some.inj h
      exact rR [(0, 0, 0), (6, 1000, 1)] ⟨[(6, .box 1000 1 0 0)], [(0, ⟨0, 122, 4, true, false, [eReader r42]⟩), (1000, ⟨1, 38, 11, true, false, [eStmt (Stmt.mk 0 w22 w23 0 (Expr.mk 0 0 w24 []) [] [] r2)]⟩)], 2⟩ ⟨by kernel_rfl, by kernel_rfl, rfl⟩
    intro hb; replace h := cfalse hb h
    refine WA_skip ?_
    refine Qzh hT 2 [0, 1, 6, 7, 8] [] [(8, ⟨1, 38, 11, true, false, [.agg [vi 1, vw w22, vw w23, vi 0, vi 0, vi 0, vw w24, .ps .nil [], .ps .nil [], .ps .nil [], vz r2]]⟩), (0, ⟨0, 122, 4, true, false, [.agg [.ps .opt (s117.F a0.T), vi (wr (a0.At + 1)), vb a0.Fail, vi a0.Bad]]⟩), (6, ⟨1, 38, 11, true, false, [.agg [vi 0, vw w19, vw w20, vi 0, vi 0, vi 0, vw w21, .ps .nil [], .ps .nil [], .ps .nil [], vz c0]]⟩), (7, ⟨1, 124, 4, true, false, [eToken x1]⟩)] 2 ?_
    refine Qzh hT 4 [0, 1, 6, 8] [] [(8, ⟨1, 38, 11, true, false, [.agg [vi 1, vw x1.Text, vw w23, vi 0, vi 0, vi 0, vw w24, .ps .nil [], .ps .nil [], .ps .nil [], vz r2]]⟩), (0, ⟨0, 122, 4, true, false, [.agg [.ps .opt (s117.F a0.T), vi (wr (a0.At + 1)), vb a0.Fail, vi a0.Bad]]⟩), (6, ⟨1, 38, 11, true, false, [.agg [vi 0, vw w19, vw w20, vi 0, vi 0, vi 0, vw w21, .ps .nil [], .ps .nil [], .ps .nil [], vz c0]]⟩), (7, ⟨1, 124, 4, true, false, [eToken x1]⟩)] 2 ?_
    refine Qgd hT 1 [0, 1, 6, 8, 54] [(54, .box 0 0 0 0)] ?_
    obtain ⟨r43, hr43, h⟩ := bsome h
    refine WO_go' rfl (by kernel_rfl) [(0, ⟨0, 122, 4, true, false, [eReader (Reader.mk a0.T (wr (a0.At + 1)) a0.Fail a0.Bad)]⟩)] [(0, ⟨0, 122, 4, true, false, [eReader r43]⟩)] [.box 0 0 0 0, vw tx41] [.box 0 0 0 0, vw tx41] [(0, 0, 0)] [(0, 0, 0)] [(0, ⟨0, 122, 4, true, false, [eReader r43]⟩)] (.tup []) (.tup []) 3 rfl (by kernel_rfl) en132 (by kernel_rfl) (by kernel_rfl) (by kernel_rfl) (ref1_Reader_must_ok hr43) (by kernel_rfl) (by kernel_rfl) (by kernel_rfl) (by kernel_rfl) ?_
    refine Szh hT 0 [0, 1, 6, 8] [] [(0, ⟨0, 122, 4, true, false, [eReader r43]⟩), (8, ⟨1, 38, 11, true, false, [.agg [vi 1, vw x1.Text, vw w23, vi 0, vi 0, vi 0, vw w24, .ps .nil [], .ps .nil [], .ps .nil [], vz r2]]⟩), (6, ⟨1, 38, 11, true, false, [.agg [vi 0, vw w19, vw w20, vi 0, vi 0, vi 0, vw w21, .ps .nil [], .ps .nil [], .ps .nil [], vz c0]]⟩), (7, ⟨1, 124, 4, true, false, [eToken x1]⟩)] 3 ?_
    refine Rgd hT 2 [6, 8, 56, 57] [(56, .box 0 0 0 0), (57, vw a1)] ?_
    obtain ⟨r44, hr44, h⟩ := bsome h
    refine WO_go' rfl (by kernel_rfl) [(0, ⟨0, 122, 4, true, false, [eReader r43]⟩)] [(0, ⟨0, 122, 4, true, false, [eReader r44.2]⟩)] [.box 0 0 0 0, vw a1] [.box 0 0 0 0, vw a1] [(0, 0, 0)] [(0, 0, 0)] [(0, ⟨0, 122, 4, true, false, [eReader r44.2]⟩)] (eExpr r44.1) (eExpr r44.1) 4 rfl (by kernel_rfl) en151 (by kernel_rfl) (by kernel_rfl) (by kernel_rfl) (ref1_Reader_whole_ok hr44) (by kernel_rfl) (by kernel_rfl) (by kernel_rfl) (by kernel_rfl) ?_
    refine Sgh hT 2 [6, 8] [] [(8, ⟨1, 38, 11, true, false, [.agg [vi 1, vw x1.Text, vw w23, vi 0, vi r44.1.Kind, vi r44.1.N, vw r44.1.Name, .ps .opt (s33.F r44.1.Of), .ps .nil [], .ps .nil [], vz r2]]⟩), (0, ⟨0, 122, 4, true, false, [eReader r44.2]⟩), (6, ⟨1, 38, 11, true, false, [.agg [vi 0, vw w19, vw w20, vi 0, vi 0, vi 0, vw w21, .ps .nil [], .ps .nil [], .ps .nil [], vz c0]]⟩), (7, ⟨1, 124, 4, true, false, [eToken x1]⟩)] 4 ?_
    refine oW [6, 8] ⟨[(6, .box 6 1 0 0), (8, .box 8 1 0 0)], [(8, ⟨1, 38, 11, true, false, [.agg [vi 1, vw x1.Text, vw w23, vi 0, vi r44.1.Kind, vi r44.1.N, vw r44.1.Name, .ps .opt (s33.F r44.1.Of), .ps .nil [], .ps .nil [], vz r2]]⟩), (0, ⟨0, 122, 4, true, false, [eReader r44.2]⟩), (6, ⟨1, 38, 11, true, false, [.agg [vi 0, vw w19, vw w20, vi 0, vi 0, vi 0, vw w21, .ps .nil [], .ps .nil [], .ps .nil [], vz c0]]⟩), (7, ⟨1, 124, 4, true, false, [eToken x1]⟩)], 4⟩ ?_
    refine WO_weak (Weak_ownH 8 5000 8 ⟨1, 38, 11, true, false, [.agg [vi 1, vw x1.Text, vw w23, vi 0, vi r44.1.Kind, vi r44.1.N, vw r44.1.Name, .ps .opt (s33.F r44.1.Of), .ps .nil [], .ps .nil [], vz r2]]⟩ (.agg [vi 1, vw x1.Text, vw w23, vi 0, vi r44.1.Kind, vi r44.1.N, vw r44.1.Name, .ps .opt (s33.F r44.1.Of), .ps .nil [], .ps .nil [], vz r2]) (.agg [vi 1, vw x1.Text, vw w23, vi 0, vi r44.1.Kind, vi r44.1.N, vw r44.1.Name, .ps .opt (s33.F r44.1.Of), vo 5000 4 (s32.F ([] : List Stmt)), .ps .nil [], vz r2]) 38 11 (by kernel_rfl) (by kernel_rfl) (by kernel_rfl) (by kernel_rfl) (by kernel_rfl) (by kernel_rfl) (by kernel_rfl)) ?_
    refine WO_weak (Weak_ownH 8 5001 9 ⟨1, 38, 11, true, false, [.agg [vi 1, vw x1.Text, vw w23, vi 0, vi r44.1.Kind, vi r44.1.N, vw r44.1.Name, .ps .opt (s33.F r44.1.Of), vo 5000 4 (s32.F ([] : List Stmt)), .ps .nil [], vz r2]]⟩ (.agg [vi 1, vw x1.Text, vw w23, vi 0, vi r44.1.Kind, vi r44.1.N, vw r44.1.Name, .ps .opt (s33.F r44.1.Of), vo 5000 4 (s32.F ([] : List Stmt)), .ps .nil [], vz r2]) (.agg [vi 1, vw x1.Text, vw w23, vi 0, vi r44.1.Kind, vi r44.1.N, vw r44.1.Name, .ps .opt (s33.F r44.1.Of), vo 5000 4 (s32.F ([] : List Stmt)), vo 5001 5 (s32.F ([] : List Stmt)), vz r2]) 38 11 (by kernel_rfl) (by kernel_rfl) (by kernel_rfl) (by kernel_rfl) (by kernel_rfl) (by kernel_rfl) (by kernel_rfl)) ?_
    exact oR [(0, 0, 0), (6, 6, 1), (8, 8, 1), (5000, 19508, 1), (5001, 20508, 1)] ⟨w19, w20, w21, 1, x1.Text, w23, 0, r44.1.Kind, r44.1.N, r44.1.Name, r44.1.Of, ([] : List Stmt), ([] : List Stmt), r44.2, h, rfl⟩
  subst hJ18
  rintro s ⟨w4, w5, w6, i7, w8, w9, i10, i11, i12, w13, l14, l15, l16, v17, h, rfl⟩
  refine Qz hT 2 [6] ⟨[(6, .box 6 1 0 0)], [(6, ⟨1, 38, 11, true, false, [.agg [vi i7, vw w8, vw w9, vi i10, vi i11, vi i12, vw w13, .ps .opt (s33.F l14), vo 19508 1 (s32.F l15), vo 20508 1 (s32.F l16), vz r2]]⟩), (0, ⟨0, 122, 4, true, false, [eReader v17]⟩), (8, ⟨1, 38, 11, true, false, [.agg [vi i7, vw w8, vw w9, vi i10, vi i11, vi i12, vw w13, .ps .opt (s33.F l14), vo 19508 1 (s32.F l15), vo 20508 1 (s32.F l16), vz r2]]⟩), (19508, ⟨1, 38, 11, false, true, s32.F l15⟩), (20508, ⟨1, 38, 11, false, true, s32.F l16⟩)], 2⟩ ?_
  refine aW [6] ⟨[(6, .box 6 1 0 0)], [(6, ⟨1, 38, 11, true, false, [.agg [vi i7, vw w8, vw w9, vi i10, vi i11, vi i12, vw w13, .ps .opt (s33.F l14), vo 19508 1 (s32.F l15), vo 20508 1 (s32.F l16), vz r2]]⟩), (0, ⟨0, 122, 4, true, false, [eReader v17]⟩), (8, ⟨1, 38, 11, true, false, [.agg [vi i7, vw w8, vw w9, vi i10, vi i11, vi i12, vw w13, .ps .opt (s33.F l14), vo 19508 1 (s32.F l15), vo 20508 1 (s32.F l16), vz r2]]⟩), (19508, ⟨1, 38, 11, false, true, s32.F l15⟩), (20508, ⟨1, 38, 11, false, true, s32.F l16⟩)], 2⟩ ?_
  refine WA_weak (Weak_frz 19508 1 ⟨1, 38, 11, false, true, s32.F l15⟩ (by kernel_rfl) rfl rfl [(6, .box 6 1 0 0)] [(6, ⟨1, 38, 11, true, false, [.agg [vi i7, vw w8, vw w9, vi i10, vi i11, vi i12, vw w13, .ps .opt (s33.F l14), .ps .opt (s32.F l15), vo 20508 1 (s32.F l16), vz r2]]⟩), (0, ⟨0, 122, 4, true, false, [eReader v17]⟩), (8, ⟨1, 38, 11, true, false, [.agg [vi i7, vw w8, vw w9, vi i10, vi i11, vi i12, vw w13, .ps .opt (s33.F l14), .ps .opt (s32.F l15), vo 20508 1 (s32.F l16), vz r2]]⟩), (20508, ⟨1, 38, 11, false, true, s32.F l16⟩)] ⟨rfl, .keep _, trivial⟩ ⟨rfl, .inr ⟨rfl, rfl, .aggs ⟨.keep _, .keep _, .keep _, .keep _, .keep _, .keep _, .keep _, .keep _, .hit true, .keep _, .keep _, trivial⟩, trivial⟩, rfl, .inl rfl, rfl, .inr ⟨rfl, rfl, .aggs ⟨.keep _, .keep _, .keep _, .keep _, .keep _, .keep _, .keep _, .keep _, .hit true, .keep _, .keep _, trivial⟩, trivial⟩, rfl, .inl rfl, trivial⟩) ?_
  refine WA_weak (Weak_frz 20508 1 ⟨1, 38, 11, false, true, s32.F l16⟩ (by kernel_rfl) rfl rfl [(6, .box 6 1 0 0)] [(6, ⟨1, 38, 11, true, false, [.agg [vi i7, vw w8, vw w9, vi i10, vi i11, vi i12, vw w13, .ps .opt (s33.F l14), .ps .opt (s32.F l15), .ps .opt (s32.F l16), vz r2]]⟩), (0, ⟨0, 122, 4, true, false, [eReader v17]⟩), (8, ⟨1, 38, 11, true, false, [.agg [vi i7, vw w8, vw w9, vi i10, vi i11, vi i12, vw w13, .ps .opt (s33.F l14), .ps .opt (s32.F l15), .ps .opt (s32.F l16), vz r2]]⟩)] ⟨rfl, .keep _, trivial⟩ ⟨rfl, .inr ⟨rfl, rfl, .aggs ⟨.keep _, .keep _, .keep _, .keep _, .keep _, .keep _, .keep _, .keep _, .keep _, .hit true, .keep _, trivial⟩, trivial⟩, rfl, .inl rfl, rfl, .inr ⟨rfl, rfl, .aggs ⟨.keep _, .keep _, .keep _, .keep _, .keep _, .keep _, .keep _, .keep _, .keep _, .hit true, .keep _, trivial⟩, trivial⟩, trivial⟩) ?_
  refine WA_weak (Weak_leH [(6, .box 6 1 0 0)] [(6, ⟨1, 38, 11, true, false, [eStmt (Stmt.mk i7 w8 w9 i10 (Expr.mk i11 i12 w13 l14) l15 l16 r2)]⟩), (0, ⟨0, 122, 4, true, false, [eReader v17]⟩), (8, ⟨1, 38, 11, true, false, [.agg [vi i7, vw w8, vw w9, vi i10, vi i11, vi i12, vw w13, .ps .opt (s33.F l14), .ps .opt (s32.F l15), .ps .opt (s32.F l16), vz r2]]⟩)] (by kernel_rfl) ⟨VLf.refl _, trivial⟩ ⟨rfl, .inr (.inl ⟨rfl, rfl, CLe.agg ⟨VLf.refl _, VLf.refl _, VLf.refl _, VLf.refl _, VLf.refl _, VLf.refl _, VLf.refl _, VLf.refl _, VLf.refl _, VLf.refl _, VLf.refl _, trivial⟩, trivial⟩), rfl, .inl rfl, rfl, .inl rfl, trivial⟩) ?_
  obtain rfl := Option.some.inj h
  exact rR [(0, 0, 0), (6, 1000, 1)] ⟨[(6, .box 1000 1 0 0)], [(0, ⟨0, 122, 4, true, false, [eReader v17]⟩), (1000, ⟨1, 38, 11, true, false, [eStmt (Stmt.mk i7 w8 w9 i10 (Expr.mk i11 i12 w13 l14) l15 l16 r2)]⟩)], 2⟩ ⟨by kernel_rfl, by kernel_rfl, rfl⟩
theorem ref1_Reader_block_step (n : Nat) (ih : ∀ m, m < n → ref1_Reader_stmt_spec m) : ∀ {a0 : Reader} {a1 : ByteArray} {a2 : Int} {r : (List Stmt) × Reader}, ref1_Reader_block n a0 a1 a2 = some r → GO Try.prog 107 [(0, ⟨0, 122, 4, true, false, [eReader a0]⟩)] [.box 0 0 0 0, vw a1, vi a2] (vo 100 1 (s32.F r.1)) [(0, ⟨0, 122, 4, true, false, [eReader r.2]⟩), (100, ⟨1, 38, 11, false, true, s32.F r.1⟩)] := by
  intro a0 a1 a2 r h
  rcases n with _ | n
  · rw [ref1_Reader_block] at h; cases h
  rw [ref1_Reader_block] at h
  refine GO_bodyA hT Try.func107 rfl [] (by kernel_rfl) fun bad w m => ?_
  refine Qzd hT 1 [0, 1, 2] [] ?_
  refine WA_seq ?_
  refine Qzd hT 2 [0, 1, 2, 10] [(10, vb (decide (a2 > 8)))] ?_
  obtain ⟨J2, hJ2, h⟩ := jsome h
  refine WA_join (fun s => ∃ (v1 : Reader), J2 v1 = some r ∧ s = ⟨[(0, .box 0 0 0 0), (1, vw a1), (2, vi a2)], [(0, ⟨0, 122, 4, true, false, [eReader v1]⟩)], 2⟩) ?_ ?_
  · refine Cd (decide (a2 > 8)) ?_ ?_
    · intro hb; replace h := ctrue hb h
      refine Rgd hT 1 [0, 1, 2, 11] [(11, .box 0 0 0 0)] ?_
      obtain ⟨r3, hr3, h⟩ := bsome h
      refine WO_go' rfl (by kernel_rfl) [(0, ⟨0, 122, 4, true, false, [eReader a0]⟩)] [(0, ⟨0, 122, 4, true, false, [eReader r3]⟩)] [.box 0 0 0 0] [.box 0 0 0 0] [(0, 0, 0)] [(0, 0, 0)] [(0, ⟨0, 122, 4, true, false, [eReader r3]⟩)] (.tup []) (.tup []) 2 rfl (by kernel_rfl) en103 (by kernel_rfl) (by kernel_rfl) (by kernel_rfl) (ref1_Reader_fail_ok hr3) (by kernel_rfl) (by kernel_rfl) (by kernel_rfl) (by kernel_rfl) ?_
      refine Sgh hT 0 [0, 1, 2] [] [(0, ⟨0, 122, 4, true, false, [eReader r3]⟩)] 2 ?_
      exact oK [0, 1, 2] [(0, 0, 0)] ⟨r3, h, rfl⟩
    intro hb; replace h := cfalse hb h
    exact sK [0, 1, 2] [(0, 0, 0)] ⟨a0, h, rfl⟩
  subst hJ2
  rintro s ⟨v1, h, rfl⟩
  refine Qgd hT 1 [0, 1, 2, 13] [(13, .box 0 0 0 0)] ?_
  obtain ⟨r4, hr4, h⟩ := bsome h
  refine WO_go' rfl (by kernel_rfl) [(0, ⟨0, 122, 4, true, false, [eReader v1]⟩)] [(0, ⟨0, 122, 4, true, false, [eReader r4]⟩)] [.box 0 0 0 0, vw tx31] [.box 0 0 0 0, vw tx31] [(0, 0, 0)] [(0, 0, 0)] [(0, ⟨0, 122, 4, true, false, [eReader r4]⟩)] (.tup []) (.tup []) 3 rfl (by kernel_rfl) en132 (by kernel_rfl) (by kernel_rfl) (by kernel_rfl) (ref1_Reader_must_ok hr4) (by kernel_rfl) (by kernel_rfl) (by kernel_rfl) (by kernel_rfl) ?_
  refine Szh hT 0 [0, 1, 2] [] [(0, ⟨0, 122, 4, true, false, [eReader r4]⟩)] 3 ?_
  refine Qz hT 1 [0, 1, 2, 7] ⟨[(0, .box 0 0 0 0), (1, vw a1), (2, vi a2), (7, .ps .nil [])], [(0, ⟨0, 122, 4, true, false, [eReader r4]⟩)], 3⟩ ?_
  refine WA_seq ?_
  refine WA_block ?_
  refine aW [0, 1, 2, 7] ⟨[(0, .box 0 0 0 0), (1, vw a1), (2, vi a2), (7, .ps .nil [])], [(0, ⟨0, 122, 4, true, false, [eReader r4]⟩)], 3⟩ ?_
  refine WA_weak (Weak_own 7 5000 38 11 (by kernel_rfl) (by kernel_rfl) (by kernel_rfl) (by kernel_rfl)) ?_
  refine lK [0, 1, 2, 7] [(0, 0, 0), (5000, 10007, 1)] (fun k s => ∃ q, q ≤ k ∧ q ≤ n ∧ ∃ (v5 : Reader), ∃ (l6 : List Stmt), ref1_Reader_block_L0 q a0 a1 a2 v1 r4 v5 l6 = some r ∧ s = ⟨[(0, .box 0 0 0 0), (1, vw a1), (2, vi a2), (7, vo 10007 1 (s32.F l6))], [(0, ⟨0, 122, 4, true, false, [eReader v5]⟩), (10007, ⟨1, 38, 11, false, true, s32.F l6⟩)], 2⟩) n ⟨n, Nat.le_refl _, Nat.le_refl _, r4, ([] : List Stmt), h, rfl⟩ (by rintro s ⟨q, hq, _, v5, l6, h, _⟩; obtain rfl := Nat.le_zero.1 hq; rw [ref1_Reader_block_L0] at h; cases h) ?_
  clear h
  rintro k1 s ⟨q1, hk1, hn1, v5, l6, h, rfl⟩
  rcases q1 with _ | q1
  · rw [ref1_Reader_block_L0] at h; cases h
  rw [ref1_Reader_block_L0] at h
  refine WA_seq ?_
  refine WA_seq ?_
  obtain ⟨J8, hJ8, h⟩ := jsome h
  refine WA_join (fun s => ∃ (b7 : Bool), J8 b7 = some r ∧ s = ⟨[(0, .box 0 0 0 0), (1, vw a1), (2, vi a2), (7, vo 10007 1 (s32.F l6)), (24, vb b7)], [(0, ⟨0, 122, 4, true, false, [eReader v5]⟩), (10007, ⟨1, 38, 11, false, true, s32.F l6⟩)], 2⟩) ?_ ?_
  · refine Rgd hT 6 [0, 1, 2, 7, 20] [(20, vb (!v5.Fail))] ?_
    cases hb : (!v5.Fail : Bool)
    · replace h := cfalse hb h
      refine Sgd hT 4 [0, 1, 2, 7, 24] [(24, vb false)] ?_
      exact oK [0, 1, 2, 7, 24] [(0, 0, 0), (10007, 10007, 1)] ⟨false, h, rfl⟩
    replace h := ctrue hb h
    refine Sgd hT 1 [0, 1, 2, 7, 20, 21] [(21, .box 0 0 0 0)] ?_
    obtain ⟨r9, hr9, h⟩ := bsome h
    refine WO_ptb' rfl (by kernel_rfl) [0] [.box 0 0 0 0, vw tx32] [.ref (eReader v5) 0, vw tx32] (vb r9) rfl (by kernel_rfl) en133 (by kernel_rfl) (by kernel_rfl) (by kernel_rfl) (ref1_Reader_sign_ok hr9) (by kernel_rfl) ?_
    refine Sg hT 2 [0, 1, 2, 7, 24] ⟨[(0, .box 0 0 0 0), (1, vw a1), (2, vi a2), (7, vo 10007 1 (s32.F l6)), (24, vb (!r9))], [(0, ⟨0, 122, 4, true, false, [eReader v5]⟩), (10007, ⟨1, 38, 11, false, true, s32.F l6⟩)], 2⟩ ?_
    exact oK [0, 1, 2, 7, 24] [(0, 0, 0), (10007, 10007, 1)] ⟨!r9, h, rfl⟩
  subst hJ8
  rintro s ⟨b7, h, rfl⟩
  refine Cd b7 ?_ ?_
  · intro hb; replace h := ctrue hb h
    refine WA_skip ?_
    refine WA_block ?_
    refine Qgd hT 3 [0, 1, 2, 7, 25, 26, 27] [(25, .box 0 0 0 0), (26, vw a1), (27, vi a2)] ?_
    obtain ⟨r10, hr10, h⟩ := bsome h
    refine WO_go' rfl (by kernel_rfl) [(0, ⟨0, 122, 4, true, false, [eReader v5]⟩)] [(0, ⟨0, 122, 4, true, false, [eReader r10.2]⟩)] [.box 0 0 0 0, vw a1, vi a2] [.box 0 0 0 0, vw a1, vi a2] [(0, 0, 0)] [(0, 0, 0)] [(0, ⟨0, 122, 4, true, false, [eReader r10.2]⟩)] (eStmt r10.1) (eStmt r10.1) 3 rfl (by kernel_rfl) en134 (by kernel_rfl) (by kernel_rfl) (by kernel_rfl) ((ih _ (by omega)).1 hr10) (by kernel_rfl) (by kernel_rfl) (by kernel_rfl) (by kernel_rfl) ?_
    refine Szh hT 2 [0, 1, 2, 7, 8] [(8, .box 8 3 0 0)] [(8, ⟨3, 38, 11, true, false, [eStmt r10.1]⟩), (0, ⟨0, 122, 4, true, false, [eReader r10.2]⟩), (10007, ⟨1, 38, 11, false, true, s32.F l6⟩)] 4 ?_
    refine Qzd hT 5 [0, 1, 2, 7, 8, 33] [(33, vb (!r10.2.Fail))] ?_
    refine Cd (!r10.2.Fail) ?_ ?_
    · intro hb; replace h := ctrue hb h
      refine Rgd hT 2 [0, 1, 2, 34, 35] [(34, vo 10007 1 (s32.F l6)), (35, eStmt r10.1)] ?_
      refine One' hT rfl (ev_bslice s32 36 [r10.1] (by kernel_rfl)) ?_
      refine Sgh hT 0 [0, 1, 2, 34, 36] [(36, vo 36 4 (s32.F [r10.1]))] [(36, ⟨4, 38, 11, false, false, s32.F [r10.1]⟩), (8, ⟨3, 38, 11, true, false, [eStmt r10.1]⟩), (0, ⟨0, 122, 4, true, false, [eReader r10.2]⟩), (10007, ⟨1, 38, 11, false, true, s32.F l6⟩)] 5 ?_
      obtain ⟨g11, h⟩ := gsome h
      refine WO_append' hT s32 rfl (by kernel_rfl) 10007 1 true l6 [r10.1] rfl (by kernel_rfl) (by kernel_rfl) (elems_own s32 36 4 true ⟨4, 38, 11, false, false, s32.F [r10.1]⟩ [r10.1] (by kernel_rfl) (by kernel_rfl) rfl rfl rfl) g11 (by kernel_rfl) ?_
      refine Sgh hT 1 [0, 1, 2, 7] [(7, vo 37 5 (s32.F (l6 ++ [r10.1])))] [(37, ⟨5, 38, 11, false, true, s32.F (l6 ++ [r10.1])⟩), (36, ⟨4, 38, 11, false, false, s32.F [r10.1]⟩), (8, ⟨3, 38, 11, true, false, [eStmt r10.1]⟩), (0, ⟨0, 122, 4, true, false, [eReader r10.2]⟩)] 6 ?_
      exact oK [0, 1, 2, 7] [(0, 0, 0), (37, 10007, 1)] ⟨_, by omega, by omega, r10.2, l6 ++ [r10.1], h, rfl⟩
    intro hb; replace h := cfalse hb h
    exact sK [0, 1, 2, 7] [(0, 0, 0), (10007, 10007, 1)] ⟨_, by omega, by omega, r10.2, l6, h, rfl⟩
  intro hb; replace h := cfalse hb h
  refine WA_exit ?_
  refine Qgd hT 1 [7, 38] [(38, .box 0 0 0 0)] ?_
  obtain ⟨r12, hr12, h⟩ := bsome h
  refine WO_go' rfl (by kernel_rfl) [(0, ⟨0, 122, 4, true, false, [eReader v5]⟩)] [(0, ⟨0, 122, 4, true, false, [eReader r12]⟩)] [.box 0 0 0 0, vw tx32] [.box 0 0 0 0, vw tx32] [(0, 0, 0)] [(0, 0, 0)] [(0, ⟨0, 122, 4, true, false, [eReader r12]⟩)] (.tup []) (.tup []) 3 rfl (by kernel_rfl) en132 (by kernel_rfl) (by kernel_rfl) (by kernel_rfl) (ref1_Reader_must_ok hr12) (by kernel_rfl) (by kernel_rfl) (by kernel_rfl) (by kernel_rfl) ?_
  refine Szh hT 0 [7] [] [(0, ⟨0, 122, 4, true, false, [eReader r12]⟩), (10007, ⟨1, 38, 11, false, true, s32.F l6⟩)] 3 ?_
  refine Qz hT 2 [6] ⟨[(6, vo 10007 1 (s32.F l6))], [(0, ⟨0, 122, 4, true, false, [eReader r12]⟩), (10007, ⟨1, 38, 11, false, true, s32.F l6⟩)], 3⟩ ?_
  obtain rfl := Option.some.inj h
  exact rK [6] [(0, 0, 0), (10007, 100, 1)] ⟨[(6, vo 100 1 (s32.F l6))], [(0, ⟨0, 122, 4, true, false, [eReader r12]⟩), (100, ⟨1, 38, 11, false, true, s32.F l6⟩)], 2⟩ ⟨by kernel_rfl, by kernel_rfl, rfl⟩
theorem ref1_Reader_stmt_all (n : Nat) : ref1_Reader_stmt_spec n := by
  induction n using Nat.strongRecOn with
  | _ n ih => exact ⟨ref1_Reader_stmt_step n ih, ref1_Reader_block_step n ih⟩
theorem ref1_Reader_stmt_ok {n : Nat} {a0 : Reader} {a1 : ByteArray} {a2 : Int} {r : Stmt × Reader} (h : ref1_Reader_stmt n a0 a1 a2 = some r) : GO Try.prog 134 [(0, ⟨0, 122, 4, true, false, [eReader a0]⟩)] [.box 0 0 0 0, vw a1, vi a2] (eStmt r.1) [(0, ⟨0, 122, 4, true, false, [eReader r.2]⟩)] := (ref1_Reader_stmt_all n).1 h
theorem ref1_Reader_block_ok {n : Nat} {a0 : Reader} {a1 : ByteArray} {a2 : Int} {r : (List Stmt) × Reader} (h : ref1_Reader_block n a0 a1 a2 = some r) : GO Try.prog 107 [(0, ⟨0, 122, 4, true, false, [eReader a0]⟩)] [.box 0 0 0 0, vw a1, vi a2] (vo 100 1 (s32.F r.1)) [(0, ⟨0, 122, 4, true, false, [eReader r.2]⟩), (100, ⟨1, 38, 11, false, true, s32.F r.1⟩)] := (ref1_Reader_stmt_all n).2 h

theorem ref1_Parse_ok {n : Nat} {a0 : ByteArray} {r : Prog × Int × Int} (h : ref1_Parse n a0 = some r) : PT Try.prog 65 [vw a0] (.tup [eProg r.1, vi r.2.1, vi r.2.2]) := by
  unfold ref1_Parse at h
  refine PT_bodyA hT Try.func65 rfl (by kernel_rfl) fun bad w => ?_
  refine Qz hT 3 [0, 2] ⟨[(0, vw a0), (2, .box 2 0 0 0)], [(2, ⟨0, 26, 2, true, false, [.agg [.ps .nil [], .ps .nil []]]⟩)], 1⟩ ?_
  refine Qgd hT 1 [0, 2, 12] [(12, vw a0)] ?_
  obtain ⟨r1, hr1, h⟩ := bsome h
  refine WO_go' rfl (by kernel_rfl) [] [(100, ⟨1, 124, 4, false, true, s117.F r1.1⟩)] [vw a0] [vw a0] [] [(100, 13, 1)] [(13, ⟨1, 124, 4, false, true, s117.F r1.1⟩)] (.tup [vo 100 1 (s117.F r1.1), vi r1.2.1, vi r1.2.2]) (.tup [vo 13 1 (s117.F r1.1), vi r1.2.1, vi r1.2.2]) 2 rfl (by kernel_rfl) en101 (by kernel_rfl) (by kernel_rfl) (by kernel_rfl) (ref1_Tokens_ok hr1) (by kernel_rfl) (by kernel_rfl) (by kernel_rfl) (by kernel_rfl) ?_
  refine Szh hT 7 [0, 2, 5, 6, 7] [(5, vo 13 1 (s117.F r1.1)), (6, vi r1.2.1), (7, vi r1.2.2)] [(13, ⟨1, 124, 4, false, true, s117.F r1.1⟩), (2, ⟨0, 26, 2, true, false, [.agg [.ps .nil [], .ps .nil []]]⟩)] 2 ?_
  refine WA_seq ?_
  refine Qzd hT 2 [0, 2, 5, 6, 7, 18] [(18, vb (r1.2.2 != 0))] ?_
  refine Cd (r1.2.2 != 0) ?_ ?_
  · intro hb; replace h := ctrue hb h
    refine Qz hT 6 [2, 3, 4] ⟨[(2, .box 2 0 0 0), (3, vi r1.2.1), (4, vi r1.2.2)], [(2, ⟨0, 26, 2, true, false, [.agg [.ps .nil [], .ps .nil []]]⟩), (13, ⟨1, 124, 4, false, true, s117.F r1.1⟩)], 2⟩ ?_
    refine aW [2, 3, 4] ⟨[(2, .box 2 0 0 0), (3, vi r1.2.1), (4, vi r1.2.2)], [(2, ⟨0, 26, 2, true, false, [.agg [.ps .nil [], .ps .nil []]]⟩), (13, ⟨1, 124, 4, false, true, s117.F r1.1⟩)], 2⟩ ?_
    refine WA_weak (Weak_leH [(2, .box 2 0 0 0), (3, vi r1.2.1), (4, vi r1.2.2)] [(2, ⟨0, 26, 2, true, false, [eProg (Prog.mk [] [])]⟩), (13, ⟨1, 124, 4, false, true, s117.F r1.1⟩)] (by kernel_rfl) ⟨VLf.refl _, VLf.refl _, VLf.refl _, trivial⟩ ⟨rfl, .inr (.inl ⟨rfl, rfl, CLe.agg ⟨(VLe.f VLe.nil_opt rfl), (VLe.f VLe.nil_opt rfl), trivial⟩, trivial⟩), rfl, .inl rfl, trivial⟩) ?_
    obtain rfl := Option.some.inj h
    exact rR [(2, 1000, 0)] ⟨[(2, .box 1000 0 0 0), (3, vi r1.2.1), (4, vi r1.2.2)], [(1000, ⟨0, 26, 2, true, false, [eProg (Prog.mk [] [])]⟩)], 1⟩ ⟨by kernel_rfl, rfl⟩
  intro hb; replace h := cfalse hb h
  refine WA_skip ?_
  refine Qgd hT 1 [0, 2, 5, 22] [(22, vo 13 1 (s117.F r1.1))] ?_
  refine WO_weak (Weak_frz 13 1 ⟨1, 124, 4, false, true, s117.F r1.1⟩ (by kernel_rfl) rfl rfl [(0, vw a0), (2, .box 2 0 0 0), (5, .ps .opt (s117.F r1.1)), (22, .ps .opt (s117.F r1.1))] [(2, ⟨0, 26, 2, true, false, [.agg [.ps .nil [], .ps .nil []]]⟩)] ⟨rfl, .keep _, rfl, .keep _, rfl, .hit true, rfl, .hit true, trivial⟩ ⟨rfl, .inl rfl, trivial⟩) ?_
  refine Szh hT 3 [0, 2, 5, 8] [(8, .box 24 2 0 0)] [(24, ⟨2, 122, 4, true, false, [.agg [.ps .opt (s117.F r1.1), vi 0, vb false, vi 0]]⟩), (2, ⟨0, 26, 2, true, false, [.agg [.ps .nil [], .ps .nil []]]⟩)] 3 ?_
  refine Qzh hT 3 [0, 2, 5, 8, 9] [(9, .box 9 3 0 0)] [(9, ⟨3, 26, 2, true, false, [.agg [.ps .nil [], .ps .nil []]]⟩), (24, ⟨2, 122, 4, true, false, [.agg [.ps .opt (s117.F r1.1), vi 0, vb false, vi 0]]⟩), (2, ⟨0, 26, 2, true, false, [.agg [.ps .nil [], .ps .nil []]]⟩)] 4 ?_
  refine WA_seq ?_
  obtain ⟨J7, hJ7, h⟩ := jsome h
  refine WA_join (fun s => ∃ (l2 : List Token), ∃ (i3 : Int), ∃ (b4 : Bool), ∃ (i5 : Int), ∃ (l6 : List Decl), J7 l2 i3 b4 i5 l6 = some r ∧ s = ⟨[(0, vw a0), (2, .box 2 0 0 0), (5, .ps .opt (s117.F r1.1)), (8, .box 24 0 0 0), (9, .box 9 0 0 0)], [(2, ⟨0, 26, 2, true, false, [.agg [.ps .nil [], .ps .nil []]]⟩), (9, ⟨0, 26, 2, true, false, [.agg [vo 11509 0 (s23.F l6), .ps .nil []]]⟩), (24, ⟨0, 122, 4, true, false, [.agg [.ps .opt (s117.F l2), vi i3, vb b4, vi i5]]⟩), (11509, ⟨0, 58, 4, false, true, s23.F l6⟩)], 1⟩) ?_ ?_
  · refine WA_block ?_
    refine aW [0, 2, 5, 8, 9] ⟨[(0, vw a0), (2, .box 2 0 0 0), (5, .ps .opt (s117.F r1.1)), (8, .box 24 2 0 0), (9, .box 9 3 0 0)], [(9, ⟨3, 26, 2, true, false, [.agg [.ps .nil [], .ps .nil []]]⟩), (24, ⟨2, 122, 4, true, false, [.agg [.ps .opt (s117.F r1.1), vi 0, vb false, vi 0]]⟩), (2, ⟨0, 26, 2, true, false, [.agg [.ps .nil [], .ps .nil []]]⟩)], 4⟩ ?_
    refine WA_weak (Weak_ownH 9 5000 0 ⟨3, 26, 2, true, false, [.agg [.ps .nil [], .ps .nil []]]⟩ (.agg [.ps .nil [], .ps .nil []]) (.agg [vo 5000 4 (s23.F ([] : List Decl)), .ps .nil []]) 58 4 (by kernel_rfl) (by kernel_rfl) (by kernel_rfl) (by kernel_rfl) (by kernel_rfl) (by kernel_rfl) (by kernel_rfl)) ?_
    refine lR [(2, 2, 0), (9, 9, 0), (24, 24, 0), (5000, 11509, 0)] (fun k s => ∃ q, q ≤ k ∧ q ≤ n ∧ ∃ (l8 : List Token), ∃ (i9 : Int), ∃ (b10 : Bool), ∃ (i11 : Int), ∃ (l12 : List Decl), ref1_Parse_L0 q a0 r1 J7 l8 i9 b10 i11 l12 = some r ∧ s = ⟨[(0, vw a0), (2, .box 2 0 0 0), (5, .ps .opt (s117.F r1.1)), (8, .box 24 0 0 0), (9, .box 9 0 0 0)], [(2, ⟨0, 26, 2, true, false, [.agg [.ps .nil [], .ps .nil []]]⟩), (9, ⟨0, 26, 2, true, false, [.agg [vo 11509 0 (s23.F l12), .ps .nil []]]⟩), (24, ⟨0, 122, 4, true, false, [.agg [.ps .opt (s117.F l8), vi i9, vb b10, vi i11]]⟩), (11509, ⟨0, 58, 4, false, true, s23.F l12⟩)], 1⟩) n ⟨n, Nat.le_refl _, Nat.le_refl _, r1.1, 0, false, 0, ([] : List Decl), h, rfl⟩ (by rintro s ⟨q, hq, _, l8, i9, b10, i11, l12, h, _⟩; obtain rfl := Nat.le_zero.1 hq; rw [ref1_Parse_L0] at h; cases h) ?_
    clear h
    rintro k1 s ⟨q1, hk1, hn1, l8, i9, b10, i11, l12, h, rfl⟩
    rcases q1 with _ | q1
    · rw [ref1_Parse_L0] at h; cases h
    rw [ref1_Parse_L0] at h
    refine WA_seq ?_
    refine WA_seq ?_
    obtain ⟨J14, hJ14, h⟩ := jsome h
    refine WA_join (fun s => ∃ (b13 : Bool), J14 b13 = some r ∧ s = ⟨[(0, vw a0), (2, .box 2 0 0 0), (5, .ps .opt (s117.F r1.1)), (8, .box 24 0 0 0), (9, .box 9 0 0 0), (59, vb b13)], [(2, ⟨0, 26, 2, true, false, [.agg [.ps .nil [], .ps .nil []]]⟩), (9, ⟨0, 26, 2, true, false, [.agg [vo 11509 0 (s23.F l12), .ps .nil []]]⟩), (24, ⟨0, 122, 4, true, false, [.agg [.ps .opt (s117.F l8), vi i9, vb b10, vi i11]]⟩), (11509, ⟨0, 58, 4, false, true, s23.F l12⟩)], 1⟩) ?_ ?_
    · refine WA_drawW hT hM (by kernel_rfl) ?_
      refine Ds 6 [(31, vb (!b10)), (30, vb (!b10)), (29, vb b10), (28, .box 24 0 0 2), (27, .box 24 0 0 0), (26, .box 24 0 0 0)] [] [(1, [24]), (2, [24]), (3, [24])] ?_
      cases hb : (!b10 : Bool)
      · replace h := cfalse hb h
        refine Ds 28 [(59, vb false), (58, .p Go.undef), (57, .p Go.undef), (56, .p Go.undef), (55, .p Go.undef), (54, .p Go.undef), (53, .p Go.undef), (52, .p Go.undef), (51, .p Go.undef), (50, .p Go.undef), (49, .p Go.undef), (48, .p Go.undef), (47, .p Go.undef), (46, .p Go.undef), (45, vb false), (44, vb false), (43, .p Go.undef), (42, .p Go.undef), (41, .p Go.undef), (40, .p Go.undef), (39, .p Go.undef), (38, .p Go.undef), (37, .p Go.undef), (36, .p Go.undef), (35, .p Go.undef), (34, .p Go.undef), (33, .p Go.undef), (32, .p Go.undef)] [] [] ?_
        refine WD_end (by kernel_rfl) (by kernel_rfl) (by kernel_rfl) ?_
        exact wK [0, 2, 5, 8, 9, 59] [(2, 2, 0), (9, 9, 0), (24, 24, 0), (11509, 11509, 0)] ⟨false, h, rfl⟩
      replace h := ctrue hb h
      refine Ds 8 [(39, vi i9), (38, .box 24 0 0 1), (37, .box 24 0 0 0), (36, .box 24 0 0 0), (35, .ps .opt (s117.F l8)), (34, .box 24 0 0 0), (33, .box 24 0 0 0), (32, .box 24 0 0 0)] [] [(7, [24]), (8, [24]), (9, [24]), (11, [24]), (12, [24]), (13, [24])] ?_
      obtain ⟨x15, hx15, h⟩ := bsome h
      refine WD_loc' rfl (by kernel_rfl) (by kernel_rfl) (by kernel_rfl) (ev_index s117 .opt l8 .i64 i9 hx15 (by decide) (by kernel_rfl) (by kernel_rfl)) (by kernel_rfl) ?_
      refine Dt (.ref (eToken x15) 0) ?_
      refine Ds 5 [(45, vb (x15.Kind == 1)), (44, vb (x15.Kind == 1)), (43, vb (x15.Kind == 1)), (42, vi x15.Kind), (41, .ref (eToken x15) 0)] [] [] ?_
      cases hb : ((x15.Kind == 1) : Bool)
      · replace h := cfalse hb h
        refine Ds 14 [(59, vb false), (58, .p Go.undef), (57, .p Go.undef), (56, .p Go.undef), (55, .p Go.undef), (54, .p Go.undef), (53, .p Go.undef), (52, .p Go.undef), (51, .p Go.undef), (50, .p Go.undef), (49, .p Go.undef), (48, .p Go.undef), (47, .p Go.undef), (46, .p Go.undef)] [] [] ?_
        refine WD_end (by kernel_rfl) (by kernel_rfl) (by kernel_rfl) ?_
        exact wK [0, 2, 5, 8, 9, 59] [(2, 2, 0), (9, 9, 0), (24, 24, 0), (11509, 11509, 0)] ⟨false, h, rfl⟩
      replace h := ctrue hb h
      refine Ds 8 [(53, vi i9), (52, .box 24 0 0 1), (51, .box 24 0 0 0), (50, .box 24 0 0 0), (49, .ps .opt (s117.F l8)), (48, .box 24 0 0 0), (47, .box 24 0 0 0), (46, .box 24 0 0 0)] [] [(21, [24]), (22, [24]), (23, [24]), (25, [24]), (26, [24]), (27, [24])] ?_
      obtain ⟨x16, hx16, h⟩ := bsome h
      refine WD_loc' rfl (by kernel_rfl) (by kernel_rfl) (by kernel_rfl) (ev_index s117 .opt l8 .i64 i9 hx16 (by decide) (by kernel_rfl) (by kernel_rfl)) (by kernel_rfl) ?_
      refine Dt (.ref (eToken x16) 0) ?_
      refine Ds 2 [(56, vw x16.Text), (55, .ref (eToken x16) 1)] [] [] ?_
      obtain ⟨r17, hr17, h⟩ := bsome h
      refine WD_pt' rfl (by kernel_rfl) (by kernel_rfl) [vw x16.Text] (vi r17) rfl (by kernel_rfl) en102 (by kernel_rfl) (ref1_declKind_ok hr17) (by kernel_rfl) ?_
      refine Ds 2 [(59, vb (decide (r17 > 0))), (58, vb (decide (r17 > 0)))] [] [] ?_
      refine WD_end (by kernel_rfl) (by kernel_rfl) (by kernel_rfl) ?_
      exact wK [0, 2, 5, 8, 9, 59] [(2, 2, 0), (9, 9, 0), (24, 24, 0), (11509, 11509, 0)] ⟨decide (r17 > 0), h, rfl⟩
    subst hJ14
    rintro s ⟨b13, h, rfl⟩
    skip
    refine Cd b13 ?_ ?_
    · intro hb; replace h := ctrue hb h
      refine WA_skip ?_
      refine WA_block ?_
      refine WA_seq ?_
      refine Qg hT 2 [0, 2, 5, 8, 9, 61] ⟨[(0, vw a0), (2, .box 2 0 0 0), (5, .ps .opt (s117.F r1.1)), (8, .box 24 0 0 0), (9, .box 9 0 0 0), (61, vo 11509 0 (s23.F l12))], [(2, ⟨0, 26, 2, true, false, [.agg [.ps .nil [], .ps .nil []]]⟩), (9, ⟨0, 26, 2, true, false, [.agg [vo 11509 0 (s23.F l12), .ps .nil []]]⟩), (24, ⟨0, 122, 4, true, false, [.agg [.ps .opt (s117.F l8), vi i9, vb b10, vi i11]]⟩), (11509, ⟨0, 58, 4, false, true, s23.F l12⟩)], 1⟩ ?_
      refine One' hT rfl (ev_len_own s23 11509 0 true ⟨0, 58, 4, false, true, s23.F l12⟩ l12 (by kernel_rfl) rfl rfl) ?_
      refine Szd hT 1 [0, 2, 5, 8, 9, 63] [(63, vb ((ln l12) == 24))] ?_
      refine Cd ((ln l12) == 24) ?_ ?_
      · intro hb; replace h := ctrue hb h
        refine Qgd hT 1 [0, 2, 5, 8, 9, 64] [(64, .box 24 0 0 0)] ?_
        obtain ⟨r18, hr18, h⟩ := bsome h
        refine WO_go' rfl (by kernel_rfl) [(0, ⟨0, 122, 4, true, false, [eReader (Reader.mk l8 i9 b10 i11)]⟩)] [(0, ⟨0, 122, 4, true, false, [eReader r18]⟩)] [.box 24 0 0 0] [.box 0 0 0 0] [(24, 0, 0)] [(0, 24, 0)] [(24, ⟨0, 122, 4, true, false, [eReader r18]⟩)] (.tup []) (.tup []) 2 rfl (by kernel_rfl) en103 (by kernel_rfl) (by kernel_rfl) (by kernel_rfl) (ref1_Reader_fail_ok hr18) (by kernel_rfl) (by kernel_rfl) (by kernel_rfl) (by kernel_rfl) ?_
        refine Szh hT 0 [0, 2, 5, 8, 9] [] [(24, ⟨0, 122, 4, true, false, [eReader r18]⟩), (2, ⟨0, 26, 2, true, false, [.agg [.ps .nil [], .ps .nil []]]⟩), (9, ⟨0, 26, 2, true, false, [.agg [vo 11509 0 (s23.F l12), .ps .nil []]]⟩), (11509, ⟨0, 58, 4, false, true, s23.F l12⟩)] 2 ?_
        exact eK [0, 2, 5, 8, 9] [(2, 2, 0), (9, 9, 0), (24, 24, 0), (11509, 11509, 0)] ⟨r18.T, r18.At, r18.Fail, r18.Bad, l12, h, rfl⟩
      intro hb; replace h := cfalse hb h
      refine WA_skip ?_
      refine WA_seq ?_
      refine WA_drawW hT hM (by kernel_rfl) ?_
      refine Ds 8 [(73, vi i9), (72, .box 24 0 0 1), (71, .box 24 0 0 0), (70, .box 24 0 0 0), (69, .ps .opt (s117.F l8)), (68, .box 24 0 0 0), (67, .box 24 0 0 0), (66, .box 24 0 0 0)] [] [(1, [24]), (2, [24]), (3, [24]), (5, [24]), (6, [24]), (7, [24])] ?_
      obtain ⟨x19, hx19, h⟩ := bsome h
      refine WD_loc' rfl (by kernel_rfl) (by kernel_rfl) (by kernel_rfl) (ev_index s117 .opt l8 .i64 i9 hx19 (by decide) (by kernel_rfl) (by kernel_rfl)) (by kernel_rfl) ?_
      refine Dt (.ref (eToken x19) 0) ?_
      refine Ds 2 [(76, vw x19.Text), (75, .ref (eToken x19) 1)] [] [] ?_
      obtain ⟨r20, hr20, h⟩ := bsome h
      refine WD_pt' rfl (by kernel_rfl) (by kernel_rfl) [vw x19.Text] (vi r20) rfl (by kernel_rfl) en102 (by kernel_rfl) (ref1_declKind_ok hr20) (by kernel_rfl) ?_
      refine Ds 9 [(86, vi i9), (85, .box 24 0 0 1), (84, .box 24 0 0 0), (83, .box 24 0 0 0), (82, .ps .opt (s117.F l8)), (81, .box 24 0 0 0), (80, .box 24 0 0 0), (79, .box 24 0 0 0), (78, vw a0)] [] [(14, [24]), (15, [24]), (16, [24]), (18, [24]), (19, [24]), (20, [24])] ?_
      obtain ⟨x21, hx21, h⟩ := bsome h
      refine WD_loc' rfl (by kernel_rfl) (by kernel_rfl) (by kernel_rfl) (ev_index s117 .opt l8 .i64 i9 hx21 (by decide) (by kernel_rfl) (by kernel_rfl)) (by kernel_rfl) ?_
      refine Dt (.ref (eToken x21) 0) ?_
      refine Ds 2 [(89, vi x21.At), (88, .ref (eToken x21) 3)] [] [] ?_
      obtain ⟨r22, hr22, h⟩ := bsome h
      refine WD_pt' rfl (by kernel_rfl) (by kernel_rfl) [vw a0, vi x21.At] (vz r22) rfl (by kernel_rfl) en28 (by kernel_rfl) (ref1_Place_ok hr22) (by kernel_rfl) ?_
      refine Dh 3 [(10, .box 10 1 0 0), (91, .agg [vi r20, vw b0, vi 0, vz r22])] [(10, ⟨1, 58, 4, true, false, [.agg [vi r20, vw b0, vi 0, vz r22]]⟩), (2, ⟨0, 26, 2, true, false, [.agg [.ps .nil [], .ps .nil []]]⟩), (9, ⟨0, 26, 2, true, false, [.agg [vo 11509 0 (s23.F l12), .ps .nil []]]⟩), (24, ⟨0, 122, 4, true, false, [.agg [.ps .opt (s117.F l8), vi i9, vb b10, vi i11]]⟩), (11509, ⟨0, 58, 4, false, true, s23.F l12⟩)] 2 [(26, [10]), (27, [10])] [] ?_
      refine WD_end (by kernel_rfl) (by kernel_rfl) (by kernel_rfl) ?_
      refine Wk_done ?_
      refine Qzh hT 8 [0, 2, 5, 8, 9, 10] [] [(24, ⟨0, 122, 4, true, false, [.agg [.ps .opt (s117.F l8), vi (wr (i9 + 1)), vb b10, vi i11]]⟩), (10, ⟨1, 58, 4, true, false, [.agg [vi r20, vw b0, vi 0, vz r22]]⟩), (2, ⟨0, 26, 2, true, false, [.agg [.ps .nil [], .ps .nil []]]⟩), (9, ⟨0, 26, 2, true, false, [.agg [vo 11509 0 (s23.F l12), .ps .nil []]]⟩), (11509, ⟨0, 58, 4, false, true, s23.F l12⟩)] 2 ?_
      refine Qgd hT 1 [0, 2, 5, 8, 9, 10, 99] [(99, .box 24 0 0 0)] ?_
      obtain ⟨r23, hr23, h⟩ := bsome h
      refine WO_go' rfl (by kernel_rfl) [(0, ⟨0, 122, 4, true, false, [eReader (Reader.mk l8 (wr (i9 + 1)) b10 i11)]⟩)] [(0, ⟨0, 122, 4, true, false, [eReader r23.2]⟩)] [.box 24 0 0 0] [.box 0 0 0 0] [(24, 0, 0)] [(0, 24, 0)] [(24, ⟨0, 122, 4, true, false, [eReader r23.2]⟩)] (vw r23.1) (vw r23.1) 3 rfl (by kernel_rfl) en104 (by kernel_rfl) (by kernel_rfl) (by kernel_rfl) (ref1_Reader_name_ok hr23) (by kernel_rfl) (by kernel_rfl) (by kernel_rfl) (by kernel_rfl) ?_
      refine Szh hT 2 [0, 2, 5, 8, 9, 10] [] [(10, ⟨1, 58, 4, true, false, [.agg [vi r20, vw r23.1, vi 0, vz r22]]⟩), (24, ⟨0, 122, 4, true, false, [eReader r23.2]⟩), (2, ⟨0, 26, 2, true, false, [.agg [.ps .nil [], .ps .nil []]]⟩), (9, ⟨0, 26, 2, true, false, [.agg [vo 11509 0 (s23.F l12), .ps .nil []]]⟩), (11509, ⟨0, 58, 4, false, true, s23.F l12⟩)] 3 ?_
      refine WA_seq ?_
      refine Qzd hT 3 [0, 2, 5, 8, 9, 10, 104] [(104, vb (r20 == 6))] ?_
      obtain ⟨J26, hJ26, h⟩ := jsome h
      refine WA_join (fun s => ∃ (v24 : Reader), ∃ (i25 : Int), J26 v24 i25 = some r ∧ s = ⟨[(0, vw a0), (2, .box 2 0 0 0), (5, .ps .opt (s117.F r1.1)), (8, .box 24 0 0 0), (9, .box 9 0 0 0), (10, .box 10 0 0 0)], [(2, ⟨0, 26, 2, true, false, [.agg [.ps .nil [], .ps .nil []]]⟩), (9, ⟨0, 26, 2, true, false, [.agg [vo 11509 0 (s23.F l12), .ps .nil []]]⟩), (10, ⟨0, 58, 4, true, false, [.agg [vi r20, vw r23.1, vi i25, vz r22]]⟩), (24, ⟨0, 122, 4, true, false, [eReader v24]⟩), (11509, ⟨0, 58, 4, false, true, s23.F l12⟩)], 1⟩) ?_ ?_
      · refine Cd (r20 == 6) ?_ ?_
        · intro hb; replace h := ctrue hb h
          refine Rgd hT 1 [0, 2, 5, 8, 9, 10, 105] [(105, .box 24 0 0 0)] ?_
          obtain ⟨r27, hr27, h⟩ := bsome h
          refine WO_go' rfl (by kernel_rfl) [(0, ⟨0, 122, 4, true, false, [eReader r23.2]⟩)] [(0, ⟨0, 122, 4, true, false, [eReader r27.2]⟩)] [.box 24 0 0 0, vi 3] [.box 0 0 0 0, vi 3] [(24, 0, 0)] [(0, 24, 0)] [(24, ⟨0, 122, 4, true, false, [eReader r27.2]⟩)] (vi r27.1) (vi r27.1) 4 rfl (by kernel_rfl) en105 (by kernel_rfl) (by kernel_rfl) (by kernel_rfl) (ref1_Reader_number_ok hr27) (by kernel_rfl) (by kernel_rfl) (by kernel_rfl) (by kernel_rfl) ?_
          refine Sgh hT 2 [0, 2, 5, 8, 9, 10] [] [(10, ⟨1, 58, 4, true, false, [.agg [vi r20, vw r23.1, vi r27.1, vz r22]]⟩), (24, ⟨0, 122, 4, true, false, [eReader r27.2]⟩), (2, ⟨0, 26, 2, true, false, [.agg [.ps .nil [], .ps .nil []]]⟩), (9, ⟨0, 26, 2, true, false, [.agg [vo 11509 0 (s23.F l12), .ps .nil []]]⟩), (11509, ⟨0, 58, 4, false, true, s23.F l12⟩)] 4 ?_
          exact oK [0, 2, 5, 8, 9, 10] [(2, 2, 0), (9, 9, 0), (10, 10, 0), (24, 24, 0), (11509, 11509, 0)] ⟨r27.2, r27.1, h, rfl⟩
        intro hb; replace h := cfalse hb h
        exact sK [0, 2, 5, 8, 9, 10] [(2, 2, 0), (9, 9, 0), (10, 10, 0), (24, 24, 0), (11509, 11509, 0)] ⟨r23.2, 0, h, rfl⟩
      subst hJ26
      rintro s ⟨v24, i25, h, rfl⟩
      skip
      refine Rgh hT 4 [0, 2, 5, 8, 9, 109, 111] [(109, vo 11509 0 (s23.F l12)), (111, vo 111 1 (s23.F [(Decl.mk r20 r23.1 i25 r22)]))] [(111, ⟨1, 58, 4, false, false, s23.F [(Decl.mk r20 r23.1 i25 r22)]⟩), (2, ⟨0, 26, 2, true, false, [.agg [.ps .nil [], .ps .nil []]]⟩), (9, ⟨0, 26, 2, true, false, [.agg [vo 11509 0 (s23.F l12), .ps .nil []]]⟩), (10, ⟨0, 58, 4, true, false, [.agg [vi r20, vw r23.1, vi i25, vz r22]]⟩), (24, ⟨0, 122, 4, true, false, [eReader v24]⟩), (11509, ⟨0, 58, 4, false, true, s23.F l12⟩)] 2 ?_
      obtain ⟨g28, h⟩ := gsome h
      refine WO_append' hT s23 rfl (by kernel_rfl) 11509 0 true l12 [(Decl.mk r20 r23.1 i25 r22)] rfl (by kernel_rfl) (by kernel_rfl) (elems_own s23 111 1 true ⟨1, 58, 4, false, false, s23.F [(Decl.mk r20 r23.1 i25 r22)]⟩ [(Decl.mk r20 r23.1 i25 r22)] (by kernel_rfl) (by kernel_rfl) rfl rfl rfl) g28 (by kernel_rfl) ?_
      refine Sgh hT 2 [0, 2, 5, 8, 9] [] [(9, ⟨0, 26, 2, true, false, [.agg [vo 112 2 (s23.F (l12 ++ [(Decl.mk r20 r23.1 i25 r22)])), .ps .nil []]]⟩), (112, ⟨2, 58, 4, false, true, s23.F (l12 ++ [(Decl.mk r20 r23.1 i25 r22)])⟩), (111, ⟨1, 58, 4, false, false, s23.F [(Decl.mk r20 r23.1 i25 r22)]⟩), (2, ⟨0, 26, 2, true, false, [.agg [.ps .nil [], .ps .nil []]]⟩), (10, ⟨0, 58, 4, true, false, [.agg [vi r20, vw r23.1, vi i25, vz r22]]⟩), (24, ⟨0, 122, 4, true, false, [eReader v24]⟩)] 3 ?_
      exact oK [0, 2, 5, 8, 9] [(2, 2, 0), (9, 9, 0), (24, 24, 0), (112, 11509, 0)] ⟨_, by omega, by omega, v24.T, v24.At, v24.Fail, v24.Bad, l12 ++ [(Decl.mk r20 r23.1 i25 r22)], h, rfl⟩
    intro hb; replace h := cfalse hb h
    exact eK [0, 2, 5, 8, 9] [(2, 2, 0), (9, 9, 0), (24, 24, 0), (11509, 11509, 0)] ⟨l8, i9, b10, i11, l12, h, rfl⟩
  subst hJ7
  rintro s ⟨l2, i3, b4, i5, l6, h, rfl⟩
  refine WA_seq ?_
  obtain ⟨J34, hJ34, h⟩ := jsome h
  refine WA_join (fun s => ∃ (l29 : List Token), ∃ (i30 : Int), ∃ (b31 : Bool), ∃ (i32 : Int), ∃ (l33 : List (List Stmt)), J34 l29 i30 b31 i32 l33 = some r ∧ s = ⟨[(2, .box 2 0 0 0), (5, .ps .opt (s117.F r1.1)), (8, .box 24 0 0 0), (9, .box 9 0 0 0)], [(2, ⟨0, 26, 2, true, false, [.agg [.ps .nil [], .ps .nil []]]⟩), (9, ⟨0, 26, 2, true, false, [.agg [vo 11509 0 (s23.F l6), vo 12509 0 (s24.F l33)]]⟩), (24, ⟨0, 122, 4, true, false, [.agg [.ps .opt (s117.F l29), vi i30, vb b31, vi i32]]⟩), (11509, ⟨0, 58, 4, false, true, s23.F l6⟩), (12509, ⟨0, 32, 1, false, true, s24.F l33⟩)], 1⟩) ?_ ?_
  · refine WA_block ?_
    refine aW [0, 2, 5, 8, 9] ⟨[(0, vw a0), (2, .box 2 0 0 0), (5, .ps .opt (s117.F r1.1)), (8, .box 24 0 0 0), (9, .box 9 0 0 0)], [(2, ⟨0, 26, 2, true, false, [.agg [.ps .nil [], .ps .nil []]]⟩), (9, ⟨0, 26, 2, true, false, [.agg [vo 11509 0 (s23.F l6), .ps .nil []]]⟩), (24, ⟨0, 122, 4, true, false, [.agg [.ps .opt (s117.F l2), vi i3, vb b4, vi i5]]⟩), (11509, ⟨0, 58, 4, false, true, s23.F l6⟩)], 1⟩ ?_
    refine WA_weak (Weak_ownH 9 5000 1 ⟨0, 26, 2, true, false, [.agg [vo 11509 0 (s23.F l6), .ps .nil []]]⟩ (.agg [vo 11509 0 (s23.F l6), .ps .nil []]) (.agg [vo 11509 0 (s23.F l6), vo 5000 1 (s24.F ([] : List (List Stmt)))]) 32 1 (by kernel_rfl) (by kernel_rfl) (by kernel_rfl) (by kernel_rfl) (by kernel_rfl) (by kernel_rfl) (by kernel_rfl)) ?_
    refine lR [(2, 2, 0), (9, 9, 0), (24, 24, 0), (11509, 11509, 0), (5000, 12509, 0)] (fun k s => ∃ q, q ≤ k ∧ q ≤ n ∧ ∃ (l35 : List Token), ∃ (i36 : Int), ∃ (b37 : Bool), ∃ (i38 : Int), ∃ (l39 : List (List Stmt)), ref1_Parse_L1 q a0 r1 l2 i3 b4 i5 l6 J34 l35 i36 b37 i38 l39 = some r ∧ s = ⟨[(0, vw a0), (2, .box 2 0 0 0), (5, .ps .opt (s117.F r1.1)), (8, .box 24 0 0 0), (9, .box 9 0 0 0)], [(2, ⟨0, 26, 2, true, false, [.agg [.ps .nil [], .ps .nil []]]⟩), (9, ⟨0, 26, 2, true, false, [.agg [vo 11509 0 (s23.F l6), vo 12509 0 (s24.F l39)]]⟩), (24, ⟨0, 122, 4, true, false, [.agg [.ps .opt (s117.F l35), vi i36, vb b37, vi i38]]⟩), (11509, ⟨0, 58, 4, false, true, s23.F l6⟩), (12509, ⟨0, 32, 1, false, true, s24.F l39⟩)], 1⟩) n ⟨n, Nat.le_refl _, Nat.le_refl _, l2, i3, b4, i5, ([] : List (List Stmt)), h, rfl⟩ (by rintro s ⟨q, hq, _, l35, i36, b37, i38, l39, h, _⟩; obtain rfl := Nat.le_zero.1 hq; rw [ref1_Parse_L1] at h; cases h) ?_
    clear h
    rintro k1 s ⟨q1, hk1, hn1, l35, i36, b37, i38, l39, h, rfl⟩
    rcases q1 with _ | q1
    · rw [ref1_Parse_L1] at h; cases h
    rw [ref1_Parse_L1] at h
    refine WA_seq ?_
    refine WA_seq ?_
    obtain ⟨J41, hJ41, h⟩ := jsome h
    refine WA_join (fun s => ∃ (b40 : Bool), J41 b40 = some r ∧ s = ⟨[(0, vw a0), (2, .box 2 0 0 0), (5, .ps .opt (s117.F r1.1)), (8, .box 24 0 0 0), (9, .box 9 0 0 0), (138, vb b40)], [(2, ⟨0, 26, 2, true, false, [.agg [.ps .nil [], .ps .nil []]]⟩), (9, ⟨0, 26, 2, true, false, [.agg [vo 11509 0 (s23.F l6), vo 12509 0 (s24.F l39)]]⟩), (24, ⟨0, 122, 4, true, false, [.agg [.ps .opt (s117.F l35), vi i36, vb b37, vi i38]]⟩), (11509, ⟨0, 58, 4, false, true, s23.F l6⟩), (12509, ⟨0, 32, 1, false, true, s24.F l39⟩)], 1⟩) ?_ ?_
    · refine WA_drawW hT hM (by kernel_rfl) ?_
      refine Ds 6 [(119, vb (!b37)), (118, vb (!b37)), (117, vb b37), (116, .box 24 0 0 2), (115, .box 24 0 0 0), (114, .box 24 0 0 0)] [] [(1, [24]), (2, [24]), (3, [24])] ?_
      cases hb : (!b37 : Bool)
      · replace h := cfalse hb h
        refine Ds 19 [(138, vb false), (137, .p Go.undef), (136, .p Go.undef), (135, .p Go.undef), (134, .p Go.undef), (133, .p Go.undef), (132, .p Go.undef), (131, .p Go.undef), (130, .p Go.undef), (129, .p Go.undef), (128, .p Go.undef), (127, .p Go.undef), (126, .p Go.undef), (125, .p Go.undef), (124, .p Go.undef), (123, .p Go.undef), (122, .p Go.undef), (121, .p Go.undef), (120, .p Go.undef)] [] [] ?_
        refine WD_end (by kernel_rfl) (by kernel_rfl) (by kernel_rfl) ?_
        exact wK [0, 2, 5, 8, 9, 138] [(2, 2, 0), (9, 9, 0), (24, 24, 0), (11509, 11509, 0), (12509, 12509, 0)] ⟨false, h, rfl⟩
      replace h := ctrue hb h
      refine Ds 8 [(127, vi i36), (126, .box 24 0 0 1), (125, .box 24 0 0 0), (124, .box 24 0 0 0), (123, .ps .opt (s117.F l35)), (122, .box 24 0 0 0), (121, .box 24 0 0 0), (120, .box 24 0 0 0)] [] [(7, [24]), (8, [24]), (9, [24]), (11, [24]), (12, [24]), (13, [24])] ?_
      obtain ⟨x42, hx42, h⟩ := bsome h
      refine WD_loc' rfl (by kernel_rfl) (by kernel_rfl) (by kernel_rfl) (ev_index s117 .opt l35 .i64 i36 hx42 (by decide) (by kernel_rfl) (by kernel_rfl)) (by kernel_rfl) ?_
      refine Dt (.ref (eToken x42) 0) ?_
      refine Ds 4 [(132, vb (x42.Kind != 4)), (131, vb (x42.Kind != 4)), (130, vi x42.Kind), (129, .ref (eToken x42) 0)] [] [] ?_
      cases hb : ((x42.Kind != 4) : Bool)
      · replace h := cfalse hb h
        refine Ds 2 [(134, vo 12509 0 (s24.F l39)), (133, .box 9 0 0 1)] [] [(19, [9]), (20, [9])] ?_
        refine WD_loc' rfl (by kernel_rfl) (by kernel_rfl) (by kernel_rfl) (ev_len_own s24 12509 0 true ⟨0, 32, 1, false, true, s24.F l39⟩ l39 (by kernel_rfl) rfl rfl) (by kernel_rfl) ?_
        refine Dt (vi (ln l39)) ?_
        refine Ds 3 [(138, vb ((ln l39) == 0)), (137, vb ((ln l39) == 0)), (136, vb ((ln l39) == 0))] [] [] ?_
        refine WD_end (by kernel_rfl) (by kernel_rfl) (by kernel_rfl) ?_
        exact wK [0, 2, 5, 8, 9, 138] [(2, 2, 0), (9, 9, 0), (24, 24, 0), (11509, 11509, 0), (12509, 12509, 0)] ⟨((ln l39) == 0), h, rfl⟩
      replace h := ctrue hb h
      refine Ds 6 [(138, vb true), (137, vb true), (136, .p Go.undef), (135, .p Go.undef), (134, .p Go.undef), (133, .p Go.undef)] [] [] ?_
      refine WD_end (by kernel_rfl) (by kernel_rfl) (by kernel_rfl) ?_
      exact wK [0, 2, 5, 8, 9, 138] [(2, 2, 0), (9, 9, 0), (24, 24, 0), (11509, 11509, 0), (12509, 12509, 0)] ⟨true, h, rfl⟩
    subst hJ41
    rintro s ⟨b40, h, rfl⟩
    skip
    refine Cd b40 ?_ ?_
    · intro hb; replace h := ctrue hb h
      refine WA_skip ?_
      refine WA_block ?_
      refine WA_seq ?_
      refine WA_seq ?_
      obtain ⟨J44, hJ44, h⟩ := jsome h
      refine WA_join (fun s => ∃ (b43 : Bool), J44 b43 = some r ∧ s = ⟨[(0, vw a0), (2, .box 2 0 0 0), (5, .ps .opt (s117.F r1.1)), (8, .box 24 0 0 0), (9, .box 9 0 0 0), (147, vb b43)], [(2, ⟨0, 26, 2, true, false, [.agg [.ps .nil [], .ps .nil []]]⟩), (9, ⟨0, 26, 2, true, false, [.agg [vo 11509 0 (s23.F l6), vo 12509 0 (s24.F l39)]]⟩), (24, ⟨0, 122, 4, true, false, [.agg [.ps .opt (s117.F l35), vi i36, vb b37, vi i38]]⟩), (11509, ⟨0, 58, 4, false, true, s23.F l6⟩), (12509, ⟨0, 32, 1, false, true, s24.F l39⟩)], 1⟩) ?_ ?_
      · refine Rgd hT 1 [0, 2, 5, 8, 9, 139] [(139, .box 24 0 0 0)] ?_
        obtain ⟨r45, hr45, h⟩ := bsome h
        refine WO_ptb' rfl (by kernel_rfl) [24] [.box 24 0 0 0, vw k_go] [.ref (eReader (Reader.mk l35 i36 b37 i38)) 0, vw k_go] (vb r45) rfl (by kernel_rfl) en106 (by kernel_rfl) (by kernel_rfl) (by kernel_rfl) (ref1_Reader_word_ok hr45) (by kernel_rfl) ?_
        refine Sg hT 2 [0, 2, 5, 8, 9, 142] ⟨[(0, vw a0), (2, .box 2 0 0 0), (5, .ps .opt (s117.F r1.1)), (8, .box 24 0 0 0), (9, .box 9 0 0 0), (142, vb (!r45))], [(2, ⟨0, 26, 2, true, false, [.agg [.ps .nil [], .ps .nil []]]⟩), (9, ⟨0, 26, 2, true, false, [.agg [vo 11509 0 (s23.F l6), vo 12509 0 (s24.F l39)]]⟩), (24, ⟨0, 122, 4, true, false, [.agg [.ps .opt (s117.F l35), vi i36, vb b37, vi i38]]⟩), (11509, ⟨0, 58, 4, false, true, s23.F l6⟩), (12509, ⟨0, 32, 1, false, true, s24.F l39⟩)], 1⟩ ?_
        cases hb : (!r45 : Bool)
        · replace h := cfalse hb h
          refine Sgd hT 2 [0, 2, 5, 8, 9, 142, 144] [(144, vo 12509 0 (s24.F l39))] ?_
          refine One' hT rfl (ev_len_own s24 12509 0 true ⟨0, 32, 1, false, true, s24.F l39⟩ l39 (by kernel_rfl) rfl rfl) ?_
          refine Sgd hT 2 [0, 2, 5, 8, 9, 147] [(147, vb ((ln l39) == 4))] ?_
          exact oK [0, 2, 5, 8, 9, 147] [(2, 2, 0), (9, 9, 0), (24, 24, 0), (11509, 11509, 0), (12509, 12509, 0)] ⟨((ln l39) == 4), h, rfl⟩
        replace h := ctrue hb h
        refine Sgd hT 5 [0, 2, 5, 8, 9, 147] [(147, vb true)] ?_
        exact oK [0, 2, 5, 8, 9, 147] [(2, 2, 0), (9, 9, 0), (24, 24, 0), (11509, 11509, 0), (12509, 12509, 0)] ⟨true, h, rfl⟩
      subst hJ44
      rintro s ⟨b43, h, rfl⟩
      skip
      refine Cd b43 ?_ ?_
      · intro hb; replace h := ctrue hb h
        refine Qgd hT 1 [2, 5, 8, 9, 148] [(148, .box 24 0 0 0)] ?_
        obtain ⟨r46, hr46, h⟩ := bsome h
        refine WO_go' rfl (by kernel_rfl) [(0, ⟨0, 122, 4, true, false, [eReader (Reader.mk l35 i36 b37 i38)]⟩)] [(0, ⟨0, 122, 4, true, false, [eReader r46]⟩)] [.box 24 0 0 0] [.box 0 0 0 0] [(24, 0, 0)] [(0, 24, 0)] [(24, ⟨0, 122, 4, true, false, [eReader r46]⟩)] (.tup []) (.tup []) 2 rfl (by kernel_rfl) en103 (by kernel_rfl) (by kernel_rfl) (by kernel_rfl) (ref1_Reader_fail_ok hr46) (by kernel_rfl) (by kernel_rfl) (by kernel_rfl) (by kernel_rfl) ?_
        refine Szh hT 0 [2, 5, 8, 9] [] [(24, ⟨0, 122, 4, true, false, [eReader r46]⟩), (2, ⟨0, 26, 2, true, false, [.agg [.ps .nil [], .ps .nil []]]⟩), (9, ⟨0, 26, 2, true, false, [.agg [vo 11509 0 (s23.F l6), vo 12509 0 (s24.F l39)]]⟩), (11509, ⟨0, 58, 4, false, true, s23.F l6⟩), (12509, ⟨0, 32, 1, false, true, s24.F l39⟩)] 2 ?_
        exact eK [2, 5, 8, 9] [(2, 2, 0), (9, 9, 0), (24, 24, 0), (11509, 11509, 0), (12509, 12509, 0)] ⟨r46.T, r46.At, r46.Fail, r46.Bad, l39, h, rfl⟩
      intro hb; replace h := cfalse hb h
      refine WA_skip ?_
      refine Qzh hT 8 [0, 2, 5, 8, 9] [] [(24, ⟨0, 122, 4, true, false, [.agg [.ps .opt (s117.F l35), vi (wr (i36 + 1)), vb b37, vi i38]]⟩), (2, ⟨0, 26, 2, true, false, [.agg [.ps .nil [], .ps .nil []]]⟩), (9, ⟨0, 26, 2, true, false, [.agg [vo 11509 0 (s23.F l6), vo 12509 0 (s24.F l39)]]⟩), (11509, ⟨0, 58, 4, false, true, s23.F l6⟩), (12509, ⟨0, 32, 1, false, true, s24.F l39⟩)] 1 ?_
      refine WA_drawW hT hM (by kernel_rfl) ?_
      refine Ds 4 [(160, vw a0), (159, .box 24 0 0 0), (158, vo 12509 0 (s24.F l39)), (157, .box 9 0 0 1)] [] [(0, [9]), (1, [9])] ?_
      obtain ⟨r47, hr47, h⟩ := bsome h
      refine WD_go' rfl (by kernel_rfl) (by kernel_rfl) [(0, ⟨0, 122, 4, true, false, [eReader (Reader.mk l35 (wr (i36 + 1)) b37 i38)]⟩)] [(0, ⟨0, 122, 4, true, false, [eReader r47.2]⟩)] [.box 24 0 0 0, vw a0, vi 1] [.box 0 0 0 0, vw a0, vi 1] [(24, 0, 0)] [(0, 24, 0)] [(24, ⟨0, 122, 4, true, false, [eReader r47.2]⟩)] (.ps .opt (s32.F r47.1)) (.ps .opt (s32.F r47.1)) 2 rfl (by kernel_rfl) en107 (by kernel_rfl) (by kernel_rfl) (by kernel_rfl) (GO_frz 100 ⟨1, 38, 11, false, true, s32.F r47.1⟩ (ref1_Reader_block_ok hr47) (by kernel_rfl) rfl rfl) (by kernel_rfl) (by kernel_rfl) (by kernel_rfl) (by kernel_rfl) ?_
      refine Dh 1 [(162, .ps .full (s24.F [r47.1]))] [(24, ⟨0, 122, 4, true, false, [eReader r47.2]⟩), (2, ⟨0, 26, 2, true, false, [.agg [.ps .nil [], .ps .nil []]]⟩), (9, ⟨0, 26, 2, true, false, [.agg [vo 11509 0 (s23.F l6), vo 12509 0 (s24.F l39)]]⟩), (11509, ⟨0, 58, 4, false, true, s23.F l6⟩), (12509, ⟨0, 32, 1, false, true, s24.F l39⟩)] 2 [] [] ?_
      obtain ⟨g48, h⟩ := gsome h
      refine WD_wr' rfl (by kernel_rfl) (by kernel_rfl) (by kernel_rfl) (ev_append s24 12509 0 true l39 [r47.1] (by kernel_rfl) (by kernel_rfl) (by kernel_rfl) (by simp) g48) (by kernel_rfl) ?_
      refine Dh 2 [(164, .box 9 0 0 1)] [(9, ⟨0, 26, 2, true, false, [.agg [vo 11509 0 (s23.F l6), vo 163 2 (s24.F (l39 ++ [r47.1]))]]⟩), (163, ⟨2, 32, 1, false, false, s24.F (l39 ++ [r47.1])⟩), (24, ⟨0, 122, 4, true, false, [eReader r47.2]⟩), (2, ⟨0, 26, 2, true, false, [.agg [.ps .nil [], .ps .nil []]]⟩), (11509, ⟨0, 58, 4, false, true, s23.F l6⟩)] 3 [(8, [9])] [(7, [9])] ?_
      refine WD_end (by kernel_rfl) (by kernel_rfl) (by kernel_rfl) ?_
      refine kW [0, 2, 5, 8, 9] ⟨[(0, vw a0), (2, .box 2 0 0 0), (5, .ps .opt (s117.F r1.1)), (8, .box 24 0 0 0), (9, .box 9 0 0 0)], [(9, ⟨0, 26, 2, true, false, [.agg [vo 11509 0 (s23.F l6), vo 163 2 (s24.F (l39 ++ [r47.1]))]]⟩), (163, ⟨2, 32, 1, false, false, s24.F (l39 ++ [r47.1])⟩), (24, ⟨0, 122, 4, true, false, [eReader r47.2]⟩), (2, ⟨0, 26, 2, true, false, [.agg [.ps .nil [], .ps .nil []]]⟩), (11509, ⟨0, 58, 4, false, true, s23.F l6⟩)], 3⟩ ?_
      refine Wk_step (Weak_leH [(0, vw a0), (2, .box 2 0 0 0), (5, .ps .opt (s117.F r1.1)), (8, .box 24 0 0 0), (9, .box 9 0 0 0)] [(9, ⟨0, 26, 2, true, false, [.agg [vo 11509 0 (s23.F l6), vo 163 2 (s24.F (l39 ++ [r47.1]))]]⟩), (163, ⟨2, 32, 1, false, true, s24.F (l39 ++ [r47.1])⟩), (24, ⟨0, 122, 4, true, false, [eReader r47.2]⟩), (2, ⟨0, 26, 2, true, false, [.agg [.ps .nil [], .ps .nil []]]⟩), (11509, ⟨0, 58, 4, false, true, s23.F l6⟩)] (by kernel_rfl) ⟨VLf.refl _, VLf.refl _, VLf.refl _, VLf.refl _, VLf.refl _, trivial⟩ ⟨rfl, .inl rfl, rfl, .inr (.inr rfl), rfl, .inl rfl, rfl, .inl rfl, rfl, .inl rfl, trivial⟩) ?_
      exact wR [(2, 2, 0), (9, 9, 0), (24, 24, 0), (11509, 11509, 0), (163, 12509, 0)] ⟨_, by omega, by omega, r47.2.T, r47.2.At, r47.2.Fail, r47.2.Bad, l39 ++ [r47.1], h, rfl⟩
    intro hb; replace h := cfalse hb h
    exact eK [2, 5, 8, 9] [(2, 2, 0), (9, 9, 0), (24, 24, 0), (11509, 11509, 0), (12509, 12509, 0)] ⟨l35, i36, b37, i38, l39, h, rfl⟩
  subst hJ34
  rintro s ⟨l29, i30, b31, i32, l33, h, rfl⟩
  refine WA_seq ?_
  refine Qzd hT 4 [2, 5, 8, 9, 168] [(168, vb b31)] ?_
  refine Cd b31 ?_ ?_
  · intro hb; replace h := ctrue hb h
    refine WA_seq ?_
    refine WA_drawW hT hM (by kernel_rfl) ?_
    refine Ds 6 [(174, vi i32), (173, .box 24 0 0 3), (172, .box 24 0 0 0), (171, .box 24 0 0 0), (170, .ps .opt (s117.F r1.1)), (169, .agg [.ps .nil [], .ps .nil []])] [] [(3, [24]), (4, [24]), (5, [24])] ?_
    obtain ⟨x49, hx49, h⟩ := bsome h
    refine WD_loc' rfl (by kernel_rfl) (by kernel_rfl) (by kernel_rfl) (ev_index s117 .opt r1.1 .i64 i32 hx49 (by decide) (by kernel_rfl) (by kernel_rfl)) (by kernel_rfl) ?_
    refine Dt (.ref (eToken x49) 0) ?_
    refine Ds 5 [(4, vi 2), (3, vi x49.At), (177, vi x49.At), (176, .ref (eToken x49) 3)] [(9, [2])] [] ?_
    refine WD_end (by kernel_rfl) (by kernel_rfl) (by kernel_rfl) ?_
    refine Wk_done ?_
    refine aW [2, 3, 4] ⟨[(2, .box 2 0 0 0), (3, vi x49.At), (4, vi 2)], [(2, ⟨0, 26, 2, true, false, [.agg [.ps .nil [], .ps .nil []]]⟩), (9, ⟨0, 26, 2, true, false, [.agg [vo 11509 0 (s23.F l6), vo 12509 0 (s24.F l33)]]⟩), (24, ⟨0, 122, 4, true, false, [.agg [.ps .opt (s117.F l29), vi i30, vb b31, vi i32]]⟩), (11509, ⟨0, 58, 4, false, true, s23.F l6⟩), (12509, ⟨0, 32, 1, false, true, s24.F l33⟩)], 1⟩ ?_
    refine WA_weak (Weak_leH [(2, .box 2 0 0 0), (3, vi x49.At), (4, vi 2)] [(2, ⟨0, 26, 2, true, false, [eProg (Prog.mk [] [])]⟩), (9, ⟨0, 26, 2, true, false, [.agg [vo 11509 0 (s23.F l6), vo 12509 0 (s24.F l33)]]⟩), (24, ⟨0, 122, 4, true, false, [.agg [.ps .opt (s117.F l29), vi i30, vb b31, vi i32]]⟩), (11509, ⟨0, 58, 4, false, true, s23.F l6⟩), (12509, ⟨0, 32, 1, false, true, s24.F l33⟩)] (by kernel_rfl) ⟨VLf.refl _, VLf.refl _, VLf.refl _, trivial⟩ ⟨rfl, .inr (.inl ⟨rfl, rfl, CLe.agg ⟨(VLe.f VLe.nil_opt rfl), (VLe.f VLe.nil_opt rfl), trivial⟩, trivial⟩), rfl, .inl rfl, rfl, .inl rfl, rfl, .inl rfl, rfl, .inl rfl, trivial⟩) ?_
    obtain rfl := Option.some.inj h
    exact rR [(2, 1000, 0)] ⟨[(2, .box 1000 0 0 0), (3, vi x49.At), (4, vi 2)], [(1000, ⟨0, 26, 2, true, false, [eProg (Prog.mk [] [])]⟩)], 1⟩ ⟨by kernel_rfl, rfl⟩
  intro hb; replace h := cfalse hb h
  refine WA_skip ?_
  refine Qz hT 4 [2, 3, 4] ⟨[(2, .box 2 0 0 0), (3, vi 0), (4, vi 0)], [(2, ⟨0, 26, 2, true, false, [.agg [vo 11509 0 (s23.F l6), vo 12509 0 (s24.F l33)]]⟩), (9, ⟨0, 26, 2, true, false, [.agg [vo 11509 0 (s23.F l6), vo 12509 0 (s24.F l33)]]⟩), (24, ⟨0, 122, 4, true, false, [.agg [.ps .opt (s117.F l29), vi i30, vb b31, vi i32]]⟩), (11509, ⟨0, 58, 4, false, true, s23.F l6⟩), (12509, ⟨0, 32, 1, false, true, s24.F l33⟩)], 1⟩ ?_
  refine aW [2, 3, 4] ⟨[(2, .box 2 0 0 0), (3, vi 0), (4, vi 0)], [(2, ⟨0, 26, 2, true, false, [.agg [vo 11509 0 (s23.F l6), vo 12509 0 (s24.F l33)]]⟩), (9, ⟨0, 26, 2, true, false, [.agg [vo 11509 0 (s23.F l6), vo 12509 0 (s24.F l33)]]⟩), (24, ⟨0, 122, 4, true, false, [.agg [.ps .opt (s117.F l29), vi i30, vb b31, vi i32]]⟩), (11509, ⟨0, 58, 4, false, true, s23.F l6⟩), (12509, ⟨0, 32, 1, false, true, s24.F l33⟩)], 1⟩ ?_
  refine WA_weak (Weak_frz 11509 0 ⟨0, 58, 4, false, true, s23.F l6⟩ (by kernel_rfl) rfl rfl [(2, .box 2 0 0 0), (3, vi 0), (4, vi 0)] [(2, ⟨0, 26, 2, true, false, [.agg [.ps .opt (s23.F l6), vo 12509 0 (s24.F l33)]]⟩), (9, ⟨0, 26, 2, true, false, [.agg [.ps .opt (s23.F l6), vo 12509 0 (s24.F l33)]]⟩), (24, ⟨0, 122, 4, true, false, [.agg [.ps .opt (s117.F l29), vi i30, vb b31, vi i32]]⟩), (12509, ⟨0, 32, 1, false, true, s24.F l33⟩)] ⟨rfl, .keep _, rfl, .keep _, rfl, .keep _, trivial⟩ ⟨rfl, .inr ⟨rfl, rfl, .aggs ⟨.hit true, .keep _, trivial⟩, trivial⟩, rfl, .inr ⟨rfl, rfl, .aggs ⟨.hit true, .keep _, trivial⟩, trivial⟩, rfl, .inl rfl, rfl, .inl rfl, trivial⟩) ?_
  refine WA_weak (Weak_frz 12509 0 ⟨0, 32, 1, false, true, s24.F l33⟩ (by kernel_rfl) rfl rfl [(2, .box 2 0 0 0), (3, vi 0), (4, vi 0)] [(2, ⟨0, 26, 2, true, false, [.agg [.ps .opt (s23.F l6), .ps .opt (s24.F l33)]]⟩), (9, ⟨0, 26, 2, true, false, [.agg [.ps .opt (s23.F l6), .ps .opt (s24.F l33)]]⟩), (24, ⟨0, 122, 4, true, false, [.agg [.ps .opt (s117.F l29), vi i30, vb b31, vi i32]]⟩)] ⟨rfl, .keep _, rfl, .keep _, rfl, .keep _, trivial⟩ ⟨rfl, .inr ⟨rfl, rfl, .aggs ⟨.keep _, .hit true, trivial⟩, trivial⟩, rfl, .inr ⟨rfl, rfl, .aggs ⟨.keep _, .hit true, trivial⟩, trivial⟩, rfl, .inl rfl, trivial⟩) ?_
  refine WA_weak (Weak_leH [(2, .box 2 0 0 0), (3, vi 0), (4, vi 0)] [(2, ⟨0, 26, 2, true, false, [eProg (Prog.mk l6 l33)]⟩), (9, ⟨0, 26, 2, true, false, [.agg [.ps .opt (s23.F l6), .ps .opt (s24.F l33)]]⟩), (24, ⟨0, 122, 4, true, false, [.agg [.ps .opt (s117.F l29), vi i30, vb b31, vi i32]]⟩)] (by kernel_rfl) ⟨VLf.refl _, VLf.refl _, VLf.refl _, trivial⟩ ⟨rfl, .inr (.inl ⟨rfl, rfl, CLe.agg ⟨VLf.refl _, VLf.refl _, trivial⟩, trivial⟩), rfl, .inl rfl, rfl, .inl rfl, trivial⟩) ?_
  obtain rfl := Option.some.inj h
  exact rR [(2, 1000, 0)] ⟨[(2, .box 1000 0 0 0), (3, vi 0), (4, vi 0)], [(1000, ⟨0, 26, 2, true, false, [eProg (Prog.mk l6 l33)]⟩)], 1⟩ ⟨by kernel_rfl, rfl⟩

theorem law10_read_ok {n : Nat} {a0 : ByteArray} {r : Prog} (h : law10_read n a0 = some r) : PT Try.prog 19 [vw a0] (eProg r) := by
  unfold law10_read at h
  refine PT_bodyA hT Try.func19 rfl (by kernel_rfl) fun bad w => ?_
  refine Qz hT 1 [0, 2] ⟨[(0, vw a0), (2, .box 2 0 0 0)], [(2, ⟨0, 26, 2, true, false, [.agg [.ps .nil [], .ps .nil []]]⟩)], 1⟩ ?_
  refine Qgd hT 1 [2, 7] [(7, vw a0)] ?_
  obtain ⟨r1, hr1, h⟩ := bsome h
  refine Pt' en65 (ref1_Parse_ok hr1) ?_
  refine Sz hT 8 [2, 3] ⟨[(2, .box 2 0 0 0), (3, .box 3 1 0 0)], [(3, ⟨1, 26, 2, true, false, [eProg r1.1]⟩), (2, ⟨0, 26, 2, true, false, [.agg [.ps .nil [], .ps .nil []]]⟩)], 2⟩ ?_
  refine Qz hT 2 [2] ⟨[(2, .box 2 0 0 0)], [(2, ⟨0, 26, 2, true, false, [eProg r1.1]⟩), (3, ⟨1, 26, 2, true, false, [eProg r1.1]⟩)], 2⟩ ?_
  obtain rfl := Option.some.inj h
  exact rK [2] [(2, 1000, 0)] ⟨[(2, .box 1000 0 0 0)], [(1000, ⟨0, 26, 2, true, false, [eProg r1.1]⟩)], 1⟩ ⟨by kernel_rfl, rfl⟩

theorem law10_known_ok {n : Nat} {r : Bool} (h : law10_known n = some r) : PT Try.prog 16 [] (vb r) := by
  unfold law10_known at h
  refine PT_bodyA hT Try.func16 rfl (by kernel_rfl) fun bad w => ?_
  refine Qz hT 1 [] ⟨[], [], 0⟩ ?_
  refine WA_seq ?_
  refine WA_region ?_
  obtain ⟨r1, hr1, h⟩ := bsome h
  refine Pt' en19 (law10_read_ok hr1) ?_
  obtain ⟨r2, hr2, h⟩ := bsome h
  refine Pt' en18 (bound_Size_ok hr2) ?_
  refine Sz hT 1 [1] ⟨[(1, .ps .fopt (s30.F r2))], [], 0⟩ ?_
  refine WA_seq ?_
  obtain ⟨J4, hJ4, h⟩ := jsome h
  refine WA_join (fun s => ∃ (b3 : Bool), J4 b3 = some r ∧ s = ⟨[(0, vb b3)], [], 1⟩) ?_ ?_
  · refine Rgd hT 1 [1, 4] [(4, .ps .fopt (s30.F r2))] ?_
    refine One' hT rfl (ev_len s30 .fopt r2 (by kernel_rfl)) ?_
    refine Sgd hT 2 [1, 7] [(7, vb ((ln r2) == 2))] ?_
    cases hb : (((ln r2) == 2) : Bool)
    · replace h := cfalse hb h
      refine Sg hT 12 [0] ⟨[(0, vb false)], [], 0⟩ ?_
      exact oK [0] [] ⟨false, h, rfl⟩
    replace h := ctrue hb h
    refine Sgd hT 1 [1, 7, 8] [(8, .ps .fopt (s30.F r2))] ?_
    obtain ⟨x5, hx5, h⟩ := bsome h
    refine One' hT rfl (ev_index s30 .fopt r2 .i64 0 hx5 (by decide) (by kernel_rfl) (by kernel_rfl)) ?_
    refine Sgd hT 4 [1, 13] [(13, vb (x5 == 4))] ?_
    cases hb : ((x5 == 4) : Bool)
    · replace h := cfalse hb h
      refine Sg hT 6 [0] ⟨[(0, vb false)], [], 0⟩ ?_
      exact oK [0] [] ⟨false, h, rfl⟩
    replace h := ctrue hb h
    refine Sg hT 1 [13, 14] ⟨[(13, vb true), (14, .ps .fopt (s30.F r2))], [], 0⟩ ?_
    obtain ⟨x6, hx6, h⟩ := bsome h
    refine One' hT rfl (ev_index s30 .fopt r2 .i64 1 hx6 (by decide) (by kernel_rfl) (by kernel_rfl)) ?_
    refine Sg hT 4 [0] ⟨[(0, vb (x6 == 0))], [], 0⟩ ?_
    exact oK [0] [] ⟨(x6 == 0), h, rfl⟩
  subst hJ4
  rintro s ⟨b3, h, rfl⟩
  obtain rfl := Option.some.inj h
  exact rK [0] [] ⟨[(0, vb b3)], [], 1⟩ ⟨by kernel_rfl, rfl⟩

theorem law10_BoundTells_ok {n : Nat} {a0 : Int} {a1 : List Act} {a2 : List Act} {a3 : List Act} {a4 : List Int} {a5 : List Int} {r : Bool} (h : law10_BoundTells n a0 a1 a2 a3 a4 a5 = some r) : PT Try.prog 5 [vi a0, .ps .opt (s22.F a1), .ps .opt (s22.F a2), .ps .opt (s22.F a3), .ps .opt (s30.F a4), .ps .opt (s30.F a5)] (vb r) := by
  unfold law10_BoundTells at h
  refine PT_bodyA hT Try.func5 rfl (by kernel_rfl) fun bad w => ?_
  refine Qzd hT 1 [0, 1, 2, 3, 4, 5] [] ?_
  refine Qgd hT 4 [4, 5, 23, 24, 25, 26] [(23, vi a0), (24, .ps .opt (s22.F a1)), (25, .ps .opt (s22.F a2)), (26, .ps .opt (s22.F a3))] ?_
  obtain ⟨r1, hr1, h⟩ := bsome h
  refine WO_go' rfl (by kernel_rfl) [] [(100, ⟨1, 32, 1, false, true, s24.F r1.Threads⟩)] [vi a0, .ps .opt (s22.F a1), .ps .opt (s22.F a2), .ps .opt (s22.F a3), vi 4] [vi a0, .ps .opt (s22.F a1), .ps .opt (s22.F a2), .ps .opt (s22.F a3), vi 4] [] [(100, 27, 0)] [(27, ⟨0, 32, 1, false, true, s24.F r1.Threads⟩)] (.agg [.ps .opt (s23.F r1.Decls), vo 100 1 (s24.F r1.Threads)]) (.agg [.ps .opt (s23.F r1.Decls), vo 27 0 (s24.F r1.Threads)]) 1 rfl (by kernel_rfl) en15 (by kernel_rfl) (by kernel_rfl) (by kernel_rfl) (hand_Prog_ok hr1) (by kernel_rfl) (by kernel_rfl) (by kernel_rfl) (by kernel_rfl) ?_
  refine Szh hT 2 [4, 5, 13] [(13, .box 13 1 0 0)] [(13, ⟨1, 26, 2, true, false, [.agg [.ps .opt (s23.F r1.Decls), vo 27 0 (s24.F r1.Threads)]]⟩), (27, ⟨0, 32, 1, false, true, s24.F r1.Threads⟩)] 2 ?_
  refine WA_seq ?_
  refine Qgd hT 1 [5, 13, 28] [(28, .ps .opt (s30.F a4))] ?_
  refine One' hT rfl (ev_len s30 .opt a4 (by kernel_rfl)) ?_
  refine Szd hT 1 [5, 13, 28, 29, 30] [(29, vi (ln a4)), (30, vi 0)] ?_
  refine WA_block ?_
  refine lK [5, 13, 28, 29, 30] [(13, 13, 0), (27, 27, 0)] (fun k s => ∃ q, q ≤ k ∧ q ≤ n ∧ ∃ (l2 : List (List Stmt)), ∃ (i3 : Int), law10_BoundTells_L0 q a0 a1 a2 a3 a4 a5 r1 l2 i3 = some r ∧ s = ⟨[(5, .ps .opt (s30.F a5)), (13, .box 13 0 0 0), (28, .ps .opt (s30.F a4)), (29, vi (ln a4)), (30, vi i3)], [(13, ⟨0, 26, 2, true, false, [.agg [.ps .opt (s23.F r1.Decls), vo 27 0 (s24.F l2)]]⟩), (27, ⟨0, 32, 1, false, true, s24.F l2⟩)], 1⟩) n ⟨n, Nat.le_refl _, Nat.le_refl _, r1.Threads, 0, h, rfl⟩ (by rintro s ⟨q, hq, _, l2, i3, h, _⟩; obtain rfl := Nat.le_zero.1 hq; rw [law10_BoundTells_L0] at h; cases h) ?_
  clear h
  rintro k1 s ⟨q1, hk1, hn1, l2, i3, h, rfl⟩
  rcases q1 with _ | q1
  · rw [law10_BoundTells_L0] at h; cases h
  rw [law10_BoundTells_L0] at h
  refine Qzd hT 1 [5, 13, 28, 29, 30, 31] [(31, vb (decide (i3 < (ln a4))))] ?_
  refine WA_seq ?_
  refine Cd (decide (i3 < (ln a4))) ?_ ?_
  · intro hb; replace h := ctrue hb h
    refine WA_skip ?_
    refine WA_seq ?_
    obtain ⟨J5, hJ5, h⟩ := jsome h
    refine WA_join (fun s => ∃ (l4 : List (List Stmt)), J5 l4 = some r ∧ s = ⟨[(5, .ps .opt (s30.F a5)), (13, .box 13 0 0 0), (28, .ps .opt (s30.F a4)), (29, vi (ln a4)), (30, vi i3)], [(13, ⟨0, 26, 2, true, false, [.agg [.ps .opt (s23.F r1.Decls), vo 27 0 (s24.F l4)]]⟩), (27, ⟨0, 32, 1, false, true, s24.F l4⟩)], 1⟩) ?_ ?_
    · refine WA_block ?_
      refine Qgd hT 1 [5, 13, 28, 29, 30, 32] [(32, vi i3)] ?_
      obtain ⟨x6, hx6, h⟩ := bsome h
      refine One' hT rfl (ev_index s30 .opt a4 .i64 i3 hx6 (by decide) (by kernel_rfl) (by kernel_rfl)) ?_
      refine Szd hT 3 [5, 13, 14, 15, 28, 29, 30] [(14, vi i3), (15, vi x6)] ?_
      refine Qgd hT 3 [5, 13, 14, 15, 28, 29, 30, 35, 37] [(35, vi i3), (37, vo 27 0 (s24.F l2))] ?_
      refine One' hT rfl (ev_len_own s24 27 0 true ⟨0, 32, 1, false, true, s24.F l2⟩ l2 (by kernel_rfl) rfl rfl) ?_
      refine Szd hT 1 [5, 13, 14, 15, 28, 29, 30, 39] [(39, vb (decide (i3 < (ln l2))))] ?_
      refine Cd (decide (i3 < (ln l2))) ?_ ?_
      · intro hb; replace h := ctrue hb h
        refine WA_drawW hT hM (by kernel_rfl) ?_
        refine Ds 4 [(43, vi x6), (42, vi i3), (41, vo 27 0 (s24.F l2)), (40, .box 13 0 0 1)] [] [(0, [13]), (1, [13])] ?_
        obtain ⟨r7, hr7, h⟩ := bsome h
        refine WD_pt' rfl (by kernel_rfl) (by kernel_rfl) [vi x6, vi 80] (vi r7) rfl (by kernel_rfl) en17 (by kernel_rfl) (hand_Pick_ok hr7) (by kernel_rfl) ?_
        refine Ds 3 [(47, vi i3), (46, vo 27 0 (s24.F l2)), (45, .box 13 0 0 1)] [] [(5, [13]), (6, [13])] ?_
        obtain ⟨x8, hx8, h⟩ := bsome h
        refine WD_loc' rfl (by kernel_rfl) (by kernel_rfl) (by kernel_rfl) (ev_index_own s24 27 0 true ⟨0, 32, 1, false, true, s24.F l2⟩ l2 .i64 i3 hx8 (by kernel_rfl) (by kernel_rfl) rfl rfl rfl) (by kernel_rfl) ?_
        refine Dt (.box 27 0 i3.toNat 0) ?_
        refine WD_loc' rfl (by kernel_rfl) (by kernel_rfl) (by kernel_rfl) (ev_load_row s24 27 0 ⟨0, 32, 1, false, true, s24.F l2⟩ l2 i3.toNat 0 x8 (.ps .opt (s32.F x8)) (idx_some hx8).2 (by kernel_rfl) rfl rfl rfl (by kernel_rfl)) (by kernel_rfl) ?_
        refine Dt (.ps .opt (s32.F x8)) ?_
        refine Ds 4 [(53, .agg [vi 8, vw b0, vw b0, vi r7, vi 0, vi 0, vw b0, .ps .nil [], .ps .opt (s32.F x8), .ps .nil [], vz (⟨4617315517961601024, FloatKind.f64.nearest i3⟩ : Cx)]), (52, vz (⟨4617315517961601024, FloatKind.f64.nearest i3⟩ : Cx)), (51, .p (.float .f64 (FloatKind.f64.nearest i3))), (50, vi i3)] [] [] ?_
        refine WD_loc' rfl (by kernel_rfl) (by kernel_rfl) (by kernel_rfl) (ev_bsliceD s32 [(Stmt.mk 8 b0 b0 r7 (Expr.mk 0 0 b0 []) x8 [] (⟨4617315517961601024, FloatKind.f64.nearest i3⟩ : Cx))] (by kernel_rfl)) (by kernel_rfl) ?_
        refine Dt (.ps .full (s32.F [(Stmt.mk 8 b0 b0 r7 (Expr.mk 0 0 b0 []) x8 [] (⟨4617315517961601024, FloatKind.f64.nearest i3⟩ : Cx))])) ?_
        obtain ⟨x9, hx9, h⟩ := bsome h
        refine WD_loc' rfl (by kernel_rfl) (by kernel_rfl) (by kernel_rfl) (ev_index_own s24 27 0 true ⟨0, 32, 1, false, true, s24.F l2⟩ l2 .i64 i3 hx9 (by kernel_rfl) (by kernel_rfl) rfl rfl rfl) (by kernel_rfl) ?_
        refine Dt (.box 27 0 i3.toNat 0) ?_
        refine WD_wr' rfl (by kernel_rfl) (by kernel_rfl) (by kernel_rfl) (ev_storeRow s24 27 0 ⟨0, 32, 1, false, true, s24.F l2⟩ l2 i3.toNat 0 x9 [(Stmt.mk 8 b0 b0 r7 (Expr.mk 0 0 b0 []) x8 [] (⟨4617315517961601024, FloatKind.f64.nearest i3⟩ : Cx))] (idx_some hx9).2 (by kernel_rfl) (by kernel_rfl) rfl rfl rfl rfl (by kernel_rfl) (by kernel_rfl) (by kernel_rfl)) (by kernel_rfl) ?_
        refine WD_end (by kernel_rfl) (by kernel_rfl) (by kernel_rfl) ?_
        refine kW [5, 13, 28, 29, 30] ⟨[(5, .ps .opt (s30.F a5)), (13, .box 13 0 0 0), (28, .ps .opt (s30.F a4)), (29, vi (ln a4)), (30, vi i3)], [(27, ⟨0, 32, 1, false, true, s24.F (l2.set i3.toNat [(Stmt.mk 8 b0 b0 r7 (Expr.mk 0 0 b0 []) x8 [] (⟨4617315517961601024, FloatKind.f64.nearest i3⟩ : Cx))])⟩), (13, ⟨0, 26, 2, true, false, [.agg [.ps .opt (s23.F r1.Decls), vo 27 0 (s24.F l2)]]⟩)], 1⟩ ?_
        refine Wk_step (Weak_leH [(5, .ps .opt (s30.F a5)), (13, .box 13 0 0 0), (28, .ps .opt (s30.F a4)), (29, vi (ln a4)), (30, vi i3)] [(27, ⟨0, 32, 1, false, true, s24.F (l2.set i3.toNat [(Stmt.mk 8 b0 b0 r7 (Expr.mk 0 0 b0 []) x8 [] (⟨4617315517961601024, FloatKind.f64.nearest i3⟩ : Cx))])⟩), (13, ⟨0, 26, 2, true, false, [.agg [.ps .opt (s23.F r1.Decls), vo 27 0 (s24.F (l2.set i3.toNat [(Stmt.mk 8 b0 b0 r7 (Expr.mk 0 0 b0 []) x8 [] (⟨4617315517961601024, FloatKind.f64.nearest i3⟩ : Cx))]))]]⟩)] (by kernel_rfl) ⟨VLf.refl _, VLf.refl _, VLf.refl _, VLf.refl _, VLf.refl _, trivial⟩ ⟨rfl, .inl rfl, rfl, .inr (.inl ⟨rfl, rfl, CLe.agg ⟨VLf.refl _, (VLf.slen (by simp [TE.len, lcopy_length, rcopy_length])), trivial⟩, trivial⟩), trivial⟩) ?_
        exact wK [5, 13, 28, 29, 30] [(13, 13, 0), (27, 27, 0)] ⟨l2.set i3.toNat [(Stmt.mk 8 b0 b0 r7 (Expr.mk 0 0 b0 []) x8 [] (⟨4617315517961601024, FloatKind.f64.nearest i3⟩ : Cx))], h, rfl⟩
      intro hb; replace h := cfalse hb h
      exact sK [5, 13, 28, 29, 30] [(13, 13, 0), (27, 27, 0)] ⟨l2, h, rfl⟩
    subst hJ5
    rintro s ⟨l4, h, rfl⟩
    skip
    refine Rgd hT 2 [5, 13, 28, 29, 30] [(30, vi (wr (i3 + 1)))] ?_
    exact oK [5, 13, 28, 29, 30] [(13, 13, 0), (27, 27, 0)] ⟨_, by omega, by omega, l4, wr (i3 + 1), h, rfl⟩
  intro hb; replace h := cfalse hb h
  refine WA_exit ?_
  refine Qg hT 1 [5, 13, 57] ⟨[(5, .ps .opt (s30.F a5)), (13, .box 13 0 0 0), (57, .agg [.ps .opt (s23.F r1.Decls), vo 27 0 (s24.F l2)])], [(13, ⟨0, 26, 2, true, false, [.agg [.ps .opt (s23.F r1.Decls), vo 27 0 (s24.F l2)]]⟩), (27, ⟨0, 32, 1, false, true, s24.F l2⟩)], 1⟩ ?_
  refine WO_weak (Weak_frz 27 0 ⟨0, 32, 1, false, true, s24.F l2⟩ (by kernel_rfl) rfl rfl [(5, .ps .opt (s30.F a5)), (13, .box 13 0 0 0), (57, .agg [.ps .opt (s23.F r1.Decls), .ps .opt (s24.F l2)])] [(13, ⟨0, 26, 2, true, false, [.agg [.ps .opt (s23.F r1.Decls), .ps .opt (s24.F l2)]]⟩)] ⟨rfl, .keep _, rfl, .keep _, rfl, .aggs ⟨.keep _, .hit true, trivial⟩, trivial⟩ ⟨rfl, .inr ⟨rfl, rfl, .aggs ⟨.keep _, .hit true, trivial⟩, trivial⟩, trivial⟩) ?_
  obtain ⟨r10, hr10, h⟩ := bsome h
  refine Pt' (vs := [.agg [.ps .opt (s23.F r1.Decls), .ps .opt (s24.F l2)]]) en18 (PT_args ((bound_Size_ok hr10)) ⟨VLe.agg ⟨VLe.refl _, VLe.refl _, trivial⟩, trivial⟩) ?_
  refine Szd hT 1 [5, 13, 16] [(16, .ps .fopt (s30.F r10))] ?_
  refine Qgd hT 1 [5, 13, 16, 59] [(59, .agg [.ps .opt (s23.F r1.Decls), .ps .opt (s24.F l2)])] ?_
  obtain ⟨r11, hr11, h⟩ := bsome h
  refine WO_go' rfl (by kernel_rfl) [] [(100, ⟨1, 3, 1, false, true, s30.F r11⟩)] [.agg [.ps .opt (s23.F r1.Decls), .ps .opt (s24.F l2)]] [.agg [.ps .opt (s23.F r1.Decls), .ps .opt (s24.F l2)]] [] [(100, 60, 1)] [(60, ⟨1, 3, 1, false, true, s30.F r11⟩)] (vo 100 1 (s30.F r11)) (vo 60 1 (s30.F r11)) 2 rfl (by kernel_rfl) en22 (by kernel_rfl) (by kernel_rfl) (by kernel_rfl) (GO_args ((ref8_Size_ok hr11)) ⟨(VLe.f (VLe.agg ⟨VLe.refl _, VLe.refl _, trivial⟩) rfl), trivial⟩) (by kernel_rfl) (by kernel_rfl) (by kernel_rfl) (by kernel_rfl) ?_
  refine Szh hT 1 [5, 13, 16, 17] [(17, vo 60 1 (s30.F r11))] [(60, ⟨1, 3, 1, false, true, s30.F r11⟩), (13, ⟨0, 26, 2, true, false, [.agg [.ps .opt (s23.F r1.Decls), .ps .opt (s24.F l2)]]⟩)] 2 ?_
  refine Qgd hT 1 [5, 13, 16, 17, 62] [(62, .agg [.ps .opt (s23.F r1.Decls), .ps .opt (s24.F l2)])] ?_
  obtain ⟨r12, hr12, h⟩ := bsome h
  refine Pt' (vs := [.agg [.ps .opt (s23.F r1.Decls), .ps .opt (s24.F l2)]]) en20 (PT_args ((bound_Check_ok hr12)) ⟨VLe.agg ⟨VLe.refl _, VLe.refl _, trivial⟩, trivial⟩) ?_
  refine Szd hT 5 [5, 13, 16, 17, 18, 19] [(18, vz r12.1), (19, vi r12.2)] ?_
  refine Qgd hT 1 [5, 16, 17, 18, 19, 67] [(67, .agg [.ps .opt (s23.F r1.Decls), .ps .opt (s24.F l2)])] ?_
  obtain ⟨r13, hr13, h⟩ := bsome h
  refine Pt' (vs := [.agg [.ps .opt (s23.F r1.Decls), .ps .opt (s24.F l2)]]) en23 (PT_args ((ref8_Bound_ok hr13)) ⟨VLe.agg ⟨VLe.refl _, VLe.refl _, trivial⟩, trivial⟩) ?_
  refine Szd hT 5 [5, 16, 17, 18, 19, 20, 21] [(20, vz r13.1), (21, vi r13.2)] ?_
  refine WA_seq ?_
  refine WA_seq ?_
  obtain ⟨J15, hJ15, h⟩ := jsome h
  refine WA_join (fun s => ∃ (b14 : Bool), J15 b14 = some r ∧ s = ⟨[(16, .ps .fopt (s30.F r10)), (17, vo 60 0 (s30.F r11)), (98, vb b14)], [(60, ⟨0, 3, 1, false, true, s30.F r11⟩)], 1⟩) ?_ ?_
  · refine WA_region ?_
    obtain ⟨r16, hr16, h⟩ := bsome h
    refine Pt' en16 (law10_known_ok hr16) ?_
    refine Sgd hT 2 [5, 16, 17, 18, 19, 20, 21, 73] [(73, vb (!r16))] ?_
    cases hb : (!r16 : Bool)
    · replace h := cfalse hb h
      refine Sgd hT 1 [5, 16, 17, 18, 19, 20, 21, 73, 74] [(74, .ps .fopt (s30.F r10))] ?_
      refine One' hT rfl (ev_len s30 .fopt r10 (by kernel_rfl)) ?_
      refine Sgd hT 1 [5, 16, 17, 18, 19, 20, 21, 73, 75, 76] [(75, vi (ln r10)), (76, vo 60 1 (s30.F r11))] ?_
      refine One' hT rfl (ev_len_own s30 60 1 true ⟨1, 3, 1, false, true, s30.F r11⟩ r11 (by kernel_rfl) rfl rfl) ?_
      refine Sgd hT 3 [5, 16, 17, 18, 19, 20, 21, 80] [(80, vb ((ln r10) != (ln r11)))] ?_
      cases hb : (((ln r10) != (ln r11)) : Bool)
      · replace h := cfalse hb h
        refine Sg hT 5 [5, 16, 17, 19, 21, 85] ⟨[(5, .ps .opt (s30.F a5)), (16, .ps .fopt (s30.F r10)), (17, vo 60 1 (s30.F r11)), (19, vi r12.2), (21, vi r13.2), (85, vb (!((FloatKind.f64.format.order r12.1.re r13.1.re == some .eq) && (FloatKind.f64.format.order r12.1.im r13.1.im == some .eq))))], [(60, ⟨1, 3, 1, false, true, s30.F r11⟩), (13, ⟨0, 26, 2, true, false, [.agg [.ps .opt (s23.F r1.Decls), .ps .opt (s24.F l2)]]⟩)], 2⟩ ?_
        cases hb : (!((FloatKind.f64.format.order r12.1.re r13.1.re == some .eq) && (FloatKind.f64.format.order r12.1.im r13.1.im == some .eq)) : Bool)
        · replace h := cfalse hb h
          refine Sgd hT 5 [5, 16, 17, 90] [(90, vb (r12.2 != r13.2))] ?_
          cases hb : ((r12.2 != r13.2) : Bool)
          · replace h := cfalse hb h
            refine Sgd hT 1 [5, 16, 17, 90, 91] [(91, .ps .opt (s30.F a5))] ?_
            obtain ⟨r17, hr17, h⟩ := bsome h
            refine Pt' en24 (hand_Expr_ok hr17) ?_
            refine Sgd hT 0 [5, 16, 17, 90, 92] [(92, eExpr r17)] ?_
            obtain ⟨r18, hr18, h⟩ := bsome h
            refine Pt' en21 (bound_Expr_ok hr18) ?_
            refine Sgd hT 1 [16, 17, 90, 93, 94] [(93, vi r18), (94, .ps .opt (s30.F a5))] ?_
            obtain ⟨r19, hr19, h⟩ := bsome h
            refine Pt' en24 (hand_Expr_ok hr19) ?_
            refine Sgd hT 0 [16, 17, 90, 93, 95] [(95, eExpr r19)] ?_
            obtain ⟨r20, hr20, h⟩ := bsome h
            refine Pt' en25 (ref8_Expr_ok hr20) ?_
            refine Sgd hT 2 [16, 17, 98] [(98, vb (r18 != r20))] ?_
            exact oK [16, 17, 98] [(60, 60, 0)] ⟨(r18 != r20), h, rfl⟩
          replace h := ctrue hb h
          refine Sgd hT 8 [16, 17, 98] [(98, vb true)] ?_
          exact oK [16, 17, 98] [(60, 60, 0)] ⟨true, h, rfl⟩
        replace h := ctrue hb h
        refine Sgd hT 13 [16, 17, 98] [(98, vb true)] ?_
        exact oK [16, 17, 98] [(60, 60, 0)] ⟨true, h, rfl⟩
      replace h := ctrue hb h
      refine Sg hT 18 [16, 17, 98] ⟨[(16, .ps .fopt (s30.F r10)), (17, vo 60 1 (s30.F r11)), (98, vb true)], [(60, ⟨1, 3, 1, false, true, s30.F r11⟩), (13, ⟨0, 26, 2, true, false, [.agg [.ps .opt (s23.F r1.Decls), .ps .opt (s24.F l2)]]⟩)], 2⟩ ?_
      exact oK [16, 17, 98] [(60, 60, 0)] ⟨true, h, rfl⟩
    replace h := ctrue hb h
    refine Sgd hT 25 [16, 17, 98] [(98, vb true)] ?_
    exact oK [16, 17, 98] [(60, 60, 0)] ⟨true, h, rfl⟩
  subst hJ15
  rintro s ⟨b14, h, rfl⟩
  refine Cd b14 ?_ ?_
  · intro hb; replace h := ctrue hb h
    refine Qzd hT 1 [12] [(12, vb false)] ?_
    obtain rfl := Option.some.inj h
    exact rK [12] [] ⟨[(12, vb false)], [], 1⟩ ⟨by kernel_rfl, rfl⟩
  intro hb; replace h := cfalse hb h
  refine WA_skip ?_
  refine WA_seq ?_
  refine Qgd hT 1 [16, 17, 99] [(99, .ps .fopt (s30.F r10))] ?_
  refine One' hT rfl (ev_len s30 .fopt r10 (by kernel_rfl)) ?_
  refine Szd hT 1 [16, 17, 100, 101] [(100, vi (ln r10)), (101, vi 0)] ?_
  refine WA_block ?_
  refine lK [16, 17, 100, 101] [(60, 60, 0)] (fun k s => ∃ q, q ≤ k ∧ q ≤ q1 ∧ ∃ (i21 : Int), law10_BoundTells_L1 q a0 a1 a2 a3 a4 a5 r1 l2 i3 r10 r11 r12 r13 b14 i21 = some r ∧ s = ⟨[(16, .ps .fopt (s30.F r10)), (17, vo 60 0 (s30.F r11)), (100, vi (ln r10)), (101, vi i21)], [(60, ⟨0, 3, 1, false, true, s30.F r11⟩)], 1⟩) q1 ⟨q1, Nat.le_refl _, Nat.le_refl _, 0, h, rfl⟩ (by rintro s ⟨q, hq, _, i21, h, _⟩; obtain rfl := Nat.le_zero.1 hq; rw [law10_BoundTells_L1] at h; cases h) ?_
  clear h
  rintro k2 s ⟨q2, hk2, hn2, i21, h, rfl⟩
  rcases q2 with _ | q2
  · rw [law10_BoundTells_L1] at h; cases h
  rw [law10_BoundTells_L1] at h
  refine Qzd hT 1 [16, 17, 100, 101, 102] [(102, vb (decide (i21 < (ln r10))))] ?_
  refine WA_seq ?_
  refine Cd (decide (i21 < (ln r10))) ?_ ?_
  · intro hb; replace h := ctrue hb h
    refine WA_skip ?_
    refine WA_seq ?_
    refine WA_block ?_
    refine Qzd hT 2 [16, 17, 22, 100, 101] [(22, vi i21)] ?_
    refine WA_seq ?_
    refine WA_drawW hT hM (by kernel_rfl) ?_
    refine Ds 2 [(105, vi i21), (104, .ps .fopt (s30.F r10))] [] [] ?_
    obtain ⟨x22, hx22, h⟩ := bsome h
    refine WD_loc' rfl (by kernel_rfl) (by kernel_rfl) (by kernel_rfl) (ev_index s30 .fopt r10 .i64 i21 hx22 (by decide) (by kernel_rfl) (by kernel_rfl)) (by kernel_rfl) ?_
    refine Dt (.ref (e_i64 x22) 0) ?_
    refine Ds 3 [(109, vi i21), (108, vo 60 0 (s30.F r11)), (107, vi x22)] [] [] ?_
    obtain ⟨x23, hx23, h⟩ := bsome h
    refine WD_loc' rfl (by kernel_rfl) (by kernel_rfl) (by kernel_rfl) (ev_index_own s30 60 0 true ⟨0, 3, 1, false, true, s30.F r11⟩ r11 .i64 i21 hx23 (by kernel_rfl) (by kernel_rfl) rfl rfl rfl) (by kernel_rfl) ?_
    refine Dt (.box 60 0 i21.toNat 0) ?_
    refine WD_loc' rfl (by kernel_rfl) (by kernel_rfl) (by kernel_rfl) (ev_load_row s30 60 0 ⟨0, 3, 1, false, true, s30.F r11⟩ r11 i21.toNat 0 x23 (vi x23) (idx_some hx23).2 (by kernel_rfl) rfl rfl rfl (by kernel_rfl)) (by kernel_rfl) ?_
    refine Dt (vi x23) ?_
    refine Ds 1 [(112, vb (x22 != x23))] [] [] ?_
    refine WD_end (by kernel_rfl) (by kernel_rfl) (by kernel_rfl) ?_
    refine Wk_done ?_
    refine Cd (x22 != x23) ?_ ?_
    · intro hb; replace h := ctrue hb h
      refine Qzd hT 1 [12] [(12, vb false)] ?_
      obtain rfl := Option.some.inj h
      exact rK [12] [] ⟨[(12, vb false)], [], 1⟩ ⟨by kernel_rfl, rfl⟩
    intro hb; replace h := cfalse hb h
    refine WA_skip ?_
    refine Rgd hT 2 [16, 17, 100, 101] [(101, vi (wr (i21 + 1)))] ?_
    exact oK [16, 17, 100, 101] [(60, 60, 0)] ⟨_, by omega, by omega, wr (i21 + 1), h, rfl⟩
  intro hb; replace h := cfalse hb h
  refine WA_exit ?_
  refine Qzd hT 1 [12] [(12, vb true)] ?_
  obtain rfl := Option.some.inj h
  exact rK [12] [] ⟨[(12, vb true)], [], 1⟩ ⟨by kernel_rfl, rfl⟩

end Go.Su.Ytfmgnboplbgniaa
