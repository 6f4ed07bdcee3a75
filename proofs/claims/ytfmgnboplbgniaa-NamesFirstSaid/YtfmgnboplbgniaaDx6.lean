/-
  Regions that leave their order open, from states that name slots.
-/
import Derived.Test.YtfmgnboplbgniaaDx5
namespace Go.Mx
set_option linter.unusedVariables false
set_option linter.unusedSimpArgs false

/-- Which blocks an operation looks into. -/
def rdA (A : List (Nat × V)) (o : Op) : List Nat := if consults o then o.operands.toList.flatMap fun x => topIds (evA A x) else []

def entryL (i : Nat) : List Nat → List (Nat × List Nat)
  | [] => []
  | x :: y => [(i, x :: y)]

/-- Which blocks an operation that writes may turn. -/
def wrA (A : List (Nat × V)) (o : Oper) (h h' : Hp) : List Nat := match o.op with
  | .store _ a _ => topIds (evA A a) ++ goneOf h h'
  | .call cl => o.dst.toList ++ cl.args.toList.flatMap fun x => topIds (evA A x)
  | _ => o.dst.toList

section
variable {P : Program} {T : TypeId → Option TI} {bad : Nat → Prop} {E : Ent} {N : Nat}

/-- From the i-th operation on, in the order of the text; what has been written (es) and looked at (rs) so far. -/
def WD (P : Program) (T : TypeId → Option TI) (bad : Nat → Prop) (N : Nat) (ops : Array Oper) (i : Nat) (es rs : List (Nat × List Nat)) (s : SA) (Q : SA → Prop) : Prop :=
  ∃ (tr : List Stp) (fin : SA), tr.map (·.o) = ops.toList.drop i ∧ (∀ x ∈ tr, x.Good P T bad ops) ∧ Chain (fin.st N) tr (mkT N s.A) s.h s.c ∧ keysLt N fin.A = true ∧
    (effPairs (closM ops.toList 0 []) (es ++ effList tr i) && wrPairs (closM ops.toList 0 []) (rs ++ rdList tr i) (es ++ effList tr i)) = true ∧ Q fin

theorem WA_draw (hT : TabOk P T) (hm : P.follows .mixedOrders = true) {id : Nat} {ops : Array Oper} {s : SA} {Q : Exit → SA → Prop} (hn : namesOk ops = true) (h : WD P T bad N ops 0 [] [] s (Q .normal)) : WA P bad E N (.region id ops true) s Q := by
  intro a w m hs hl
  obtain ⟨tr, fin, h1, h2, h3, h4, h5, h6⟩ := h
  simp only [List.drop_zero] at h1
  simp only [List.nil_append] at h5
  have hed : edgesOk ops = true := by simp only [namesOk, Bool.and_eq_true] at hn; exact hn.1
  have hw := WC_draw (id := id) (st := s.st N) (fin := fin.st N) (bad := bad) hT hm h1 h2 (by simpa [SA.st] using h3) hed (pairsOk_of h1 hn h5) (Q := fun e st => e = .normal ∧ st = fin.st N) ⟨rfl, rfl⟩ a w m hs.2
  refine wp_mono hw ?_
  rintro e a' w' ⟨st', m', ⟨rfl, rfl⟩, h7, h8⟩
  exact ⟨fin, m', h6, ⟨h4, h7⟩, hl.trans h8⟩

theorem WD_end {ops : Array Oper} {i : Nat} {es rs : List (Nat × List Nat)} {s : SA} {Q : SA → Prop} (hi : Nat.ble ops.size i = true) (hc : (effPairs (closM ops.toList 0 []) es && wrPairs (closM ops.toList 0 []) rs es) = true) (hk : keysLt N s.A = true) (h : Q s) : WD P T bad N ops i es rs s Q := by
  have : ops.toList.drop i = [] := List.drop_eq_nil_iff.2 (by simpa using hi)
  exact ⟨[], s, (by rw [this]; rfl), (fun x hx => by cases hx), ⟨rfl, rfl, rfl⟩, hk, by simpa [effList, rdList] using hc, h⟩

theorem drop_of {ops : Array Oper} {i : Nat} {o : Oper} (ho : ops[i]? = some o) : ops.toList.drop i = o :: ops.toList.drop (i + 1) := by
  obtain ⟨hi, he⟩ := Array.getElem?_eq_some_iff.1 ho
  rw [List.drop_eq_getElem_cons (by simpa using hi)]
  simp [he]

theorem WD_cons {ops : Array Oper} {i : Nat} {es rs : List (Nat × List Nat)} {s : SA} {Q : SA → Prop} {o : Oper} (ho : ops[i]? = some o) (x : Stp) (hx : x.o = o) (ht : x.t = mkT N s.A) (hh : x.h = s.h) (hc : x.c = s.c) (hg : x.Good P T bad ops) (hd : okD N o.dst = true)
    (hk : WD P T bad N ops (i + 1) (es ++ (if x.eff then [(i, x.wr)] else [])) (rs ++ entryL i x.rd) ⟨putA s.A o.dst x.v, x.h', x.c'⟩ Q) : WD P T bad N ops i es rs s Q := by
  obtain ⟨tr, fin, h1, h2, h3, h4, h5, h6⟩ := hk
  refine ⟨x :: tr, fin, ?_, ?_, ⟨ht, hh, hc, ?_⟩, h4, ?_, h6⟩
  · rw [List.map_cons, h1, hx, drop_of ho]
  · intro y hy
    rcases List.mem_cons.1 hy with rfl | hy
    · exact hg
    · exact h2 y hy
  · rw [hx, putA_eq hd]
    exact h3
  · have e1 : es ++ effList (x :: tr) i = (es ++ if x.eff then [(i, x.wr)] else []) ++ effList tr (i + 1) := by
      cases hxe : x.eff <;> simp [effList, hxe]
    have e2 : rs ++ rdList (x :: tr) i = (rs ++ entryL i x.rd) ++ rdList tr (i + 1) := by
      simp only [rdList]
      cases x.rd <;> simp [entryL]
    rw [e1, e2]; exact h5

theorem rdA_eq {A : List (Nat × V)} (h : keysLt N A = true) (o : Op) : rdOf (mkT N A) o = rdA A o := by
  unfold rdOf rdA; rw [evA_eq h]

theorem wrA_eq {A : List (Nat × V)} (h : keysLt N A = true) (o : Oper) (h1 h2 : Hp) : wrOp (mkT N A) o h1 h2 = wrA A o h1 h2 := by
  unfold wrOp wrA; rw [evA_eq h]
  cases o.op <;> rfl

theorem WD_skip {ops : Array Oper} {i : Nat} {es rs : List (Nat × List Nat)} {s : SA} {Q : SA → Prop} {o : Oper} (ho : ops[i]? = some o) (hs : keysLt N s.A = true) (hg : evGuardA s.A ops o = some false) (hd : okD N o.dst = true)
    (hk : WD P T bad N ops (i + 1) es rs ⟨putA s.A o.dst (.p Go.undef), s.h, s.c⟩ Q) : WD P T bad N ops i es rs s Q := by
  refine WD_cons ho ⟨o, mkT N s.A, s.h, s.c, false, false, .p Go.undef, s.h, s.c, [], []⟩ rfl rfl rfl rfl ⟨(evGuardA_eq hs ops o).trans hg, fun _ => ⟨rfl, rfl⟩, fun _ => ⟨rfl, rfl⟩, fun h => by simp at h, fun h => by simp at h⟩ hd ?_
  simpa [entryL] using hk

theorem WD_loc {ops : Array Oper} {i : Nat} {es rs : List (Nat × List Nat)} {s : SA} {Q : SA → Prop} {o : Oper} (ho : ops[i]? = some o) (hs : keysLt N s.A = true) (hg : evGuardA s.A ops o = some true) (hl : localOp o.op = true) {v : V} {h' : Hp} {c' : Nat}
    (he : evOperF P T true (evA s.A) o s.h s.c = some (v, h', c')) (hd : okD N o.dst = true) (hk : WD P T bad N ops (i + 1) es (rs ++ entryL i (rdA s.A o.op)) ⟨putA s.A o.dst v, s.h, s.c⟩ Q) : WD P T bad N ops i es rs s Q := by
  rw [evA_eq hs] at he
  have he' : evOper P T true (mkT N s.A) o s.h s.c = some (v, h', c') := he
  obtain ⟨e1, e2, _⟩ := evOper_local (h2 := s.h) (c2 := s.c) hl he' (fun _ _ => rfl) (fun _ _ => rfl)
  subst e1 e2
  refine WD_cons ho ⟨o, mkT N s.A, s.h, s.c, true, false, v, s.h, s.c, [], rdA s.A o.op⟩ rfl rfl rfl rfl ⟨(evGuardA_eq hs ops o).trans hg, fun _ => ⟨rfl, rfl⟩, fun h => by simp at h, fun h => by simp at h, fun _ => .inl ⟨rfl, hl, he', (rdA_eq hs _).symm⟩⟩ hd ?_
  simpa using hk

theorem WD_wr {ops : Array Oper} {i : Nat} {es rs : List (Nat × List Nat)} {s : SA} {Q : SA → Prop} {o : Oper} (ho : ops[i]? = some o) (hs : keysLt N s.A = true) (hg : evGuardA s.A ops o = some true) (hl : writesOp o.op = true) {v : V} {h' : Hp} {c' : Nat}
    (he : evOperF P T true (evA s.A) o s.h s.c = some (v, h', c')) (hd : okD N o.dst = true) (hk : WD P T bad N ops (i + 1) (es ++ [(i, wrA s.A o s.h h')]) rs ⟨putA s.A o.dst v, h', c'⟩ Q) : WD P T bad N ops i es rs s Q := by
  rw [evA_eq hs] at he
  have he' : evOper P T true (mkT N s.A) o s.h s.c = some (v, h', c') := he
  refine WD_cons ho ⟨o, mkT N s.A, s.h, s.c, true, true, v, h', c', wrA s.A o s.h h', []⟩ rfl rfl rfl rfl ⟨(evGuardA_eq hs ops o).trans hg, fun h => by simp at h, fun h => by simp at h, fun _ => ?_, fun _ => .inr (.inr ⟨rfl, .inl ⟨hl, he'⟩⟩)⟩ hd ?_
  · simp only []
    rw [← wrA_eq hs]
    exact wrOp_spec hl he'
  · simpa [entryL] using hk

theorem evTargetA_eq {A : List (Nat × V)} (h : keysLt N A = true) (cl : Call) : evTarget (mkT N A) cl = evTargetA A cl := by
  unfold evTarget evTargetA; rw [evA_eq h]
  cases cl.callee with
  | value f => simp only []; cases evalO (mkT N A) f <;> rfl
  | _ => rfl

theorem WD_pt {ops : Array Oper} {i : Nat} {es rs : List (Nat × List Nat)} {s : SA} {Q : SA → Prop} {o : Oper} (ho : ops[i]? = some o) (hs : keysLt N s.A = true) (hg : evGuardA s.A ops o = some true) {cl : Call} {g : FuncId} (vs : List V) (r : V) (hop : o.op = .call cl) (htg : evTargetA s.A cl = some (g, vs)) (hen : Enters P g)
    (hpu : vs.all (pur 6) = true) (hc : PT P g vs r) (hd : okD N o.dst = true) (hk : WD P T bad N ops (i + 1) es rs ⟨putA s.A o.dst r, s.h, s.c⟩ Q) : WD P T bad N ops i es rs s Q := by
  refine WD_cons ho ⟨o, mkT N s.A, s.h, s.c, true, false, r, s.h, s.c, [], []⟩ rfl rfl rfl rfl ⟨(evGuardA_eq hs ops o).trans hg, fun _ => ⟨rfl, rfl⟩, fun h => by simp at h, fun h => by simp at h,
    fun _ => .inr (.inl ⟨rfl, cl, g, vs, hop, (evTargetA_eq hs cl).trans htg, hen, fun h c => CallsA_of_PT hpu hc h c⟩)⟩ hd ?_
  simpa [entryL] using hk

theorem WD_go {ops : Array Oper} {i : Nat} {es rs : List (Nat × List Nat)} {s : SA} {Q : SA → Prop} {o : Oper} (ho : ops[i]? = some o) (hs : keysLt N s.A = true) (hgd : evGuardA s.A ops o = some true) {cl : Call} {g : FuncId} (hA hr : Hp) (vs vs' : List V) (E1 E2 : List (Nat × Nat × Nat)) (hB : Hp) (r r' : V) (c2 : Nat)
    (hop : o.op = .call cl) (htg : evTargetA s.A cl = some (g, vs)) (hen : Enters P g) (hvs : mapO (trV s.h (lookE E1) [] 5) vs = some vs') (hA' : moveH s.h (lookE E1) [] E1 = some hA)
    (hc1 : (E1.all (fun x => Nat.beq x.2.2 0) && nodupB (E1.map (·.1)) && nodupB (E1.map fun x => x.2.1) && nodupB (E2.map (·.1)) && nodupB (E2.map fun x => x.2.1) && Nat.ble s.c c2) = true)
    (hg : GO P g hA vs' r hr) (hr' : trV hr (lookE E2) [] 5 r = some r') (hB' : moveH hr (lookE E2) [] E2 = some hB) (hE2 : E2.all (okE2 s.h hr E1 s.c c2) = true) (hd : okD N o.dst = true)
    (hk : WD P T bad N ops (i + 1) (es ++ [(i, (E2.map fun x => x.2.1) ++ E1.map (·.1))]) rs ⟨putA s.A o.dst r', hB ++ eraseAll s.h (E1.map (·.1)), c2⟩ Q) : WD P T bad N ops i es rs s Q := by
  simp only [Bool.and_eq_true] at hc1
  obtain ⟨⟨⟨⟨⟨k1, k2⟩, k3⟩, k4⟩, k5⟩, k6⟩ := hc1
  have key := CallsA_lend (bad := bad) (bor := []) hvs hA' (fun x hx => by simpa using List.all_eq_true.1 k1 x hx) (nodupB_ok k2) (nodupB_ok k3) hg hr' hB' (nodupB_ok k4) (nodupB_ok k5) (Nat.le_of_ble_eq_true k6) fun x hx => by
    have := List.all_eq_true.1 hE2 x hx
    simp only [okE2, Bool.or_eq_true, Bool.and_eq_true, decide_eq_true_eq] at this
    rcases this with h5 | ⟨⟨h5, h6⟩, h7⟩
    · exact .inl h5
    · refine .inr ⟨?_, by simpa using h6, ?_⟩
      · split at h5
        · rename_i B hB; exact ⟨B, hB, by simpa using h5⟩
        · cases h5
      · split at h7
        · rename_i B hB; exact ⟨B, hB, by simpa using h7⟩
        · cases h7
  simp only [List.append_nil] at key
  refine WD_cons ho ⟨o, mkT N s.A, s.h, s.c, true, true, r', hB ++ eraseAll s.h (E1.map (·.1)), c2, (E2.map fun x => x.2.1) ++ E1.map (·.1), []⟩ rfl rfl rfl rfl ⟨(evGuardA_eq hs ops o).trans hgd, fun h => by simp at h, fun h => by simp at h, fun _ b hb => ?_,
    fun _ => .inr (.inr ⟨rfl, .inr ⟨cl, g, vs, hop, (evTargetA_eq hs cl).trans htg, hen, key⟩⟩)⟩ hd ?_
  · simp only [List.mem_append, not_or] at hb
    simp only []
    rw [Hp.get_append, (moveH_get hB' b).1 (revE_none hb.1), Option.none_or, eraseAll_ne _ hb.2]
  · simpa [entryL] using hk

end

/-- Some operations of such a region, each coming to one thing. -/
def runD (P : Program) (T : TypeId → Option TI) (N : Nat) (ops : Array Oper) : Nat → Nat → List Oper → SA → List (Nat × List Nat) → List (Nat × List Nat) → Option (SA × List (Nat × List Nat) × List (Nat × List Nat))
  | 0, _, _, s, es, rs => some (s, es, rs)
  | n + 1, i, [], s, es, rs => none
  | n + 1, i, o :: r, s, es, rs => match evGuardA s.A ops o with
    | some true => match evOperF P T true (evA s.A) o s.h s.c with
      | some (v, h', c') => bif okD N o.dst then (bif localOp o.op then runD P T N ops n (i + 1) r ⟨putA s.A o.dst v, s.h, s.c⟩ es (rs ++ entryL i (rdA s.A o.op)) else bif writesOp o.op then runD P T N ops n (i + 1) r ⟨putA s.A o.dst v, h', c'⟩ (es ++ [(i, wrA s.A o s.h h')]) rs else none) else none
      | none => none
    | some false => bif okD N o.dst then runD P T N ops n (i + 1) r ⟨putA s.A o.dst (.p Go.undef), s.h, s.c⟩ es rs else none
    | none => none

section
variable {P : Program} {T : TypeId → Option TI} {bad : Nat → Prop} {E : Ent} {N : Nat}

theorem WD_runD {ops : Array Oper} {Q : SA → Prop} : ∀ (n i : Nat) (r : List Oper) (s s' : SA) (es rs es' rs' : List (Nat × List Nat)), keysLt N s.A = true → ops.toList.drop i = r → runD P T N ops n i r s es rs = some (s', es', rs') → WD P T bad N ops (i + n) es' rs' s' Q → WD P T bad N ops i es rs s Q
  | 0, i, r, s, s', es, rs, es', rs', hs, hd, hr, h => by
    simp only [runD, Option.some.injEq, Prod.mk.injEq] at hr
    obtain ⟨rfl, rfl, rfl⟩ := hr; exact h
  | n + 1, i, [], s, s', es, rs, es', rs', hs, hd, hr, h => by simp [runD] at hr
  | n + 1, i, o :: r, s, s', es, rs, es', rs', hs, hd, hr, h => by
    have ho : ops[i]? = some o := by
      have : ops.toList[i]? = some o := by
        have := congrArg (fun l => l[0]?) hd
        simpa using this
      simpa using this
    have hd' : ops.toList.drop (i + 1) = r := by
      have := congrArg (List.drop 1) hd
      simpa [List.drop_drop] using this
    have h' : WD P T bad N ops (i + 1 + n) es' rs' s' Q := by rwa [show i + 1 + n = i + (n + 1) by omega]
    simp only [runD] at hr
    split at hr
    · rename_i hg
      split at hr
      · rename_i v h1 c1 hev
        cases hdd : okD N o.dst with
        | false => rw [hdd] at hr; cases hr
        | true =>
          rw [hdd, cond_true] at hr
          cases hl : localOp o.op with
          | true =>
            rw [hl, cond_true] at hr
            exact WD_loc ho hs hg hl hev hdd (WD_runD n (i + 1) r _ s' _ _ es' rs' (putA_lt hdd hs) hd' hr h')
          | false =>
            rw [hl, cond_false] at hr
            cases hw : writesOp o.op with
            | false => rw [hw] at hr; cases hr
            | true =>
              rw [hw, cond_true] at hr
              exact WD_wr ho hs hg hw hev hdd (WD_runD n (i + 1) r _ s' _ _ es' rs' (putA_lt hdd hs) hd' hr h')
      · cases hr
    · rename_i hg
      cases hdd : okD N o.dst with
      | false => rw [hdd] at hr; cases hr
      | true =>
        rw [hdd, cond_true] at hr
        exact WD_skip ho hs hg hdd (WD_runD n (i + 1) r _ s' _ _ es' rs' (putA_lt hdd hs) hd' hr h')
    · cases hr

theorem WD_seg {ops : Array Oper} {i : Nat} {es rs : List (Nat × List Nat)} {s : SA} {Q : SA → Prop} (n : Nat) (s' : SA) (es' rs' : List (Nat × List Nat)) (hs : keysLt N s.A = true) (hr : runD P T N ops n i (ops.toList.drop i) s es rs = some (s', es', rs')) (h : WD P T bad N ops (i + n) es' rs' s' Q) : WD P T bad N ops i es rs s Q :=
  WD_runD n i _ s s' es rs es' rs' hs rfl hr h

end
end Go.Mx
