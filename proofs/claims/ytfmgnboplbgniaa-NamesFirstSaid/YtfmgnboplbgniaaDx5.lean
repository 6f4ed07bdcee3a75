/-
  Appends; calls that hand rows over.
-/
import Derived.Test.YtfmgnboplbgniaaDx4
namespace Go.Mx
set_option linter.unusedVariables false
set_option linter.unusedSimpArgs false

section
variable {P : Program} {T : TypeId → Option TI} {bad : Nat → Prop} {E : Ent} {N : Nat} {α : Type} {w : World} {m : MM} {c : Nat}

/-- A nil row under a new name. -/
theorem HeapRep.newNil {h : Hp} (hh : HeapRep bad h w m c) (b : Nat) (e : TypeId) (wd : Nat) :
    Le w m c w (upd m b (some ⟨c, e, wd, 0, none⟩)) (c + 1) ∧ HeapRep bad (h.set b ⟨c, e, wd, false, true, []⟩) w (upd m b (some ⟨c, e, wd, 0, none⟩)) (c + 1) := by
  have hle : Le w m c w (upd m b (some ⟨c, e, wd, 0, none⟩)) (c + 1) := by
    refine ⟨by omega, fun j l hj hlt => ?_, fun _ _ _ => rfl, Nat.le_refl _, rfl, rfl, rfl, fun j l β hj hβ => ?_⟩
    · unfold upd at hj; split at hj
      · cases hj; exact absurd hlt (Nat.lt_irrefl _)
      · exact hj
    · unfold upd at hj; split at hj
      · cases hj; cases hβ
      · exact .inr ⟨j, l, hj, hβ⟩
  refine ⟨hle, fun j B hj => ?_, fun j hj => ?_, hh.lt, fun j l β hj hβ => ?_, fun j j' l l' β hj hj' hβ hβ' => ?_⟩
  · rw [Hp.get_set] at hj
    split at hj
    · rename_i e'; subst e'; cases hj
      exact ⟨⟨c, e, wd, 0, none⟩, by simp only [upd, if_true], rfl, rfl, rfl, Nat.lt_succ_self _, .inl ⟨rfl, rfl, rfl⟩⟩
    · rename_i hne
      obtain ⟨l, h1, h2⟩ := hh.get j B hj
      exact ⟨l, by simp only [upd, if_neg (Ne.symm hne)]; exact h1, h2.mono hle fun _ _ => rfl⟩
  · rw [Hp.get_set] at hj
    split at hj
    · cases hj
    · rename_i hne; simp only [upd, if_neg (Ne.symm hne)]; exact hh.non j hj
  · unfold upd at hj; split at hj
    · cases hj; cases hβ
    · exact hh.nb j l β hj hβ
  · unfold upd at hj hj'
    split at hj
    · cases hj; cases hβ
    · split at hj'
      · cases hj'; cases hβ'
      · exact hh.inj j j' l l' β hj hj' hβ hβ'

/-- A row that is none of nil may be taken zs one that may be. -/
theorem HeapRep.may {h : Hp} (d : Nat) {s : Nat} {e : TypeId} {wd : Nat} {var nl : Bool} {es : List V} (hh : HeapRep bad (h.set d ⟨s, e, wd, var, nl, es⟩) w m c) : HeapRep bad (h.set d ⟨s, e, wd, var, true, es⟩) w m c := by
  refine ⟨fun b B hb => ?_, fun b hb => hh.non b ?_, hh.lt, hh.nb, hh.inj⟩
  · rw [Hp.get_set] at hb
    split at hb
    · rename_i e'; subst e'; cases hb
      obtain ⟨l, h1, h2, h3, h4, h5, h6⟩ := hh.get d ⟨s, e, wd, var, nl, es⟩ (by rw [Hp.get_set, if_pos rfl])
      refine ⟨l, h1, h2, h3, h4, h5, ?_⟩
      rcases h6 with ⟨_, h7, h8⟩ | h6
      · exact .inl ⟨rfl, h7, h8⟩
      · exact .inr h6
    · rename_i hne
      exact hh.get b B (by rw [Hp.get_set, if_neg hne]; exact hb)
  · rw [Hp.get_set] at hb ⊢
    split at hb
    · cases hb
    · rename_i hne; rw [if_neg hne]; exact hb

/-- A row under a new name. -/
theorem row_anew {h : Hp} (hh : HeapRep bad h w m c) {b s n : Nat} {B : Blk} (hg : h.get b = some B) (hs : B.s = s) (hv : B.var = false) (hn : n = B.es.length) {x : Value} (hr : Rep bad w m c (.sl b s 0 n true) x) (d : Nat) :
    ∃ m', Le w m c w m' (c + 1) ∧ HeapRep bad ((h.erase b).set d ⟨c, B.T, B.w, false, true, B.es⟩) w m' (c + 1) ∧ Rep bad w m' (c + 1) (.sl d c 0 n true) x := by
  obtain ⟨l, hm, hls, hw, hT', _, hd⟩ := hh.get b B hg
  rcases hd with ⟨_, hblk, hes⟩ | ⟨_, β, cs, hblk, hcs, hsz, hle, hwd, hall⟩
  · have hx : n = 0 ∧ x = .slice none 0 0 := by
      cases hr with
      | pure hp => cases hp
      | sl _ _ hb =>
        rcases hb l hm (hls.trans hs) with ⟨_, _, h3, h4⟩ | ⟨β, _, h1, _⟩
        · exact ⟨h3, h4⟩
        · rw [hblk] at h1; cases h1
    obtain ⟨rfl, rfl⟩ := hx
    obtain ⟨l1, h1⟩ := hh.erase b
    obtain ⟨l2, h2⟩ := h1.newNil d B.T B.w
    rw [hes]
    refine ⟨_, l1.trans l2, h2, .sl (Nat.lt_succ_self _) rfl fun l hl1 hl2 => ?_⟩
    simp only [upd, if_true, Option.some.injEq] at hl1
    subst hl1
    exact .inl ⟨rfl, rfl, rfl, rfl⟩
  · cases hr with
    | pure hp => cases hp
    | sl _ _ hb =>
      rcases hb l hm (hls.trans hs) with ⟨h1, _⟩ | ⟨β', cap, h1, rfl, h2, h3, h4, h5⟩
      · rw [hblk] at h1; cases h1
      · rw [hblk] at h1; cases h1
        have key := hh.take hm hblk d (w' := w) (fun _ _ _ => rfl) (Nat.le_refl _) rfl rfl rfl (e := B.T) (wd := B.w) (es := B.es) (cs := cs) hcs (by rw [hsz]; exact hle) hwd fun i hi j hj => by
          obtain ⟨y, hy, hr'⟩ := hall i hi j hj
          exact ⟨y, hy, by simpa [RepC, hv] using hr'⟩
        refine ⟨_, key.1, key.2.may d, ?_⟩
        have := (h5 rfl).2
        rw [Nat.zero_mul]
        exact rep_slNew h2 (by rw [← hw, this, hsz]) h4

theorem SE.all {T : TypeId → Option TI} {α : Type} (σ : SE T α) (l : List α) : (σ.F l).all (fun v => v.cells.length == σ.i1.size && v.cells.all V.one) = true := by
  rw [σ.hF, List.all_eq_true]
  intro v hv
  obtain ⟨a, _, rfl⟩ := List.mem_map.1 hv
  simp only [σ.hs, σ.hz, σ.h1, beq_self_eq_true, Bool.and_self]

theorem TE.app (τ : TE α) (l l2 : List α) : τ.F l ++ τ.F l2 = τ.F (l ++ l2) := by simp only [τ.hF, List.map_append]

/-- Is there room for so many more? -/
def room (bt a b : Nat) : Bool := decide ((a + b) * bt ≤ 140737488355328)

/-- An append onto a row of the frame's own. -/
theorem Eff_append (hT : TabOk P T) (σ : SE T α) {o : Oper} {s : SA} (d : Nat) {ty : TypeId} {pos : String} {af : Array Edge} {g : Option (Nat × Bool)} {x y : Operand} (b st : Nat) (nl : Bool) (l l2 : List α)
    (ho : o = ⟨some d, .call ⟨.builtin .append, #[x, y], #[σ.t, σ.t]⟩, ty, pos, af, g⟩) (hx : evA s.A x = .sl b st 0 (σ.F l).length true) (hg : s.h.get b = some ⟨st, σ.e, σ.sz, false, nl, σ.F l⟩) (hy : elems s.h (evA s.A y) = some (σ.F l2))
    (hroom : room σ.i1.bytes l.length l2.length = true) (hd : Nat.blt d N = true) :
    Eff P bad E N o s (fun s' => s' = ⟨(d, .sl d s.c 0 (σ.F (l ++ l2)).length true) :: s.A, (s.h.erase b).set d ⟨s.c, σ.e, σ.sz, false, true, σ.F (l ++ l2)⟩, s.c + 1⟩) := by
  subst ho
  obtain ⟨sz, bt, z, hrow⟩ := σ.row
  cases l2 with
  | cons a0 r0 =>
    have hne : (σ.F (a0 :: r0)).isEmpty = false := by simp [σ.hF]
    have he : evOperF P T false (evA s.A) ⟨some d, .call ⟨.builtin .append, #[x, y], #[σ.t, σ.t]⟩, ty, pos, af, g⟩ s.h s.c = some (.sl d s.c 0 (σ.F (l ++ a0 :: r0)).length true, (s.h.erase b).set d ⟨s.c, σ.e, σ.sz, false, false, σ.F (l ++ a0 :: r0)⟩, s.c + 1) := by
      have hr2 : (l.length + (r0.length + 1)) * σ.i1.bytes ≤ roomB := by
        have := of_decide_eq_true hroom
        simpa [roomB] using this
      simp only [evOperF, if_true, evAppend, hrow, σ.he, hy, hx, hg]
      have hs1 := σ.all (a0 :: r0)
      have hz := σ.hz
      have hp := σ.hp
      have hb := σ.hb
      rw [if_pos ⟨hs1, by omega, hb⟩]
      simp only [hne, σ.len, hz, ← σ.app, List.length_append, List.length_cons, true_and, and_self, if_true, Bool.false_eq_true, if_false, or_true, and_true, hr2]
    intro a w m hs hl K QQ hK
    exact Eff_op hT he hd a w m hs hl K QQ fun s' a' w' m' h1 h2 h3 => by
      subst h1
      exact hK _ a' w' m' rfl ⟨h2.1, h2.2.t, h2.2.h.may d, h2.2.d⟩ h3
  | nil =>
    have hem : (σ.F ([] : List α)).isEmpty = true := by simp [σ.hF]
    have he : evOperF P T false (evA s.A) ⟨some d, .call ⟨.builtin .append, #[x, y], #[σ.t, σ.t]⟩, ty, pos, af, g⟩ s.h s.c = some (.sl b st 0 (σ.F l).length true, s.h, s.c) := by
      simp only [evOperF, if_true, evAppend, hrow, σ.he, hy, hx, hg]
      have hs1 := σ.all ([] : List α)
      have hz := σ.hz
      have hp := σ.hp
      have hb := σ.hb
      rw [if_pos ⟨hs1, by omega, hb⟩]
      simp only [hem, and_self, if_true]
    intro a w m hs hl K QQ hK
    refine Eff_op hT he hd a w m hs hl K QQ ?_
    rintro s' a' w' m' rfl hs' hl'
    replace hs' : SRA bad N ⟨(d, .sl b st 0 (σ.F l).length true) :: s.A, s.h, s.c⟩ a' w' m' := hs'
    have hh := hs'.2.h
    have hd' : d < N := by simpa using hd
    have hx' := hs'.2.t.2 d
    simp only [SA.st] at hx' hh
    rw [mkT_getD hs'.1, lkA_cons, if_pos rfl] at hx'
    obtain ⟨m2, k1, k2, k3⟩ := row_anew hh hg rfl rfl rfl hx' d
    refine hK _ a' w' m2 rfl ?_ (hl'.trans k1)
    have hkk : keysLt N ((d, V.sl d s.c 0 (σ.F (l ++ [])).length true) :: s.A) = true := by
      have := hs'.1
      simpa only [keysLt] using this
    refine ⟨hkk, ⟨⟨by simpa [SA.st, mkT_length] using hs'.2.t.1, fun i => ?_⟩, ?_, hs'.2.d⟩⟩
    · simp only [SA.st]
      rw [mkT_getD hkk, lkA_cons]
      split
      · rename_i e; subst e
        simpa using k3
      · rename_i hne
        have h3 := hs'.2.t.2 i
        simp only [SA.st] at h3
        rw [mkT_getD hs'.1, lkA_cons, if_neg hne] at h3
        exact h3.mono k1
    · simpa [SA.st] using k2

theorem Eff_lend {o : Oper} {s : SA} {cl : Call} {g : FuncId} {vs vs' : List V} {E1 E2 : List (Nat × Nat × Nat)} {hA hr hB : Hp} {r r' : V} {cr c2 : Nat} (hop : o.op = .call cl) (htg : evTargetA s.A cl = some (g, vs)) (hen : Enters P g)
    (hvs : mapO (trV s.h (lookE E1) [] 5) vs = some vs') (hA' : moveH s.h (lookE E1) [] E1 = some hA) (hc1 : (E1.all (fun x => Nat.beq x.2.2 0) && nodupB (E1.map (·.1)) && nodupB (E1.map fun x => x.2.1) && nodupB (E2.map (·.1)) && nodupB (E2.map fun x => x.2.1) && Nat.ble s.c c2) = true)
    (hg : ∀ bad, CallsA P bad hA 1 g vs' r hr cr) (hr' : trV hr (lookE E2) [] 5 r = some r') (hB' : moveH hr (lookE E2) [] E2 = some hB) (hE2 : E2.all (okE2 s.h hr E1 s.c c2) = true) (hd : okD N o.dst = true) :
    Eff P bad E N o s (fun s' => s' = ⟨putA s.A o.dst r', hB ++ eraseAll s.h (E1.map (·.1)), c2⟩) := by
  simp only [Bool.and_eq_true] at hc1
  obtain ⟨⟨⟨⟨⟨k1, k2⟩, k3⟩, k4⟩, k5⟩, k6⟩ := hc1
  have key := CallsA_lend (bad := bad) (bor := []) hvs hA' (fun x hx => by simpa using List.all_eq_true.1 k1 x hx) (nodupB_ok k2) (nodupB_ok k3) hg hr' hB' (nodupB_ok k4) (nodupB_ok k5) (Nat.le_of_ble_eq_true k6) fun x hx => by
    have := List.all_eq_true.1 hE2 x hx
    simp only [okE2, Bool.or_eq_true, Bool.and_eq_true, decide_eq_true_eq] at this
    rcases this with h5 | ⟨⟨h5, h6⟩, h7⟩
    · exact .inl h5
    · refine .inr ⟨?_, by simpa using h6, ?_⟩
      · split at h5
        · rename_i B hB; exact ⟨B, hB, by simpa using h5⟩
        · cases h5
      · split at h7
        · rename_i B hB; exact ⟨B, hB, by simpa using h7⟩
        · cases h7
  simp only [List.append_nil] at key
  exact Eff_callA hop htg hen key hd

/-- A call that hands rows over. -/
theorem WO_go {ops : Array Oper} {i : Nat} {s : SA} {Q : Exit → SA → Prop} {o : Oper} (ho : ops[i]? = some o) (hgd : evGuardA s.A ops o = some true) {cl : Call} {g : FuncId} (hA hr : Hp) (vs vs' : List V) (E1 E2 : List (Nat × Nat × Nat)) (hB : Hp) (r r' : V) (c2 : Nat)
    (hop : o.op = .call cl) (htg : evTargetA s.A cl = some (g, vs)) (hen : Enters P g) (hvs : mapO (trV s.h (lookE E1) [] 5) vs = some vs') (hA' : moveH s.h (lookE E1) [] E1 = some hA)
    (hc1 : (E1.all (fun x => Nat.beq x.2.2 0) && nodupB (E1.map (·.1)) && nodupB (E1.map fun x => x.2.1) && nodupB (E2.map (·.1)) && nodupB (E2.map fun x => x.2.1) && Nat.ble s.c c2) = true)
    (hg : GO P g hA vs' r hr) (hr' : trV hr (lookE E2) [] 5 r = some r') (hB' : moveH hr (lookE E2) [] E2 = some hB) (hE2 : E2.all (okE2 s.h hr E1 s.c c2) = true) (hd : okD N o.dst = true)
    (hk : WO P bad E N ops (i + 1) ⟨putA s.A o.dst r', hB ++ eraseAll s.h (E1.map (·.1)), c2⟩ Q) : WO P bad E N ops i s Q :=
  WO_eff _ ho hgd (Eff_lend hop htg hen hvs hA' hc1 hg hr' hB' hE2 hd) fun s' e => by subst e; exact hk

theorem WO_append (hT : TabOk P T) (σ : SE T α) {ops : Array Oper} {i : Nat} {s : SA} {Q : Exit → SA → Prop} {o : Oper} (hoi : ops[i]? = some o) (hgd : evGuardA s.A ops o = some true) {d : Nat} {ty : TypeId} {pos : String} {af : Array Edge} {g : Option (Nat × Bool)} {x y : Operand} (b st : Nat) (nl : Bool) (l l2 : List α)
    (ho : o = ⟨some d, .call ⟨.builtin .append, #[x, y], #[σ.t, σ.t]⟩, ty, pos, af, g⟩) (hx : evA s.A x = .sl b st 0 (σ.F l).length true) (hg : s.h.get b = some ⟨st, σ.e, σ.sz, false, nl, σ.F l⟩) (hy : elems s.h (evA s.A y) = some (σ.F l2))
    (hroom : room σ.i1.bytes l.length l2.length = true) (hd : Nat.blt d N = true)
    (hk : WO P bad E N ops (i + 1) ⟨(d, .sl d s.c 0 (σ.F (l ++ l2)).length true) :: s.A, (s.h.erase b).set d ⟨s.c, σ.e, σ.sz, false, true, σ.F (l ++ l2)⟩, s.c + 1⟩ Q) : WO P bad E N ops i s Q :=
  WO_eff _ hoi hgd (Eff_append hT σ d b st nl l l2 ho hx hg hy hroom hd) fun s' e => by subst e; exact hk

end
end Go.Mx
