/-
  Borrowed variables; a slice held against nil; rounds one by one; strings, floats, shifts.
-/
import Derived.Test.YtfmgnboplbgniaaDx8
namespace Go.Mx
set_option linter.unusedVariables false
set_option linter.unusedSimpArgs false

section
variable {P : Program} {T : TypeId → Option TI} {bad : Nat → Prop} {E : Ent} {N : Nat} {α : Type}

/-- A call of a pure function that looks into variables of the frame. -/
theorem WO_ptb {ops : Array Oper} {i : Nat} {s : SA} {Q : Exit → SA → Prop} {o : Oper} (ho : ops[i]? = some o) (hg : evGuardA s.A ops o = some true) {cl : Call} {g : FuncId} (bor : List Nat) (vs vs' : List V) (r : V) (hop : o.op = .call cl) (htg : evTargetA s.A cl = some (g, vs)) (hen : Enters P g)
    (ht : mapO (trV s.h (fun _ => none) bor 5) vs = some vs') (hpu : vs'.all (pur 6) = true) (hs : scal 4 r = true) (hc : PT P g vs' r) (hd : okD N o.dst = true) (hk : WO P bad E N ops (i + 1) ⟨putA s.A o.dst r, s.h, s.c⟩ Q) : WO P bad E N ops i s Q :=
  WO_eff _ ho hg (Eff_callA hop htg hen (by simpa using CallsA_pure (bad := bad) (c := s.c) ht hpu hc true fun _ => hs) hd) fun s' e => by subst e; exact hk

theorem WD_ptb {ops : Array Oper} {i : Nat} {es rs : List (Nat × List Nat)} {s : SA} {Q : SA → Prop} {o : Oper} (ho : ops[i]? = some o) (hks : keysLt N s.A = true) (hg : evGuardA s.A ops o = some true) {cl : Call} {g : FuncId} (bor : List Nat) (vs vs' : List V) (r : V) (hop : o.op = .call cl) (htg : evTargetA s.A cl = some (g, vs)) (hen : Enters P g)
    (ht : mapO (trV s.h (fun _ => none) bor 5) vs = some vs') (hpu : vs'.all (pur 6) = true) (hs : scal 4 r = true) (hc : PT P g vs' r) (hd : okD N o.dst = true) (hk : WD P T bad N ops (i + 1) (es ++ [(i, [])]) rs ⟨putA s.A o.dst r, s.h, s.c⟩ Q) : WD P T bad N ops i es rs s Q := by
  refine WD_cons ho ⟨o, mkT N s.A, s.h, s.c, true, true, r, s.h, s.c, [], []⟩ rfl rfl rfl rfl ⟨(evGuardA_eq hks ops o).trans hg, fun h => by simp at h, fun h => by simp at h, fun _ b hb => rfl,
    fun _ => .inr (.inr ⟨rfl, .inr ⟨cl, g, vs, hop, (evTargetA_eq hks cl).trans htg, hen, by simpa using CallsA_pure (bad := bad) (c := s.c) ht hpu hc true fun _ => hs⟩⟩)⟩ hd ?_
  simpa [entryL] using hk

/-- A slice held against nil: what comes is known of nothing but an empty one. -/
theorem WO_isnil (hT : TabOk P T) (σ : SE T α) {ops : Array Oper} {i : Nat} {s : SA} {Q : Exit → SA → Prop} {o : Oper} (hoi : ops[i]? = some o) (hgd : evGuardA s.A ops o = some true) {d : Option Tmp} {t' ty : TypeId} {pos : String} {af : Array Edge} {g : Option (Nat × Bool)} {x : Operand} (k : SC) (l : List α)
    (ho : o = ⟨d, .binOp .eql σ.t x (.const (.slice none 0 0)) t', ty, pos, af, g⟩) (hx : evA s.A x = .ps k (σ.F l)) (hd : okD N d = true)
    (hk : ∀ b : Bool, (b = true → l = []) → WO P bad E N ops (i + 1) ⟨putA s.A d (.p (.bool b)), s.h, s.c⟩ Q) : WO P bad E N ops i s Q := by
  subst ho
  refine WO_eff (fun s' => ∃ b : Bool, (b = true → l = []) ∧ s' = ⟨putA s.A d (.p (.bool b)), s.h, s.c⟩) hoi hgd ?_ fun s' ⟨b, h1, h2⟩ => by subst h2; exact hk b h1
  intro a w m hs hl K QQ hK
  obtain ⟨sz, bt, z, hrow⟩ := σ.row
  obtain ⟨info, zz, hi, _, _, hu, _⟩ := hT _ _ hrow
  simp only [] at hu
  have hr := hs.2.t.eval x (a := a)
  rw [show evalO (s.st N).t x = evA s.A x from by rw [evA_eq hs.1]; rfl, hx] at hr
  have hl0 : σ.F l = [] → l = [] := fun h => by
    have := σ.len l
    rw [h] at this
    exact List.length_eq_zero_iff.1 this.symm
  have key : ∃ (a0 : Option Addr) (len cap : Nat), a.eval x = .slice a0 len cap ∧ (a0.isNone = true → l = []) := by
    revert hr hl0
    generalize a.eval x = y
    generalize σ.F l = xs
    intro hr hl0
    cases hr with
    | pure hp =>
      cases hp with
      | psNil hn => exact ⟨none, 0, 0, rfl, fun _ => hl0 rfl⟩
      | ps hn hcap hfull hβ hw hc hr => exact ⟨_, _, _, rfl, fun h => by simp at h⟩
  obtain ⟨a0, len, cap, he, hnil⟩ := key
  have hrun : (execOp a.eval ⟨d, .binOp .eql σ.t x (.const (.slice none 0 0)) t', ty, pos, af, g⟩).run P w = .ok (.value (.bool a0.isNone)) w := by
    have hg : eqGuard .eql σ.t x (.const (.slice none 0 0)) (.slice a0 len cap) (.slice none 0 0) = pure () := rfl
    have h2 := run_eql_slice_nil w σ.t σ.e a0 len cap hu
    have h3 : a.eval (.const (.slice none 0 0)) = .slice none 0 0 := rfl
    simp [execOp, he, h3, hg, h2]
  simp only [Oper.wp, hrun, Oper.upon]
  exact hK _ _ _ _ ⟨a0.isNone, hnil, rfl⟩ (hs.put (Le.refl _ _ _) hs.2.h (.pure (.p _)) hd) hl

/-- So many rounds of a loop, one by one. -/
def RA (P : Program) (bad : Nat → Prop) (E : Ent) (N : Nat) (x : Code) (Q : Exit → SA → Prop) : Nat → SA → Prop
  | 0, _ => False
  | n + 1, s => WA P bad E N x s (thenA (RA P bad E N x Q n) Q)

theorem WA_rounds {x : Code} {s : SA} {Q : Exit → SA → Prop} (n : Nat) (h : RA P bad E N x Q n s) : WA P bad E N (.loop x) s Q :=
  WA_loop (RA P bad E N x Q) n h (fun s h => h) fun k s h => h

/-- Is there room for a text? -/
def sroom (a b : ByteArray) : Bool := !decide (((a.size + b.size : Nat) : Int) > IntKind.i64.max)

theorem ev_sadd {ρ : Operand → V} {dr : Bool} {h : Hp} {c : Nat} {d : Option Tmp} {t t' ty : TypeId} {pos : String} {af : Array Edge} {g : Option (Nat × Bool)} {x y : Operand} (a b : ByteArray) (hr : sroom a b = true) (hx : ρ x = .p (.string a)) (hy : ρ y = .p (.string b)) :
    evOperF P T dr ρ ⟨d, .binOp .add t x y t', ty, pos, af, g⟩ h c = some (.p (.string (a ++ b)), h, c) := by
  have h1 : ¬ (((a.size + b.size : Nat) : Int) > IntKind.i64.max) := by
    intro h2
    unfold sroom at hr
    rw [decide_eq_true h2] at hr
    cases hr
  have h3 : still P (do eqGuard .add t x y (.string a) (.string b); binOp .add t (.string a) (.string b) : Sem Value) = some (.string (a ++ b)) := by
    have e1 : eqGuard .add t x y (.string a) (.string b) = pure () := rfl
    have e2 : binOp .add t (.string a) (.string b) = pure (.string (a ++ b)) := by
      show Op.stringOp .add a b = _
      unfold Op.stringOp
      simp only [if_neg h1]
    rw [e1, e2]; rfl
  simp only [evOperF, evBin, hx, hy, toVal, fastBin, h3, Option.map_some]

/-- A shift to the left. -/
def ishl (k : IntKind) (x y : Int) : Option Int := bif decide (y < 0) then none else some (k.wrap (x * 2 ^ min y.toNat k.bits))
def ishr (k : IntKind) (x y : Int) : Option Int := bif decide (y < 0) then none else some (x.fdiv (2 ^ min y.toNat k.bits))

theorem ev_shl {ρ : Operand → V} {dr : Bool} {h : Hp} {c : Nat} {d : Option Tmp} {t t' ty : TypeId} {pos : String} {af : Array Edge} {g : Option (Nat × Bool)} {x y : Operand} (k k' : IntKind) (a b : Int) {r : Int} (hr : ishl k a b = some r) (hx : ρ x = .p (.int k a)) (hy : ρ y = .p (.int k' b)) :
    evOperF P T dr ρ ⟨d, .binOp .shl t x y t', ty, pos, af, g⟩ h c = some (.p (.int k r), h, c) := by
  unfold ishl at hr
  by_cases hb : b < 0
  · simp [hb] at hr
  · simp only [hb, decide_false, cond_false, Option.some.injEq] at hr
    subst hr
    have h3 : still P (do eqGuard .shl t x y (.int k a) (.int k' b); binOp .shl t (.int k a) (.int k' b) : Sem Value) = some (.int k (k.wrap (a * 2 ^ min b.toNat k.bits))) := by
      have e1 : eqGuard .shl t x y (.int k a) (.int k' b) = pure () := rfl
      have e2 : binOp .shl t (.int k a) (.int k' b) = pure (.int k (k.wrap (a * 2 ^ min b.toNat k.bits))) := by
        show Op.shift .shl k a k' b = _
        unfold Op.shift
        simp only [if_neg hb]
      rw [e1, e2]; rfl
    simp only [evOperF, evBin, hx, hy, toVal, fastBin, h3, Option.map_some]

theorem ev_shr {ρ : Operand → V} {dr : Bool} {h : Hp} {c : Nat} {d : Option Tmp} {t t' ty : TypeId} {pos : String} {af : Array Edge} {g : Option (Nat × Bool)} {x y : Operand} (k k' : IntKind) (a b : Int) {r : Int} (hr : ishr k a b = some r) (hx : ρ x = .p (.int k a)) (hy : ρ y = .p (.int k' b)) :
    evOperF P T dr ρ ⟨d, .binOp .shr t x y t', ty, pos, af, g⟩ h c = some (.p (.int k r), h, c) := by
  unfold ishr at hr
  by_cases hb : b < 0
  · simp [hb] at hr
  · simp only [hb, decide_false, cond_false, Option.some.injEq] at hr
    subst hr
    have h3 : still P (do eqGuard .shr t x y (.int k a) (.int k' b); binOp .shr t (.int k a) (.int k' b) : Sem Value) = some (.int k (a.fdiv (2 ^ min b.toNat k.bits))) := by
      have e1 : eqGuard .shr t x y (.int k a) (.int k' b) = pure () := rfl
      have e2 : binOp .shr t (.int k a) (.int k' b) = pure (.int k (a.fdiv (2 ^ min b.toNat k.bits))) := by
        show Op.shift .shr k a k' b = _
        unfold Op.shift
        simp only [if_neg hb]
      rw [e1, e2]; rfl
    simp only [evOperF, evBin, hx, hy, toVal, fastBin, h3, Option.map_some]

/-- A float zs a whole number, where it is one that an int holds. -/
def f2i (b : Nat) : Option Int := match (FloatKind.f64.decode b).toInt .zero with
  | some n => bif decide (IntKind.i64.min ≤ n) && decide (n ≤ IntKind.i64.max) then some n else none
  | none => none

theorem ev_f2i {ρ : Operand → V} {dr : Bool} {h : Hp} {c : Nat} {d : Option Tmp} {t t' ty : TypeId} {pos : String} {af : Array Edge} {g : Option (Nat × Bool)} {x : Operand} (b : Nat) {r : Int} (hr : f2i b = some r) (hx : ρ x = .p (.float .f64 b)) (h1 : P.underlying t = some (.float .f64)) (h2 : P.underlying t' = some (.int .i64)) :
    evOperF P T dr ρ ⟨d, .convert t t' x, ty, pos, af, g⟩ h c = some (.p (.int .i64 r), h, c) := by
  unfold f2i at hr
  split at hr
  · rename_i n hn
    cases hb : decide (IntKind.i64.min ≤ n) && decide (n ≤ IntKind.i64.max) with
    | false => rw [hb] at hr; cases hr
    | true =>
      rw [hb] at hr
      simp only [cond_true, Option.some.injEq] at hr
      subst hr
      simp only [Bool.and_eq_true, decide_eq_true_eq] at hb
      have e1 : Conv.floatToInt .f64 b .i64 = pure (.int .i64 n) := by
        unfold Conv.floatToInt
        simp only [hn, if_pos hb]
      have h3 : still P (convert t t' (.float .f64 b)) = some (.int .i64 n) := by
        unfold convert
        have u1 : ∀ (q : TypeId) (ds : TypeDesc), P.underlying q = some ds → ∀ (f : TypeDesc → Sem Value), still P (underlying q >>= f) = still P (f ds) := by
          intro q ds hq f
          show still P ((match P.underlying q with | some d => pure d | none => stuck "no such type") >>= f) = _
          rw [hq]; rfl
        rw [u1 _ _ h1, u1 _ _ h2]
        show still P (Conv.floatToInt .f64 b .i64) = _
        rw [e1]; rfl
      simp only [evOperF, evConvert, hx, h3, Option.map_some]
  · cases hr

/-- Bytes zs a text. -/
def b2s (l : List Int) : ByteArray := ⟨(l.map fun n => UInt8.ofNat n.toNat).toArray⟩

theorem bytesOf_map : ∀ (l : List Int), bytesOf (l.map e_u8) = some (l.map fun n => UInt8.ofNat n.toNat)
  | [] => rfl
  | n :: r => by
    show (bytesOf (r.map e_u8)).map (UInt8.ofNat n.toNat :: ·) = _
    rw [bytesOf_map r]; rfl

theorem ev_b2s (σ : SE T Int) {ρ : Operand → V} {dr : Bool} {h : Hp} {c : Nat} {d : Option Tmp} {t' ty : TypeId} {pos : String} {af : Array Edge} {g : Option (Nat × Bool)} {x : Operand} {i2 : TI} (l : List Int) (hf : σ.f = e_u8) (hx : elems h (ρ x) = some (σ.F l))
    (h1 : σ.i1.desc = .int .u8) (h1s : σ.i1.size = 1) (h2 : T t' = some i2) (h2d : i2.desc = .string) :
    evOperF P T dr ρ ⟨d, .convert σ.t t' x, ty, pos, af, g⟩ h c = some (.p (.string (b2s l)), h, c) := by
  obtain ⟨sz, bt, z, hrow⟩ := σ.row
  have he := σ.he
  revert h1 h1s he
  generalize σ.i1 = i1
  intro h1 h1s he
  obtain ⟨s1, b1, d1, z1⟩ := i1
  obtain ⟨s2, b2, d2, z2⟩ := i2
  simp only at h1 h1s h2d
  subst h1 h1s h2d
  have hb : bytesOf (σ.F l) = some (l.map fun n => UInt8.ofNat n.toNat) := by rw [σ.hF, hf, bytesOf_map]
  have hnp : ∀ y, ρ x ≠ .p y := fun y hy => by rw [hy] at hx; simp [elems] at hx
  simp only [evOperF, evConvert]
  generalize ρ x = v at hx hnp
  cases v with
  | p y => exact absurd rfl (hnp y)
  | _ => simp only [hrow, h2, he, hx, hb, Option.map_some, b2s]

/-- A part of a text. -/
def ssub (s : ByteArray) (a b : Int) : Option ByteArray := bif decide (0 ≤ a) && decide (a ≤ b) && decide (b ≤ s.size) then some (exS s a.toNat b.toNat) else none

theorem ev_ssub {ρ : Operand → V} {dr : Bool} {h : Hp} {c : Nat} {d : Option Tmp} {t ty : TypeId} {pos : String} {af : Array Edge} {g : Option (Nat × Bool)} {x : Operand} {lo hi : Option Operand} {i0 : TI} (s : ByteArray) (a b : Int) {r : ByteArray} (hr : ssub s a b = some r) (hx : ρ x = .p (.string s)) (hlo : intOr 0 (lo.map ρ) = some a) (hhi : intOr s.size (hi.map ρ) = some b)
    (h0 : T t = some i0) (hd : i0.desc = .string) : evOperF P T dr ρ ⟨d, .slice t x lo hi none, ty, pos, af, g⟩ h c = some (.p (.string r), h, c) := by
  unfold ssub at hr
  cases hc : decide (0 ≤ a) && decide (a ≤ b) && decide (b ≤ s.size) with
  | false => rw [hc] at hr; cases hr
  | true =>
    rw [hc] at hr
    simp only [cond_true, Option.some.injEq] at hr
    subst hr
    simp only [Bool.and_eq_true, decide_eq_true_eq] at hc
    obtain ⟨sz, bt, ds, z⟩ := i0
    simp only at hd
    subst hd
    simp only [evOperF, Option.isSome_none, Bool.false_and, Bool.false_eq_true, if_false, evSlice, h0, hx, Option.map_none, hlo, hhi]
    rw [if_pos ⟨hc.1.1, hc.1.2, hc.2⟩]
    rfl

theorem VLf.tip {b s off n : Nat} {tip : Bool} : VLf (.sl b s off n tip) (.sl b s off n false) := fun bad w m c x hx => by
  cases hx with
  | pure hp => cases hp
  | sl hs hx h =>
    refine .sl hs hx fun l hl hls => ?_
    rcases h l hl hls with h1 | ⟨β, cap, h1, h2, h3, h4, h5, _⟩
    · exact .inl h1
    · exact .inr ⟨β, cap, h1, h2, h3, h4, h5, fun h => by cases h⟩

/-- A row of the frame's own, clipped. -/
theorem WO_clip (hT : TabOk P T) (σ : SE T α) {ops : Array Oper} {i : Nat} {s : SA} {Q : Exit → SA → Prop} {o : Oper} (hoi : ops[i]? = some o) (hgd : evGuardA s.A ops o = some true) {d : Option Tmp} {ty : TypeId} {pos : String} {af : Array Edge} {g : Option (Nat × Bool)} {x : Operand} {hi mx : Operand} (b st n : Nat) (tip : Bool) (B : Blk)
    (ho : o = ⟨d, .slice σ.t x none (some hi) (some mx), ty, pos, af, g⟩) (hx : evA s.A x = .sl b st 0 n tip) (hg : s.h.get b = some B) (hs : B.s = st) (hh : evA s.A hi = .p (.int .i64 n)) (hm : evA s.A mx = .p (.int .i64 n)) (hd : okD N d = true)
    (hk : WO P bad E N ops (i + 1) ⟨putA s.A d (.sl b st 0 n false), s.h, s.c⟩ Q) : WO P bad E N ops i s Q := by
  subst ho
  refine WO_eff (fun s' => s' = ⟨putA s.A d (.sl b st 0 n false), s.h, s.c⟩) hoi hgd ?_ fun s' h2 => by subst h2; exact hk
  intro a w m hsr hl K QQ hK
  obtain ⟨sz, bt, z, hrow⟩ := σ.row
  obtain ⟨info, zz, hi', _, _, hu, _⟩ := hT _ _ hrow
  obtain ⟨info1, z1, hi1, hz1, _⟩ := hT _ _ σ.he
  simp only [] at hu
  have ev : ∀ q, Rep bad w m s.c (evA s.A q) (a.eval q) := fun q => by
    have := hsr.2.t.eval q (a := a)
    rw [show evalO (s.st N).t q = evA s.A q from by rw [evA_eq hsr.1]; rfl] at this
    exact this
  have h1 := ev x
  have h2 := rep_p (by have := ev hi; rw [hh] at this; exact this)
  have h3 := rep_p (by have := ev mx; rw [hm] at this; exact this)
  rw [hx] at h1
  obtain ⟨l, hml, hls, _⟩ := hsr.2.h.get b B hg
  have key : ∃ (a0 : Option Addr) (cap : Nat), a.eval x = .slice a0 n cap ∧ n ≤ cap ∧ Rep bad w m s.c (.sl b st 0 n false) (.slice a0 n n) := by
    generalize a.eval x = y at h1
    cases h1 with
    | pure hp => cases hp
    | sl hs' hx' hb =>
      rcases hb l hml (hls.trans hs) with ⟨k1, _, k3, rfl⟩ | ⟨β, cap, k1, rfl, k3, k4, k5, _⟩
      · subst k3
        refine ⟨none, 0, rfl, Nat.le_refl _, .sl hs' rfl fun l2 hl2 _ => ?_⟩
        rw [hml] at hl2; cases hl2
        exact .inl ⟨k1, rfl, rfl, rfl⟩
      · refine ⟨_, cap, rfl, k3, .sl hs' rfl fun l2 hl2 _ => ?_⟩
        rw [hml] at hl2; cases hl2
        exact .inr ⟨β, n, k1, rfl, Nat.le_refl _, Nat.le_trans (Nat.mul_le_mul_right _ (by omega)) k4, by omega, fun h => by cases h⟩
  obtain ⟨a0, cap, he, hcap, hrep⟩ := key
  have hb := sliceBounds_ok (P := P) (bad := bad) (w := w) (m := m) (c := s.c) (lo := none) (hi := some (.p (.int .i64 n))) (mx := some (.p (.int .i64 n))) (lx := none) (hx := some (.int .i64 n)) (mxx := some (.int .i64 n)) (len := n) (cap := cap) (l := 0) (hh := n) (q := some (n : Int)) true trivial
    (.pure (.p _)) (.pure (.p _)) rfl rfl rfl (by omega) (by omega) (by omega) hcap (by intro r hr; cases hr; rfl) (by simp)
  have hrun : (execOp a.eval ⟨d, .slice σ.t x none (some hi) (some mx), ty, pos, af, g⟩).run P w = .ok (.value (.slice a0 n n)) w := by
    simp [execOp, he, h2, h3, Instr.sliceAt, run_underlying hu, Instr.slice, hb, sizeOf_run hi1]
    cases a0 with
    | none => simp
    | some ad => simp [Addr.add]
  simp only [Oper.wp, hrun, Oper.upon]
  exact hK _ _ _ _ rfl (hsr.put (Le.refl _ _ _) hsr.2.h hrep hd) hl

/-- A row that is handed over beside others may be let go. -/
theorem GO_frz {g : FuncId} {hA hr : Hp} {vs : List V} (b : Nat) (B : Blk) {tip : Bool} (h : GO P g hA vs (.sl b 1 0 B.es.length tip) hr) (hg : hr.get b = some B) (hs : B.s = 1) (hv : B.var = false) : GO P g hA vs (.ps .opt B.es) (hr.erase b) := by
  intro bad w m xs hh hl hrep
  refine (h bad w m xs hh hl hrep).mono ?_
  rintro e w' ⟨x, m', rfl, hx, hle, hh'⟩
  have h1 := FzV.sound hh' hg hs hv (.hit tip) hx
  obtain ⟨k1, k2⟩ := hh'.erase b
  exact ⟨x, _, rfl, h1, hle.trans k1, k2⟩

/-- A store into a row of the frame's own. -/
theorem ev_storeRow (σ : SE T α) {dr : Bool} {ρ : Operand → V} {h : Hp} {c : Nat} {d : Option Tmp} {t ty : TypeId} {pos : String} {af : Array Edge} {g : Option (Nat × Bool)} {x y : Operand}
    (b st : Nat) (B : Blk) (l : List α) (n off : Nat) (a a' : α) (ha : l[n]? = some a) (hx : ρ x = .box b st n off) (hg : h.get b = some B) (hs : B.s = st) (hv : B.var = false) (hes : B.es = σ.F l)
    {i0 : TI} (h0 : T t = some i0) (hf : frz 4 h (ρ y) = some (ρ y, h)) (hz : (Nat.blt 0 i0.size && Nat.beq (optV (ρ y)).cells.length i0.size && Nat.ble (off + i0.size) (σ.f a).cells.length && (optV (ρ y)).cells.all V.one) = true)
    (he : (if off = 0 ∧ (σ.f a).isAgg = true ∧ (optV (ρ y)).isAgg = true ∧ (σ.f a).cells.length = i0.size then optV (ρ y) else if (σ.f a).isAgg = true then .agg ((σ.f a).cells.take off ++ (optV (ρ y)).cells ++ (σ.f a).cells.drop (off + i0.size)) else ((optV (ρ y)).cells.headD .undef)) = σ.f a') :
    evOperF P T dr ρ ⟨d, .store t x y, ty, pos, af, g⟩ h c = some (.p Go.undef, h.set b { B with es := σ.F (l.set n a') }, c) := by
  simp only [Bool.and_eq_true] at hz
  obtain ⟨⟨⟨h2, h3⟩, h4⟩, h5⟩ := hz
  have h2' : 0 < i0.size := by simpa using h2
  have h3' : (optV (ρ y)).cells.length = i0.size := by simpa using h3
  have h4' : off + i0.size ≤ (σ.f a).cells.length := by simpa using h4
  have hl : (σ.F l)[n]? = some (σ.f a) := by rw [σ.hF, List.getElem?_map, ha]; rfl
  simp only [evOperF, hx, evStore, h0, hg, hv, Bool.false_eq_true, if_false, hf, Option.map_some, hes, hl, hs, h2', h3', h4', h5, and_self, if_true, Option.map_some, Option.some.injEq, Prod.mk.injEq, and_true, true_and]
  rw [he, σ.set]

/-- An append onto a slice that is full: of something, of nothing. -/
theorem ev_appendF (σ : SE T α) {ρ : Operand → V} {dr : Bool} {h : Hp} {c : Nat} {d : Nat} {ty : TypeId} {pos : String} {af : Array Edge} {g : Option (Nat × Bool)} {x y : Operand} (k : SC) (l l2 : List α) (hk0 : k = .full ∨ k = .fopt)
    (hx : ρ x = .ps k (σ.F l)) (hy : elems h (ρ y) = some (σ.F l2)) (hne : l2 ≠ []) (hroom : room σ.i1.bytes l.length l2.length = true) :
    evOperF P T dr ρ ⟨some d, .call ⟨.builtin .append, #[x, y], #[σ.t, σ.t]⟩, ty, pos, af, g⟩ h c = some (.sl d c 0 (σ.F (l ++ l2)).length true, h.set d ⟨c, σ.e, σ.sz, false, false, σ.F (l ++ l2)⟩, c + 1) := by
  obtain ⟨sz, bt, z, hrow⟩ := σ.row
  have hemp : (σ.F l2).isEmpty = false := by
    cases l2 with
    | nil => exact absurd rfl hne
    | cons a r => simp [σ.hF]
  have hr2 : (l.length + l2.length) * σ.i1.bytes ≤ roomB := by
    have := of_decide_eq_true hroom
    simpa [roomB] using this
  have hall : (σ.F l).all (fun v => v.cells.length == σ.sz) = true := by
    rw [σ.hF, List.all_eq_true]
    intro v hv
    obtain ⟨a, _, rfl⟩ := List.mem_map.1 hv
    simp [σ.hs]
  have hz := σ.hz
  have hp := σ.hp
  have hs1 := σ.all l2
  simp only [evOperF, if_true, evAppend, hrow, σ.he, hy, hx]
  rw [if_pos ⟨hs1, by omega, σ.hb⟩]
  rcases hk0 with rfl | rfl <;>
    simp only [hall, hemp, σ.len, hz, ← σ.app, List.length_append, reduceCtorEq, or_false, false_or, or_true, true_or, and_self, if_true, Bool.false_eq_true, if_false, hr2]

theorem ev_appendF0 (σ : SE T α) {ρ : Operand → V} {dr : Bool} {h : Hp} {c : Nat} {d : Nat} {ty : TypeId} {pos : String} {af : Array Edge} {g : Option (Nat × Bool)} {x y : Operand} (k : SC) (l l2 : List α) (hk0 : k = .full ∨ k = .fopt)
    (hx : ρ x = .ps k (σ.F l)) (hy : elems h (ρ y) = some (σ.F l2)) (hne : l2 = []) :
    evOperF P T dr ρ ⟨some d, .call ⟨.builtin .append, #[x, y], #[σ.t, σ.t]⟩, ty, pos, af, g⟩ h c = some (.ps k (σ.F (l ++ l2)), h, c) := by
  subst hne
  obtain ⟨sz, bt, z, hrow⟩ := σ.row
  have hemp : (σ.F ([] : List α)).isEmpty = true := by simp [σ.hF]
  have hall : (σ.F l).all (fun v => v.cells.length == σ.sz) = true := by
    rw [σ.hF, List.all_eq_true]
    intro v hv
    obtain ⟨a, _, rfl⟩ := List.mem_map.1 hv
    simp [σ.hs]
  have hz := σ.hz
  have hp := σ.hp
  have hs1 := σ.all ([] : List α)
  simp only [evOperF, if_true, evAppend, hrow, σ.he, hy, hx]
  rw [if_pos ⟨hs1, by omega, σ.hb⟩]
  rcases hk0 with rfl | rfl <;>
    simp only [hall, hemp, hz, List.append_nil, reduceCtorEq, or_false, false_or, or_true, true_or, and_self, if_true]

end
end Go.Mx
