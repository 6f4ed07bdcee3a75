/-
  Code from states that name only the slots that still matter: rules for whole bodies.
-/
import Derived.Test.YtfmgnboplbgniaaMx17
namespace Go.Mx
set_option linter.unusedVariables false
set_option linter.unusedSimpArgs false

/-- A state: the slots that matter, the blocks, the next stamp. -/
structure SA where
  A : List (Nat × V)
  h : Hp
  c : Nat

def lkA : List (Nat × V) → Nat → V
  | [], _ => .undef
  | (k, v) :: r, i => bif Nat.beq k i then v else lkA r i

def mkT (N : Nat) (A : List (Nat × V)) : List V := (List.range N).map (lkA A)

def SA.st (N : Nat) (s : SA) : St := ⟨mkT N s.A, s.h, s.c⟩

def keysLt (N : Nat) : List (Nat × V) → Bool
  | [] => true
  | (k, _) :: r => Nat.blt k N && keysLt N r

theorem mkT_length (N : Nat) (A : List (Nat × V)) : (mkT N A).length = N := by simp [mkT]

theorem lkA_ge {N : Nat} : ∀ {A : List (Nat × V)} {k : Nat}, keysLt N A = true → N ≤ k → lkA A k = .undef
  | [], k, _, _ => rfl
  | (j, v) :: r, k, h, hk => by
    simp only [keysLt, Bool.and_eq_true, Nat.blt_eq] at h
    have : Nat.beq j k = false := by
      cases hb : Nat.beq j k with
      | false => rfl
      | true => have := Nat.eq_of_beq_eq_true hb; omega
    simp only [lkA, this, cond_false]
    exact lkA_ge h.2 hk

theorem mkT_getD {N : Nat} {A : List (Nat × V)} (h : keysLt N A = true) (k : Nat) : (mkT N A).getD k .undef = lkA A k := by
  rw [List.getD_eq_getElem?_getD]
  by_cases hk : k < N
  · simp [mkT, hk]
  · rw [lkA_ge h (by omega)]
    simp [mkT, hk]

theorem lkA_cons (A : List (Nat × V)) (d : Nat) (v : V) (k : Nat) : lkA ((d, v) :: A) k = if d = k then v else lkA A k := by
  simp only [lkA]
  cases hb : Nat.beq d k with
  | true => simp [Nat.eq_of_beq_eq_true hb]
  | false =>
    have : d ≠ k := fun e => by subst e; simp at hb
    simp [this]

theorem mkT_put {N : Nat} {A : List (Nat × V)} {d : Nat} {v : V} (hd : d < N) : (mkT N A).set d v = mkT N ((d, v) :: A) := by
  apply List.ext_getElem
  · simp [mkT]
  · intro k h1 h2
    simp only [List.getElem_set, mkT, List.getElem_map, List.getElem_range, lkA_cons]

def evA (A : List (Nat × V)) : Operand → V
  | .tmp k => lkA A k
  | .const v => ofC v
  | .func f => .fn f [] []
  | .global _ => .undef

theorem evA_eq {N : Nat} {A : List (Nat × V)} (h : keysLt N A = true) : evA A = evalO (mkT N A) := by
  funext o
  cases o with
  | tmp k => exact (mkT_getD h k).symm
  | const v => rfl
  | func f => rfl
  | global g => rfl

def putA (A : List (Nat × V)) (d : Option Tmp) (v : V) : List (Nat × V) :=
  match d with
  | some k => (k, v) :: A
  | none => A

def okD (N : Nat) (d : Option Tmp) : Bool :=
  match d with
  | some k => Nat.blt k N
  | none => true

theorem putA_eq {N : Nat} {A : List (Nat × V)} {d : Option Tmp} {v : V} (hd : okD N d = true) : putT (mkT N A) d v = mkT N (putA A d v) := by
  cases d with
  | none => rfl
  | some k => exact mkT_put (by simpa [okD] using hd)

theorem putA_lt {N : Nat} {A : List (Nat × V)} {d : Option Tmp} {v : V} (hd : okD N d = true) (h : keysLt N A = true) : keysLt N (putA A d v) = true := by
  cases d with
  | none => exact h
  | some k => simp only [putA, keysLt, h, Bool.and_true]; exact hd

/-- What the frame is in, as a state says. -/
def SRA (bad : Nat → Prop) (N : Nat) (s : SA) (a : Act) (w : World) (m : MM) : Prop := keysLt N s.A = true ∧ SR bad (s.st N) a w m

/-- Where the call began. -/
structure Ent where
  w : World
  m : MM
  c : Nat

def Ent.le (E : Ent) (w : World) (m : MM) (c : Nat) : Prop := Le E.w E.m E.c w m c

section
variable {P : Program} {T : TypeId → Option TI} {bad : Nat → Prop} {E : Ent} {N : Nat}

/-- Code, from a state on: every way ends in an exit and a state of which Q holds. -/
def WA (P : Program) (bad : Nat → Prop) (E : Ent) (N : Nat) (code : Code) (s : SA) (Q : Exit → SA → Prop) : Prop :=
  ∀ a w m, SRA bad N s a w m → E.le w m s.c → code.wp P (fun e a' w' => ∃ s' m', Q e s' ∧ SRA bad N s' a' w' m' ∧ E.le w' m' s'.c) a w

def thenA (next : SA → Prop) (Q : Exit → SA → Prop) : Exit → SA → Prop
  | .normal, s => next s
  | e, s => Q e s

def blockA (id : Nat) (Q : Exit → SA → Prop) : Exit → SA → Prop
  | .exit id', s => bif Nat.beq id' id then Q .normal s else Q (.exit id') s
  | e, s => Q e s

/-- What is so in one state is so in the other. -/
def Weak (bad : Nat → Prop) (E : Ent) (N : Nat) (s s' : SA) : Prop :=
  ∀ a w m, SRA bad N s a w m → E.le w m s.c → ∃ m', SRA bad N s' a w m' ∧ E.le w m' s'.c

theorem WA_weak {code : Code} {s s' : SA} {Q : Exit → SA → Prop} (hw : Weak bad E N s s') (h : WA P bad E N code s' Q) : WA P bad E N code s Q := by
  intro a w m hs hl
  obtain ⟨m', h1, h2⟩ := hw a w m hs hl
  exact h a w m' h1 h2

theorem WA_mono {code : Code} {s : SA} {Q Q' : Exit → SA → Prop} (h : WA P bad E N code s Q) (hq : ∀ e s', Q e s' → Q' e s') : WA P bad E N code s Q' :=
  fun a w m hs hl => wp_mono (h a w m hs hl) fun e a' w' ⟨s', m', h1, h2⟩ => ⟨s', m', hq e s' h1, h2⟩

theorem WA_skip {s : SA} {Q : Exit → SA → Prop} (h : Q .normal s) : WA P bad E N .skip s Q := fun a w m hs hl => wp_skip ⟨s, m, h, hs, hl⟩
theorem WA_exit {id : Nat} {s : SA} {Q : Exit → SA → Prop} (h : Q (.exit id) s) : WA P bad E N (.exit id) s Q := fun a w m hs hl => wp_exit ⟨s, m, h, hs, hl⟩
theorem WA_ret {s : SA} {Q : Exit → SA → Prop} (h : Q .ret s) : WA P bad E N .ret s Q := fun a w m hs hl => wp_ret ⟨s, m, h, hs, hl⟩

theorem WA_seq {x y : Code} {s : SA} {Q : Exit → SA → Prop} (h : WA P bad E N x s (thenA (fun s' => WA P bad E N y s' Q) Q)) : WA P bad E N (.seq x y) s Q := by
  intro a w m hs hl
  refine wp_seq (wp_mono (h a w m hs hl) ?_)
  rintro e a' w' ⟨s', m', h1, h2, h3⟩
  cases e with
  | normal => exact h1 a' w' m' h2 h3
  | exit id => exact ⟨s', m', h1, h2, h3⟩
  | goto l => exact ⟨s', m', h1, h2, h3⟩
  | ret => exact ⟨s', m', h1, h2, h3⟩
  | panic ch => exact ⟨s', m', h1, h2, h3⟩
  | outgrown => exact ⟨s', m', h1, h2, h3⟩

/-- Two ways meet: what is so where they meet. -/
theorem WA_seqJ {x y : Code} {s : SA} {Q : Exit → SA → Prop} (J : SA → Prop) (h : WA P bad E N x s (thenA J Q)) (hj : ∀ s', J s' → WA P bad E N y s' Q) : WA P bad E N (.seq x y) s Q :=
  WA_seq (WA_mono h fun e s' hq => by cases e <;> first | exact hj s' hq | exact hq)

theorem WA_cond {k : Operand} {x y : Code} {s : SA} {Q : Exit → SA → Prop} (b : Bool) (hk : evA s.A k = .p (.bool b)) (h1 : b = true → WA P bad E N x s Q) (h2 : b = false → WA P bad E N y s Q) : WA P bad E N (.cond k x y) s Q := by
  intro a w m hs hl
  have := hs.2.t.eval k
  rw [SA.st, ← evA_eq hs.1, hk] at this
  cases b with
  | true => exact wp_cond (rep_p this) (by simpa using h1 rfl a w m hs hl)
  | false => exact wp_cond (rep_p this) (by simpa using h2 rfl a w m hs hl)

theorem WA_block {id : Nat} {x : Code} {s : SA} {Q : Exit → SA → Prop} (h : WA P bad E N x s (blockA id Q)) : WA P bad E N (.block id x) s Q := by
  intro a w m hs hl
  refine wp_block (wp_mono (h a w m hs hl) ?_)
  rintro e a' w' ⟨st', m', h1, h2, h3⟩
  cases e with
  | exit id' =>
    simp only [blockA] at h1
    simp only [Exit.inBlock]
    cases hb : Nat.beq id' id with
    | true =>
      rw [hb] at h1
      rw [if_pos (Nat.eq_of_beq_eq_true hb)]; exact ⟨st', m', h1, h2, h3⟩
    | false =>
      rw [hb] at h1
      rw [if_neg (fun e => by subst e; simp at hb)]; exact ⟨st', m', h1, h2, h3⟩
  | normal => exact ⟨st', m', h1, h2, h3⟩
  | goto l => exact ⟨st', m', h1, h2, h3⟩
  | ret => exact ⟨st', m', h1, h2, h3⟩
  | panic ch => exact ⟨st', m', h1, h2, h3⟩
  | outgrown => exact ⟨st', m', h1, h2, h3⟩

/-- A loop: what holds at its head with so many rounds to go. -/
theorem WA_loop {x : Code} {s : SA} {Q : Exit → SA → Prop} (I : Nat → SA → Prop) (n : Nat) (h0 : I n s) (hz : ∀ s', I 0 s' → False) (h : ∀ k s', I (k + 1) s' → WA P bad E N x s' (thenA (I k) Q)) : WA P bad E N (.loop x) s Q := by
  intro a w m hs hl
  refine wp_loop_rounds n ?_
  have key : ∀ n s a w m, I n s → SRA bad N s a w m → E.le w m s.c → Code.rounds P x (fun e a' w' => ∃ s' m', Q e s' ∧ SRA bad N s' a' w' m' ∧ E.le w' m' s'.c) n a w := by
    intro n
    induction n with
    | zero => intro s a w m h; exact (hz s h).elim
    | succ n ih =>
      intro s a w m hi hs hl
      refine wp_mono (h n s hi a w m hs hl) ?_
      rintro e a' w' ⟨s', m', h1, h2, h3⟩
      cases e with
      | normal => exact ih s' a' w' m' h1 h2 h3
      | exit id => exact ⟨s', m', h1, h2, h3⟩
      | goto l => exact ⟨s', m', h1, h2, h3⟩
      | ret => exact ⟨s', m', h1, h2, h3⟩
      | panic ch => exact ⟨s', m', h1, h2, h3⟩
      | outgrown => exact ⟨s', m', h1, h2, h3⟩
  exact key n s a w m h0 hs hl

/-- From the i-th operation of a region on, in the order of the text. -/
def WO (P : Program) (bad : Nat → Prop) (E : Ent) (N : Nat) (ops : Array Oper) (i : Nat) (s : SA) (Q : Exit → SA → Prop) : Prop :=
  ∀ a w m, SRA bad N s a w m → E.le w m s.c → wpOps P ops (fun e a' w' => ∃ s' m', Q e s' ∧ SRA bad N s' a' w' m' ∧ E.le w' m' s'.c) (List.range' i (ops.size - i)) a w

theorem WA_region {id : Nat} {ops : Array Oper} {s : SA} {Q : Exit → SA → Prop} (h : WO P bad E N ops 0 s Q) : WA P bad E N (.region id ops false) s Q := by
  intro a w m hs hl
  have := h a w m hs hl
  rw [Nat.sub_zero, ← List.range_eq_range'] at this
  exact wp_region this

theorem WO_weak {ops : Array Oper} {i : Nat} {s s' : SA} {Q : Exit → SA → Prop} (hw : Weak bad E N s s') (h : WO P bad E N ops i s' Q) : WO P bad E N ops i s Q := by
  intro a w m hs hl
  obtain ⟨m', h1, h2⟩ := hw a w m hs hl
  exact h a w m' h1 h2

theorem WO_end {ops : Array Oper} {i : Nat} {s : SA} {Q : Exit → SA → Prop} (hi : Nat.ble ops.size i = true) (h : Q .normal s) : WO P bad E N ops i s Q := by
  intro a w m hs hl
  have : ops.size - i = 0 := by have := Nat.le_of_ble_eq_true hi; omega
  rw [this]
  exact ⟨s, m, h, hs, hl⟩

/-- One operation: it ends in a state of which R holds. -/
def Eff (P : Program) (bad : Nat → Prop) (E : Ent) (N : Nat) (o : Oper) (s : SA) (R : SA → Prop) : Prop :=
  ∀ a w m, SRA bad N s a w m → E.le w m s.c → ∀ (K : Act → World → Prop) (QQ : Exit → Act → World → Prop), (∀ s' a' w' m', R s' → SRA bad N s' a' w' m' → E.le w' m' s'.c → K a' w') → o.wp P a w K QQ

/-- Is a guarded operation done? -/
def evGuardA (A : List (Nat × V)) (ops : Array Oper) (o : Oper) : Option Bool :=
  match o.guard with
  | none => some true
  | some (j, want) => match (ops[j]?).bind (·.dst) with
    | none => some false
    | some d => match lkA A d with
      | .p (.bool b) => some (b == want)
      | .p _ => some false
      | _ => none

theorem evGuardA_eq {N : Nat} {A : List (Nat × V)} (h : keysLt N A = true) (ops : Array Oper) (o : Oper) : evGuard (mkT N A) ops o = evGuardA A ops o := by
  unfold evGuard evGuardA
  cases o.guard with
  | none => rfl
  | some x =>
    obtain ⟨j, want⟩ := x
    simp only []
    cases (ops[j]?).bind (·.dst) with
    | none => rfl
    | some d =>
      simp only []
      have : (mkT N A)[d]? = if d < N then some (lkA A d) else none := by
        by_cases hd : d < N <;> simp [mkT, hd]
      rw [this]
      by_cases hd : d < N
      · rw [if_pos hd]
        cases lkA A d with
        | p x => cases x <;> rfl
        | _ => rfl
      · rw [if_neg hd, lkA_ge (N := N) (k := d) h (Nat.le_of_not_lt hd)]

theorem WO_eff {ops : Array Oper} {i : Nat} {s : SA} {Q : Exit → SA → Prop} {o : Oper} (R : SA → Prop) (ho : ops[i]? = some o) (hg : evGuardA s.A ops o = some true) (he : Eff P bad E N o s R)
    (hk : ∀ s', R s' → WO P bad E N ops (i + 1) s' Q) : WO P bad E N ops i s Q := by
  intro a w m hs hl
  have hi : i < ops.size := (Array.getElem?_eq_some_iff.1 ho).1
  rw [show ops.size - i = ops.size - (i + 1) + 1 by omega, List.range'_succ]
  have hw := evGuard_sound hs.2.t ((evGuardA_eq hs.1 ops o).trans hg)
  simp only [wpOps, ho, hw, if_true]
  exact .inl (he a w m hs hl _ _ fun s' a' w' m' h1 h2 h3 => hk s' h1 a' w' m' h2 h3)

theorem WO_skip {ops : Array Oper} {i : Nat} {s : SA} {Q : Exit → SA → Prop} {o : Oper} (ho : ops[i]? = some o) (hg : evGuardA s.A ops o = some false) (hd : okD N o.dst = true)
    (hk : WO P bad E N ops (i + 1) ⟨putA s.A o.dst (.p Go.undef), s.h, s.c⟩ Q) : WO P bad E N ops i s Q := by
  intro a w m hs hl
  have hi : i < ops.size := (Array.getElem?_eq_some_iff.1 ho).1
  rw [show ops.size - i = ops.size - (i + 1) + 1 by omega, List.range'_succ]
  have hw := evGuard_sound hs.2.t ((evGuardA_eq hs.1 ops o).trans hg)
  simp only [wpOps, ho, hw, Bool.false_eq_true, if_false]
  refine hk _ w m ⟨putA_lt hd hs.1, ?_⟩ hl
  have := hs.2.put (Le.refl _ _ _) hs.2.h (.pure (.p _)) o.dst (v := .p Go.undef) (x := Go.undef)
  simpa only [SA.st, putA_eq hd] using this

theorem SRA.put {s : SA} {a : Act} {w w' : World} {m m' : MM} (hs : SRA bad N s a w m) {h' : Hp} {c' : Nat} (hle : Le w m s.c w' m' c') (hh : HeapRep bad h' w' m' c') {v : V} {x : Value} (hv : Rep bad w' m' c' v x) {d : Option Tmp} (hd : okD N d = true) :
    SRA bad N ⟨putA s.A d v, h', c'⟩ (a.put d x) w' m' := by
  refine ⟨putA_lt hd hs.1, ?_⟩
  have := hs.2.put hle hh hv d
  simpa only [SA.st, putA_eq hd] using this

theorem Eff_op (hT : TabOk P T) {o : Oper} {s : SA} {v : V} {h' : Hp} {c' : Nat} (he : evOperF P T false (evA s.A) o s.h s.c = some (v, h', c')) (hd : okD N o.dst = true) :
    Eff P bad E N o s (fun s' => s' = ⟨putA s.A o.dst v, h', c'⟩) := by
  intro a w m hs hl K QQ hK
  rw [evA_eq hs.1] at he
  obtain ⟨r, w', m', hrun, hr, hle, hh⟩ := evOper_sound hT hs.2.h hs.2.t (o := o) (draw := false) he
  rcases hr with ⟨x, rfl, hv⟩ | ⟨rfl, rfl⟩
  · simp only [Oper.wp, hrun, Oper.upon]
    exact hK _ _ _ _ rfl (hs.put hle hh hv hd) (hl.trans hle)
  · simp only [Oper.wp, hrun, Oper.upon]
    exact hK _ _ _ _ rfl (hs.put hle hh (.pure (.p _)) hd) (hl.trans hle)

def evTargetA (A : List (Nat × V)) (cl : Call) : Option (FuncId × List V) :=
  match cl.callee with
  | .value f => match evA A f with
    | .fn g first cap => some (g, first ++ cl.args.toList.map (evA A) ++ cap)
    | _ => none
  | _ => none

theorem Eff_callA {o : Oper} {s : SA} {cl : Call} {g : FuncId} {vs : List V} {r : V} {h' : Hp} {c' : Nat} (hop : o.op = .call cl) (htg : evTargetA s.A cl = some (g, vs)) (hen : Enters P g)
    (hc : CallsA P bad s.h s.c g vs r h' c') (hd : okD N o.dst = true) : Eff P bad E N o s (fun s' => s' = ⟨putA s.A o.dst r, h', c'⟩) := by
  intro a w m hs hl K QQ hK
  have htg' : evTarget (mkT N s.A) cl = some (g, vs) := by
    rw [← htg]; unfold evTarget evTargetA; simp only [evA_eq hs.1]
    cases cl.callee with
    | value f => simp only []; cases evalO (mkT N s.A) f <;> rfl
    | _ => rfl
  obtain ⟨xs, hrun, hlen, hr⟩ := call_run hs.2.t htg' hen o hop
  simp only [Oper.wp, hrun, Oper.upon]
  refine (hc w m xs hs.2.h hlen hr).mono ?_
  rintro e w' ⟨x, m', rfl, hv, hle, hh⟩
  exact hK _ _ _ _ rfl (hs.put hle hh hv hd) (hl.trans hle)

/-- A call of a pure function. -/
theorem Eff_pt {o : Oper} {s : SA} {cl : Call} {g : FuncId} {vs : List V} {r : V} (hop : o.op = .call cl) (htg : evTargetA s.A cl = some (g, vs)) (hen : Enters P g) (hpu : vs.all (pur 6) = true)
    (hc : PT P g vs r) (hd : okD N o.dst = true) : Eff P bad E N o s (fun s' => s' = ⟨putA s.A o.dst r, s.h, s.c⟩) := by
  intro a w m hs hl K QQ hK
  exact Eff_callA hop htg hen (CallsA_of_PT hpu hc _ _) hd a w m hs hl K QQ hK

end

/-- Some operations in the order of the text, each coming to one thing. -/
def runO (P : Program) (T : TypeId → Option TI) (N : Nat) (ops : Array Oper) : Nat → List Oper → SA → Option SA
  | 0, _, s => some s
  | n + 1, [], s => none
  | n + 1, o :: r, s => match evGuardA s.A ops o with
    | some true => match evOperF P T false (evA s.A) o s.h s.c with
      | some (v, h', c') => bif okD N o.dst then runO P T N ops n r ⟨putA s.A o.dst v, h', c'⟩ else none
      | none => none
    | some false => bif okD N o.dst then runO P T N ops n r ⟨putA s.A o.dst (.p Go.undef), s.h, s.c⟩ else none
    | none => none

def keepA (ks : List Nat) (A : List (Nat × V)) : List (Nat × V) := ks.map fun k => (k, lkA A k)

def runK (P : Program) (T : TypeId → Option TI) (N : Nat) (ops : Array Oper) (i n : Nat) (ks : List Nat) (s : SA) : Option SA :=
  match runO P T N ops n (ops.toList.drop i) s with
  | some s' => some ⟨keepA ks s'.A, s'.h, s'.c⟩
  | none => none

theorem lkA_keep (A : List (Nat × V)) : ∀ (ks : List Nat) (k : Nat), lkA (keepA ks A) k = lkA A k ∨ lkA (keepA ks A) k = .undef
  | [], k => .inr rfl
  | j :: r, k => by
    simp only [keepA, List.map_cons, lkA_cons]
    split
    · rename_i e; subst e; exact .inl rfl
    · exact lkA_keep A r k

theorem keysLt_keep {N : Nat} {A : List (Nat × V)} : ∀ (ks : List Nat), ks.all (Nat.blt · N) = true → keysLt N (keepA ks A) = true
  | [], _ => rfl
  | j :: r, h => by
    simp only [List.all_cons, Bool.and_eq_true] at h
    simp only [keepA, List.map_cons, keysLt, h.1, Bool.true_and]
    exact keysLt_keep r h.2

section
variable {P : Program} {T : TypeId → Option TI} {bad : Nat → Prop} {E : Ent} {N : Nat}

/-- The slots may read zs less. -/
theorem SRA.slots {s : SA} {a : Act} {w : World} {m : MM} (hs : SRA bad N s a w m) {A' : List (Nat × V)} (hk : keysLt N A' = true) (hv : ∀ k x, Rep bad w m s.c (lkA s.A k) x → Rep bad w m s.c (lkA A' k) x) : SRA bad N ⟨A', s.h, s.c⟩ a w m := by
  refine ⟨hk, ⟨⟨by simpa [SA.st, mkT_length] using hs.2.t.1, fun i => ?_⟩, hs.2.h, hs.2.d⟩⟩
  have h1 := hs.2.t.2 i
  simp only [SA.st] at h1 ⊢
  rw [mkT_getD hs.1] at h1
  rw [mkT_getD hk]
  exact hv i _ h1

theorem Weak_keep {s : SA} (ks : List Nat) (hk : ks.all (Nat.blt · N) = true) : Weak bad E N s ⟨keepA ks s.A, s.h, s.c⟩ := by
  intro a w m hs hl
  refine ⟨m, hs.slots (keysLt_keep ks hk) fun k x hr => ?_, hl⟩
  rcases lkA_keep s.A ks k with h | h
  · rw [h]; exact hr
  · rw [h]; exact .pure (.undef _)

theorem WO_runO (hT : TabOk P T) {ops : Array Oper} {Q : Exit → SA → Prop} : ∀ (n i : Nat) (r : List Oper) (s s' : SA), ops.toList.drop i = r → runO P T N ops n r s = some s' → WO P bad E N ops (i + n) s' Q → WO P bad E N ops i s Q
  | 0, i, r, s, s', hd, hr, h => by
    simp only [runO, Option.some.injEq] at hr
    subst hr; exact h
  | n + 1, i, [], s, s', hd, hr, h => by simp [runO] at hr
  | n + 1, i, o :: r, s, s', hd, hr, h => by
    have ho : ops[i]? = some o := by
      have : ops.toList[i]? = some o := by
        have := congrArg (fun l => l[0]?) hd
        simpa using this
      simpa using this
    have hd' : ops.toList.drop (i + 1) = r := by
      have := congrArg (List.drop 1) hd
      simpa [List.drop_drop] using this
    simp only [runO] at hr
    split at hr
    · rename_i hg
      split at hr
      · rename_i v h' c' hev
        cases hdd : okD N o.dst with
        | false => rw [hdd] at hr; cases hr
        | true =>
          rw [hdd] at hr
          refine WO_eff _ ho hg (Eff_op hT hev hdd) ?_
          rintro _ rfl
          exact WO_runO hT n (i + 1) r _ s' hd' hr (by rwa [show i + 1 + n = i + (n + 1) by omega])
      · cases hr
    · rename_i hg
      cases hdd : okD N o.dst with
      | false => rw [hdd] at hr; cases hr
      | true =>
        rw [hdd] at hr
        exact WO_skip ho hg hdd (WO_runO hT n (i + 1) r _ s' hd' hr (by rwa [show i + 1 + n = i + (n + 1) by omega]))
    · cases hr

/-- A run of operations. -/
theorem WO_seg (hT : TabOk P T) {ops : Array Oper} {i : Nat} {s : SA} {Q : Exit → SA → Prop} (n : Nat) (ks : List Nat) (s' : SA) (hr : runK P T N ops i n ks s = some s') (hk : ks.all (Nat.blt · N) = true) (h : WO P bad E N ops (i + n) s' Q) : WO P bad E N ops i s Q := by
  unfold runK at hr
  split at hr
  · rename_i s1 h1
    simp only [Option.some.injEq] at hr
    subst hr
    exact WO_runO hT n i _ s s1 rfl h1 (WO_weak (Weak_keep ks hk) h)
  · cases hr

end
end Go.Mx
