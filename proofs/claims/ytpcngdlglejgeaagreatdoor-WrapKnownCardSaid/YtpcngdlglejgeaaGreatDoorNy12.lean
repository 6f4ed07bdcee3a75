/-
  The frame's state; regions in the order of the text; code.
-/
import Derived.Test.YtpcngdlglejgeaaGreatDoorNy11
import Derived.LoopN
namespace Go.Mx
set_option linter.unusedVariables false
set_option linter.unusedSimpArgs false

structure St where
  t : List V
  h : Hp
  c : Nat

/-- What is deferred: marks of ranges over functions alone, each with a block of its own that lies behind bs. -/
def DM0 (bs : Nat) : List Deferred → World → Prop
  | [], _ => True
  | d :: r, w => (∃ D, d = { target := .collected D, args := #[] } ∧ bs ≤ D ∧ w.heap[D]? = some (.deferred (some [])) ∧ ∀ d' ∈ r, d' ≠ { target := .collected D, args := #[] }) ∧ DM0 bs r w

theorem own_not {bad : Nat → Prop} {h : Hp} {w : World} {m : MM} {c : Nat} (hh : HeapRep bad h w m c) {D : Nat} {o : Obj} (ho : w.heap[D]? = some o) (hk : (match o with | .cells .. => false | .map .. => false | _ => true) = true) : ∀ b l, m b = some l → l.blk ≠ some D := by
  intro b l hb hl
  cases hg : h.get b with
  | none => rw [hh.non b hg] at hb; cases hb
  | some B =>
    obtain ⟨l', h1, _, _, _, _, h2⟩ := hh.get b B hg
    rw [hb] at h1; cases h1
    rcases h2 with ⟨_, h3, _⟩ | ⟨_, _, _, β, e, k, h3, h4, _⟩ | ⟨_, β, cs, h3, h4, _⟩
    · rw [hl] at h3; cases h3
    · rw [hl] at h3; cases h3
      rw [ho] at h4; cases h4; simp at hk
    · rw [hl] at h3; cases h3
      rw [ho] at h4; cases h4; simp at hk

theorem DM0.le {bs : Nat} {bad : Nat → Prop} {h : Hp} {w w' : World} {m m' : MM} {c c' : Nat} (hh : HeapRep bad h w m c) (hle : Le w m c w' m' c') : ∀ {ds : List Deferred}, DM0 bs ds w → DM0 bs ds w'
  | [], _ => trivial
  | d :: r, ⟨⟨D, h1, h2, h3, h4⟩, h5⟩ => ⟨⟨D, h1, h2, by rw [hle.keep D (Array.getElem?_eq_some_iff.1 h3).1 (own_not hh h3 rfl)]; exact h3, h4⟩, DM0.le hh hle h5⟩
def DM (bs : Nat) (ds : List Deferred) (w : World) : Prop := bs ≤ w.heap.size ∧ DM0 bs ds w
theorem DM.le {bs : Nat} {bad : Nat → Prop} {h : Hp} {w w' : World} {m m' : MM} {c c' : Nat} (hh : HeapRep bad h w m c) (hle : Le w m c w' m' c') {ds : List Deferred} (hd : DM bs ds w) : DM bs ds w' := ⟨Nat.le_trans hd.1 hle.size, DM0.le hh hle hd.2⟩

structure SR (bs : Nat) (bad : Nat → Prop) (st : St) (a : Act) (w : World) (m : MM) : Prop where
  t : RepT bad w m st.c st.t a.tmps
  h : HeapRep bad st.h w m st.c
  d : DM bs a.defers w

def putT (t : List V) (d : Option Tmp) (v : V) : List V :=
  match d with
  | some k => t.set k v
  | none => t

theorem SR.put {bs : Nat} {bad : Nat → Prop} {st : St} {a : Act} {w w' : World} {m m' : MM} (hs : SR bs bad st a w m) {h' : Hp} {c' : Nat} (hle : Le w m st.c w' m' c') (hh : HeapRep bad h' w' m' c') {v : V} {x : Value} (hv : Rep bad w' m' c' v x) (d : Option Tmp) :
    SR bs bad ⟨putT st.t d v, h', c'⟩ (a.put d x) w' m' := by
  refine ⟨?_, hh, ?_⟩
  · have := (hs.t.mono hle).put (a := a) hv d
    cases d <;> exact this
  · have := DM.le hs.h hle hs.d
    cases d <;> simpa [Act.put] using this

/-- Is an operation carried out? -/
def evGuard (t : List V) (ops : Array Oper) (o : Oper) : Option Bool :=
  match o.guard with
  | none => some true
  | some (j, want) => match (ops[j]?).bind (·.dst) with
    | none => some false
    | some d => match t[d]? with
      | some (.p (.bool b)) => some (b == want)
      | some (.p _) => some false
      | _ => none

section
variable {P : Program} {T : TypeId → Option TI} {bad : Nat → Prop} {bs : Nat}

theorem evGuard_sound {w : World} {m : MM} {c : Nat} {t : List V} {tmps : Array Value} (ht : RepT bad w m c t tmps) {ops : Array Oper} {o : Oper} {b : Bool} (he : evGuard t ops o = some b) : Region.wanted o (yielded ops tmps) = b := by
  unfold evGuard at he
  unfold Region.wanted
  split at he
  · rename_i hg
    cases he
    simp [hg]
  · rename_i j want hg
    simp only [hg, yielded]
    split at he
    · rename_i hd
      cases he
      simp [hd]
    · rename_i d hd
      simp only [hd, Option.bind_some]
      have key : ∀ x, t[d]? = some (.p x) → tmps[d]? = some x := fun x hx => by
        obtain ⟨hlt, hv⟩ := List.getElem?_eq_some_iff.1 hx
        have hlt' : d < tmps.size := by rw [← ht.1]; exact hlt
        have := ht.2 d
        rw [List.getD_eq_getElem?_getD, hx, Array.getD_eq_getD_getElem?, Array.getElem?_eq_getElem hlt'] at this
        simp only [Option.getD_some] at this
        rw [Array.getElem?_eq_getElem hlt', rep_p this]
      split at he
      · rename_i b' hx
        cases he
        rw [key _ hx]
        cases b' <;> cases want <;> rfl
      · rename_i x hne hx
        cases he
        rw [key _ hx]
        cases x <;> first | rfl | exact absurd rfl (hne _)
      · cases he

/-- From a state on, the operations of a list end in a state of which Q holds. -/
def WOps (bs : Nat) (P : Program) (bad : Nat → Prop) (ops : Array Oper) (l : List Nat) (st : St) (Q : St → Prop) : Prop :=
  ∀ a w m, SR bs bad st a w m → ∀ QQ : Exit → Act → World → Prop, (∀ st' a' w' m', Q st' → SR bs bad st' a' w' m' → Le w m st.c w' m' st'.c → QQ .normal a' w') → wpOps P ops QQ l a w

theorem WOps_nil {ops : Array Oper} {st : St} {Q : St → Prop} (h : Q st) : WOps bs P bad ops [] st Q :=
  fun a w m hs QQ hQ => hQ st a w m h hs (Le.refl _ _ _)

theorem WOps_mono {ops : Array Oper} {l : List Nat} {st : St} {Q Q' : St → Prop} (h : WOps bs P bad ops l st Q) (hq : ∀ st', Q st' → Q' st') : WOps bs P bad ops l st Q' :=
  fun a w m hs QQ hQ => h a w m hs QQ fun st' a' w' m' h1 => hQ st' a' w' m' (hq st' h1)

theorem WOps_op (hT : TabOk P T) {ops : Array Oper} {i : Nat} {l : List Nat} {st : St} {Q : St → Prop} {o : Oper} (ho : ops[i]? = some o) (hg : evGuard st.t ops o = some true) {v : V} {h' : Hp} {c' : Nat}
    (he : evOper P T false st.t o st.h st.c = some (v, h', c')) (hk : WOps bs P bad ops l ⟨putT st.t o.dst v, h', c'⟩ Q) : WOps bs P bad ops (i :: l) st Q := by
  intro a w m hs QQ hQ
  have hw := evGuard_sound hs.t hg
  simp only [wpOps, ho, hw, if_true]
  obtain ⟨r, w', m', hrun, hr, hle, hh⟩ := evOper_sound hT hs.h hs.t he
  refine .inl ?_
  rcases hr with ⟨x, rfl, hv⟩ | ⟨rfl, rfl⟩
  · simp only [Oper.wp, hrun, Oper.upon]
    exact hk _ w' m' (hs.put hle hh hv o.dst) QQ fun st' a' w'' m'' h1 h2 h3 => hQ st' a' w'' m'' h1 h2 (hle.trans h3)
  · simp only [Oper.wp, hrun, Oper.upon]
    exact hk _ w' m' (hs.put hle hh (.pure (.p _)) o.dst) QQ fun st' a' w'' m'' h1 h2 h3 => hQ st' a' w'' m'' h1 h2 (hle.trans h3)

theorem WOps_skip {ops : Array Oper} {i : Nat} {l : List Nat} {st : St} {Q : St → Prop} {o : Oper} (ho : ops[i]? = some o) (hg : evGuard st.t ops o = some false)
    (hk : WOps bs P bad ops l ⟨putT st.t o.dst (.p Go.undef), st.h, st.c⟩ Q) : WOps bs P bad ops (i :: l) st Q := by
  intro a w m hs QQ hQ
  have hw := evGuard_sound hs.t hg
  simp only [wpOps, ho, hw, Bool.false_eq_true, if_false]
  exact hk _ w m (hs.put (Le.refl _ _ _) hs.h (.pure (.p _)) o.dst) QQ hQ

/-- A call of a function: from what is passed, and the frame's blocks, to what it gives, and what has become of them. -/
def CallsA (P : Program) (bad : Nat → Prop) (h : Hp) (c : Nat) (g : FuncId) (vs : List V) (r : V) (h' : Hp) (c' : Nat) : Prop :=
  ∀ w m (xs : Array Value), HeapRep bad h w m c → vs.length = xs.size → (∀ i (h1 : i < vs.length) (h2 : i < xs.size), Rep bad w m c vs[i] xs[i]) →
    Calls P g xs w fun e w' => ∃ x m', e = .returned x ∧ Rep bad w' m' c' r x ∧ Le w m c w' m' c' ∧ HeapRep bad h' w' m' c'

/-- The function may be entered. -/
def Enters (P : Program) (g : FuncId) : Prop := ∃ fn, P.funcs[g]? = some fn ∧ fn.body.isSome = true ∧ (fn.name == "runtime.NumGoroutine") = false

def evTarget (t : List V) (cl : Call) : Option (FuncId × List V) :=
  match cl.callee with
  | .value f => match evalO t f with
    | .fn g first cap => some (g, first ++ cl.args.toList.map (evalO t) ++ cap)
    | _ => none
  | _ => none

theorem callFunc_run {g : FuncId} (he : Enters P g) (args : Array Value) (w : World) : (callFunc g args).run P w = .ok (.enter g args) w := by
  obtain ⟨fn, h1, h2, h3⟩ := he
  have h4 : fn.body.isNone = false := by cases hb : fn.body <;> simp_all
  have h5 : fn.name ≠ "runtime.NumGoroutine" := by simpa using h3
  have h6 : fn.body ≠ none := by cases hb : fn.body <;> simp_all
  simp [callFunc, h1, h5, h6]

theorem call_run {w : World} {m : MM} {c : Nat} {t : List V} {a : Act} (ht : RepT bad w m c t a.tmps) {cl : Call} {g : FuncId} {vs : List V} (htg : evTarget t cl = some (g, vs)) (he : Enters P g) (o : Oper) (ho : o.op = .call cl) :
    ∃ xs : Array Value, (execOp a.eval o).run P w = .ok (.enter g xs) w ∧ vs.length = xs.size ∧ ∀ i (h1 : i < vs.length) (h2 : i < xs.size), Rep bad w m c vs[i] xs[i] := by
  obtain ⟨dst, op, ty, pos, after, guard⟩ := o
  simp only at ho
  subst ho
  obtain ⟨callee, args, argTypes⟩ := cl
  unfold evTarget at htg
  split at htg
  · rename_i f hc
    simp only at hc
    subst hc
    split at htg
    · rename_i g' first cap hv
      simp only [Option.some.injEq, Prod.mk.injEq] at htg
      obtain ⟨rfl, rfl⟩ := htg
      have hf := ht.eval f
      rw [hv] at hf
      obtain ⟨cs, ds, hfv, hl, hlb, hra, hrb⟩ : ∃ cs ds, a.eval f = .func (.func g') cs ds ∧ first.length = cs.size ∧ cap.length = ds.size ∧ (∀ i (h1 : i < first.length) (h2 : i < cs.size), Rep bad w m c first[i] cs[i]) ∧
          ∀ i (h1 : i < cap.length) (h2 : i < ds.size), Rep bad w m c cap[i] ds[i] := by
        generalize a.eval f = x at hf
        cases hf with
        | pure h => cases h with
          | fn a b p q => exact ⟨_, _, rfl, a, b, fun i h1 h2 => .pure (p i h1 h2), fun i h1 h2 => .pure (q i h1 h2)⟩
        | fn a b p q => exact ⟨_, _, rfl, a, b, p, q⟩
      refine ⟨cs ++ args.map a.eval ++ ds, ?_, by simp [hl, hlb], fun i h1 h2 => ?_⟩
      · simp only [execOp, resolve, Sem.run_bind, Deferred.ofValue, hfv, Sem.run_pure, Result.andThen_ok, invoke]
        exact callFunc_run he _ w
      · simp only [List.length_append, List.length_map, Array.length_toList] at h1
        by_cases h3 : i < first.length
        · have e1 : (first ++ args.toList.map (evalO t) ++ cap)[i]'(by simp; omega) = first[i] := by
            rw [List.getElem_append_left (by simp; omega), List.getElem_append_left h3]
          have e2 : (cs ++ args.map a.eval ++ ds)[i]'h2 = cs[i]'(by omega) := by
            rw [Array.getElem_append_left (by simp; omega), Array.getElem_append_left (by omega)]
          rw [e1, e2]; exact hra i h3 (by omega)
        · by_cases h4 : i < first.length + args.size
          · have e1 : (first ++ args.toList.map (evalO t) ++ cap)[i]'(by simp; omega) = evalO t (args[i - first.length]'(by omega)) := by
              rw [List.getElem_append_left (by simp; omega), List.getElem_append_right (by omega)]; simp
            have e2 : (cs ++ args.map a.eval ++ ds)[i]'h2 = a.eval (args[i - first.length]'(by omega)) := by
              rw [Array.getElem_append_left (by simp; omega), Array.getElem_append_right (by omega)]
              simp [hl]
            rw [e1, e2]; exact ht.eval _
          · have e1 : (first ++ args.toList.map (evalO t) ++ cap)[i]'(by simp; omega) = cap[i - (first.length + args.size)]'(by omega) := by
              rw [List.getElem_append_right (by simp; omega)]; congr 1; simp
            have e2 : (cs ++ args.map a.eval ++ ds)[i]'h2 = ds[i - (first.length + args.size)]'(by omega) := by
              rw [Array.getElem_append_right (by simp; omega)]; congr 1; simp [hl]
            rw [e1, e2]; exact hrb _ _ _
    · cases htg
  · cases htg

theorem WOps_call {ops : Array Oper} {i : Nat} {l : List Nat} {st : St} {Q : St → Prop} {o : Oper} (ho : ops[i]? = some o) (hg : evGuard st.t ops o = some true) {cl : Call} (hop : o.op = .call cl) {g : FuncId} {vs : List V}
    (htg : evTarget st.t cl = some (g, vs)) (hen : Enters P g) {r : V} {h' : Hp} {c' : Nat} (hc : CallsA P bad st.h st.c g vs r h' c') (hk : WOps bs P bad ops l ⟨putT st.t o.dst r, h', c'⟩ Q) : WOps bs P bad ops (i :: l) st Q := by
  intro a w m hs QQ hQ
  have hw := evGuard_sound hs.t hg
  simp only [wpOps, ho, hw, if_true]
  obtain ⟨xs, hrun, hl, hr⟩ := call_run hs.t htg hen o hop
  refine .inl ?_
  simp only [Oper.wp, hrun, Oper.upon]
  refine (hc w m xs hs.h hl hr).mono ?_
  rintro e w' ⟨x, m', rfl, hv, hle, hh⟩
  exact hk _ w' m' (hs.put hle hh hv o.dst) QQ fun st' a' w'' m'' h1 h2 h3 => hQ st' a' w'' m'' h1 h2 (hle.trans h3)

/-- Code, from a state on: every way ends in an exit and a state of which Q holds. -/
def Lift (bs : Nat) (bad : Nat → Prop) (Q : Exit → St → Prop) (w : World) (m : MM) (c : Nat) : Exit → Act → World → Prop :=
  fun e a' w' => ∃ st' m', Q e st' ∧ SR bs bad st' a' w' m' ∧ Le w m c w' m' st'.c

def WC (bs : Nat) (P : Program) (bad : Nat → Prop) (code : Code) (st : St) (Q : Exit → St → Prop) : Prop :=
  ∀ a w m, SR bs bad st a w m → code.wp P (Lift bs bad Q w m st.c) a w

def thenQ (next : St → Prop) (Q : Exit → St → Prop) : Exit → St → Prop
  | .normal, st => next st
  | e, st => Q e st

theorem Lift.trans {Q : Exit → St → Prop} {w w1 : World} {m m1 : MM} {c c1 : Nat} (h : Le w m c w1 m1 c1) {e : Exit} {a' : Act} {w' : World} (hq : Lift bs bad Q w1 m1 c1 e a' w') : Lift bs bad Q w m c e a' w' :=
  let ⟨st', m', h1, h2, h3⟩ := hq; ⟨st', m', h1, h2, h.trans h3⟩

theorem WC_mono {code : Code} {st : St} {Q Q' : Exit → St → Prop} (h : WC bs P bad code st Q) (hq : ∀ e st', Q e st' → Q' e st') : WC bs P bad code st Q' :=
  fun a w m hs => wp_mono (h a w m hs) fun e a' w' ⟨st', m', h1, h2⟩ => ⟨st', m', hq e st' h1, h2⟩

theorem WC_skip {st : St} {Q : Exit → St → Prop} (h : Q .normal st) : WC bs P bad .skip st Q := fun a w m hs => wp_skip ⟨st, m, h, hs, Le.refl _ _ _⟩
theorem WC_label {l : Nat} {st : St} {Q : Exit → St → Prop} (h : Q .normal st) : WC bs P bad (.label l) st Q := fun a w m hs => wp_label ⟨st, m, h, hs, Le.refl _ _ _⟩
theorem WC_exit {id : Nat} {st : St} {Q : Exit → St → Prop} (h : Q (.exit id) st) : WC bs P bad (.exit id) st Q := fun a w m hs => wp_exit ⟨st, m, h, hs, Le.refl _ _ _⟩
theorem WC_ret {st : St} {Q : Exit → St → Prop} (h : Q .ret st) : WC bs P bad .ret st Q := fun a w m hs => wp_ret ⟨st, m, h, hs, Le.refl _ _ _⟩

theorem WC_seq {x y : Code} {st : St} {Q : Exit → St → Prop} (h : WC bs P bad x st (thenQ (fun st' => WC bs P bad y st' Q) Q)) : WC bs P bad (.seq x y) st Q := by
  intro a w m hs
  refine wp_seq (wp_mono (h a w m hs) ?_)
  rintro e a' w' ⟨st', m', h1, h2, h3⟩
  cases e with
  | normal => exact wp_mono (h1 a' w' m' h2) fun e a'' w'' hq => Lift.trans h3 hq
  | exit id => exact ⟨st', m', h1, h2, h3⟩
  | goto l => exact ⟨st', m', h1, h2, h3⟩
  | ret => exact ⟨st', m', h1, h2, h3⟩
  | panic ch => exact ⟨st', m', h1, h2, h3⟩
  | outgrown => exact ⟨st', m', h1, h2, h3⟩

theorem WC_cond {k : Operand} {x y : Code} {st : St} {Q : Exit → St → Prop} {b : Bool} (hk : evalO st.t k = .p (.bool b)) (h : WC bs P bad (if b then x else y) st Q) : WC bs P bad (.cond k x y) st Q := by
  intro a w m hs
  have := hs.t.eval k
  rw [hk] at this
  exact wp_cond (rep_p this) (h a w m hs)

def blockQ (id : Nat) (Q : Exit → St → Prop) : Exit → St → Prop
  | .exit id', st => if id' = id then Q .normal st else Q (.exit id') st
  | e, st => Q e st

theorem WC_block {id : Nat} {x : Code} {st : St} {Q : Exit → St → Prop} (h : WC bs P bad x st (blockQ id Q)) : WC bs P bad (.block id x) st Q := by
  intro a w m hs
  refine wp_block (wp_mono (h a w m hs) ?_)
  rintro e a' w' ⟨st', m', h1, h2, h3⟩
  cases e with
  | exit id' =>
    simp only [blockQ] at h1
    simp only [Exit.inBlock]
    split at h1
    · rename_i e; rw [if_pos e]; exact ⟨st', m', h1, h2, h3⟩
    · rename_i e; rw [if_neg e]; exact ⟨st', m', h1, h2, h3⟩
  | normal => exact ⟨st', m', h1, h2, h3⟩
  | goto l => exact ⟨st', m', h1, h2, h3⟩
  | ret => exact ⟨st', m', h1, h2, h3⟩
  | panic ch => exact ⟨st', m', h1, h2, h3⟩
  | outgrown => exact ⟨st', m', h1, h2, h3⟩

/-- A loop, in at most n rounds. -/
def WLoop (bs : Nat) (P : Program) (bad : Nat → Prop) (x : Code) : Nat → St → (Exit → St → Prop) → Prop
  | 0, _, _ => False
  | n + 1, st, Q => WC bs P bad x st (thenQ (fun st' => WLoop bs P bad x n st' Q) Q)

theorem WC_loop {x : Code} (n : Nat) {st : St} {Q : Exit → St → Prop} (h : WLoop bs P bad x n st Q) : WC bs P bad (.loop x) st Q := by
  intro a w m hs
  refine wp_loop_rounds n ?_
  have key : ∀ n st a w1 m1, WLoop bs P bad x n st Q → SR bs bad st a w1 m1 → Le w m st.c w1 m1 st.c ∨ True → ∀ c0, Le w m c0 w1 m1 st.c → Code.rounds P x (Lift bs bad Q w m c0) n a w1 := by
    intro n
    induction n with
    | zero => intro st a w1 m1 h; exact h.elim
    | succ n ih =>
      intro st a w1 m1 h hs _ c0 hle
      refine wp_mono (h a w1 m1 hs) ?_
      rintro e a' w' ⟨st', m', h1, h2, h3⟩
      cases e with
      | normal => exact ih st' a' w' m' h1 h2 (.inr trivial) c0 (hle.trans h3)
      | exit id => exact ⟨st', m', h1, h2, hle.trans h3⟩
      | goto l => exact ⟨st', m', h1, h2, hle.trans h3⟩
      | ret => exact ⟨st', m', h1, h2, hle.trans h3⟩
      | panic ch => exact ⟨st', m', h1, h2, hle.trans h3⟩
      | outgrown => exact ⟨st', m', h1, h2, hle.trans h3⟩
  exact key n st a w m h hs (.inr trivial) st.c (Le.refl _ _ _)

theorem WC_region {id : Nat} {ops : Array Oper} {st : St} {Q : Exit → St → Prop} (h : WOps bs P bad ops (List.range ops.size) st (Q .normal)) : WC bs P bad (.region id ops false) st Q := by
  intro a w m hs
  exact wp_region (h a w m hs _ fun st' a' w' m' h1 h2 h3 => ⟨st', m', h1, h2, h3⟩)

/-- What a function hands back. -/
def evResult (T : TypeId → Option TI) (st : St) : ResultVar → Option V
  | .tmp k => some (st.t.getD k .undef)
  | .cell a t => evLoad T st.h t (st.t.getD a .undef)

def evResults (T : TypeId → Option TI) (st : St) (rs : List ResultVar) : Option V :=
  match rs with
  | [r] => evResult T st r
  | rs => (rs.mapM (evResult T st)).map .tup

end
end Go.Mx
