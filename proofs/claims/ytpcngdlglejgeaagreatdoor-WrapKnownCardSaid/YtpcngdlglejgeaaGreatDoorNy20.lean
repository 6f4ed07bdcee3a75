/-
  The executor again, its slots in chunks of sixteen: nothing but speed.
-/
import Derived.Test.YtpcngdlglejgeaaGreatDoorNy17
namespace Go.Mx
set_option linter.unusedVariables false
set_option linter.unusedSimpArgs false

abbrev Ch := List (List V)

def lkY (tt : Ch) (k : Nat) : Option V := (tt.getD (Nat.div k 16) [])[Nat.mod k 16]?

def RelC (tt : Ch) (t : List V) : Prop := ∀ k, lkY tt k = t[k]?

def evalY (tt : Ch) : Operand → V
  | .tmp k => (lkY tt k).getD .undef
  | .const v => ofC v
  | .func f => .fn f [] []
  | .global _ => .undef

theorem evalY_eq {tt : Ch} {t : List V} (h : RelC tt t) : evalY tt = evalO t := by
  funext x
  cases x <;> simp only [evalY, evalO]
  rw [h, List.getD_eq_getElem?_getD]

def setC : Ch → Nat → Nat → V → Ch
  | [], _, _, _ => []
  | c :: r, 0, j, v => c.set j v :: r
  | c :: r, i + 1, j, v => c :: setC r i j v

theorem setC_getD : ∀ (tt : Ch) (i j : Nat) (v : V) (i' : Nat), (setC tt i j v).getD i' [] = if i = i' then (tt.getD i []).set j v else tt.getD i' []
  | [], i, j, v, i' => by simp [setC]
  | c :: r, 0, j, v, i' => by
    cases i' with
    | zero => simp [setC]
    | succ i' => simp [setC]
  | c :: r, i + 1, j, v, i' => by
    cases i' with
    | zero => simp [setC]
    | succ i' =>
      have := setC_getD r i j v i'
      simpa [setC] using this

theorem RelC.set {tt : Ch} {t : List V} (h : RelC tt t) (n : Nat) (v : V) : RelC (setC tt (Nat.div n 16) (Nat.mod n 16) v) (t.set n v) := by
  intro k
  have hk := h k
  have hn := h n
  have dn : Nat.div n 16 = n / 16 := rfl
  have mn : Nat.mod n 16 = n % 16 := rfl
  have dk : Nat.div k 16 = k / 16 := rfl
  have mk : Nat.mod k 16 = k % 16 := rfl
  unfold lkY at hk hn ⊢
  rw [dk, mk] at hk ⊢
  rw [dn, mn] at hn ⊢
  rw [setC_getD, List.getElem?_set]
  by_cases e : n / 16 = k / 16
  · rw [if_pos e, List.getElem?_set]
    by_cases e2 : n % 16 = k % 16
    · have : n = k := by omega
      subst this
      simp only [if_true]
      by_cases h3 : n < t.length
      · have h4 : n % 16 < (tt.getD (n / 16) []).length := by
          rcases Nat.lt_or_ge (n % 16) (tt.getD (n / 16) []).length with h5 | h5
          · exact h5
          · rw [List.getElem?_eq_none h5, List.getElem?_eq_getElem h3] at hn; cases hn
        rw [if_pos h4, if_pos h3]
      · have h4 : ¬ n % 16 < (tt.getD (n / 16) []).length := by
          intro h5
          rw [List.getElem?_eq_getElem h5, List.getElem?_eq_none (by omega)] at hn; cases hn
        rw [if_neg h4, if_neg h3]
    · rw [if_neg e2, e, hk, if_neg (by omega)]
  · rw [if_neg e, hk, if_neg (by omega)]

def chunks : Nat → List V → Ch
  | 0, _ => []
  | n + 1, t => t.take 16 :: chunks n (t.drop 16)

theorem chunks_getD : ∀ (n : Nat) (t : List V) (i : Nat), t.length ≤ 16 * n → (chunks n t).getD i [] = (t.drop (16 * i)).take 16
  | 0, t, i, h => by
    have : t = [] := List.length_eq_zero_iff.1 (by omega)
    subst this
    simp [chunks]
  | n + 1, t, 0, h => by simp [chunks]
  | n + 1, t, i + 1, h => by
    have := chunks_getD n (t.drop 16) i (by simp; omega)
    simp only [chunks, List.getD_cons_succ, this, List.drop_drop]
    rw [show 16 + 16 * i = 16 * (i + 1) by omega]

theorem RelC_chunks {t : List V} {n : Nat} (h : t.length ≤ 16 * n) : RelC (chunks n t) t := by
  intro k
  have dk : Nat.div k 16 = k / 16 := rfl
  have mk : Nat.mod k 16 = k % 16 := rfl
  unfold lkY
  rw [dk, mk, chunks_getD n t _ h, List.getElem?_take, if_pos (Nat.mod_lt _ (by omega)), List.getElem?_drop]
  rw [show 16 * (k / 16) + k % 16 = k by omega]

section
universe u
variable {α : Type u}

def forceCh : Ch → (Ch → α) → α
  | [], k => k []
  | c :: r, k => forceL forceP c fun c => forceCh r fun r => k (c :: r)

theorem forceCh_eq : ∀ (t : Ch) (k : Ch → α), forceCh t k = k t
  | [], k => rfl
  | c :: r, k => by simp only [forceCh, forceL_eq forceP_eq, forceCh_eq r]

def putC : Ch → Nat → Nat → V → (Ch → α) → α
  | [], _, _, _, k => k []
  | c :: r, 0, j, v, k => putF c j v fun c => k (c :: r)
  | c :: r, i + 1, j, v, k => putC r i j v fun r => k (c :: r)

theorem putC_eq : ∀ (tt : Ch) (i j : Nat) (v : V) (k : Ch → α), putC tt i j v k = k (setC tt i j v)
  | [], _, _, _, k => rfl
  | c :: r, 0, j, v, k => by simp only [putC, putF_eq, setC]
  | c :: r, i + 1, j, v, k => by simp only [putC, putC_eq r, setC]

def putY (tt : Ch) (d : Option Tmp) (v : V) (k : Ch → α) : α :=
  match d with
  | some n => putC tt (Nat.div n 16) (Nat.mod n 16) v k
  | none => k tt

def setY (tt : Ch) (d : Option Tmp) (v : V) : Ch :=
  match d with
  | some n => setC tt (Nat.div n 16) (Nat.mod n 16) v
  | none => tt

theorem putY_eq (tt : Ch) (d : Option Tmp) (v : V) (k : Ch → α) : putY tt d v k = k (setY tt d v) := by
  cases d <;> simp only [putY, setY, putC_eq]

theorem RelC.put {tt : Ch} {t : List V} (h : RelC tt t) (d : Option Tmp) (v : V) : RelC (setY tt d v) (putT t d v) := by
  cases d with
  | none => exact h
  | some n => exact h.set n v

def withAllY (t : Ch) (d : Option Tmp) (v : V) (h : Hp) (c : Nat) (k : V → Ch → Hp → Nat → α) : α :=
  forceSh v fun v => putY t d v fun t => forceHd h fun h => forceN c fun c => k v t h c

theorem withAllY_eq (t : Ch) (d : Option Tmp) (v : V) (h : Hp) (c : Nat) (k : V → Ch → Hp → Nat → α) : withAllY t d v h c k = k v (setY t d v) h c := by
  simp only [withAllY, forceSh_eq, putY_eq, forceHd_eq, forceN_eq]

def withCallY (t : Ch) (d : Option Tmp) (v : V) (h : Hp) (c : Nat) (k : V → Ch → Hp → Nat → α) : α :=
  forceV 5 v fun v => putY t d v fun t => forceH h fun h => forceN c fun c => k v t h c

theorem withCallY_eq (t : Ch) (d : Option Tmp) (v : V) (h : Hp) (c : Nat) (k : V → Ch → Hp → Nat → α) : withCallY t d v h c k = k v (setY t d v) h c := by
  simp only [withCallY, forceV_eq, putY_eq, forceH_eq, forceN_eq]

def withVY (deep : Bool) (t : Ch) (d : Option Tmp) (v : V) (k : V → Ch → α) : α := bif deep then forceV 5 v fun v => putY t d v fun t => k v t else forceSh v fun v => putY t d v fun t => k v t

theorem withVY_eq (deep : Bool) (t : Ch) (d : Option Tmp) (v : V) (k : V → Ch → α) : withVY deep t d v k = k v (setY t d v) := by
  cases deep <;> simp only [withVY, cond_true, cond_false, forceV_eq, forceSh_eq, putY_eq]

end

def puY (v : Option V) (h : Hp) (c : Nat) : Option (V × Hp × Nat) := v.map fun v => (v, h, c)
def yPick (a : V) (b : V) (h : Hp) (c : Nat) : V → Option (V × Hp × Nat)
  | .p (.bool true) => some (a, h, c)
  | .p (.bool false) => some (b, h, c)
  | _ => none
def yAlloc (T : TypeId → Option TI) (e : TypeId) (h : Hp) (c : Nat) (o : Option Tmp) : Option (V × Hp × Nat) := match o, T e with
    | some d, some i => some (.box d c 0 0, h.set d ⟨c, e, i.size, true, false, [i.zero]⟩, c + 1)
    | _, _ => none
def yBox (e : TypeId) (x : V) (h : Hp) (c : Nat) (o : Option Tmp) : Option (V × Hp × Nat) := match o with
    | some d => if x.cells.all V.one = true then some (.box d c 0 0, h.set d ⟨c, e, x.cells.length, true, false, [x]⟩, c + 1) else none
    | none => none
def yBuildSlice (T : TypeId → Option TI) (draw : Bool) (t : TypeId) (len : Nat) (ps : List (Nat × V)) (h : Hp) (c : Nat) (o : Option Tmp) : Option (V × Hp × Nat) := match o with
    | some d => evBuildSlice T d draw t len ps h c
    | none => none
def yStore (o : Option Hp) (c : Nat) : Option (V × Hp × Nat) := o.map fun h' => (.p Go.undef, h', c)
def yNilCheck (h : Hp) (c : Nat) (x : V) : Option (V × Hp × Nat) := match x with
    | .ref v off => some (.ref v off, h, c)
    | .box b s i off => if liveB h b s then some (.box b s i off, h, c) else none
    | _ => none
def yMakeSlice (T : TypeId → Option TI) (t : TypeId) (l k : V) (h : Hp) (c : Nat) (o : Option Tmp) : Option (V × Hp × Nat) := match o with
    | some d => evMake T d t l k h c
    | none => none
def ySlice (T : TypeId → Option TI) (t : TypeId) (x : V) (lo hi mx : Option V) (h : Hp) (c : Nat) (no : Bool) : Option (V × Hp × Nat) := if no then none else puY (evSlice T h t x lo hi mx) h c
def yExtract (i : Nat) (h : Hp) (c : Nat) (x : V) : Option (V × Hp × Nat) := match x with
    | .tup vs => puY vs[i]? h c
    | _ => none
def yAppend (T : TypeId → Option TI) (ρ : Operand → V) (h : Hp) (c : Nat) (o : Option Tmp) (a : List Operand) (ts : List TypeId) : Option (V × Hp × Nat) := match o, a, ts with
      | some d, [s, x], [t1, t2] => if t1 = t2 then evAppend T (nameA d (ρ s) h c) t1 (ρ s) (ρ x) h c else none
      | _, _, _ => none
def yLen (T : TypeId → Option TI) (ρ : Operand → V) (h : Hp) (c : Nat) (a : List Operand) (ts : List TypeId) : Option (V × Hp × Nat) := match a, ts with
      | [x], [t1] => puY (evLen T h t1 (ρ x)) h c
      | _, _ => none
def yCopy (T : TypeId → Option TI) (ρ : Operand → V) (h : Hp) (c : Nat) (a : List Operand) (ts : List TypeId) : Option (V × Hp × Nat) := match a, ts with
      | [d, x], [t1, _] => evCopy T t1 (ρ d) (ρ x) h c
      | _, _ => none
def yClear (T : TypeId → Option TI) (ρ : Operand → V) (h : Hp) (c : Nat) (a : List Operand) (ts : List TypeId) : Option (V × Hp × Nat) := match a, ts with
      | [x], [t1] => evClear T t1 (ρ x) h c
      | _, _ => none
def yBuiltin (P : Program) (T : TypeId → Option TI) (ρ : Operand → V) (o : Option Tmp) (ty : TypeId) (args : Array Operand) (argTypes : Array TypeId) (h : Hp) (c : Nat) (b : Builtin) : Option (V × Hp × Nat) := match b with
    | .append => yAppend T ρ h c o args.toList argTypes.toList
    | .len => yLen T ρ h c args.toList argTypes.toList
    | .copy => yCopy T ρ h c args.toList argTypes.toList
    | .clear => yClear T ρ h c args.toList argTypes.toList
    | .max | .min | .complex | .real | .imag => puY (evBuiltin P b argTypes ty (args.map fun | .const _ => true | _ => false) (args.toList.map ρ)) h c
    | _ => none
def yMakeMap (t : TypeId) (h : Hp) (c : Nat) (o : Option Tmp) : Option (V × Hp × Nat) := match o with
    | some d => some (.mp d c, h.set d ⟨c, t, 0, true, true, []⟩, c + 1)
    | none => none
def partsY (ρ : Operand → V) : List (Nat × Operand) → List (Nat × V)
  | [] => []
  | x :: r => (x.1, ρ x.2) :: partsY ρ r
theorem partsY_eq (ρ : Operand → V) : ∀ l, partsY ρ l = l.map fun x => (x.1, ρ x.2)
  | [] => rfl
  | x :: r => by simp only [partsY, List.map_cons, partsY_eq ρ r]

def evOperY (P : Program) (T : TypeId → Option TI) (draw : Bool) (ρ : Operand → V) (dst : Option Tmp) (ty : TypeId) (h : Hp) (c : Nat) (op : Op) : Option (V × Hp × Nat) :=
  match op with
  | .move x | .assign x => some (ρ x, h, c)
  | .pick k a b => yPick (ρ a) (ρ b) h c (ρ k)
  | .alloc e => yAlloc T e h c dst
  | .box e x => yBox e (ρ x) h c dst
  | .build t ps => puY (evBuild T t (partsY ρ ps.toList)) h c
  | .buildSlice t len ps => yBuildSlice T draw t len (partsY ρ ps.toList) h c dst
  | .load t a => puY (evLoad T h t (ρ a)) h c
  | .store t a x => yStore (evStore T h t (ρ a) (ρ x)) c
  | .nilCheck x => yNilCheck h c (ρ x)
  | .binOp op xt x y _ => puY (evBin P T h op xt x y (ρ x) (ρ y)) h c
  | .unOp op _ x => puY (evUn P op (ρ x)) h c
  | .convert src d x => puY (evConvert P T h src d (ρ x)) h c
  | .makeFunc (.func f) first cap => some (.fn f (first.toList.map ρ) (cap.toList.map ρ), h, c)
  | .makeSlice t l k => yMakeSlice T t (ρ l) (ρ k) h c dst
  | .slice t x lo hi mx => ySlice T t (ρ x) (lo.map ρ) (hi.map ρ) (mx.map ρ) h c (mx.isSome && hi.isNone)
  | .fieldAddr s x f => puY (evFieldAddr T h s (ρ x) f) h c
  | .field s x f => puY (evField T s (ρ x) f) h c
  | .indexAddr t x ix => puY (evIndexAddr T h t (ρ x) (ρ ix)) h c
  | .index t x ix => puY (evIndex T t (ρ x) (ρ ix)) h c
  | .makeMap t none => yMakeMap t h c dst
  | .lookup t x ix false => puY (evLookup T h t (ρ x) (ρ ix)) h c
  | .mapUpdate t x k y => yStore (evMapUpd T h t (ρ x) (ρ k) (ρ y)) c
  | .extract x i => yExtract i h c (ρ x)
  | .call { callee := .builtin b, args, argTypes } => yBuiltin P T ρ dst ty args argTypes h c b
  | _ => none

theorem evOperY_eq (P : Program) (T : TypeId → Option TI) (draw : Bool) (t : List V) (o : Oper) (h : Hp) (c : Nat) : evOperY P T draw (evalO t) o.dst o.type h c o.op = evOper P T draw t o h c := by
  obtain ⟨dst, op, ty, pos, after, guard⟩ := o
  cases op <;> simp only [evOperY, evOper, partsY_eq]
  case makeFunc fn first cap => cases fn <;> rfl
  case makeMap t r => cases r <;> rfl
  case lookup t x ix ok => cases ok <;> rfl
  case call cl =>
    obtain ⟨callee, args, argTypes⟩ := cl
    cases callee <;> rfl
  all_goals rfl

end Go.Mx
