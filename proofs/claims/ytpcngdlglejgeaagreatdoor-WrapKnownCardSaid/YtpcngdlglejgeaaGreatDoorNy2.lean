/-
  The abstract machine's operations: what each gives, if it gives anything.
-/
import Derived.Test.YtpcngdlglejgeaaGreatDoorNy1
import Derived.Laws.Strings
namespace Go.Mx
set_option linter.unusedVariables false

/-- What the machine knows of a type: its size in cells, in bytes, its form, its zero value. -/
structure TI where
  size : Nat
  bytes : Nat
  desc : TypeDesc
  zero : V

def ofC0 : Value → V
  | .slice none 0 0 => .ps .nil []
  | x => .p x

def ofC : Value → V
  | .slice none 0 0 => .ps .nil []
  | .agg cs => .agg (cs.toList.map ofC0)
  | x => .p x

/-- The table tells the truth of the program's types. -/
def TabOk (P : Program) (T : TypeId → Option TI) : Prop :=
  ∀ t i, T t = some i → ∃ info z, P.info? t = some info ∧ info.size = i.size ∧ info.bytes = i.bytes ∧ P.underlying t = some i.desc ∧ info.zero = some z ∧ i.zero = ofC z ∧ z.cells.size = i.size ∧
    ∀ fs, i.desc = .struct fs → ∀ f ∈ fs.toList, (T f.type).isSome = true

def isAggD : TypeDesc → Bool
  | .struct _ | .array _ _ => true
  | _ => false

def V.isAgg : V → Bool
  | .agg _ => true
  | _ => false

def evalO (t : List V) : Operand → V
  | .tmp k => t.getD k .undef
  | .const v => ofC v
  | .func f => .fn f [] []
  | .global _ => .undef

def toVals : List V → Option (List Value)
  | [] => some []
  | .p x :: r => (toVals r).map (x :: ·)
  | _ :: _ => none

def toVal : V → Option Value
  | .p x => some x
  | .agg vs => (toVals vs).map fun l => .agg l.toArray
  | _ => none

/-- It stands in one cell. -/
def V.one : V → Bool
  | .p x => x.oneCell'
  | .agg _ | .tup _ | .undef => false
  | _ => true

/-- A computation that looks at nothing but the program. -/
def still {α : Type} (P : Program) : Sem α → Option α
  | .pure a => some a
  | .program k => still P (k P)
  | _ => none

def partV (i : TI) (cs : List V) (off : Nat) : Option V :=
  if isAggD i.desc then (if off + i.size ≤ cs.length then some (.agg ((cs.drop off).take i.size)) else none) else cs[off]?

/-- The block lives, and is none of nil. -/
def liveB (h : Hp) (b s : Nat) : Bool :=
  match h.get b with
  | some B => B.s == s
  | none => false

/-- The element that a pointer leads into, and where in it. -/
def elemAt (h : Hp) : V → Option (V × Nat)
  | .ref v off => some (v, off)
  | .box b s i off => match h.get b with
    | some B => if B.s = s ∧ 0 < B.w then (B.es[i]?).map fun e => (e, off) else none
    | none => none
  | _ => none

def evLoad (T : TypeId → Option TI) (h : Hp) (t : TypeId) (pv : V) : Option V :=
  match T t, elemAt h pv with
  | some i, some (e, off) => if off = 0 ∧ isAggD i.desc = true ∧ e.isAgg = true ∧ e.cells.length = i.size then some e else partV i e.cells off
  | _, _ => none

def evFieldAddr (T : TypeId → Option TI) (h : Hp) (s : TypeId) (pv : V) (f : Nat) : Option V :=
  match T s with
  | some { desc := .struct fs, .. } => match fs[f]? with
    | some fl => match T fl.type with
      | some i => if i.size = 0 then none else match pv with
        | .ref v off => if off + fl.offset < v.cells.length then some (.ref v (off + fl.offset)) else none
        | .box b st i off => if liveB h b st then some (.box b st i (off + fl.offset)) else none
        | _ => none
      | none => none
    | none => none
  | _ => none

def evField (T : TypeId → Option TI) (s : TypeId) (x : V) (f : Nat) : Option V :=
  match T s with
  | some { desc := .struct fs, .. } => match fs[f]? with
    | some fl => match T fl.type, x with
      | some i, .agg cs => partV i cs fl.offset
      | _, _ => none
    | none => none
  | _ => none

def asI : V → Option Int
  | .p (.int _ n) => some n
  | _ => none

def evIndexAddr (T : TypeId → Option TI) (h : Hp) (t : TypeId) (x ix : V) : Option V :=
  match T t, asI ix with
  | some { desc := .slice e, .. }, some n =>
    if n < 0 then none else
    match T e, x with
    | some i, .ps c xs => match xs[n.toNat]? with
      | some v => if v.cells.length = i.size ∧ 0 < i.size ∧ c ≠ .nil then some (.ref v 0) else none
      | none => none
    | some i, .sl b s off len tip => match h.get b with
      | some B => if (B.s = s ∧ B.w = i.size ∧ n.toNat < len) ∧ 0 < B.w then some (.box b s (off + n.toNat) 0) else none
      | none => none
    | _, _ => none
  | some { desc := .array len e, .. }, some n =>
    if n < 0 then none else
    if n.toNat < len then
      match T e, x with
      | some i, .ref v off => if off + n.toNat * i.size < v.cells.length then some (.ref v (off + n.toNat * i.size)) else none
      | some i, .box b s j off => if liveB h b s then some (.box b s j (off + n.toNat * i.size)) else none
      | _, _ => none
    else none
  | _, _ => none

def evIndex (T : TypeId → Option TI) (t : TypeId) (x ix : V) : Option V :=
  match T t, asI ix with
  | some { desc := .array len e, .. }, some n =>
    if n < 0 then none else
    if n.toNat < len then
      match T e, x with
      | some i, .agg cs => partV i cs (n.toNat * i.size)
      | _, _ => none
    else none
  | some { desc := .string, .. }, some n =>
    match x with
    | .p (.string s) => if n < 0 then none else match s[n.toNat]? with
      | some b => some (.p (.int .u8 b.toNat))
      | none => none
    | _ => none
  | _, _ => none

def fillV (place : Nat → Option (Nat × Nat)) (cells : List V) : List (Nat × V) → Option (List V)
  | [] => some cells
  | (i, v) :: rest =>
    match place i with
    | none => none
    | some (off, size) =>
      if v.cells.length = size ∧ off + size ≤ cells.length then fillV place (cells.take off ++ v.cells ++ cells.drop (off + size)) rest else none

def evBuild (T : TypeId → Option TI) (t : TypeId) (parts : List (Nat × V)) : Option V :=
  if parts.all (fun x => x.2.cells.all V.one) then
  match T t with
  | some { desc := .struct fs, zero := z, .. } => (fillV (fun i => match fs[i]? with
      | some f => (T f.type).map fun k => (f.offset, k.size)
      | none => none) z.cells parts).map .agg
  | some { desc := .array _ e, zero := z, .. } => match T e with
    | some k => (fillV (fun i => some (i * k.size, k.size)) z.cells parts).map .agg
    | none => none
  | _ => none
  else none

/-- Bring what the frame owns out of its reach: it stays zs it is from now on. -/
def mapH (f : Hp → V → Option (V × Hp)) : Hp → List V → Option (List V × Hp)
  | h, [] => some ([], h)
  | h, v :: r => match f h v with
    | some (v', h1) => match mapH f h1 r with
      | some (r', h2) => some (v' :: r', h2)
      | none => none
    | none => none

def pur : Nat → V → Bool
  | 0, _ => false
  | n + 1, v => match v with
    | .sl .. | .box .. | .mp .. => false
    | .agg vs | .tup vs => vs.all (pur n)
    | .fn _ zs bs => zs.all (pur n) && bs.all (pur n)
    | _ => true

def frz : Nat → Hp → V → Option (V × Hp)
  | 0, _, _ => none
  | n + 1, h, v => match v with
    | .sl b s off len _ => match h.get b with
      | some B => if B.s = s ∧ B.var = false then
          (if B.nl then none
           else if off + len ≤ B.es.length then some (.ps .any ((B.es.drop off).take len), h.erase b) else none)
        else if B.s = s ∧ B.nl = false ∧ off + len ≤ B.es.length then (mapH (frz n) (h.erase b) ((B.es.drop off).take len)).map fun x => (.ps .any x.1, x.2)
        else none
      | none => none
    | .agg vs => (mapH (frz n) h vs).map fun x => (.agg x.1, x.2)
    | .tup vs => (mapH (frz n) h vs).map fun x => (.tup x.1, x.2)
    | .fn f zs bs => match mapH (frz n) h zs with
      | some (zs', h1) => (mapH (frz n) h1 bs).map fun x => (.fn f zs' x.1, x.2)
      | none => none
    | .box b s i off => match h.get b with
      | some B => match B.es[i]? with
        | some e => if B.s = s ∧ B.nl = false ∧ off < e.cells.length ∧ e.cells.all (pur 6) = true then some (.ref e off, h.erase b) else none
        | none => none
      | none => none
    | .mp .. => none
    | v => some (v, h)

/-- Nil slices in it are read zs slices that may be nil. -/
def optC (v : V) : V := v

def optV (v : V) : V := v

def evStore (T : TypeId → Option TI) (h : Hp) (t : TypeId) (pv x : V) : Option Hp :=
  match T t, pv with
  | some i, .box b s j off => match h.get b with
    | some B0 =>
      match (if B0.var then some (x, h) else (frz 4 h x).map fun p => (optV p.1, p.2)) with
      | some (x', h1) =>
        match h1.get b with
        | some B => match B.es[j]? with
          | some e =>
            if (B.s = s ∧ B.var = B0.var ∧ 0 < i.size ∧ x'.cells.length = i.size ∧ off + i.size ≤ e.cells.length ∧ x'.cells.all V.one = true) ∧ 0 < B.w then
              some (h1.set b { B with es := B.es.set j (if off = 0 ∧ e.isAgg = true ∧ x'.isAgg = true ∧ e.cells.length = i.size then x' else if e.isAgg = true then .agg (e.cells.take off ++ x'.cells ++ e.cells.drop (off + i.size)) else (x'.cells.headD .undef)) })
            else none
          | none => none
        | none => none
      | none => none
    | none => none
  | _, _ => none

def lenV (h : Hp) : V → Option Nat
  | .ps _ xs => some xs.length
  | .sl b s _ len _ => match h.get b with
    | some B => if B.s = s then some len else none
    | none => none
  | .p (.string s) => some s.size
  | _ => none

/-- The elements of a slice. -/
def elems (h : Hp) : V → Option (List V)
  | .ps _ xs => some xs
  | .sl b s off len _ => match h.get b with
    | some B => if B.s = s ∧ B.var = false ∧ off + len ≤ B.es.length then some ((B.es.drop off).take len) else none
    | none => none
  | _ => none

def roomB : Nat := 140737488355328

def evAppend0 (T : TypeId → Option TI) (dst : Tmp) (t : TypeId) (s x : V) (h : Hp) (c : Nat) : Option (V × Hp × Nat) :=
  match T t with
  | some { desc := .slice e, .. } => match T e, elems h x with
    | some i, some xs =>
      if xs.all (fun v => v.cells.length == i.size && v.cells.all V.one) = true ∧ 0 < i.size ∧ 0 < i.bytes then
        match s with
        | .ps .nil [] =>
          if xs.isEmpty then some (s, h, c)
          else if xs.length * i.bytes ≤ roomB then some (.sl dst c 0 xs.length true, h.set dst ⟨c, e, i.size, false, false, xs⟩, c + 1) else none
        | .ps k ys =>
          if (k = .full ∨ k = .fopt) ∧ ys.all (fun v => v.cells.length == i.size) = true then
            if xs.isEmpty then some (s, h, c)
            else if (ys.length + xs.length) * i.bytes ≤ roomB then some (.sl dst c 0 (ys.length + xs.length) true, h.set dst ⟨c, e, i.size, false, false, ys ++ xs⟩, c + 1) else none
          else none
        | .sl b st off len tip => match h.get b with
          | some B =>
            if B.s = st ∧ B.var = false ∧ off = 0 ∧ len = B.es.length then
              if xs.isEmpty then some (s, h, c)
              else if (len + xs.length) * i.bytes ≤ roomB ∧ B.w = i.size ∧ B.T = e then
                some (.sl dst c 0 (len + xs.length) tip, (h.erase b).set dst ⟨c, e, i.size, false, false, B.es ++ xs⟩, c + 1)
              else none
            else none
          | none => none
        | _ => none
      else none
    | _, _ => none
  | _ => none

/-- The elements of a row whose elements hold rows of the frame's own: they go over to whoever takes them. -/
def elemsD (h : Hp) : V → Option (List V × Hp)
  | .sl b s off len _ => match h.get b with
    | some B => if B.s = s ∧ B.var = true ∧ B.nl = false ∧ off + len ≤ B.es.length then some ((B.es.drop off).take len, h.erase b) else none
    | none => none
  | _ => none

/-- A row whose elements hold rows of the frame's own, behind nothing, or behind such a row. -/
def evAppendD (T : TypeId → Option TI) (dst : Tmp) (t : TypeId) (s x : V) (h : Hp) (c : Nat) : Option (V × Hp × Nat) :=
  match T t with
  | some { desc := .slice e, .. } => match T e, elemsD h x with
    | some i, some (xs, h1) =>
      if xs.all (fun v => v.cells.length == i.size && v.cells.all V.one) = true ∧ 0 < i.size ∧ 0 < i.bytes ∧ xs.isEmpty = false then
        match s with
        | .ps .nil [] =>
          if xs.length * i.bytes ≤ roomB then some (.sl dst c 0 xs.length true, h1.set dst ⟨c, e, i.size, true, false, xs⟩, c + 1) else none
        | .sl b st off len tip => match h1.get b with
          | some B =>
            if B.s = st ∧ B.var = true ∧ B.nl = false ∧ tip = true ∧ off = 0 ∧ len = B.es.length ∧ (len + xs.length) * i.bytes ≤ roomB ∧ B.w = i.size ∧ B.T = e then
              some (.sl dst c 0 (len + xs.length) true, (h1.erase b).set dst ⟨c, e, i.size, true, false, B.es ++ xs⟩, c + 1)
            else none
          | none => none
        | _ => none
      else none
    | _, _ => none
  | _ => none

def evAppend (T : TypeId → Option TI) (dst : Tmp) (t : TypeId) (s x : V) (h : Hp) (c : Nat) : Option (V × Hp × Nat) :=
  match evAppend0 T dst t s x h c with
  | some r => some r
  | none => evAppendD T dst t s x h c

/-- A name for a new block, where its slot's own is taken. -/
def nameN (d : Nat) (h : Hp) (c : Nat) : Nat := match h.get (d + 4096 * (c + 1)) with
  | none => d + 4096 * (c + 1)
  | some _ => d

/-- The name of what is appended to s. -/
def nameA (d : Nat) (s : V) (h : Hp) (c : Nat) : Nat := match h.get d with
  | none => d
  | some _ => match s with
    | .sl b _ _ _ _ => bif Nat.beq b d then d else nameN d h c
    | _ => nameN d h c

theorem nameN_or (d : Nat) (h : Hp) (c : Nat) : nameN d h c = d ∨ h.get (nameN d h c) = none := by
  unfold nameN
  cases hg : h.get (d + 4096 * (c + 1)) with
  | none => exact .inr hg
  | some B => exact .inl rfl

theorem nameA_or (d : Nat) (s : V) (h : Hp) (c : Nat) : nameA d s h c = d ∨ h.get (nameA d s h c) = none := by
  unfold nameA
  split
  · exact .inl rfl
  · split
    · rename_i b _ _ _ _
      cases Nat.beq b d with
      | true => exact .inl rfl
      | false => exact nameN_or d h c
    · exact nameN_or d h c

/-- An int that may be missing. -/
def intOr (d : Int) : Option V → Option Int
  | none => some d
  | some v => asI v

def intOpt : Option V → Option (Option Int)
  | none => some none
  | some v => (asI v).map some

/-- A part of a string, zs lists have it. -/
def exS (s : ByteArray) (l h : Nat) : ByteArray := ⟨⟨(s.data.toList.drop l).take (h - l)⟩⟩

theorem exS_eq (s : ByteArray) (l h : Nat) : exS s l h = s.extract l h := by
  apply ByteArray.ext
  rw [ByteArray.data_extract]
  apply Array.ext'
  simp [exS, Array.toList_extract]

def evSlice (T : TypeId → Option TI) (h : Hp) (t : TypeId) (x : V) (lo hi mx : Option V) : Option V :=
  match T t with
  | some { desc := .slice e, .. } =>
    match T e, lenV h x with
    | some i, some len =>
      match intOr 0 lo, intOr (len : Int) hi, intOpt mx with
      | some l, some hh, some m =>
        if 0 ≤ l ∧ l ≤ hh ∧ hh ≤ len ∧ (∀ q ∈ m, q = hh) then
          match x with
          | .ps c xs =>
            if xs.all (fun v => v.cells.length == i.size) then
              (match c with
               | .nil => some (.ps .nil [])
               | .opt | .fopt => some (.ps (if m.isSome then .fopt else .opt) ((xs.drop l.toNat).take (hh.toNat - l.toNat)))
               | _ => some (.ps (if m.isSome then .full else .any) ((xs.drop l.toNat).take (hh.toNat - l.toNat))))
            else none
          | .sl b s off n tip => match h.get b with
            | some B => if B.s = s ∧ B.w = i.size then
                (if B.nl then none else if l = hh then some (.ps .any []) else some (.sl b s (off + l.toNat) (hh.toNat - l.toNat) (tip && m.isNone && l == 0 && off == 0)))
              else none
            | none => none
          | _ => none
        else none
      | _, _, _ => none
    | _, _ => none
  | some { desc := .string, .. } =>
    match x, mx with
    | .p (.string s), none =>
      match intOr 0 lo, intOr (s.size : Int) hi with
      | some l, some hh => if 0 ≤ l ∧ l ≤ hh ∧ hh ≤ s.size then some (.p (.string (exS s l.toNat hh.toNat))) else none
      | _, _ => none
    | _, _ => none
  | _ => none


def u8Eqs : List UInt8 → List UInt8 → Bool
  | [], [] => true
  | x :: r, y :: q => bif Nat.beq x.toNat y.toNat then u8Eqs r q else false
  | _, _ => false

theorem u8Eqs_eq : ∀ (a b : List UInt8), u8Eqs a b = (a == b)
  | [], [] => rfl
  | [], _ :: _ => rfl
  | _ :: _, [] => rfl
  | x :: r, y :: q => by
    have h : Nat.beq x.toNat y.toNat = (x == y) := by
      rw [Bool.eq_iff_iff]
      simp [UInt8.toNat_inj]
    simp only [u8Eqs, h, List.cons_beq_cons, u8Eqs_eq r q]
    cases (x == y) <;> rfl

def bytesEq (a b : ByteArray) : Bool := u8Eqs a.data.toList b.data.toList

theorem bytesEq_eq (a b : ByteArray) : bytesEq a b = (a.toList == b.toList) := by
  rw [bytesEq, u8Eqs_eq, ByteArray.toList_eq, ByteArray.toList_eq]

def fastBin : BinOp → Value → Value → Option Value
  | .add, .int k a, .int k' b => if k = k' then some (.int k (k.wrap (a + b))) else none
  | .sub, .int k a, .int k' b => if k = k' then some (.int k (k.wrap (a - b))) else none
  | .mul, .int k a, .int k' b => if k = k' then some (.int k (k.wrap (a * b))) else none
  | .quo, .int k a, .int k' b => if k = k' ∧ b ≠ 0 then some (.int k (k.wrap (a.tdiv b))) else none
  | .rem, .int k a, .int k' b => if k = k' ∧ b ≠ 0 then some (.int k (a.tmod b)) else none
  | .eql, .int k a, .int k' b => if k = k' then some (.bool (a == b)) else none
  | .eql, .string a, .string b => some (.bool (bytesEq a b))
  | .neq, .string a, .string b => some (.bool (!bytesEq a b))
  | .neq, .int k a, .int k' b => if k = k' then some (.bool (a != b)) else none
  | .lss, .int k a, .int k' b => if k = k' then some (.bool (a < b)) else none
  | .leq, .int k a, .int k' b => if k = k' then some (.bool (a ≤ b)) else none
  | .gtr, .int k a, .int k' b => if k = k' then some (.bool (a > b)) else none
  | .geq, .int k a, .int k' b => if k = k' then some (.bool (a ≥ b)) else none
  | _, _, _ => none

/-- Is a slice nil? -/
def isNilV (h : Hp) : V → Option Bool
  | .ps c _ => match c with
    | .nil => some true
    | .opt | .fopt => none
    | _ => some false
  | .sl b s _ _ _ => match h.get b with
    | some B => if B.s = s ∧ B.nl = false then some false else none
    | none => none
  | _ => none

def evBin (P : Program) (T : TypeId → Option TI) (h : Hp) (op : BinOp) (xt : TypeId) (x y : Operand) (va vb : V) : Option V :=
  match toVal va, toVal vb with
  | some a, some b => match fastBin op a b with
    | some r => some (.p r)
    | none => (still P (do eqGuard op xt x y a b; binOp op xt a b)).map .p
  | _, _ => match T xt, vb, op, isNilV h va with
    | some { desc := .slice _, .. }, .ps .nil [], .eql, some b => some (.p (.bool b))
    | some { desc := .slice _, .. }, .ps .nil [], .neq, some b => some (.p (.bool !b))
    | _, _, _, _ => none

def evUn (P : Program) (op : UnOp) (v : V) : Option V :=
  match v with
  | .p x => (still P (Op.unary op x)).map .p
  | _ => none

def bytesOf : List V → Option (List UInt8)
  | [] => some []
  | .p (.int .u8 n) :: r => (bytesOf r).map (UInt8.ofNat n.toNat :: ·)
  | _ :: _ => none

def evConvert (P : Program) (T : TypeId → Option TI) (h : Hp) (src dst : TypeId) (v : V) : Option V :=
  match v with
  | .p x => (still P (convert src dst x)).map .p
  | _ => match T src, T dst with
    | some { desc := .slice e, .. }, some { desc := .string, .. } => match T e, elems h v with
      | some { desc := .int .u8, size := 1, .. }, some xs => (bytesOf xs).map fun l => .p (.string ⟨l.toArray⟩)
      | _, _ => none
    | _, _ => none

def evLen (T : TypeId → Option TI) (h : Hp) (t : TypeId) (v : V) : Option V :=
  match T t with
  | some { desc := .slice _, .. } => match v with
    | .p _ => none
    | _ => (lenV h v).map fun (k : Nat) => V.p (goInt (k : Int))
  | some { desc := .string, .. } => match v with
    | .p (.string s) => some (.p (goInt s.size))
    | _ => none
  | some { desc := .array n _, .. } => some (.p (goInt n))
  | _ => none

def valueOf : Next → Option V
  | .value v => some (.p v)
  | _ => none

def evBuiltin (P : Program) (b : Builtin) (argTypes : Array TypeId) (ty : TypeId) (consts : Array Bool) (vs : List V) : Option V :=
  match toVals vs with
  | some xs => (still P (builtin b argTypes ty consts xs.toArray)).bind valueOf
  | none => none

def evMake (T : TypeId → Option TI) (dst : Tmp) (t : TypeId) (l k : V) (h : Hp) (c : Nat) : Option (V × Hp × Nat) :=
  match T t with
  | some { desc := .slice e, .. } => match T e, asI l, asI k with
    | some i, some n, some q =>
      if 0 ≤ n ∧ n ≤ q ∧ 0 < i.bytes ∧ 0 < i.size ∧ q.toNat * i.bytes ≤ roomB then
        some (.sl dst c 0 n.toNat true, h.set dst ⟨c, e, i.size, false, false, List.replicate n.toNat i.zero⟩, c + 1)
      else none
    | _, _, _ => none
  | _ => none

/-- Nothing in it is the frame's own. -/
def setParts (sz : Nat) (es : List V) : List (Nat × V) → Option (List V)
  | [] => some es
  | (k, v) :: r => if k < es.length ∧ v.cells.length = sz ∧ v.cells.all V.one = true then setParts sz (es.set k v) r else none

def evBuildSlice (T : TypeId → Option TI) (dst : Tmp) (draw : Bool) (t : TypeId) (len : Nat) (parts : List (Nat × V)) (h : Hp) (c : Nat) : Option (V × Hp × Nat) :=
  match T t with
  | some { desc := .slice e, .. } => match T e with
    | some i =>
      if len * i.size ≤ 2 ^ 24 ∧ 0 < i.size then
        if draw then
          if parts.all (fun x => pur 4 x.2) then
            match setParts i.size (List.replicate len i.zero) parts with
            | some es => some (.ps .full (es.map optV), h, c)
            | none => none
          else match setParts i.size (List.replicate len i.zero) parts with
            | some es => some (.sl dst c 0 len true, h.set dst ⟨c, e, i.size, true, false, es⟩, c + 1)
            | none => none
        else match mapH (frz 4) h (parts.map (·.2)) with
          | some (vs, h1) => match setParts i.size (List.replicate len i.zero) ((parts.map (·.1)).zip vs) with
            | some es => some (.sl dst c 0 len true, h1.set dst ⟨c, e, i.size, false, false, es.map optV⟩, c + 1)
            | none => none
          | none => none
      else none
    | none => none
  | _ => none

/-- Elements written over those of a row, from a place on. -/
def over (es : List V) (off : Nat) (xs : List V) : List V := es.take off ++ xs ++ es.drop (off + xs.length)

def evCopy (T : TypeId → Option TI) (t : TypeId) (dv xv : V) (h : Hp) (c : Nat) : Option (V × Hp × Nat) :=
  match T t with
  | some { desc := .slice e, .. } => match T e, dv, elems h xv with
    | some i, .sl b s off len _, some xs => match h.get b with
      | some B =>
        if B.s = s ∧ B.var = false ∧ B.nl = false ∧ B.w = i.size ∧ off + len ≤ B.es.length ∧ xs.all (fun v => v.cells.length == i.size && v.cells.all V.one) = true then
          some (.p (.int .i64 (min xs.length len : Nat)), h.set b { B with es := over B.es off (xs.take (min xs.length len)) }, c)
        else none
      | none => none
    | _, _, _ => none
  | _ => none

def evClear (T : TypeId → Option TI) (t : TypeId) (xv : V) (h : Hp) (c : Nat) : Option (V × Hp × Nat) :=
  match T t with
  | some { desc := .slice e, .. } => match T e, xv with
    | some i, .sl b s off len _ => match h.get b with
      | some B =>
        if B.s = s ∧ B.var = false ∧ B.nl = false ∧ B.w = i.size ∧ off + len ≤ B.es.length ∧ 0 < i.size ∧ i.zero.cells.all V.one = true then
          some (.tup [], h.set b { B with es := over B.es off (List.replicate len i.zero) }, c)
        else none
      | none => none
    | _, _ => none
  | _ => none

/-- What a map of numbers has at a number. -/
def lookD : List V → Int → Option V
  | [], _ => none
  | e :: r, k => match e with
    | .tup [.p (.int .i64 j), v] => if k = j then some v else lookD r k
    | _ => none

def putD : List V → Int → V → List V
  | [], k, v => [.tup [.p (.int .i64 k), v]]
  | e :: r, k, v => match e with
    | .tup [.p (.int .i64 j), _] => if k = j then .tup [.p (.int .i64 k), v] :: r else e :: putD r k v
    | _ => e :: r

/-- The elements' type of a map of numbers. -/
def mapET (T : TypeId → Option TI) (t : TypeId) : Option TypeId :=
  match T t with
  | some { desc := .map kt et, .. } => match T kt with
    | some { desc := .int .i64, .. } => some et
    | _ => none
  | _ => none

def evLookup (T : TypeId → Option TI) (h : Hp) (t : TypeId) (mv kv : V) : Option V :=
  match mapET T t, mv, kv with
  | some et, .mp b s, .p (.int .i64 k) => match h.get b with
    | some B => if B.s = s ∧ B.nl = true ∧ B.w = 0 then (match lookD B.es k with
        | some v => some v
        | none => (T et).map (·.zero)) else none
    | none => none
  | _, _, _ => none

def evMapUpd (T : TypeId → Option TI) (h : Hp) (t : TypeId) (mv kv xv : V) : Option Hp :=
  match mapET T t, mv, kv with
  | some _, .mp b s, .p (.int .i64 k) => match h.get b with
    | some B => if B.s = s ∧ B.nl = true ∧ B.w = 0 then some (h.set b { B with es := putD B.es k xv }) else none
    | none => none
  | _, _, _ => none

/-- One operation, but for calls of functions: what it gives, and what has become of the frame's blocks. -/
def evOperF (P : Program) (T : TypeId → Option TI) (draw : Bool) (ρ : Operand → V) (o : Oper) (h : Hp) (c : Nat) : Option (V × Hp × Nat) :=
  let pu (v : Option V) : Option (V × Hp × Nat) := v.map fun v => (v, h, c)
  match o.op with
  | .move x | .assign x => some (ρ x, h, c)
  | .pick k a b => match ρ k with
    | .p (.bool true) => some (ρ a, h, c)
    | .p (.bool false) => some (ρ b, h, c)
    | _ => none
  | .alloc e => match o.dst, T e with
    | some d, some i => some (.box d c 0 0, h.set d ⟨c, e, i.size, true, false, [i.zero]⟩, c + 1)
    | _, _ => none
  | .box e x => match o.dst with
    | some d => if (ρ x).cells.all V.one = true then some (.box d c 0 0, h.set d ⟨c, e, (ρ x).cells.length, true, false, [ρ x]⟩, c + 1) else none
    | none => none
  | .build t ps => pu (evBuild T t (ps.toList.map fun x => (x.1, ρ x.2)))
  | .buildSlice t len ps => match o.dst with
    | some d => evBuildSlice T d draw t len (ps.toList.map fun x => (x.1, ρ x.2)) h c
    | none => none
  | .load t a => pu (evLoad T h t (ρ a))
  | .store t a x => (evStore T h t (ρ a) (ρ x)).map fun h' => (.p Go.undef, h', c)
  | .nilCheck x => match ρ x with
    | .ref v off => some (.ref v off, h, c)
    | .box b s i off => if liveB h b s then some (.box b s i off, h, c) else none
    | _ => none
  | .binOp op xt x y _ => pu (evBin P T h op xt x y (ρ x) (ρ y))
  | .unOp op _ x => pu (evUn P op (ρ x))
  | .convert src dst x => pu (evConvert P T h src dst (ρ x))
  | .makeFunc (.func f) first cap => some (.fn f (first.toList.map ρ) (cap.toList.map ρ), h, c)
  | .makeSlice t l k => match o.dst with
    | some d => evMake T d t (ρ l) (ρ k) h c
    | none => none
  | .slice t x lo hi mx => if mx.isSome && hi.isNone then none else pu (evSlice T h t (ρ x) (lo.map ρ) (hi.map ρ) (mx.map ρ))
  | .fieldAddr s x f => pu (evFieldAddr T h s (ρ x) f)
  | .field s x f => pu (evField T s (ρ x) f)
  | .indexAddr t x ix => pu (evIndexAddr T h t (ρ x) (ρ ix))
  | .index t x ix => pu (evIndex T t (ρ x) (ρ ix))
  | .makeMap t none => match o.dst with
    | some d => some (.mp d c, h.set d ⟨c, t, 0, true, true, []⟩, c + 1)
    | none => none
  | .lookup t x ix false => pu (evLookup T h t (ρ x) (ρ ix))
  | .mapUpdate t x k y => (evMapUpd T h t (ρ x) (ρ k) (ρ y)).map fun h' => (.p Go.undef, h', c)
  | .extract x i => match ρ x with
    | .tup vs => pu vs[i]?
    | _ => none
  | .call { callee := .builtin b, args, argTypes } => match b with
    | .append => match o.dst, args.toList, argTypes.toList with
      | some d, [s, x], [t1, t2] => if t1 = t2 then evAppend T (nameA d (ρ s) h c) t1 (ρ s) (ρ x) h c else none
      | _, _, _ => none
    | .len => match args.toList, argTypes.toList with
      | [x], [t1] => pu (evLen T h t1 (ρ x))
      | _, _ => none
    | .copy => match args.toList, argTypes.toList with
      | [d, x], [t1, _] => evCopy T t1 (ρ d) (ρ x) h c
      | _, _ => none
    | .clear => match args.toList, argTypes.toList with
      | [x], [t1] => evClear T t1 (ρ x) h c
      | _, _ => none
    | .max | .min | .complex | .real | .imag => pu (evBuiltin P b argTypes o.type (args.map fun | .const _ => true | _ => false) (args.toList.map ρ))
    | _ => none
  | _ => none

def evOper (P : Program) (T : TypeId → Option TI) (draw : Bool) (t : List V) (o : Oper) (h : Hp) (c : Nat) : Option (V × Hp × Nat) := evOperF P T draw (evalO t) o h c

end Go.Mx
