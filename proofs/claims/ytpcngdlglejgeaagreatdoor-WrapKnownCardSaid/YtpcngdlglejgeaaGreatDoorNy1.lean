/-
  A small abstract machine over the model's code, and its relation to the model's worlds: values, blocks, what stands for what. No program text; any program.
-/
import Derived.Laws.AppendOwn
import Derived.Laws.OwnMore
import Derived.Laws.Rows
import Derived.Orders
import Derived.Handy
import Derived.MapKept
namespace Go.Mx
set_option linter.unusedVariables false

inductive SC where
  | nil | full | any | opt | fopt
  deriving DecidableEq, Inhabited

/-- Abstract values: 'p x': a cell's value without an address · 'agg', 'tup': parts · 'fn': a function with what it holds · 'ref v off': a pointer into memory that stays zs it is: into an element that reads v · 'box b s i off': a pointer into block b of the frame, element i · 'ps': a slice whose memory stays zs it is · 'sl': a slice into block b · 'mp': the map of block b. -/
inductive V where
  | p (x : Value)
  | agg (vs : List V)
  | tup (vs : List V)
  | fn (f : FuncId) (first cap : List V)
  | ref (v : V) (off : Nat)
  | box (b s i off : Nat)
  | ps (c : SC) (xs : List V)
  | sl (b s off len : Nat) (tip : Bool)
  | mp (b s : Nat)
  | undef
  deriving Inhabited

def V.cells : V → List V
  | .agg vs => vs
  | v => [v]

structure Blk where
  s : Nat
  T : TypeId
  w : Nat
  var : Bool
  nl : Bool
  es : List V

abbrev Hp := List (Nat × Blk)

def Hp.get : Hp → Nat → Option Blk
  | [], _ => none
  | (k, B) :: r, b => if k = b then some B else Hp.get r b

def Hp.erase : Hp → Nat → Hp
  | [], _ => []
  | (k, B) :: r, b => if k = b then Hp.erase r b else (k, B) :: Hp.erase r b

def Hp.set (h : Hp) (b : Nat) (B : Blk) : Hp := (b, B) :: h.erase b

theorem Hp.get_erase (h : Hp) (b b' : Nat) : (h.erase b).get b' = if b = b' then none else h.get b' := by
  induction h with
  | nil => simp [Hp.erase, Hp.get]
  | cons x r ih =>
    obtain ⟨k, B⟩ := x
    by_cases hk : k = b
    · subst hk
      simp only [Hp.erase, if_true, ih, Hp.get]
      by_cases hb : k = b'
      · simp [hb]
      · simp [hb]
    · simp only [Hp.erase, if_neg hk, Hp.get, ih]
      by_cases h1 : k = b'
      · subst h1; simp [Ne.symm hk]
      · simp [h1]

theorem Hp.get_set (h : Hp) (b b' : Nat) (B : Blk) : (h.set b B).get b' = if b = b' then some B else h.get b' := by
  simp only [Hp.set, Hp.get, Hp.get_erase]
  split <;> rfl

/-- Where a block of the frame lies: its stamp, its elements' type and width, how many cells; none: it is nil. -/
structure Loc where
  s : Nat
  T : TypeId
  w : Nat
  n : Nat
  blk : Option Nat

abbrev MM := Nat → Option Loc

/-- Blocks that the frame may read, and that stay zs they are: none of its own, none of 'bad'. -/
def okOf (bad : Nat → Prop) (w : World) (m : MM) (β : Nat) : Prop := β < w.heap.size ∧ ¬ bad β ∧ ∀ b l, m b = some l → l.blk ≠ some β

inductive RepP (w : World) (ok : Nat → Prop) : V → Value → Prop
  | p (x : Value) : RepP w ok (.p x) x
  | undef (x : Value) : RepP w ok .undef x
  | agg {vs : List V} {cs : Array Value} (hl : vs.length = cs.size) (h : ∀ i (h1 : i < vs.length) (h2 : i < cs.size), RepP w ok vs[i] cs[i]) : RepP w ok (.agg vs) (.agg cs)
  | tup {vs : List V} {cs : Array Value} (hl : vs.length = cs.size) (h : ∀ i (h1 : i < vs.length) (h2 : i < cs.size), RepP w ok vs[i] cs[i]) : RepP w ok (.tup vs) (.tuple cs)
  | fn {f : FuncId} {zs bs : List V} {cs ds : Array Value} (hl : zs.length = cs.size) (hl' : bs.length = ds.size)
      (h : ∀ i (h1 : i < zs.length) (h2 : i < cs.size), RepP w ok zs[i] cs[i]) (h' : ∀ i (h1 : i < bs.length) (h2 : i < ds.size), RepP w ok bs[i] ds[i]) : RepP w ok (.fn f zs bs) (.func (.func f) cs ds)
  | ref {v : V} {off β o : Nat} {val : Nat → Value} (hβ : ok β) (hoff : off < v.cells.length) (hc : ∀ j, j < v.cells.length → w.cell? ⟨β, o + j, none⟩ = some (val j))
      (hr : ∀ j (h : j < v.cells.length), RepP w ok v.cells[j] (val j)) : RepP w ok (.ref v off) (.pointer (some ⟨β, o + off, none⟩))
  | psNil {c : SC} (hn : c ≠ .full ∧ c ≠ .any) : RepP w ok (.ps c []) (.slice none 0 0)
  | ps {c : SC} {xs : List V} {β o k cap : Nat} {q : Option Nat} {val : Nat → Nat → Value} (hn : c ≠ .nil) (hcap : xs.length ≤ cap) (hfull : (c = .full ∨ c = .fopt) → cap = xs.length) (hβ : xs ≠ [] → ok β)
      (hw : ∀ i (h : i < xs.length), xs[i].cells.length = k) (hc : ∀ i j, i < xs.length → j < k → w.cell? ⟨β, o + i * k + j, none⟩ = some (val i j))
      (hr : ∀ i (h : i < xs.length) j (h2 : j < xs[i].cells.length), RepP w ok (xs[i].cells[j]) (val i j)) (hq : q ≠ none → cap = 0) : RepP w ok (.ps c xs) (.slice (some ⟨β, o, q⟩) xs.length cap)

inductive Rep (bad : Nat → Prop) (w : World) (m : MM) (c : Nat) : V → Value → Prop
  | pure {v : V} {x : Value} (h : RepP w (okOf bad w m) v x) : Rep bad w m c v x
  | agg {vs : List V} {cs : Array Value} (hl : vs.length = cs.size) (h : ∀ i (h1 : i < vs.length) (h2 : i < cs.size), Rep bad w m c vs[i] cs[i]) : Rep bad w m c (.agg vs) (.agg cs)
  | tup {vs : List V} {cs : Array Value} (hl : vs.length = cs.size) (h : ∀ i (h1 : i < vs.length) (h2 : i < cs.size), Rep bad w m c vs[i] cs[i]) : Rep bad w m c (.tup vs) (.tuple cs)
  | fn {f : FuncId} {zs bs : List V} {cs ds : Array Value} (hl : zs.length = cs.size) (hl' : bs.length = ds.size)
      (h : ∀ i (h1 : i < zs.length) (h2 : i < cs.size), Rep bad w m c zs[i] cs[i]) (h' : ∀ i (h1 : i < bs.length) (h2 : i < ds.size), Rep bad w m c bs[i] ds[i]) : Rep bad w m c (.fn f zs bs) (.func (.func f) cs ds)
  | box {b s i off : Nat} {x : Value} (hs : s < c) (hx : x.oneCell' = true) (h : ∀ l, m b = some l → l.s = s → ∃ β, l.blk = some β ∧ x = .pointer (some ⟨β, i * l.w + off, none⟩)) : Rep bad w m c (.box b s i off) x
  | sl {b s off len : Nat} {tip : Bool} {x : Value} (hs : s < c) (hx : x.oneCell' = true) (h : ∀ l, m b = some l → l.s = s →
      (l.blk = none ∧ off = 0 ∧ len = 0 ∧ x = .slice none 0 0) ∨
      ∃ β cap, l.blk = some β ∧ x = .slice (some ⟨β, off * l.w, none⟩) len cap ∧ len ≤ cap ∧ (off + cap) * l.w ≤ l.n ∧ cap ≤ maxLen ∧ (tip = true → off = 0 ∧ cap * l.w = l.n)) : Rep bad w m c (.sl b s off len tip) x
  | mp {b s : Nat} {x : Value} (hs : s < c) (hx : x.oneCell' = true) (h : ∀ l, m b = some l → l.s = s → ∃ β, l.blk = some β ∧ x = .map (some β)) : Rep bad w m c (.mp b s) x

theorem RepP.mono {w w' : World} {ok ok' : Nat → Prop} (hok : ∀ β, ok β → ok' β ∧ ∀ off, w'.cell? ⟨β, off, none⟩ = w.cell? ⟨β, off, none⟩) {v : V} {x : Value} (h : RepP w ok v x) : RepP w' ok' v x := by
  induction h with
  | p x => exact .p x
  | undef x => exact .undef x
  | agg hl _ ih => exact .agg hl ih
  | tup hl _ ih => exact .tup hl ih
  | fn hl hl' _ _ ih ih' => exact .fn hl hl' ih ih'
  | ref hβ hoff hc _ ih => exact .ref (hok _ hβ).1 hoff (fun j hj => by rw [(hok _ hβ).2]; exact hc j hj) ih
  | psNil hn => exact .psNil hn
  | ps hn hcap hfull hβ hw hc _ hq ih => exact .ps hn hcap hfull (fun h => (hok _ (hβ h)).1) hw (fun i j hi hj => by
      have hne := hβ (by intro h; rw [h] at hi; simp at hi)
      rw [(hok _ hne).2]; exact hc i j hi hj) ih hq

/-- From one state to a later one: what must not turn. -/
structure Le (w : World) (m : MM) (c : Nat) (w' : World) (m' : MM) (c' : Nat) : Prop where
  hc : c ≤ c'
  hm : ∀ b l, m' b = some l → l.s < c → m b = some l
  keep : ∀ β, β < w.heap.size → (∀ b l, m b = some l → l.blk ≠ some β) → w'.heap[β]? = w.heap[β]?
  size : w.heap.size ≤ w'.heap.size
  os : w'.os = w.os
  output : w'.output = w.output
  tape : w'.tape = w.tape
  range : ∀ b l β, m' b = some l → l.blk = some β → w.heap.size ≤ β ∨ ∃ b0 l0, m b0 = some l0 ∧ l0.blk = some β

theorem cell_of_heap {w w' : World} {β : Nat} (h : w'.heap[β]? = w.heap[β]?) (off : Nat) : w'.cell? ⟨β, off, none⟩ = w.cell? ⟨β, off, none⟩ := by
  simp only [World.cell?, h]

theorem Le.refl (w : World) (m : MM) (c : Nat) : Le w m c w m c :=
  ⟨Nat.le_refl _, fun _ _ h _ => h, fun _ _ _ => rfl, Nat.le_refl _, rfl, rfl, rfl, fun b l β h h' => .inr ⟨b, l, h, h'⟩⟩

theorem Le.hok {bad : Nat → Prop} {w w' : World} {m m' : MM} {c c' : Nat} (h : Le w m c w' m' c') {β : Nat} (hβ : okOf bad w m β) : okOf bad w' m' β ∧ w'.heap[β]? = w.heap[β]? := by
  obtain ⟨h1, h2, h3⟩ := hβ
  refine ⟨⟨Nat.lt_of_lt_of_le h1 h.size, h2, fun b l hb hl => ?_⟩, h.keep β h1 h3⟩
  rcases h.range b l β hb hl with h4 | ⟨b0, l0, h4, h5⟩
  · omega
  · exact h3 b0 l0 h4 h5

theorem Le.trans {w w1 w2 : World} {m m1 m2 : MM} {c c1 c2 : Nat} (h : Le w m c w1 m1 c1) (k : Le w1 m1 c1 w2 m2 c2) : Le w m c w2 m2 c2 where
  hc := Nat.le_trans h.hc k.hc
  hm b l hb hl := h.hm b l (k.hm b l hb (Nat.lt_of_lt_of_le hl h.hc)) hl
  keep β hβ hm := by
    have h1 : ∀ b l, m1 b = some l → l.blk ≠ some β := fun b l hb hl => by
      rcases h.range b l β hb hl with h4 | ⟨b0, l0, h4, h5⟩
      · omega
      · exact hm b0 l0 h4 h5
    exact (k.keep β (Nat.lt_of_lt_of_le hβ h.size) h1).trans (h.keep β hβ hm)
  size := Nat.le_trans h.size k.size
  os := k.os.trans h.os
  output := k.output.trans h.output
  tape := k.tape.trans h.tape
  range b l β hb hl := by
    rcases k.range b l β hb hl with h1 | ⟨b0, l0, h1, h2⟩
    · exact .inl (Nat.le_trans h.size h1)
    · exact h.range b0 l0 β h1 h2

theorem Le.cell {bad : Nat → Prop} {w w' : World} {m m' : MM} {c c' : Nat} (h : Le w m c w' m' c') {β : Nat} (hβ : okOf bad w m β) (off : Nat) : w'.cell? ⟨β, off, none⟩ = w.cell? ⟨β, off, none⟩ :=
  cell_of_heap (h.hok hβ).2 off

theorem Rep.mono {bad : Nat → Prop} {w w' : World} {m m' : MM} {c c' : Nat} (hle : Le w m c w' m' c') {v : V} {x : Value} (h : Rep bad w m c v x) : Rep bad w' m' c' v x := by
  induction h with
  | pure h => exact .pure (h.mono fun β hβ => ⟨(hle.hok hβ).1, hle.cell hβ⟩)
  | agg hl _ ih => exact .agg hl ih
  | tup hl _ ih => exact .tup hl ih
  | fn hl hl' _ _ ih ih' => exact .fn hl hl' ih ih'
  | box hs hx h => exact .box (Nat.lt_of_lt_of_le hs hle.hc) hx fun l hl hs' => h l (hle.hm _ _ hl (hs' ▸ hs)) hs'
  | sl hs hx h => exact .sl (Nat.lt_of_lt_of_le hs hle.hc) hx fun l hl hs' => h l (hle.hm _ _ hl (hs' ▸ hs)) hs'
  | mp hs hx h => exact .mp (Nat.lt_of_lt_of_le hs hle.hc) hx fun l hl hs' => h l (hle.hm _ _ hl (hs' ▸ hs)) hs'

/-- A cell's content, in a block: of a variable it may be anything; of a row it stays. -/
def RepC (bad : Nat → Prop) (var : Bool) (w : World) (m : MM) (c : Nat) (v : V) (x : Value) : Prop := if var then Rep bad w m c v x else RepP w (okOf bad w m) v x

theorem RepC.mono {bad : Nat → Prop} {var : Bool} {w w' : World} {m m' : MM} {c c' : Nat} (hle : Le w m c w' m' c') {v : V} {x : Value} (h : RepC bad var w m c v x) : RepC bad var w' m' c' v x := by
  cases var
  · exact RepP.mono (fun β hβ => ⟨(hle.hok hβ).1, hle.cell hβ⟩) h
  · exact Rep.mono hle h

theorem RepC.rep {bad : Nat → Prop} {var : Bool} {w : World} {m : MM} {c : Nat} {v : V} {x : Value} (h : RepC bad var w m c v x) : Rep bad w m c v x := by
  cases var
  · exact .pure h
  · exact h

/-- A map of numbers: its entries. -/
def HoldsM (bad : Nat → Prop) (w : World) (m : MM) (c : Nat) (l : Loc) (B : Blk) : Prop :=
  B.nl = true ∧ B.w = 0 ∧ B.var = true ∧ ∃ (β : Nat) (ents : Array MapEntry) (clock : Nat), l.blk = some β ∧ w.heap[β]? = some (.map ents clock) ∧ B.es.length = ents.size ∧
    ∀ i (h : i < B.es.length) (h2 : i < ents.size), ∃ k v, B.es[i] = .tup [.p (.int .i64 k), v] ∧ ents[i].key = .int .i64 k ∧ Rep bad w m c v ents[i].val

/-- What a block of the frame holds, in memory. -/
def HoldsB (bad : Nat → Prop) (w : World) (m : MM) (c : Nat) (l : Loc) (B : Blk) : Prop :=
  l.s = B.s ∧ l.w = B.w ∧ l.T = B.T ∧ B.s < c ∧
  ((B.nl = true ∧ l.blk = none ∧ B.es = []) ∨ HoldsM bad w m c l B ∨
   ((B.nl = true → 0 < B.w) ∧ ∃ β cs, l.blk = some β ∧ w.heap[β]? = some (.cells cs B.T (0, 0)) ∧ cs.size = l.n ∧ B.es.length * B.w ≤ l.n ∧
     (∀ i (h : i < B.es.length), B.es[i].cells.length = B.w) ∧
     ∀ i (h : i < B.es.length) j (h2 : j < B.es[i].cells.length), ∃ x, cs[i * B.w + j]? = some x ∧ RepC bad B.var w m c B.es[i].cells[j] x))

structure HeapRep (bad : Nat → Prop) (h : Hp) (w : World) (m : MM) (c : Nat) : Prop where
  get : ∀ b B, h.get b = some B → ∃ l, m b = some l ∧ HoldsB bad w m c l B
  non : ∀ b, h.get b = none → m b = none
  lt : ∀ β, bad β → β < w.heap.size
  nb : ∀ b l β, m b = some l → l.blk = some β → ¬ bad β
  inj : ∀ b b' l l' β, m b = some l → m b' = some l' → l.blk = some β → l'.blk = some β → b = b'

end Go.Mx
