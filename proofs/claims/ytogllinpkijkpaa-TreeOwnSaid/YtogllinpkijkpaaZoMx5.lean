/-
  The abstract machine's operations are sound: new blocks, blocks let go, stores.
-/
import Derived.Laws.AppendOwn
import Derived.Laws.OwnMore
import Derived.Laws.Rows
import Derived.Orders
import Derived.Handy
import Derived.Laws.Strings
import Derived.Deep.AppendSrc
import Derived.Laws.CopyRow
import Derived.Laws.MakeOwn
namespace Go.Mx
set_option linter.unusedVariables false
inductive SC where
 | nil | full | any | opt | fopt
 deriving DecidableEq,Inhabited
inductive V where
 | p (x : Value)
 | agg (vs : List V)
 | tup (vs : List V)
 | fn (f : FuncId) (first cap : List V)
 | ref (v : V) (off : Nat)
 | box (b s i off : Nat)
 | ps (c : SC) (xs : List V)
 | sl (b s off len : Nat) (tip : Bool)
 | undef
 deriving Inhabited
def V.cells : V → List V
 | .agg vs=>vs
 | v=>[v]
structure Blk where
 s : Nat
 T : TypeId
 w : Nat
 var : Bool
 nl : Bool
 es : List V
abbrev Hp:=List (Nat × Blk)
def Hp.get : Hp → Nat → Option Blk
 | [],_=>none
 | (k,B) :: r,b=>if k = b then some B else Hp.get r b
def Hp.erase : Hp → Nat → Hp
 | [],_=>[]
 | (k,B) :: r,b=>if k = b then Hp.erase r b else (k,B) :: Hp.erase r b
def Hp.set (h : Hp) (b : Nat) (B : Blk) : Hp:=(b,B) :: h.erase b
theorem Hp.get_erase (h : Hp) (b b' : Nat) : (h.erase b).get b' = if b = b' then none else h.get b':=by
 induction h with
 | nil=>simp [Hp.erase,Hp.get]
 | cons x r ih =>
  obtain ⟨k,B⟩:=x
  by_cases hk : k = b
  ·subst hk
   simp only [Hp.erase,if_true,ih,Hp.get]
   by_cases hb : k = b'
   ·simp [hb]
   ·simp [hb]
  ·simp only [Hp.erase,if_neg hk,Hp.get,ih]
   by_cases h1 : k = b'
   ·subst h1; simp [Ne.symm hk]
   ·simp [h1]
theorem Hp.get_set (h : Hp) (b b' : Nat) (B : Blk) : (h.set b B).get b' = if b = b' then some B else h.get b':=by
 simp only [Hp.set,Hp.get,Hp.get_erase]
 split <;> rfl
structure Loc where
 s : Nat
 T : TypeId
 w : Nat
 n : Nat
 blk : Option Nat
abbrev MM:=Nat → Option Loc
def okOf (bad : Nat → Prop) (w : World) (m : MM) (β : Nat) : Prop:=β < w.heap.size ∧ ¬ bad β ∧ ∀ b l,m b = some l → l.blk ≠ some β
inductive RepP (w : World) (ok : Nat → Prop) : V → Value → Prop
 | p (x : Value) : RepP w ok (.p x) x
 | undef (x : Value) : RepP w ok .undef x
 | agg {vs : List V} {cs : Array Value} (hl : vs.length = cs.size) (h : ∀ i (h1 : i < vs.length) (h2 : i < cs.size),RepP w ok vs[i] cs[i]) : RepP w ok (.agg vs) (.agg cs)
 | tup {vs : List V} {cs : Array Value} (hl : vs.length = cs.size) (h : ∀ i (h1 : i < vs.length) (h2 : i < cs.size),RepP w ok vs[i] cs[i]) : RepP w ok (.tup vs) (.tuple cs)
 | fn {f : FuncId} {zs bs : List V} {cs ds : Array Value} (hl : zs.length = cs.size) (hl' : bs.length = ds.size)
   (h : ∀ i (h1 : i < zs.length) (h2 : i < cs.size),RepP w ok zs[i] cs[i]) (h' : ∀ i (h1 : i < bs.length) (h2 : i < ds.size),RepP w ok bs[i] ds[i]) : RepP w ok (.fn f zs bs) (.func (.func f) cs ds)
 | ref {v : V} {off β o : Nat} {val : Nat → Value} (hβ : ok β) (hoff : off < v.cells.length) (hc : ∀ j,j < v.cells.length → w.cell? ⟨β,o + j,none⟩ = some (val j))
   (hr : ∀ j (h : j < v.cells.length),RepP w ok v.cells[j] (val j)) : RepP w ok (.ref v off) (.pointer (some ⟨β,o + off,none⟩))
 | psNil {c : SC} (hn : c ≠ .full ∧ c ≠ .any) : RepP w ok (.ps c []) (.slice none 0 0)
 | ps {c : SC} {xs : List V} {β o k cap : Nat} {q : Option Nat} {val : Nat → Nat → Value} (hn : c ≠ .nil) (hcap : xs.length ≤ cap) (hfull : (c = .full ∨ c = .fopt) → cap = xs.length) (hβ : xs ≠ [] → ok β)
   (hw : ∀ i (h : i < xs.length),xs[i].cells.length = k) (hc : ∀ i j,i < xs.length → j < k → w.cell? ⟨β,o + i * k + j,none⟩ = some (val i j))
   (hr : ∀ i (h : i < xs.length) j (h2 : j < xs[i].cells.length),RepP w ok (xs[i].cells[j]) (val i j)) (hq : q ≠ none → cap = 0) : RepP w ok (.ps c xs) (.slice (some ⟨β,o,q⟩) xs.length cap)
inductive Rep (bad : Nat → Prop) (w : World) (m : MM) (c : Nat) : V → Value → Prop
 | pure {v : V} {x : Value} (h : RepP w (okOf bad w m) v x) : Rep bad w m c v x
 | agg {vs : List V} {cs : Array Value} (hl : vs.length = cs.size) (h : ∀ i (h1 : i < vs.length) (h2 : i < cs.size),Rep bad w m c vs[i] cs[i]) : Rep bad w m c (.agg vs) (.agg cs)
 | tup {vs : List V} {cs : Array Value} (hl : vs.length = cs.size) (h : ∀ i (h1 : i < vs.length) (h2 : i < cs.size),Rep bad w m c vs[i] cs[i]) : Rep bad w m c (.tup vs) (.tuple cs)
 | fn {f : FuncId} {zs bs : List V} {cs ds : Array Value} (hl : zs.length = cs.size) (hl' : bs.length = ds.size)
   (h : ∀ i (h1 : i < zs.length) (h2 : i < cs.size),Rep bad w m c zs[i] cs[i]) (h' : ∀ i (h1 : i < bs.length) (h2 : i < ds.size),Rep bad w m c bs[i] ds[i]) : Rep bad w m c (.fn f zs bs) (.func (.func f) cs ds)
 | box {b s i off : Nat} {x : Value} (hs : s < c) (hx : x.oneCell' = true) (h : ∀ l,m b = some l → l.s = s → ∃ β,l.blk = some β ∧ x = .pointer (some ⟨β,i * l.w + off,none⟩)) : Rep bad w m c (.box b s i off) x
 | sl {b s off len : Nat} {tip : Bool} {x : Value} (hs : s < c) (hx : x.oneCell' = true) (h : ∀ l,m b = some l → l.s = s →
   (l.blk = none ∧ off = 0 ∧ len = 0 ∧ x = .slice none 0 0) ∨
   ∃ β cap,l.blk = some β ∧ x = .slice (some ⟨β,off * l.w,none⟩) len cap ∧ len ≤ cap ∧ (off + cap) * l.w ≤ l.n ∧ cap ≤ maxLen ∧ (tip = true → off = 0 ∧ cap * l.w = l.n)) : Rep bad w m c (.sl b s off len tip) x
theorem RepP.mono {w w' : World} {ok ok' : Nat → Prop} (hok : ∀ β,ok β → ok' β ∧ ∀ off,w'.cell? ⟨β,off,none⟩ = w.cell? ⟨β,off,none⟩) {v : V} {x : Value} (h : RepP w ok v x) : RepP w' ok' v x:=by
 induction h with
 | p x=>exact .p x
 | undef x=>exact .undef x
 | agg hl _ ih=>exact .agg hl ih
 | tup hl _ ih=>exact .tup hl ih
 | fn hl hl' _ _ ih ih'=>exact .fn hl hl' ih ih'
 | ref hβ hoff hc _ ih=>exact .ref (hok _ hβ).1 hoff (fun j hj=>by rw [(hok _ hβ).2]; exact hc j hj) ih
 | psNil hn=>exact .psNil hn
 | ps hn hcap hfull hβ hw hc _ hq ih=>exact .ps hn hcap hfull (fun h=>(hok _ (hβ h)).1) hw (fun i j hi hj=>by
   have hne:=hβ (by intro h; rw [h] at hi; simp at hi)
   rw [(hok _ hne).2]; exact hc i j hi hj) ih hq
structure Le (w : World) (m : MM) (c : Nat) (w' : World) (m' : MM) (c' : Nat) : Prop where
 hc : c ≤ c'
 hm : ∀ b l,m' b = some l → l.s < c → m b = some l
 keep : ∀ β,β < w.heap.size → (∀ b l,m b = some l → l.blk ≠ some β) → w'.heap[β]? = w.heap[β]?
 size : w.heap.size ≤ w'.heap.size
 os : w'.os = w.os
 output : w'.output = w.output
 tape : w'.tape = w.tape
 range : ∀ b l β,m' b = some l → l.blk = some β → w.heap.size ≤ β ∨ ∃ b0 l0,m b0 = some l0 ∧ l0.blk = some β
theorem cell_of_heap {w w' : World} {β : Nat} (h : w'.heap[β]? = w.heap[β]?) (off : Nat) : w'.cell? ⟨β,off,none⟩ = w.cell? ⟨β,off,none⟩:=by
 simp only [World.cell?,h]
theorem Le.refl (w : World) (m : MM) (c : Nat) : Le w m c w m c :=
 ⟨Nat.le_refl _,fun _ _ h _=>h,fun _ _ _=>rfl,Nat.le_refl _,rfl,rfl,rfl,fun b l β h h'=>.inr ⟨b,l,h,h'⟩⟩
theorem Le.hok {bad : Nat → Prop} {w w' : World} {m m' : MM} {c c' : Nat} (h : Le w m c w' m' c') {β : Nat} (hβ : okOf bad w m β) : okOf bad w' m' β ∧ w'.heap[β]? = w.heap[β]?:=by
 obtain ⟨h1,h2,h3⟩:=hβ
 refine ⟨⟨Nat.lt_of_lt_of_le h1 h.size,h2,fun b l hb hl=>?_⟩,h.keep β h1 h3⟩
 rcases h.range b l β hb hl with h4 | ⟨b0,l0,h4,h5⟩
 ·omega
 ·exact h3 b0 l0 h4 h5
theorem Le.trans {w w1 w2 : World} {m m1 m2 : MM} {c c1 c2 : Nat} (h : Le w m c w1 m1 c1) (k : Le w1 m1 c1 w2 m2 c2) : Le w m c w2 m2 c2 where
 hc:=Nat.le_trans h.hc k.hc
 hm b l hb hl:=h.hm b l (k.hm b l hb (Nat.lt_of_lt_of_le hl h.hc)) hl
 keep β hβ hm:=by
  have h1 : ∀ b l,m1 b = some l → l.blk ≠ some β:=fun b l hb hl=>by
   rcases h.range b l β hb hl with h4 | ⟨b0,l0,h4,h5⟩
   ·omega
   ·exact hm b0 l0 h4 h5
  exact (k.keep β (Nat.lt_of_lt_of_le hβ h.size) h1).trans (h.keep β hβ hm)
 size:=Nat.le_trans h.size k.size
 os:=k.os.trans h.os
 output:=k.output.trans h.output
 tape:=k.tape.trans h.tape
 range b l β hb hl:=by
  rcases k.range b l β hb hl with h1 | ⟨b0,l0,h1,h2⟩
  ·exact .inl (Nat.le_trans h.size h1)
  ·exact h.range b0 l0 β h1 h2
theorem Le.cell {bad : Nat → Prop} {w w' : World} {m m' : MM} {c c' : Nat} (h : Le w m c w' m' c') {β : Nat} (hβ : okOf bad w m β) (off : Nat) : w'.cell? ⟨β,off,none⟩ = w.cell? ⟨β,off,none⟩ :=
 cell_of_heap (h.hok hβ).2 off
theorem Rep.mono {bad : Nat → Prop} {w w' : World} {m m' : MM} {c c' : Nat} (hle : Le w m c w' m' c') {v : V} {x : Value} (h : Rep bad w m c v x) : Rep bad w' m' c' v x:=by
 induction h with
 | pure h=>exact .pure (h.mono fun β hβ=>⟨(hle.hok hβ).1,hle.cell hβ⟩)
 | agg hl _ ih=>exact .agg hl ih
 | tup hl _ ih=>exact .tup hl ih
 | fn hl hl' _ _ ih ih'=>exact .fn hl hl' ih ih'
 | box hs hx h=>exact .box (Nat.lt_of_lt_of_le hs hle.hc) hx fun l hl hs'=>h l (hle.hm _ _ hl (hs' ▸ hs)) hs'
 | sl hs hx h=>exact .sl (Nat.lt_of_lt_of_le hs hle.hc) hx fun l hl hs'=>h l (hle.hm _ _ hl (hs' ▸ hs)) hs'
def RepC (bad : Nat → Prop) (var : Bool) (w : World) (m : MM) (c : Nat) (v : V) (x : Value) : Prop:=if var then Rep bad w m c v x else RepP w (okOf bad w m) v x
theorem RepC.mono {bad : Nat → Prop} {var : Bool} {w w' : World} {m m' : MM} {c c' : Nat} (hle : Le w m c w' m' c') {v : V} {x : Value} (h : RepC bad var w m c v x) : RepC bad var w' m' c' v x:=by
 cases var
 ·exact RepP.mono (fun β hβ=>⟨(hle.hok hβ).1,hle.cell hβ⟩) h
 ·exact Rep.mono hle h
theorem RepC.rep {bad : Nat → Prop} {var : Bool} {w : World} {m : MM} {c : Nat} {v : V} {x : Value} (h : RepC bad var w m c v x) : Rep bad w m c v x:=by
 cases var
 ·exact .pure h
 ·exact h
def HoldsB (bad : Nat → Prop) (w : World) (m : MM) (c : Nat) (l : Loc) (B : Blk) : Prop :=
 l.s = B.s ∧ l.w = B.w ∧ l.T = B.T ∧ B.s < c ∧
 ((B.nl = true ∧ l.blk = none ∧ B.es = []) ∨
  (True ∧ ∃ β cs,l.blk = some β ∧ w.heap[β]? = some (.cells cs B.T (0,0)) ∧ cs.size = l.n ∧ B.es.length * B.w ≤ l.n ∧
   (∀ i (h : i < B.es.length),B.es[i].cells.length = B.w) ∧
   ∀ i (h : i < B.es.length) j (h2 : j < B.es[i].cells.length),∃ x,cs[i * B.w + j]? = some x ∧ RepC bad B.var w m c B.es[i].cells[j] x))
structure HeapRep (bad : Nat → Prop) (h : Hp) (w : World) (m : MM) (c : Nat) : Prop where
 get : ∀ b B,h.get b = some B → ∃ l,m b = some l ∧ HoldsB bad w m c l B
 non : ∀ b,h.get b = none → m b = none
 lt : ∀ β,bad β → β < w.heap.size
 nb : ∀ b l β,m b = some l → l.blk = some β → ¬ bad β
 inj : ∀ b b' l l' β,m b = some l → m b' = some l' → l.blk = some β → l'.blk = some β → b = b'
end Go.Mx
namespace Go.Mx
set_option linter.unusedVariables false
structure TI where
 size : Nat
 bytes : Nat
 desc : TypeDesc
 zero : V
def ofC0 : Value → V
 | .slice none 0 0=>.ps .nil []
 | x=>.p x
def ofC : Value → V
 | .slice none 0 0=>.ps .nil []
 | .agg cs=>.agg (cs.toList.map ofC0)
 | x=>.p x
def TabOk (P : Program) (T : TypeId → Option TI) : Prop :=
 ∀ t i,T t = some i → ∃ info z,P.info? t = some info ∧ info.size = i.size ∧ info.bytes = i.bytes ∧ P.underlying t = some i.desc ∧ info.zero = some z ∧ i.zero = ofC z ∧ z.cells.size = i.size ∧
  ∀ fs,i.desc = .struct fs → ∀ f ∈ fs.toList,(T f.type).isSome = true
def isAggD : TypeDesc → Bool
 | .struct _ | .array _ _=>true
 | _=>false
def V.isAgg : V → Bool
 | .agg _=>true
 | _=>false
def evalO (t : List V) : Operand → V
 | .tmp k=>t.getD k .undef
 | .const v=>ofC v
 | .func f=>.fn f [] []
 | .global _=>.undef
def toVals : List V → Option (List Value)
 | []=>some []
 | .p x :: r=>(toVals r).map (x :: ·)
 | _ :: _=>none
def toVal : V → Option Value
 | .p x=>some x
 | .agg vs=>(toVals vs).map fun l=>.agg l.toArray
 | _=>none
def V.one : V → Bool
 | .p x=>x.oneCell'
 | .agg _ | .tup _ | .undef=>false
 | _=>true
def still {α : Type} (P : Program) : Sem α → Option α
 | .pure a=>some a
 | .program k=>still P (k P)
 | _=>none
def partV (i : TI) (cs : List V) (off : Nat) : Option V :=
 if isAggD i.desc then (if off + i.size ≤ cs.length then some (.agg ((cs.drop off).take i.size)) else none) else cs[off]?
def liveB (h : Hp) (b s : Nat) : Bool :=
 match h.get b with
 | some B=>B.s == s
 | none=>false
def elemAt (h : Hp) : V → Option (V × Nat)
 | .ref v off=>some (v,off)
 | .box b s i off=>match h.get b with
  | some B=>if B.s = s then (B.es[i]?).map fun e=>(e,off) else none
  | none=>none
 | _=>none
def evLoad (T : TypeId → Option TI) (h : Hp) (t : TypeId) (pv : V) : Option V :=
 match T t,elemAt h pv with
 | some i,some (e,off)=>if off = 0 ∧ isAggD i.desc = true ∧ e.isAgg = true ∧ e.cells.length = i.size then some e else partV i e.cells off
 | _,_=>none
def evFieldAddr (T : TypeId → Option TI) (h : Hp) (s : TypeId) (pv : V) (f : Nat) : Option V :=
 match T s with
 | some { desc:=.struct fs,.. }=>match fs[f]? with
  | some fl=>match T fl.type with
   | some i=>if i.size = 0 then none else match pv with
    | .ref v off=>if off + fl.offset < v.cells.length then some (.ref v (off + fl.offset)) else none
    | .box b st i off=>if liveB h b st then some (.box b st i (off + fl.offset)) else none
    | _=>none
   | none=>none
  | none=>none
 | _=>none
def evField (T : TypeId → Option TI) (s : TypeId) (x : V) (f : Nat) : Option V :=
 match T s with
 | some { desc:=.struct fs,.. }=>match fs[f]? with
  | some fl=>match T fl.type,x with
   | some i,.agg cs=>partV i cs fl.offset
   | _,_=>none
  | none=>none
 | _=>none
def asI : V → Option Int
 | .p (.int _ n)=>some n
 | _=>none
def evIndexAddr (T : TypeId → Option TI) (h : Hp) (t : TypeId) (x ix : V) : Option V :=
 match T t,asI ix with
 | some { desc:=.slice e,.. },some n =>
  if n < 0 then none else
  match T e,x with
  | some i,.ps c xs=>match xs[n.toNat]? with
   | some v=>if v.cells.length = i.size ∧ 0 < i.size ∧ c ≠ .nil then some (.ref v 0) else none
   | none=>none
  | some i,.sl b s off len tip=>match h.get b with
   | some B=>if B.s = s ∧ B.w = i.size ∧ n.toNat < len then some (.box b s (off + n.toNat) 0) else none
   | none=>none
  | _,_=>none
 | some { desc:=.array len e,.. },some n =>
  if n < 0 then none else
  if n.toNat < len then
   match T e,x with
   | some i,.ref v off=>if off + n.toNat * i.size < v.cells.length then some (.ref v (off + n.toNat * i.size)) else none
   | some i,.box b s j off=>if liveB h b s then some (.box b s j (off + n.toNat * i.size)) else none
   | _,_=>none
  else none
 | _,_=>none
def evIndex (T : TypeId → Option TI) (t : TypeId) (x ix : V) : Option V :=
 match T t,asI ix with
 | some { desc:=.array len e,.. },some n =>
  if n < 0 then none else
  if n.toNat < len then
   match T e,x with
   | some i,.agg cs=>partV i cs (n.toNat * i.size)
   | _,_=>none
  else none
 | some { desc:=.string,.. },some n =>
  match x with
  | .p (.string s)=>if n < 0 then none else match s[n.toNat]? with
   | some b=>some (.p (.int .u8 b.toNat))
   | none=>none
  | _=>none
 | _,_=>none
def fillV (place : Nat → Option (Nat × Nat)) (cells : List V) : List (Nat × V) → Option (List V)
 | []=>some cells
 | (i,v) :: rest =>
  match place i with
  | none=>none
  | some (off,size) =>
   if v.cells.length = size ∧ off + size ≤ cells.length then fillV place (cells.take off ++ v.cells ++ cells.drop (off + size)) rest else none
def evBuild (T : TypeId → Option TI) (t : TypeId) (parts : List (Nat × V)) : Option V :=
 if parts.all (fun x=>x.2.cells.all V.one) then
 match T t with
 | some { desc:=.struct fs,zero:=z,.. }=>(fillV (fun i=>match fs[i]? with
   | some f=>(T f.type).map fun k=>(f.offset,k.size)
   | none=>none) z.cells parts).map .agg
 | some { desc:=.array _ e,zero:=z,.. }=>match T e with
  | some k=>(fillV (fun i=>some (i * k.size,k.size)) z.cells parts).map .agg
  | none=>none
 | _=>none
 else none
def mapH (f : Hp → V → Option (V × Hp)) : Hp → List V → Option (List V × Hp)
 | h,[]=>some ([],h)
 | h,v :: r=>match f h v with
  | some (v',h1)=>match mapH f h1 r with
   | some (r',h2)=>some (v' :: r',h2)
   | none=>none
  | none=>none
def frz : Nat → Hp → V → Option (V × Hp)
 | 0,_,_=>none
 | n + 1,h,v=>match v with
  | .sl b s off len _=>match h.get b with
   | some B=>if B.s = s ∧ B.var = false then
     (if B.nl then none
      else if off + len ≤ B.es.length then some (.ps .any ((B.es.drop off).take len),h.erase b) else none)
    else if B.s = s ∧ B.nl = false ∧ off + len ≤ B.es.length then (mapH (frz n) (h.erase b) ((B.es.drop off).take len)).map fun x=>(.ps .any x.1,x.2)
    else none
   | none=>none
  | .agg vs=>(mapH (frz n) h vs).map fun x=>(.agg x.1,x.2)
  | .tup vs=>(mapH (frz n) h vs).map fun x=>(.tup x.1,x.2)
  | .fn f zs bs=>match mapH (frz n) h zs with
   | some (zs',h1)=>(mapH (frz n) h1 bs).map fun x=>(.fn f zs' x.1,x.2)
   | none=>none
  | .box ..=>none
  | v=>some (v,h)
def optC : V → V
 | .ps _ xs=>.ps .opt xs
 | v=>v
def optV : V → V
 | .agg cs=>.agg (cs.map optC)
 | v=>optC v
def evStore (T : TypeId → Option TI) (h : Hp) (t : TypeId) (pv x : V) : Option Hp :=
 match T t,pv with
 | some i,.box b s j off=>match h.get b with
  | some B0 =>
   match (if B0.var then some (x,h) else (frz 4 h x).map fun p=>(optV p.1,p.2)) with
   | some (x',h1) =>
    match h1.get b with
    | some B=>match B.es[j]? with
     | some e =>
      if B.s = s ∧ B.var = B0.var ∧ 0 < i.size ∧ x'.cells.length = i.size ∧ off + i.size ≤ e.cells.length ∧ x'.cells.all V.one = true then
       some (h1.set b { B with es:=B.es.set j (if off = 0 ∧ e.isAgg = true ∧ x'.isAgg = true ∧ e.cells.length = i.size then x' else if e.isAgg = true then .agg (e.cells.take off ++ x'.cells ++ e.cells.drop (off + i.size)) else (x'.cells.headD .undef)) })
      else none
     | none=>none
    | none=>none
   | none=>none
  | none=>none
 | _,_=>none
def lenV (h : Hp) : V → Option Nat
 | .ps _ xs=>some xs.length
 | .sl b s _ len _=>match h.get b with
  | some B=>if B.s = s then some len else none
  | none=>none
 | .p (.string s)=>some s.size
 | _=>none
def elems (h : Hp) : V → Option (List V)
 | .ps _ xs=>some xs
 | .sl b s off len _=>match h.get b with
  | some B=>if B.s = s ∧ B.var = false ∧ off + len ≤ B.es.length then some ((B.es.drop off).take len) else none
  | none=>none
 | _=>none
def roomB : Nat:=140737488355328
def evAppend0 (T : TypeId → Option TI) (dst : Tmp) (t : TypeId) (s x : V) (h : Hp) (c : Nat) : Option (V × Hp × Nat) :=
 match T t with
 | some { desc:=.slice e,.. }=>match T e,elems h x with
  | some i,some xs =>
   if xs.all (fun v=>v.cells.length == i.size && v.cells.all V.one) = true ∧ 0 < i.size ∧ 0 < i.bytes then
    match s with
    | .ps .nil [] =>
     if xs.isEmpty then some (s,h,c)
     else if xs.length * i.bytes ≤ roomB then some (.sl dst c 0 xs.length true,h.set dst ⟨c,e,i.size,false,false,xs⟩,c + 1) else none
    | .ps k ys =>
     if (k = .full ∨ k = .fopt) ∧ ys.all (fun v=>v.cells.length == i.size) = true then
      if xs.isEmpty then some (s,h,c)
      else if (ys.length + xs.length) * i.bytes ≤ roomB then some (.sl dst c 0 (ys.length + xs.length) true,h.set dst ⟨c,e,i.size,false,false,ys ++ xs⟩,c + 1) else none
     else none
    | .sl b st off len tip=>match h.get b with
     | some B =>
      if B.s = st ∧ B.var = false ∧ tip = true ∧ off = 0 ∧ len = B.es.length then
       if xs.isEmpty then some (s,h,c)
       else if (len + xs.length) * i.bytes ≤ roomB ∧ B.w = i.size ∧ B.T = e then
        some (.sl dst c 0 (len + xs.length) true,(h.erase b).set dst ⟨c,e,i.size,false,false,B.es ++ xs⟩,c + 1)
       else none
      else none
     | none=>none
    | _=>none
   else none
  | _,_=>none
 | _=>none
def elemsD (h : Hp) : V → Option (List V × Hp)
 | .sl b s off len _=>match h.get b with
  | some B=>if B.s = s ∧ B.var = true ∧ B.nl = false ∧ off + len ≤ B.es.length then some ((B.es.drop off).take len,h.erase b) else none
  | none=>none
 | _=>none
def evAppendD (T : TypeId → Option TI) (dst : Tmp) (t : TypeId) (s x : V) (h : Hp) (c : Nat) : Option (V × Hp × Nat) :=
 match T t with
 | some { desc:=.slice e,.. }=>match T e,elemsD h x with
  | some i,some (xs,h1) =>
   if xs.all (fun v=>v.cells.length == i.size && v.cells.all V.one) = true ∧ 0 < i.size ∧ 0 < i.bytes ∧ xs.isEmpty = false then
    match s with
    | .ps .nil [] =>
     if xs.length * i.bytes ≤ roomB then some (.sl dst c 0 xs.length true,h1.set dst ⟨c,e,i.size,true,false,xs⟩,c + 1) else none
    | .sl b st off len tip=>match h1.get b with
     | some B =>
      if B.s = st ∧ B.var = true ∧ B.nl = false ∧ tip = true ∧ off = 0 ∧ len = B.es.length ∧ (len + xs.length) * i.bytes ≤ roomB ∧ B.w = i.size ∧ B.T = e then
       some (.sl dst c 0 (len + xs.length) true,(h1.erase b).set dst ⟨c,e,i.size,true,false,B.es ++ xs⟩,c + 1)
      else none
     | none=>none
    | _=>none
   else none
  | _,_=>none
 | _=>none
def evAppend (T : TypeId → Option TI) (dst : Tmp) (t : TypeId) (s x : V) (h : Hp) (c : Nat) : Option (V × Hp × Nat) :=
 match evAppend0 T dst t s x h c with
 | some r=>some r
 | none=>evAppendD T dst t s x h c
def intOr (d : Int) : Option V → Option Int
 | none=>some d
 | some v=>asI v
def intOpt : Option V → Option (Option Int)
 | none=>some none
 | some v=>(asI v).map some
def exS (s : ByteArray) (l h : Nat) : ByteArray:=⟨⟨(s.data.toList.drop l).take (h - l)⟩⟩
theorem exS_eq (s : ByteArray) (l h : Nat) : exS s l h = s.extract l h:=by
 apply ByteArray.ext
 rw [ByteArray.data_extract]
 apply Array.ext'
 simp [exS,Array.toList_extract]
def evSlice (T : TypeId → Option TI) (h : Hp) (t : TypeId) (x : V) (lo hi mx : Option V) : Option V :=
 match T t with
 | some { desc:=.slice e,.. } =>
  match T e,lenV h x with
  | some i,some len =>
   match intOr 0 lo,intOr (len : Int) hi,intOpt mx with
   | some l,some hh,some m =>
    if 0 ≤ l ∧ l ≤ hh ∧ hh ≤ len ∧ (∀ q ∈ m,q = hh) then
     match x with
     | .ps c xs =>
      if xs.all (fun v=>v.cells.length == i.size) then
       (match c with
        | .nil=>some (.ps .nil [])
        | .opt | .fopt=>some (.ps (if m.isSome then .fopt else .opt) ((xs.drop l.toNat).take (hh.toNat - l.toNat)))
        | _=>some (.ps (if m.isSome then .full else .any) ((xs.drop l.toNat).take (hh.toNat - l.toNat))))
      else none
     | .sl b s off n tip=>match h.get b with
      | some B=>if B.s = s ∧ B.w = i.size then
        (if B.nl then none else if l = hh then some (.ps .any []) else some (.sl b s (off + l.toNat) (hh.toNat - l.toNat) (tip && m.isNone && l == 0 && off == 0)))
       else none
      | none=>none
     | _=>none
    else none
   | _,_,_=>none
  | _,_=>none
 | some { desc:=.string,.. } =>
  match x,mx with
  | .p (.string s),none =>
   match intOr 0 lo,intOr (s.size : Int) hi with
   | some l,some hh=>if 0 ≤ l ∧ l ≤ hh ∧ hh ≤ s.size then some (.p (.string (exS s l.toNat hh.toNat))) else none
   | _,_=>none
  | _,_=>none
 | _=>none
def u8Eqs : List UInt8 → List UInt8 → Bool
 | [],[]=>true
 | x :: r,y :: q=>bif Nat.beq x.toNat y.toNat then u8Eqs r q else false
 | _,_=>false
theorem u8Eqs_eq : ∀ (a b : List UInt8),u8Eqs a b = (a == b)
 | [],[]=>rfl
 | [],_ :: _=>rfl
 | _ :: _,[]=>rfl
 | x :: r,y :: q=>by
  have h : Nat.beq x.toNat y.toNat = (x == y):=by
   rw [Bool.eq_iff_iff]
   simp [UInt8.toNat_inj]
  simp only [u8Eqs,h,List.cons_beq_cons,u8Eqs_eq r q]
  cases (x == y) <;> rfl
def bytesEq (a b : ByteArray) : Bool:=u8Eqs a.data.toList b.data.toList
theorem bytesEq_eq (a b : ByteArray) : bytesEq a b = (a.toList == b.toList):=by
 rw [bytesEq,u8Eqs_eq,ByteArray.toList_eq,ByteArray.toList_eq]
def fastBin : BinOp → Value → Value → Option Value
 | .add,.int k a,.int k' b=>if k = k' then some (.int k (k.wrap (a + b))) else none
 | .sub,.int k a,.int k' b=>if k = k' then some (.int k (k.wrap (a - b))) else none
 | .mul,.int k a,.int k' b=>if k = k' then some (.int k (k.wrap (a * b))) else none
 | .quo,.int k a,.int k' b=>if k = k' ∧ b ≠ 0 then some (.int k (k.wrap (a.tdiv b))) else none
 | .rem,.int k a,.int k' b=>if k = k' ∧ b ≠ 0 then some (.int k (a.tmod b)) else none
 | .eql,.int k a,.int k' b=>if k = k' then some (.bool (a == b)) else none
 | .eql,.string a,.string b=>some (.bool (bytesEq a b))
 | .neq,.string a,.string b=>some (.bool (!bytesEq a b))
 | .neq,.int k a,.int k' b=>if k = k' then some (.bool (a != b)) else none
 | .lss,.int k a,.int k' b=>if k = k' then some (.bool (a < b)) else none
 | .leq,.int k a,.int k' b=>if k = k' then some (.bool (a ≤ b)) else none
 | .gtr,.int k a,.int k' b=>if k = k' then some (.bool (a > b)) else none
 | .geq,.int k a,.int k' b=>if k = k' then some (.bool (a ≥ b)) else none
 | _,_,_=>none
def isNilV (h : Hp) : V → Option Bool
 | .ps c _=>match c with
  | .nil=>some true
  | .opt | .fopt=>none
  | _=>some false
 | .sl b s _ _ _=>match h.get b with
  | some B=>if B.s = s ∧ B.nl = false then some false else none
  | none=>none
 | _=>none
def evBin (P : Program) (T : TypeId → Option TI) (h : Hp) (op : BinOp) (xt : TypeId) (x y : Operand) (va vb : V) : Option V :=
 match toVal va,toVal vb with
 | some a,some b=>match fastBin op a b with
  | some r=>some (.p r)
  | none=>(still P (do eqGuard op xt x y a b; binOp op xt a b)).map .p
 | _,_=>match T xt,vb,op,isNilV h va with
  | some { desc:=.slice _,.. },.ps .nil [],.eql,some b=>some (.p (.bool b))
  | some { desc:=.slice _,.. },.ps .nil [],.neq,some b=>some (.p (.bool !b))
  | _,_,_,_=>none
def evUn (P : Program) (op : UnOp) (v : V) : Option V :=
 match v with
 | .p x=>(still P (Op.unary op x)).map .p
 | _=>none
def bytesOf : List V → Option (List UInt8)
 | []=>some []
 | .p (.int .u8 n) :: r=>(bytesOf r).map (UInt8.ofNat n.toNat :: ·)
 | _ :: _=>none
def evConvert (P : Program) (T : TypeId → Option TI) (h : Hp) (src dst : TypeId) (v : V) : Option V :=
 match v with
 | .p x=>(still P (convert src dst x)).map .p
 | _=>match T src,T dst with
  | some { desc:=.slice e,.. },some { desc:=.string,.. }=>match T e,elems h v with
   | some { desc:=.int .u8,size:=1,.. },some xs=>(bytesOf xs).map fun l=>.p (.string ⟨l.toArray⟩)
   | _,_=>none
  | _,_=>none
def evLen (T : TypeId → Option TI) (h : Hp) (t : TypeId) (v : V) : Option V :=
 match T t with
 | some { desc:=.slice _,.. }=>match v with
  | .p _=>none
  | _=>(lenV h v).map fun (k : Nat)=>V.p (goInt (k : Int))
 | some { desc:=.string,.. }=>match v with
  | .p (.string s)=>some (.p (goInt s.size))
  | _=>none
 | some { desc:=.array n _,.. }=>some (.p (goInt n))
 | _=>none
def valueOf : Next → Option V
 | .value v=>some (.p v)
 | _=>none
def evBuiltin (P : Program) (b : Builtin) (argTypes : Array TypeId) (ty : TypeId) (consts : Array Bool) (vs : List V) : Option V :=
 match toVals vs with
 | some xs=>(still P (builtin b argTypes ty consts xs.toArray)).bind valueOf
 | none=>none
def evMake (T : TypeId → Option TI) (dst : Tmp) (t : TypeId) (l k : V) (h : Hp) (c : Nat) : Option (V × Hp × Nat) :=
 match T t with
 | some { desc:=.slice e,.. }=>match T e,asI l,asI k with
  | some i,some n,some q =>
   if 0 ≤ n ∧ n ≤ q ∧ 0 < i.bytes ∧ 0 < i.size ∧ q.toNat * i.bytes ≤ roomB then
    some (.sl dst c 0 n.toNat true,h.set dst ⟨c,e,i.size,false,false,List.replicate n.toNat i.zero⟩,c + 1)
   else none
  | _,_,_=>none
 | _=>none
def pur : Nat → V → Bool
 | 0,_=>false
 | n + 1,v=>match v with
  | .sl .. | .box ..=>false
  | .agg vs | .tup vs=>vs.all (pur n)
  | .fn _ zs bs=>zs.all (pur n) && bs.all (pur n)
  | _=>true
def setParts (sz : Nat) (es : List V) : List (Nat × V) → Option (List V)
 | []=>some es
 | (k,v) :: r=>if k < es.length ∧ v.cells.length = sz ∧ v.cells.all V.one = true then setParts sz (es.set k v) r else none
def evBuildSlice (T : TypeId → Option TI) (dst : Tmp) (draw : Bool) (t : TypeId) (len : Nat) (parts : List (Nat × V)) (h : Hp) (c : Nat) : Option (V × Hp × Nat) :=
 match T t with
 | some { desc:=.slice e,.. }=>match T e with
  | some i =>
   if len * i.size ≤ 2 ^ 24 ∧ 0 < i.size then
    if draw then
     if parts.all (fun x=>pur 4 x.2) then
      match setParts i.size (List.replicate len i.zero) parts with
      | some es=>some (.ps .full (es.map optV),h,c)
      | none=>none
     else match setParts i.size (List.replicate len i.zero) parts with
      | some es=>some (.sl dst c 0 len true,h.set dst ⟨c,e,i.size,true,false,es⟩,c + 1)
      | none=>none
    else match mapH (frz 4) h (parts.map (·.2)) with
     | some (vs,h1)=>match setParts i.size (List.replicate len i.zero) ((parts.map (·.1)).zip vs) with
      | some es=>some (.sl dst c 0 len true,h1.set dst ⟨c,e,i.size,false,false,es.map optV⟩,c + 1)
      | none=>none
     | none=>none
   else none
  | none=>none
 | _=>none
def over (es : List V) (off : Nat) (xs : List V) : List V:=es.take off ++ xs ++ es.drop (off + xs.length)
def evCopy (T : TypeId → Option TI) (t : TypeId) (dv xv : V) (h : Hp) (c : Nat) : Option (V × Hp × Nat) :=
 match T t with
 | some { desc:=.slice e,.. }=>match T e,dv,elems h xv with
  | some i,.sl b s off len _,some xs=>match h.get b with
   | some B =>
    if B.s = s ∧ B.var = false ∧ B.nl = false ∧ B.w = i.size ∧ off + len ≤ B.es.length ∧ xs.all (fun v=>v.cells.length == i.size && v.cells.all V.one) = true then
     some (.p (.int .i64 (min xs.length len : Nat)),h.set b { B with es:=over B.es off (xs.take (min xs.length len)) },c)
    else none
   | none=>none
  | _,_,_=>none
 | _=>none
def evClear (T : TypeId → Option TI) (t : TypeId) (xv : V) (h : Hp) (c : Nat) : Option (V × Hp × Nat) :=
 match T t with
 | some { desc:=.slice e,.. }=>match T e,xv with
  | some i,.sl b s off len _=>match h.get b with
   | some B =>
    if B.s = s ∧ B.var = false ∧ B.nl = false ∧ B.w = i.size ∧ off + len ≤ B.es.length ∧ 0 < i.size ∧ i.zero.cells.all V.one = true then
     some (.tup [],h.set b { B with es:=over B.es off (List.replicate len i.zero) },c)
    else none
   | none=>none
  | _,_=>none
 | _=>none
def evOperF (P : Program) (T : TypeId → Option TI) (draw : Bool) (ρ : Operand → V) (o : Oper) (h : Hp) (c : Nat) : Option (V × Hp × Nat) :=
 let pu (v : Option V) : Option (V × Hp × Nat):=v.map fun v=>(v,h,c)
 match o.op with
 | .move x | .assign x=>some (ρ x,h,c)
 | .pick k a b=>match ρ k with
  | .p (.bool true)=>some (ρ a,h,c)
  | .p (.bool false)=>some (ρ b,h,c)
  | _=>none
 | .alloc e=>match o.dst,T e with
  | some d,some i=>some (.box d c 0 0,h.set d ⟨c,e,i.size,true,false,[i.zero]⟩,c + 1)
  | _,_=>none
 | .box e x=>match o.dst with
  | some d=>if (ρ x).cells.all V.one = true then some (.box d c 0 0,h.set d ⟨c,e,(ρ x).cells.length,true,false,[ρ x]⟩,c + 1) else none
  | none=>none
 | .build t ps=>pu (evBuild T t (ps.toList.map fun x=>(x.1,ρ x.2)))
 | .buildSlice t len ps=>match o.dst with
  | some d=>evBuildSlice T d draw t len (ps.toList.map fun x=>(x.1,ρ x.2)) h c
  | none=>none
 | .load t a=>pu (evLoad T h t (ρ a))
 | .store t a x=>(evStore T h t (ρ a) (ρ x)).map fun h'=>(.p Go.undef,h',c)
 | .nilCheck x=>match ρ x with
  | .ref v off=>some (.ref v off,h,c)
  | .box b s i off=>if liveB h b s then some (.box b s i off,h,c) else none
  | _=>none
 | .binOp op xt x y _=>pu (evBin P T h op xt x y (ρ x) (ρ y))
 | .unOp op _ x=>pu (evUn P op (ρ x))
 | .convert src dst x=>pu (evConvert P T h src dst (ρ x))
 | .makeFunc (.func f) first cap=>some (.fn f (first.toList.map ρ) (cap.toList.map ρ),h,c)
 | .makeSlice t l k=>match o.dst with
  | some d=>evMake T d t (ρ l) (ρ k) h c
  | none=>none
 | .slice t x lo hi mx=>if mx.isSome && hi.isNone then none else pu (evSlice T h t (ρ x) (lo.map ρ) (hi.map ρ) (mx.map ρ))
 | .fieldAddr s x f=>pu (evFieldAddr T h s (ρ x) f)
 | .field s x f=>pu (evField T s (ρ x) f)
 | .indexAddr t x ix=>pu (evIndexAddr T h t (ρ x) (ρ ix))
 | .index t x ix=>pu (evIndex T t (ρ x) (ρ ix))
 | .extract x i=>match ρ x with
  | .tup vs=>pu vs[i]?
  | _=>none
 | .call { callee:=.builtin b,args,argTypes }=>match b with
  | .append=>match o.dst,args.toList,argTypes.toList with
   | some d,[s,x],[t1,t2]=>if t1 = t2 then evAppend T d t1 (ρ s) (ρ x) h c else none
   | _,_,_=>none
  | .len=>match args.toList,argTypes.toList with
   | [x],[t1]=>pu (evLen T h t1 (ρ x))
   | _,_=>none
  | .copy=>match args.toList,argTypes.toList with
   | [d,x],[t1,_]=>evCopy T t1 (ρ d) (ρ x) h c
   | _,_=>none
  | .clear=>match args.toList,argTypes.toList with
   | [x],[t1]=>evClear T t1 (ρ x) h c
   | _,_=>none
  | .max | .min | .complex | .real | .imag=>pu (evBuiltin P b argTypes o.type (args.map fun | .const _=>true | _=>false) (args.toList.map ρ))
  | _=>none
 | _=>none
def evOper (P : Program) (T : TypeId → Option TI) (draw : Bool) (t : List V) (o : Oper) (h : Hp) (c : Nat) : Option (V × Hp × Nat):=evOperF P T draw (evalO t) o h c
end Go.Mx
namespace Go.Mx
set_option linter.unusedVariables false
set_option linter.unusedSimpArgs false
section
variable {P : Program} {T : TypeId → Option TI} {w : World} {m : MM} {c : Nat} {bad : Nat → Prop}
theorem RepP.one {ok : Nat → Prop} {v : V} {x : Value} (h : RepP w ok v x) (h1 : v.one = true) : x.oneCell' = true:=by
 cases h <;> first | rfl | (simp [V.one] at h1; done) | exact h1
theorem Rep.one {v : V} {x : Value} (h : Rep bad w m c v x) (h1 : v.one = true) : x.oneCell' = true:=by
 cases h with
 | pure h=>exact h.one h1
 | agg=>simp [V.one] at h1
 | tup=>simp [V.one] at h1
 | fn=>rfl
 | box _ hx _=>exact hx
 | sl _ hx _=>exact hx
theorem cells_one {x : Value} (h : x.oneCell' = true) : x.cells = #[x]:=by
 cases x <;> first | rfl | simp [Value.oneCell'] at h
theorem one_of_cells {v : V} (h : v.cells.all V.one = true) (ha : v.isAgg = false) : v.one = true ∧ v.cells = [v]:=by
 cases v <;> simp_all [V.cells,V.isAgg,V.one]
theorem Rep.cells {v : V} {x : Value} (h : Rep bad w m c v x) (h1 : v.cells.all V.one = true) :
  x.cells.size = v.cells.length ∧ ∀ i (a : i < v.cells.length) (b : i < x.cells.size),Rep bad w m c v.cells[i] x.cells[i]:=by
 cases ha : v.isAgg
 ·obtain ⟨ho,hc⟩:=one_of_cells h1 ha
  have hx:=cells_one (h.one ho)
  refine ⟨by rw [hx,hc]; rfl,fun i a b=>?_⟩
  have hi : i = 0:=by rw [hc] at a; simpa using a
  subst hi
  have e1 : v.cells[0] = v:=by simp [hc]
  have e2 : x.cells[0] = x:=by simp [hx]
  rw [e1,e2]; exact h
 ·cases v <;> simp [V.isAgg] at ha
  cases h with
  | pure h=>cases h with
   | agg hl h=>exact ⟨hl.symm,fun i a b=>.pure (h i a b)⟩
  | agg hl h=>exact ⟨hl.symm,h⟩
theorem RepP.cells {ok : Nat → Prop} {v : V} {x : Value} (h : RepP w ok v x) (h1 : v.cells.all V.one = true) :
  x.cells.size = v.cells.length ∧ ∀ i (a : i < v.cells.length) (b : i < x.cells.size),RepP w ok v.cells[i] x.cells[i]:=by
 cases ha : v.isAgg
 ·obtain ⟨ho,hc⟩:=one_of_cells h1 ha
  have hx:=cells_one (h.one ho)
  refine ⟨by rw [hx,hc]; rfl,fun i a b=>?_⟩
  have hi : i = 0:=by rw [hc] at a; simpa using a
  subst hi
  have e1 : v.cells[0] = v:=by simp [hc]
  have e2 : x.cells[0] = x:=by simp [hx]
  rw [e1,e2]; exact h
 ·cases v <;> simp [V.isAgg] at ha
  cases h with
  | agg hl h=>exact ⟨hl.symm,h⟩
theorem repC0 (ok : Nat → Prop) (x : Value) : RepP w ok (ofC0 x) x:=by
 unfold ofC0; split
 ·exact .psNil (by simp)
 ·exact .p _
theorem repC (ok : Nat → Prop) (x : Value) : RepP w ok (ofC x) x:=by
 unfold ofC; split
 ·exact .psNil (by simp)
 ·exact .agg (by simp) fun i h1 h2=>by simpa using repC0 ok _
 ·exact .p _
def RepT (bad : Nat → Prop) (w : World) (m : MM) (c : Nat) (t : List V) (tmps : Array Value) : Prop :=
 t.length = tmps.size ∧ ∀ i,Rep bad w m c (t.getD i .undef) (tmps.getD i Go.undef)
theorem RepT.mono {w' : World} {m' : MM} {c' : Nat} (hle : Le w m c w' m' c') {t : List V} {tmps : Array Value} (h : RepT bad w m c t tmps) : RepT bad w' m' c' t tmps :=
 ⟨h.1,fun i=>(h.2 i).mono hle⟩
theorem RepT.eval {t : List V} {a : Act} (h : RepT bad w m c t a.tmps) (o : Operand) : Rep bad w m c (evalO t o) (a.eval o):=by
 cases o with
 | tmp k=>exact h.2 k
 | const v=>exact .pure (repC _ v)
 | global g=>exact .pure (.undef _)
 | func f=>exact .pure (.fn rfl rfl (fun i h=>by simp at h) (fun i h=>by simp at h))
theorem RepT.put {t : List V} {a : Act} (h : RepT bad w m c t a.tmps) {v : V} {x : Value} (hv : Rep bad w m c v x) (d : Option Tmp) :
  RepT bad w m c (match d with | some k=>t.set k v | none=>t) (a.put d x).tmps:=by
 cases d with
 | none=>exact h
 | some k =>
  refine ⟨by simp [Act.put,h.1],fun i=>?_⟩
  have h2:=h.2 i
  have hl : t.length = a.tmps.size:=h.1
  simp only [Act.put,List.getD_eq_getElem?_getD,List.getElem?_set,Array.getD_eq_getD_getElem?,Array.getElem?_setIfInBounds] at h2 ⊢
  by_cases hk : k = i
  ·subst hk
   by_cases hlt : k < a.tmps.size
   ·simp [hlt,hl]; exact hv
   ·have hge : t.length ≤ k:=by rw [hl]; exact Nat.le_of_not_lt hlt
    simpa [hl,hlt,Array.getElem?_eq_none (Nat.le_of_not_lt hlt),List.getElem?_eq_none hge] using h2
  ·simpa [hk] using h2
theorem rep_block {h : Hp} (hh : HeapRep bad h w m c) {b s : Nat} {B : Blk} (hg : h.get b = some B) (hs : B.s = s) (hn : B.nl = false) :
  ∃ l β cs,m b = some l ∧ l.s = s ∧ l.w = B.w ∧ l.T = B.T ∧ l.blk = some β ∧ w.heap[β]? = some (.cells cs B.T (0,0)) ∧ cs.size = l.n ∧ B.es.length * B.w ≤ l.n ∧
   (∀ i (h : i < B.es.length),B.es[i].cells.length = B.w) ∧
   ∀ i (h : i < B.es.length) j (h2 : j < B.es[i].cells.length),∃ x,cs[i * B.w + j]? = some x ∧ RepC bad B.var w m c B.es[i].cells[j] x:=by
 obtain ⟨l,hm,h1,h2,h3,_,h4⟩:=hh.get b B hg
 rcases h4 with ⟨hn',_⟩ | ⟨_,β,cs,h5⟩
 ·rw [hn] at hn'; cases hn'
 ·exact ⟨l,β,cs,hm,h1.trans hs,h2,h3,h5⟩
theorem rep_blockX {h : Hp} (hh : HeapRep bad h w m c) {b s : Nat} {B : Blk} (hg : h.get b = some B) (hs : B.s = s) (hx : ∀ l,m b = some l → l.s = s → l.blk ≠ none) :
  ∃ l β cs,m b = some l ∧ l.s = s ∧ l.w = B.w ∧ l.T = B.T ∧ l.blk = some β ∧ w.heap[β]? = some (.cells cs B.T (0,0)) ∧ cs.size = l.n ∧ B.es.length * B.w ≤ l.n ∧
   (∀ i (h : i < B.es.length),B.es[i].cells.length = B.w) ∧
   ∀ i (h : i < B.es.length) j (h2 : j < B.es[i].cells.length),∃ x,cs[i * B.w + j]? = some x ∧ RepC bad B.var w m c B.es[i].cells[j] x:=by
 obtain ⟨l,hm,h1,h2,h3,_,h4⟩:=hh.get b B hg
 rcases h4 with ⟨_,hn',_⟩ | ⟨_,β,cs,h5⟩
 ·exact absurd hn' (hx l hm (h1.trans hs))
 ·exact ⟨l,β,cs,hm,h1.trans hs,h2,h3,h5⟩
theorem box_blk {b s i off : Nat} {x : Value} (hr : Rep bad w m c (.box b s i off) x) : ∀ l,m b = some l → l.s = s → l.blk ≠ none:=by
 intro l hl hls
 cases hr with
 | pure hr=>cases hr
 | box _ _ h =>
  obtain ⟨β,h1,_⟩:=h l hl hls
  rw [h1]; simp
theorem sl_blk {b s off len : Nat} {tip : Bool} {x : Value} (hr : Rep bad w m c (.sl b s off len tip) x) (hn : len ≠ 0) : ∀ l,m b = some l → l.s = s → l.blk ≠ none:=by
 intro l hl hls
 cases hr with
 | pure hr=>cases hr
 | sl _ _ h =>
  rcases h l hl hls with ⟨_,_,h1,_⟩ | ⟨β,_,h1,_⟩
  ·exact absurd h1 hn
  ·rw [h1]; simp
theorem elemAt_sound {h : Hp} (hh : HeapRep bad h w m c) {pv : V} {x : Value} (hr : Rep bad w m c pv x) {e : V} {off : Nat} (he : elemAt h pv = some (e,off)) :
  ∃ (β o : Nat) (val : Nat → Value),x = .pointer (some ⟨β,o + off,none⟩) ∧ (∀ j,j < e.cells.length → w.cell? ⟨β,o + j,none⟩ = some (val j)) ∧ ∀ j (h : j < e.cells.length),Rep bad w m c e.cells[j] (val j):=by
 cases pv <;> simp only [elemAt] at he <;> try (cases he; done)
 case ref v f =>
  simp only [Option.some.injEq,Prod.mk.injEq] at he
  obtain ⟨rfl,rfl⟩:=he
  cases hr with
  | pure hr=>cases hr with
   | ref hβ hoff hc hr=>exact ⟨_,_,_,rfl,hc,fun j h=>.pure (hr j h)⟩
 case box b s i f =>
  split at he
  ·rename_i B hg
   split at he
   ·rename_i hcond
    have hs:=hcond
    obtain ⟨l,β,cs,hm,hls,hlw,_,hblk,hcs,hsz,hle,hwd,hall⟩:=rep_blockX hh hg hs (box_blk hr)
    cases hi : B.es[i]? with
    | none=>simp [hi] at he
    | some v =>
     simp [hi] at he
     obtain ⟨rfl,rfl⟩:=he
     obtain ⟨hlt,hv⟩:=List.getElem?_eq_some_iff.1 hi
     cases hr with
     | pure hr=>cases hr
     | box hs' hx hb =>
      obtain ⟨β',hb',rfl⟩:=hb l hm hls
      rw [hblk] at hb'; cases hb'
      refine ⟨β,i * B.w,fun j=>(cs[i * B.w + j]?).getD Go.undef,by rw [hlw],fun j hj=>?_,fun j hj=>?_⟩
      ·rw [cell_of_row w β _ cs _ _ hcs]
       obtain ⟨y,hy,_⟩:=hall i hlt j (by rw [hv]; exact hj)
       simp [hy]
      ·obtain ⟨y,hy,hr⟩:=hall i hlt j (by rw [hv]; exact hj)
       show Rep bad w m c v.cells[j] ((cs[i * B.w + j]?).getD Go.undef)
       rw [hy]
       subst hv
       exact hr.rep
   ·cases he
  ·cases he
theorem isAgg_run {t : TypeId} {d : TypeDesc} (h : P.underlying t = some d) (w : World) : (isAgg t).run P w = .ok (isAggD d) w:=by
 simp only [isAgg,Sem.run_bind,run_underlying h,Result.andThen_ok]
 cases d <;> rfl
theorem sizeOf_run {t : TypeId} {i : TypeInfo} (h : P.info? t = some i) (w : World) : (sizeOf t).run P w = .ok i.size w:=by
 simp [sizeOf,typeInfo,h]
theorem part_cells {i : TI} {cs : List V} {off : Nat} {v : V} (hp : partV i cs off = some v) (f : Nat → Value) (hr : ∀ j (h : j < cs.length),Rep bad w m c cs[j] (f j)) :
  (isAggD i.desc = true ∧ off + i.size ≤ cs.length ∧ Rep bad w m c v (.agg ((List.range i.size).map fun j=>f (off + j)).toArray)) ∨
  (isAggD i.desc = false ∧ off < cs.length ∧ Rep bad w m c v (f off)):=by
 unfold partV at hp
 split at hp
 ·rename_i ha
  split at hp
  ·rename_i hl
   cases hp
   refine .inl ⟨ha,hl,.agg (by simp; omega) fun j h1 h2=>?_⟩
   simp only [List.length_take,List.length_drop] at h1
   have : ((cs.drop off).take i.size)[j]'(by simp; omega) = cs[off + j]'(by omega):=by simp
   rw [this]
   simpa using hr (off + j) (by omega)
  ·cases hp
 ·rename_i ha
  obtain ⟨hlt,hv⟩:=List.getElem?_eq_some_iff.1 hp
  exact .inr ⟨by simpa using ha,hlt,hv ▸ hr off hlt⟩
theorem evLoad_sound (hT : TabOk P T) {h : Hp} (hh : HeapRep bad h w m c) {t : TypeId} {pv v : V} {x : Value} (hr : Rep bad w m c pv x) (he : evLoad T h t pv = some v) :
  ∃ y,(Instr.loadAt t x).run P w = .ok y w ∧ Rep bad w m c v y:=by
 unfold evLoad at he
 split at he
 ·rename_i i e off hTi hel
  obtain ⟨info,z,hi,hsz,_,hu,_⟩:=hT t i hTi
  obtain ⟨β,o,val,rfl,hc,hrep⟩:=elemAt_sound hh hr hel
  have hrun : ∀ n f,(∀ j,j < n → w.cell? ⟨β,o + off + j,none⟩ = some (f j)) → (loadCells ⟨β,o + off,none⟩ n).run P w = .ok ((List.range n).map f).toArray w:=fun n f hf =>
   run_loadCells w _ n f fun j hj=>by rw [Addr.add_lit]; exact hf j hj
  have agg : isAggD i.desc = true → off + i.size ≤ e.cells.length →
    (Instr.loadAt t (.pointer (some ⟨β,o + off,none⟩))).run P w = .ok (.agg ((List.range i.size).map fun j=>val (off + j)).toArray) w:=fun ha hle=>by
   have:=hrun i.size (fun j=>val (off + j)) fun j hj=>by rw [show o + off + j = o + (off + j) by omega]; exact hc _ (by omega)
   simp [Instr.loadAt,Instr.sureAddr,loadVar,isAgg_run hu,ha,sizeOf_run hi,hsz,this]
  split at he
  ·rename_i hcond
   obtain ⟨rfl,ha,hag,hl⟩:=hcond
   cases he
   refine ⟨_,agg ha (by omega),?_⟩
   cases v <;> simp [V.isAgg] at hag
   rename_i vs
   simp only [V.cells] at hl hrep
   exact .agg (by simp [hl]) fun j h1 h2=>by simpa using hrep j h1
  ·rcases part_cells he val hrep with ⟨ha,hle,hv⟩ | ⟨ha,hlt,hv⟩
   ·exact ⟨_,agg ha hle,hv⟩
   ·refine ⟨_,?_,hv⟩
    have:=hc off hlt
    simp [Instr.loadAt,Instr.sureAddr,loadVar,isAgg_run hu,ha,run_load,this]
 ·cases he
end
end Go.Mx
namespace Go.Mx
set_option linter.unusedVariables false
set_option linter.unusedSimpArgs false
section
variable {P : Program} {T : TypeId → Option TI} {w : World} {m : MM} {c : Nat} {bad : Nat → Prop}
theorem live_spec {h : Hp} (hh : HeapRep bad h w m c) {b s : Nat} (hl : liveB h b s = true) : ∃ l,m b = some l ∧ l.s = s:=by
 unfold liveB at hl
 split at hl
 ·rename_i B hg
  simp at hl
  obtain ⟨l,h1,h2,_⟩:=hh.get b B hg
  exact ⟨l,h1,h2.trans hl⟩
 ·cases hl
theorem rep_box {h : Hp} (hh : HeapRep bad h w m c) {b s i off : Nat} {x : Value} (hl : liveB h b s = true) (hr : Rep bad w m c (.box b s i off) x) :
  s < c ∧ ∃ l β,m b = some l ∧ l.s = s ∧ l.blk = some β ∧ x = .pointer (some ⟨β,i * l.w + off,none⟩):=by
 obtain ⟨l,h1,h2⟩:=live_spec hh hl
 cases hr with
 | pure hr=>cases hr
 | box hs hx hb =>
  obtain ⟨β',h4,h5⟩:=hb l h1 h2
  exact ⟨hs,l,β',h1,h2,h4,h5⟩
theorem mk_box {b s i off : Nat} {l : Loc} {β : Nat} (hs : s < c) (h1 : m b = some l) (h2 : l.s = s) (h3 : l.blk = some β) {a : Addr} (ha : a = ⟨β,i * l.w + off,none⟩) :
  Rep bad w m c (.box b s i off) (.pointer (some a)):=by
 subst ha
 refine .box hs rfl fun l' h4 _=>?_
 rw [h1] at h4; cases h4
 exact ⟨β,h3,rfl⟩
theorem evFieldAddr_sound (hT : TabOk P T) {h : Hp} (hh : HeapRep bad h w m c) {s : TypeId} {pv v : V} {f : Nat} {x : Value} (hr : Rep bad w m c pv x) (he : evFieldAddr T h s pv f = some v) :
  ∃ y,(Instr.fieldAt s x f).run P w = .ok y w ∧ Rep bad w m c v y:=by
 unfold evFieldAddr at he
 split at he
 ·rename_i _ _ fs _ hTs
  obtain ⟨_,_,_,_,_,hu,_⟩:=hT s _ hTs
  split at he
  ·rename_i fl hf
   split at he
   ·rename_i i hTi
    obtain ⟨info,z,hi,hsz,_⟩:=hT _ i hTi
    split at he
    ·cases he
    ·rename_i h0
     have hrun : ∀ β o,(Instr.fieldAt s (.pointer (some ⟨β,o,none⟩)) f).run P w = .ok (.pointer (some ⟨β,o + fl.offset,none⟩)) w:=by
      intro β o
      simp only [] at hu
      simp [Instr.fieldAt,run_underlying hu,hf,Instr.sureAddr,fieldPlace,sizeOf_run hi,hsz,h0,Addr.add_lit]
     split at he
     ·rename_i v0 off
      split at he
      ·rename_i hlt
       cases he
       cases hr with
       | pure hr=>cases hr with
        | ref hβ hoff hc hr =>
         refine ⟨_,hrun _ _,.pure ?_⟩
         rw [Nat.add_assoc]
         exact .ref hβ hlt hc hr
      ·cases he
     ·rename_i b st i' off
      split at he
      ·rename_i hl
       cases he
       obtain ⟨hs,l,β,h1,h2,h3,rfl⟩:=rep_box hh hl hr
       exact ⟨_,hrun _ _,mk_box hs h1 h2 h3 (by rw [Nat.add_assoc])⟩
      ·cases he
     ·cases he
   ·cases he
  ·cases he
 ·cases he
theorem asI_spec {ix : V} {n : Int} (h : asI ix = some n) : ∃ k,ix = .p (.int k n):=by
 unfold asI at h
 split at h
 ·cases h; exact ⟨_,rfl⟩
 ·cases h
theorem rep_p {x y : Value} (h : Rep bad w m c (.p x) y) : y = x:=by
 cases h with
 | pure h=>cases h; rfl
theorem evIndexAddr_sound (hT : TabOk P T) {h : Hp} (hh : HeapRep bad h w m c) {t : TypeId} {xv iv v : V} {x ix : Value} (hr : Rep bad w m c xv x) (hri : Rep bad w m c iv ix) (he : evIndexAddr T h t xv iv = some v) :
  ∃ y,(Instr.indexAt t x ix).run P w = .ok y w ∧ Rep bad w m c v y:=by
 unfold evIndexAddr at he
 split at he
 ·rename_i _ _ e _ n hTt hai
  obtain ⟨_,_,_,_,_,hu,_⟩:=hT t _ hTt
  simp only [] at hu
  obtain ⟨k,rfl⟩:=asI_spec hai
  obtain rfl:=rep_p hri
  split at he
  ·cases he
  ·rename_i hn
   split at he
   ·rename_i i c' xs hTe
    obtain ⟨info,z,hi,hsz,_⟩:=hT _ i hTe
    split at he
    ·rename_i v0 hx
     split at he
     ·rename_i hcond
      obtain ⟨hcl,hpos,hcn⟩:=hcond
      cases he
      obtain ⟨hlt,hv⟩:=List.getElem?_eq_some_iff.1 hx
      cases hr with
      | pure hr=>cases hr with
       | psNil=>simp at hx
       | ps hn' hcap hfull hβ hw hc hr hq =>
        rename_i β o k' cap q val
        obtain rfl : q = none:=by
         cases q with
         | none=>rfl
         | some z=>have:=hq (by simp); omega
        have hk : k' = i.size:=by rw [← hw n.toNat hlt,hv]; exact hcl
        subst hk
        have hlt' : n < (xs.length : Int):=by omega
        have hβ:=hβ (by intro h; rw [h] at hlt; simp at hlt)
        refine ⟨.pointer (some ⟨β,o + n.toNat * i.size,none⟩),?_,.pure ?_⟩
        ·simp [Instr.indexAt,asIntOf,run_underlying hu,sizeOf_run hi,hsz,show 0 ≤ n by omega,hlt',Addr.add_lit]
        ·have:=RepP.ref (w:=w) (ok:=okOf bad w m) (v:=v0) (off:=0) (β:=β) (o:=o + n.toNat * i.size) (val:=fun j=>val n.toNat j) hβ (by omega)
          (fun j hj=>hc n.toNat j hlt (by omega)) (fun j hj=>by subst hv; exact hr n.toNat hlt j hj)
         simpa using this
     ·cases he
    ·cases he
   ·rename_i i b s off len tip hTe
    obtain ⟨info,z,hi,hsz,_⟩:=hT _ i hTe
    split at he
    ·rename_i B hg
     split at he
     ·rename_i hcond
      obtain ⟨hs,hw,hlt⟩:=hcond
      cases he
      obtain ⟨l,β,cs,hm,hls,hlw,_,hblk,_⟩:=rep_blockX hh hg hs (sl_blk hr (by omega))
      cases hr with
      | pure hr=>cases hr
      | sl hs' hx hb =>
       rcases hb l hm hls with ⟨h0,_⟩ | ⟨β',cap,h1,rfl,h2,_⟩
       ·rw [hblk] at h0; cases h0
       ·rw [hblk] at h1; cases h1
        have hlt' : n < (len : Int):=by omega
        refine ⟨.pointer (some ⟨β,off * l.w + n.toNat * i.size,none⟩),?_,mk_box hs' hm hls hblk ?_⟩
        ·simp [Instr.indexAt,asIntOf,run_underlying hu,sizeOf_run hi,hsz,show 0 ≤ n by omega,hlt',Addr.add_lit]
        ·rw [hlw,hw,Nat.add_mul]; rfl
     ·cases he
    ·cases he
   ·cases he
 ·rename_i _ _ len e _ n hTt hai
  obtain ⟨_,_,_,_,_,hu,_⟩:=hT t _ hTt
  simp only [] at hu
  obtain ⟨k,rfl⟩:=asI_spec hai
  obtain rfl:=rep_p hri
  split at he
  ·cases he
  ·rename_i hn
   split at he
   ·rename_i hlt
    have hlt' : n < (len : Int):=by omega
    split at he
    ·rename_i i v0 off hTe
     obtain ⟨info,z,hi,hsz,_⟩:=hT _ i hTe
     split at he
     ·rename_i hoff
      cases he
      cases hr with
      | pure hr=>cases hr with
       | ref hβ ho hc hr =>
        rename_i β o val
        refine ⟨.pointer (some ⟨β,o + off + n.toNat * i.size,none⟩),?_,.pure ?_⟩
        ·simp [Instr.indexAt,asIntOf,run_underlying hu,sizeOf_run hi,hsz,show 0 ≤ n by omega,hlt',Addr.add_lit,Instr.sureAddr]
        ·rw [Nat.add_assoc]; exact .ref hβ hoff hc hr
     ·cases he
    ·rename_i i b s j off hTe
     obtain ⟨info,z,hi,hsz,_⟩:=hT _ i hTe
     split at he
     ·rename_i hl
      cases he
      obtain ⟨hs,l,β,h1,h2,h3,rfl⟩:=rep_box hh hl hr
      refine ⟨.pointer (some ⟨β,j * l.w + off + n.toNat * i.size,none⟩),?_,mk_box hs h1 h2 h3 (by rw [Nat.add_assoc])⟩
      simp [Instr.indexAt,asIntOf,run_underlying hu,sizeOf_run hi,hsz,show 0 ≤ n by omega,hlt',Addr.add_lit,Instr.sureAddr]
     ·cases he
    ·cases he
   ·cases he
 ·cases he
theorem part_run (hT : TabOk P T) {t : TypeId} {i : TI} (hTi : T t = some i) {vs : List V} {cs : Array Value} (hl : vs.length = cs.size) (hr : ∀ j (h1 : j < vs.length) (h2 : j < cs.size),Rep bad w m c vs[j] cs[j])
  {off : Nat} {v : V} (hp : partV i vs off = some v) : ∃ y,(part t cs off).run P w = .ok y w ∧ Rep bad w m c v y:=by
 obtain ⟨info,z,hi,hsz,_,hu,_⟩:=hT t i hTi
 unfold partV at hp
 split at hp
 ·rename_i ha
  split at hp
  ·rename_i hle
   cases hp
   refine ⟨.agg (cs.extract off (off + i.size)),by simp [part,isAgg_run hu,ha,sizeOf_run hi,hsz],.agg (by simp; omega) fun j h1 h2=>?_⟩
   simp only [List.length_take,List.length_drop] at h1
   have e1 : ((vs.drop off).take i.size)[j]'(by simp; omega) = vs[off + j]'(by omega):=by simp
   rw [e1]
   simpa using hr (off + j) (by omega) (by omega)
  ·cases hp
 ·rename_i ha
  obtain ⟨hlt,hv⟩:=List.getElem?_eq_some_iff.1 hp
  have hlt' : off < cs.size:=by omega
  refine ⟨cs[off],by simp [part,isAgg_run hu,ha,hlt'],hv ▸ hr off hlt hlt'⟩
theorem rep_agg {vs : List V} {x : Value} (h : Rep bad w m c (.agg vs) x) : ∃ cs,x = .agg cs ∧ vs.length = cs.size ∧ ∀ i (h1 : i < vs.length) (h2 : i < cs.size),Rep bad w m c vs[i] cs[i]:=by
 cases h with
 | pure h=>cases h with
  | agg hl h=>exact ⟨_,rfl,hl,fun i h1 h2=>.pure (h i h1 h2)⟩
 | agg hl h=>exact ⟨_,rfl,hl,h⟩
theorem rep_tup {vs : List V} {x : Value} (h : Rep bad w m c (.tup vs) x) : ∃ cs,x = .tuple cs ∧ vs.length = cs.size ∧ ∀ i (h1 : i < vs.length) (h2 : i < cs.size),Rep bad w m c vs[i] cs[i]:=by
 cases h with
 | pure h=>cases h with
  | tup hl h=>exact ⟨_,rfl,hl,fun i h1 h2=>.pure (h i h1 h2)⟩
 | tup hl h=>exact ⟨_,rfl,hl,h⟩
theorem evField_sound (hT : TabOk P T) {s : TypeId} {xv v : V} {f : Nat} {x : Value} (hr : Rep bad w m c xv x) (he : evField T s xv f = some v) :
  ∃ y,(Instr.field s x f).run P w = .ok y w ∧ Rep bad w m c v y:=by
 unfold evField at he
 split at he
 ·rename_i _ _ fs _ hTs
  obtain ⟨_,_,_,_,_,hu,_⟩:=hT s _ hTs
  simp only [] at hu
  split at he
  ·rename_i fl hf
   split at he
   ·rename_i i cs hTi
    obtain ⟨cs',rfl,hl,hr'⟩:=rep_agg hr
    obtain ⟨y,h1,h2⟩:=part_run hT hTi hl hr' he
    exact ⟨y,by simp [Instr.field,run_underlying hu,hf,asAgg,h1],h2⟩
   ·cases he
  ·cases he
 ·cases he
theorem evIndex_sound (hT : TabOk P T) {t : TypeId} {xv iv v : V} {x ix : Value} (hr : Rep bad w m c xv x) (hri : Rep bad w m c iv ix) (he : evIndex T t xv iv = some v) :
  ∃ y,(Instr.index t x ix).run P w = .ok y w ∧ Rep bad w m c v y:=by
 unfold evIndex at he
 split at he
 ·rename_i _ _ len e _ n hTt hai
  obtain ⟨_,_,_,_,_,hu,_⟩:=hT t _ hTt
  simp only [] at hu
  obtain ⟨k,rfl⟩:=asI_spec hai
  obtain rfl:=rep_p hri
  split at he
  ·cases he
  ·rename_i hn
   split at he
   ·rename_i hlt
    split at he
    ·rename_i i cs hTi
     obtain ⟨info,z,hi,hsz,_⟩:=hT _ i hTi
     obtain ⟨cs',rfl,hl,hr'⟩:=rep_agg hr
     obtain ⟨y,h1,h2⟩:=part_run hT hTi hl hr' he
     refine ⟨y,?_,h2⟩
     have hlt' : n < (len : Int):=by omega
     simp [Instr.index,asIntOf,run_underlying hu,show 0 ≤ n by omega,hlt',sizeOf_run hi,hsz,h1]
    ·cases he
   ·cases he
 ·rename_i _ _ _ n hTt hai
  obtain ⟨_,_,_,_,_,hu,_⟩:=hT t _ hTt
  simp only [] at hu
  obtain ⟨k,rfl⟩:=asI_spec hai
  obtain rfl:=rep_p hri
  split at he
  ·rename_i s
   obtain rfl:=rep_p hr
   split at he
   ·cases he
   ·rename_i hn
    split at he
    ·rename_i b hb
     cases he
     refine ⟨.int .u8 b.toNat,?_,.pure (.p _)⟩
     simp [Instr.index,asIntOf,run_underlying hu,show 0 ≤ n by omega,hb]
    ·cases he
  ·cases he
 ·cases he
end
end Go.Mx
namespace Go.Mx
set_option linter.unusedVariables false
set_option linter.unusedSimpArgs false
def upd (m : MM) (b : Nat) (l : Option Loc) : MM:=fun k=>if k = b then l else m k
section
variable {P : Program} {T : TypeId → Option TI} {w : World} {m : MM} {c : Nat} {bad : Nat → Prop}
theorem HeapRep.get_of {h : Hp} (hh : HeapRep bad h w m c) {b : Nat} {l : Loc} (hm : m b = some l) : ∃ B,h.get b = some B ∧ HoldsB bad w m c l B:=by
 cases hg : h.get b with
 | none=>rw [hh.non b hg] at hm; cases hm
 | some B =>
  obtain ⟨l',h1,h2⟩:=hh.get b B hg
  rw [hm] at h1; cases h1
  exact ⟨B,rfl,h2⟩
theorem HeapRep.blk_lt {h : Hp} (hh : HeapRep bad h w m c) {b : Nat} {l : Loc} {β : Nat} (hm : m b = some l) (hb : l.blk = some β) : β < w.heap.size:=by
 obtain ⟨B,_,_,_,_,_,h⟩:=hh.get_of hm
 rcases h with ⟨_,h,_⟩ | ⟨_,β',cs,h1,h2,_⟩
 ·rw [hb] at h; cases h
 ·rw [hb] at h1; cases h1
  exact (Array.getElem?_eq_some_iff.1 h2).1
theorem HoldsB.mono {w' : World} {m' : MM} {c' : Nat} {l : Loc} {B : Blk} (hle : Le w m c w' m' c') (h : HoldsB bad w m c l B) (hk : ∀ β,l.blk = some β → w'.heap[β]? = w.heap[β]?) : HoldsB bad w' m' c' l B:=by
 obtain ⟨h1,h2,h3,h4,h5⟩:=h
 refine ⟨h1,h2,h3,Nat.lt_of_lt_of_le h4 hle.hc,?_⟩
 rcases h5 with h5 | ⟨h5,β,cs,h6,h7,h8,h9,h10,h11⟩
 ·exact .inl h5
 ·refine .inr ⟨h5,β,cs,h6,by rw [hk β h6]; exact h7,h8,h9,h10,fun i hi j hj=>?_⟩
  obtain ⟨x,hx,hr⟩:=h11 i hi j hj
  exact ⟨x,hx,hr.mono hle⟩
theorem HeapRep.world {h : Hp} (hh : HeapRep bad h w m c) {w' : World} (hk : ∀ β,β < w.heap.size → w'.heap[β]? = w.heap[β]?) (hs : w.heap.size ≤ w'.heap.size) (ho : w'.os = w.os) (hp : w'.output = w.output) (ht : w'.tape = w.tape) :
  Le w m c w' m c ∧ HeapRep bad h w' m c:=by
 have hle : Le w m c w' m c:=⟨Nat.le_refl _,fun _ _ h _=>h,fun β hβ _=>hk β hβ,hs,ho,hp,ht,fun b l β h h'=>.inr ⟨b,l,h,h'⟩⟩
 refine ⟨hle,?_,hh.non,fun β hβ=>Nat.lt_of_lt_of_le (hh.lt β hβ) hs,hh.nb,hh.inj⟩
 intro b B hg
 obtain ⟨l,h1,h2⟩:=hh.get b B hg
 exact ⟨l,h1,h2.mono hle fun β hβ=>hk β (hh.blk_lt h1 hβ)⟩
theorem HeapRep.drew {h : Hp} (hh : HeapRep bad h w m c) : Le w m c w.drew m c ∧ HeapRep bad h w.drew m c :=
 hh.world (fun _ _=>rfl) (Nat.le_refl _) rfl rfl rfl
theorem HeapRep.erase {h : Hp} (hh : HeapRep bad h w m c) (b : Nat) : Le w m c w (upd m b none) c ∧ HeapRep bad (h.erase b) w (upd m b none) c:=by
 have sub : ∀ k l,upd m b none k = some l → m k = some l ∧ k ≠ b:=fun k l hk=>by
  unfold upd at hk; split at hk
  ·cases hk
  ·exact ⟨hk,by assumption⟩
 have hle : Le w m c w (upd m b none) c:=⟨Nat.le_refl _,fun k l h _=>(sub k l h).1,fun _ _ _=>rfl,Nat.le_refl _,rfl,rfl,rfl,fun k l β h h'=>.inr ⟨k,l,(sub k l h).1,h'⟩⟩
 refine ⟨hle,?_,?_,hh.lt,fun k l β h=>hh.nb k l β (sub k l h).1,fun k k' l l' β h h'=>hh.inj k k' l l' β (sub k l h).1 (sub k' l' h').1⟩
 ·intro k B hg
  rw [Hp.get_erase] at hg
  split at hg
  ·cases hg
  ·rename_i hne
   obtain ⟨l,h1,h2⟩:=hh.get k B hg
   exact ⟨l,by simp [upd,Ne.symm hne,h1],h2.mono hle fun _ _=>rfl⟩
 ·intro k hg
  rw [Hp.get_erase] at hg
  unfold upd
  split at hg
  ·rename_i e; simp [e]
  ·rename_i hne
   rw [if_neg (Ne.symm hne)]; exact hh.non k hg
theorem HeapRep.new {h : Hp} (hh : HeapRep bad h w m c) (d : Nat) {w' : World} (hk : ∀ β,β < w.heap.size → w'.heap[β]? = w.heap[β]?) (ho : w'.os = w.os) (hp : w'.output = w.output) (ht : w'.tape = w.tape)
  {β0 : Nat} (h0 : w.heap.size ≤ β0) {e : TypeId} {wd : Nat} {var : Bool} {es : List V} {cs : Array Value} (hc : w'.heap[β0]? = some (.cells cs e (0,0))) (hl : es.length * wd ≤ cs.size)
  (hw : ∀ i (h : i < es.length),es[i].cells.length = wd) (hr : ∀ i (h : i < es.length) j (h2 : j < es[i].cells.length),∃ x,cs[i * wd + j]? = some x ∧ RepC bad var w m c es[i].cells[j] x) :
  Le w m c w' (upd m d (some ⟨c,e,wd,cs.size,some β0⟩)) (c + 1) ∧ HeapRep bad (h.set d ⟨c,e,wd,var,false,es⟩) w' (upd m d (some ⟨c,e,wd,cs.size,some β0⟩)) (c + 1):=by
 have hs : w.heap.size ≤ w'.heap.size:=by
  have:=(Array.getElem?_eq_some_iff.1 hc).1
  omega
 have split' : ∀ k l,upd m d (some ⟨c,e,wd,cs.size,some β0⟩) k = some l → (k = d ∧ l = ⟨c,e,wd,cs.size,some β0⟩) ∨ (k ≠ d ∧ m k = some l):=fun k l hk=>by
  unfold upd at hk; split at hk
  ·exact .inl ⟨by assumption,by cases hk; rfl⟩
  ·exact .inr ⟨by assumption,hk⟩
 have hle : Le w m c w' (upd m d (some ⟨c,e,wd,cs.size,some β0⟩)) (c + 1):=by
  refine ⟨by omega,fun k l h hlt=>?_,fun β hβ _=>hk β hβ,hs,ho,hp,ht,fun k l β h h'=>?_⟩
  ·rcases split' k l h with ⟨_,rfl⟩ | ⟨_,h⟩
   ·simp at hlt
   ·exact h
  ·rcases split' k l h with ⟨_,rfl⟩ | ⟨_,h⟩
   ·cases h'; exact .inl h0
   ·exact .inr ⟨k,l,h,h'⟩
 refine ⟨hle,?_,?_,fun β hβ=>Nat.lt_of_lt_of_le (hh.lt β hβ) hs,fun k l β h h'=>?_,fun k k' l l' β h h' g g'=>?_⟩
 ·intro k B hg
  rw [Hp.get_set] at hg
  split at hg
  ·rename_i e'; subst e'; cases hg
   refine ⟨⟨c,e,wd,cs.size,some β0⟩,by simp [upd],rfl,rfl,rfl,by simp,.inr ⟨trivial,β0,cs,rfl,hc,rfl,hl,hw,fun i hi j hj=>?_⟩⟩
   obtain ⟨x,hx,hr'⟩:=hr i hi j hj
   exact ⟨x,hx,hr'.mono hle⟩
  ·rename_i hne
   obtain ⟨l,h1,h2⟩:=hh.get k B hg
   exact ⟨l,by simp [upd,Ne.symm hne,h1],h2.mono hle fun β hβ=>hk β (hh.blk_lt h1 hβ)⟩
 ·intro k hg
  rw [Hp.get_set] at hg
  split at hg
  ·cases hg
  ·rename_i hne
   unfold upd; rw [if_neg (Ne.symm hne)]; exact hh.non k hg
 ·rcases split' k l h with ⟨_,rfl⟩ | ⟨_,h⟩
  ·cases h'; intro hb; have:=hh.lt _ hb; omega
  ·exact hh.nb k l β h h'
 ·rcases split' k l h with ⟨e1,rfl⟩ | ⟨_,h⟩ <;> rcases split' k' l' h' with ⟨e2,rfl⟩ | ⟨_,h'⟩
  ·rw [e1,e2]
  ·cases g; have:=hh.blk_lt h' g'; omega
  ·cases g'; have:=hh.blk_lt h g; omega
  ·exact hh.inj k k' l l' β h h' g g'
theorem HeapRep.write {h : Hp} (hh : HeapRep bad h w m c) {b : Nat} {B : Blk} (hg : h.get b = some B) {l : Loc} {β : Nat} (hm : m b = some l) (hβ : l.blk = some β) {cs cs' : Array Value}
  (hcs : w.heap[β]? = some (.cells cs B.T (0,0))) (hsz : cs'.size = cs.size) {es : List V} (hl : es.length = B.es.length) (hw : ∀ i (h : i < es.length),es[i].cells.length = B.w)
  (hr : ∀ i (h : i < es.length) j (h2 : j < es[i].cells.length),∃ x,cs'[i * B.w + j]? = some x ∧ RepC bad B.var w m c es[i].cells[j] x) :
  Le w m c (w.setRow β cs') m c ∧ HeapRep bad (h.set b { B with es:=es }) (w.setRow β cs') m c:=by
 have hle : Le w m c (w.setRow β cs') m c:=⟨Nat.le_refl _,fun _ _ h _=>h,fun γ hγ hno=>setRow_other w β γ cs' (fun e=>hno b l hm (e ▸ hβ)),by simp,rfl,rfl,rfl,fun k l β h h'=>.inr ⟨k,l,h,h'⟩⟩
 refine ⟨hle,?_,?_,fun γ hγ=>by simpa using hh.lt γ hγ,hh.nb,hh.inj⟩
 ·intro k B' hk
  rw [Hp.get_set] at hk
  split at hk
  ·rename_i e; subst e; cases hk
   obtain ⟨l',h1,h2,h3,h4,h5,h6⟩:=hh.get b B hg
   rw [hm] at h1; cases h1
   refine ⟨l,hm,h2,h3,h4,h5,?_⟩
   rcases h6 with ⟨_,h6,_⟩ | ⟨h6,β',cs0,h7,h8,h9,h10,h11,h12⟩
   ·rw [hβ] at h6; cases h6
   ·rw [hβ] at h7; cases h7
    rw [hcs] at h8; cases h8
    refine .inr ⟨h6,β,cs',hβ,setRow_heap w β cs cs' _ _ hcs,by omega,by simp only [hl]; exact h10,hw,fun i hi j hj=>?_⟩
    obtain ⟨x,hx,hr'⟩:=hr i hi j hj
    exact ⟨x,hx,hr'.mono hle⟩
  ·rename_i hne
   obtain ⟨l',h1,h2⟩:=hh.get k B' hk
   exact ⟨l',h1,h2.mono hle fun γ hγ=>setRow_other w β γ cs' (fun e=>hne (hh.inj b k l l' β hm h1 hβ (e ▸ hγ)))⟩
 ·intro k hk
  rw [Hp.get_set] at hk
  split at hk
  ·cases hk
  ·exact hh.non k hk
theorem ofC_cells_rep (ok : Nat → Prop) (z : Value) : z.cells.size = (ofC z).cells.length ∧ ∀ j (h1 : j < (ofC z).cells.length) (h2 : j < z.cells.size),RepP w ok (ofC z).cells[j] z.cells[j]:=by
 unfold ofC
 split
 ·exact ⟨rfl,fun j h1 h2=>by
   have : j = 0:=by simpa [V.cells] using h1
   subst this; exact .psNil (by simp)⟩
 ·exact ⟨by simp [V.cells,Value.cells],fun j h1 h2=>by simpa [V.cells,Value.cells] using repC0 ok _⟩
 ·rename_i h1 h2
  have hz : z.cells = #[z]:=by
   cases z <;> first | rfl | exact absurd rfl (h2 _)
  exact ⟨by rw [hz]; rfl,fun j a b=>by
   have : j = 0:=by simpa [V.cells] using a
   subst this
   have : z.cells[0] = z:=by simp [hz]
   rw [this]; exact .p _⟩
theorem RepC.of_p {var : Bool} {v : V} {x : Value} (h : RepP w (okOf bad w m) v x) : RepC bad var w m c v x:=by
 cases var
 ·exact h
 ·exact .pure h
theorem alloc_old (w : World) (o : Obj) (β : Nat) (h : β < w.heap.size) : (w.alloc o).heap[β]? = w.heap[β]?:=by
 show (w.heap.push o)[β]? = _
 rw [Array.getElem?_push,if_neg (by omega)]
theorem evAlloc_sound (hT : TabOk P T) {h : Hp} (hh : HeapRep bad h w m c) {e : TypeId} {i : TI} (hTe : T e = some i) (d : Nat) :
  ∃ y w' m',(Instr.alloc e true (.tuple #[])).run P w = .ok y w' ∧ Rep bad w' m' (c + 1) (.box d c 0 0) y ∧ Le w m c w' m' (c + 1) ∧ HeapRep bad (h.set d ⟨c,e,i.size,true,false,[i.zero]⟩) w' m' (c + 1):=by
 obtain ⟨info,z,hi,hsz,_,hu,hz,hzv,hzs,_⟩:=hT e i hTe
 obtain ⟨hcl,hcr⟩:=ofC_cells_rep (w:=w) (okOf bad w m) z
 rw [← hzv] at hcl hcr
 have hnew:=hh.new d (w':=w.alloc (.cells z.cells e)) (fun β hβ=>alloc_old w _ β hβ) rfl rfl rfl (β0:=w.heap.size) (Nat.le_refl _) (e:=e) (wd:=i.size) (var:=true) (es:=[i.zero]) (cs:=z.cells)
  (by simpa using heap_alloc_new w (.cells z.cells e)) (by simp; omega) (fun k hk=>by
   have : k = 0:=by simpa using hk
   subst this; simp; omega) (fun k hk j hj=>by
   have : k = 0:=by simpa using hk
   subst this
   simp at hj
   refine ⟨z.cells[j]'(by omega),by simp [show j < z.cells.size by omega],RepC.of_p ?_⟩
   simpa using hcr j hj (by omega))
 refine ⟨.pointer (some ⟨w.heap.size,0,none⟩),_,_,by simp [Instr.alloc,zeroValue,typeInfo,hi,hz,newVar,newRow],?_,hnew.1,hnew.2⟩
 exact mk_box (c:=c + 1) (l:=⟨c,e,i.size,z.cells.size,some w.heap.size⟩) (β:=w.heap.size) (by simp) (by simp [upd]) rfl rfl (by simp)
theorem evBox_sound {h : Hp} (hh : HeapRep bad h w m c) {e : TypeId} {v : V} {x : Value} (hr : Rep bad w m c v x) (h1 : v.cells.all V.one = true) (d : Nat) :
  ∃ y w' m',(Instr.box e x).run P w = .ok y w' ∧ Rep bad w' m' (c + 1) (.box d c 0 0) y ∧ Le w m c w' m' (c + 1) ∧ HeapRep bad (h.set d ⟨c,e,v.cells.length,true,false,[v]⟩) w' m' (c + 1):=by
 obtain ⟨hcl,hcr⟩:=hr.cells h1
 have hnew:=hh.new d (w':=w.alloc (.cells x.cells e)) (fun β hβ=>alloc_old w _ β hβ) rfl rfl rfl (β0:=w.heap.size) (Nat.le_refl _) (e:=e) (wd:=v.cells.length) (var:=true) (es:=[v]) (cs:=x.cells)
  (by simpa using heap_alloc_new w (.cells x.cells e)) (by simp; omega) (fun k hk=>by
   have : k = 0:=by simpa using hk
   subst this; simp) (fun k hk j hj=>by
   have : k = 0:=by simpa using hk
   subst this
   simp at hj
   exact ⟨x.cells[j]'(by omega),by simp [show j < x.cells.size by omega],by simpa [RepC] using hcr j hj (by omega)⟩)
 refine ⟨.pointer (some ⟨w.heap.size,0,none⟩),_,_,by simp [Instr.box,newVar,newRow],?_,hnew.1,hnew.2⟩
 exact mk_box (c:=c + 1) (l:=⟨c,e,v.cells.length,x.cells.size,some w.heap.size⟩) (β:=w.heap.size) (by simp) (by simp [upd]) rfl rfl (by simp)
structure RepS (w : World) (ok : Nat → Prop) (xs : List V) (β o k : Nat) (val : Nat → Nat → Value) : Prop where
 hβ : ok β
 hw : ∀ i (h : i < xs.length),xs[i].cells.length = k
 hc : ∀ i j,i < xs.length → j < k → w.cell? ⟨β,o + i * k + j,none⟩ = some (val i j)
 hr : ∀ i (h : i < xs.length) j (h2 : j < xs[i].cells.length),RepP w ok (xs[i].cells[j]) (val i j)
theorem sub_list {xs : List V} {off len i : Nat} (h : off + len ≤ xs.length) (hi : i < ((xs.drop off).take len).length) : ∃ h',((xs.drop off).take len)[i] = xs[off + i]'h':=by
 simp only [List.length_take,List.length_drop] at hi
 exact ⟨by omega,by simp⟩
theorem frz_rowX {h : Hp} (hh : HeapRep bad h w m c) {b s off len : Nat} {tip : Bool} {x : Value} {B : Blk} (hg : h.get b = some B) (hs : B.s = s) (hv : B.var = false) (hn : ∀ l,m b = some l → l.s = s → l.blk ≠ none) (hle : off + len ≤ B.es.length)
  (hr : Rep bad w m c (.sl b s off len tip) x) : RepP w (okOf bad w (upd m b none)) (.ps .any ((B.es.drop off).take len)) x:=by
 obtain ⟨l,β,cs,hm,hls,hlw,hlT,hblk,hcs,hsz,hle',hwd,hall⟩:=rep_blockX hh hg hs hn
 have hlen : ((B.es.drop off).take len).length = len:=by simp; omega
 cases hr with
 | pure hr=>cases hr
 | sl hs' hx hb =>
  rcases hb l hm hls with ⟨h0,_⟩ | ⟨β',cap,h1,rfl,h2,_⟩
  ·rw [hblk] at h0; cases h0
  ·rw [hblk] at h1; cases h1
   have hok : okOf bad w (upd m b none) β:=by
    refine ⟨hh.blk_lt hm hblk,hh.nb b l β hm hblk,fun k l' hk hk'=>?_⟩
    unfold upd at hk
    split at hk
    ·cases hk
    ·rename_i hne; exact hne (hh.inj k b l' l β hk hm hk' hblk)
   have hmono : ∀ γ,okOf bad w m γ → okOf bad w (upd m b none) γ ∧ ∀ o,w.cell? ⟨γ,o,none⟩ = w.cell? ⟨γ,o,none⟩:=fun γ hγ=>⟨((hh.erase b).1.hok hγ).1,fun _=>rfl⟩
   have key:=RepP.ps (w:=w) (ok:=okOf bad w (upd m b none)) (c:=.any) (xs:=(B.es.drop off).take len) (β:=β) (o:=off * l.w) (k:=B.w) (cap:=cap) (val:=fun i j=>(cs[(off + i) * B.w + j]?).getD Go.undef)
    (by simp) (by omega) (by simp) (fun _=>hok) (fun i hi=>by
     obtain ⟨h',e⟩:=sub_list hle hi
     rw [e]; exact hwd _ _) (fun i j hi hj=>by
     obtain ⟨h',e⟩:=sub_list hle hi
     obtain ⟨y,hy,_⟩:=hall (off + i) h' j (by rw [hwd]; exact hj)
     rw [cell_of_row w β _ cs _ _ hcs,hlw,show off * B.w + i * B.w + j = (off + i) * B.w + j by rw [Nat.add_mul],hy]; rfl) (fun i hi j hj=>by
     obtain ⟨h',e⟩:=sub_list hle hi
     have hj' : j < B.es[off + i].cells.length:=by rw [← e]; exact hj
     obtain ⟨y,hy,hr'⟩:=hall (off + i) h' j hj'
     rw [hy]
     simp only [hv,RepC] at hr'
     have e2 : ((B.es.drop off).take len)[i].cells[j] = B.es[off + i].cells[j]:=by simp [e]
     rw [e2]
     exact RepP.mono hmono hr') (q:=none) (by simp)
   rw [hlen] at key
   exact key
theorem frz_row {h : Hp} (hh : HeapRep bad h w m c) {b s off len : Nat} {tip : Bool} {x : Value} {B : Blk} (hg : h.get b = some B) (hs : B.s = s) (hv : B.var = false) (hn : B.nl = false) (hle : off + len ≤ B.es.length)
  (hr : Rep bad w m c (.sl b s off len tip) x) : RepP w (okOf bad w (upd m b none)) (.ps .any ((B.es.drop off).take len)) x :=
 frz_rowX hh hg hs hv (fun l hl _=>by
  obtain ⟨l',β,cs,hm,_,_,_,hblk,_⟩:=rep_block hh hg hs hn
  rw [hm] at hl; cases hl; rw [hblk]; simp) hle hr
end
end Go.Mx
