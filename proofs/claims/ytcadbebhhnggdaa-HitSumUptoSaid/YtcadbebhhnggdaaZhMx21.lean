/-
  The executor over slots in chunks, with its proof.
-/
import Derived.Test.YtcadbebhhnggdaaZhDx9
import Derived.WalkKit
import Derived.OpenShut
import Derived.ShutString
import Derived.ChangeOld
import Derived.Below
import Derived.SizedLaws
import Derived.Test.YtcadbebhhnggdaaRows
import Derived.KernelRfl
import Derived.Laws.StructEq
import Derived.Test.YtcadbebhhnggdaaZhDx1
namespace Go.Mx
open Go.ChangeShapes Go.WideShapes Go.RowKit
set_option linter.unusedVariables false
theorem Le.below {w w' : World} {c c' : Nat} {m' : MM} (h : Le w noM c w' m' c') : Below w.heap.size w w' :=
 ⟨h.os,h.tape,h.output,h.size,fun k hk=>h.keep k hk fun b l hb=>by simp [noM] at hb⟩
def inW (W : World) (β : Nat) : Prop:=β < W.heap.size
def Opens (P : Program) (W : World) (t : TypeId) {α : Type} (f : α → V) (good : α → Prop) : Prop :=
 ∀ (H : Type) (enc : TypeId × Value → H) (fuel : Nat) (cs : List Value) (x : DataW H × List MemPlace),DataW.trod enc P W 0 (fun _=>true) true fuel t cs = some x →
  ∃ a,good a ∧ (f a).cells.length = cs.length ∧ ∀ i (h1 : i < (f a).cells.length) (h2 : i < cs.length),RepP W (inW W) (f a).cells[i] cs[i]
section
variable {P : Program} {W : World} {t e : TypeId} {α : Type} {f : α → V} {good : α → Prop}
theorem opens_int {k : IntKind} (ht : P.underlying t = some (.int k)) : Opens P W t (fun n=>.p (.int k n)) (fun n=>(Lit.int k n).wf = true):=by
 intro H enc fuel cs x h
 obtain ⟨n,rfl,_,hw⟩:=DataW.trod_int ht h
 refine ⟨n,hw,rfl,fun i h1 h2=>?_⟩
 have : i = 0:=by simpa [V.cells] using h1
 subst this
 exact .p _
theorem opens_slice {k : Nat} (ht : P.underlying t = some (.slice e)) (hk : P.cellsOf e = k) (h0 : 0 < k) (hf : ∀ a,(f a).cells.length = k) (ho : Opens P W e f good) :
  Opens P W t (fun l : List α=>.ps .opt (l.map f)) (fun l=>l.length ≤ maxLen ∧ ∀ a ∈ l,good a):=by
 intro H enc fuel cs x h
 rcases DataW.trod_slice ht h with ⟨rfl,_⟩ | ⟨a,len,cap,elems,rest,n,_,rfl,_,_,hl,hm,hlen,hel,hsp,_⟩
 ·refine ⟨[],⟨by simp,by simp⟩,rfl,fun i h1 h2=>?_⟩
  have : i = 0:=by simpa [V.cells] using h1
  subst this
  exact .psNil (by simp)
 ·rw [hk] at hel hsp
  obtain ⟨hrl,hr⟩:=hsp rfl
  obtain ⟨b,o,q⟩:=a

  have each : ∀ i,i < len → ∃ cs',W.cells? 0 ((⟨b,o,q⟩ : Addr).add (i * k)) k = some cs' ∧ ∃ y,DataW.trod enc P W 0 (fun _=>true) true n e cs' = some y:=fun i hi=>by
   have:=hel i hi
   rw [List.getElem?_eq_getElem (by omega),Option.bind_eq_some_iff] at this
   obtain ⟨cs',h1,h2⟩:=this
   exact ⟨cs',h1,_,h2⟩
  have spot : 0 < cap → q = none:=fun hc=>by
   have key : ∃ cs',W.cells? 0 ((⟨b,o,q⟩ : Addr).add (0 * k)) k = some cs':=by
    by_cases hz : 0 < len
    ·obtain ⟨cs',h1,_⟩:=each 0 hz
     exact ⟨cs',h1⟩
    ·have h1:=hr 0 (by omega)
     rw [List.getElem?_eq_getElem (by omega),Option.bind_eq_some_iff] at h1
     obtain ⟨cs',h1,_⟩:=h1
     have : len = 0:=by omega
     subst this
     exact ⟨cs',h1⟩
   obtain ⟨cs',h1⟩:=key
   obtain ⟨_,h2,h3⟩:=World.cells?_some h1
   have h4:=h3 0 h0
   rw [List.getElem?_eq_getElem (by omega)] at h4
   simpa [Addr.add] using World.cell?_spot h4
  have mk : ∀ m,m ≤ len → ∃ l : List α,l.length = m ∧ (∀ a ∈ l,good a) ∧ ∀ i (hi : i < l.length),∃ cs',W.cells? 0 ((⟨b,o,q⟩ : Addr).add (i * k)) k = some cs' ∧
    ∀ j (h1 : j < (f l[i]).cells.length) (h2 : j < cs'.length),RepP W (inW W) (f l[i]).cells[j] cs'[j]:=by
   intro m
   induction m with
   | zero=>exact fun _=>⟨[],rfl,by simp,fun i hi=>by simp at hi⟩
   | succ m ih =>
    intro hm'
    obtain ⟨l,hl1,hl2,hl3⟩:=ih (by omega)
    obtain ⟨cs',h1,y,h2⟩:=each m (by omega)
    obtain ⟨a,g1,g2,g3⟩:=ho H enc n cs' y h2
    refine ⟨l ++ [a],by simp [hl1],fun z hz=>?_,fun i hi=>?_⟩
    ·rcases List.mem_append.1 hz with hz | hz
     ·exact hl2 z hz
     ·obtain rfl:=List.mem_singleton.1 hz
      exact g1
    ·by_cases hi' : i < l.length
     ·obtain ⟨c1,c2,c3⟩:=hl3 i hi'
      refine ⟨c1,c2,?_⟩
      rw [List.getElem_append_left hi']
      exact c3
     ·have : i = m:=by simp at hi; omega
      subst this
      refine ⟨cs',h1,?_⟩
      have : (l ++ [a])[i] = a:=by simp [← hl1]
      rw [this]
      exact g3
  obtain ⟨l,hl1,hl2,hl3⟩:=mk len (Nat.le_refl _)
  refine ⟨l,⟨by rw [hl1]; omega,hl2⟩,rfl,fun i h1 h2=>?_⟩
  have : i = 0:=by simpa [V.cells] using h1
  subst this
  show RepP W (inW W) (.ps .opt (l.map f)) (.slice (some ⟨b,o,q⟩) len cap)
  have hlen' : (l.map f).length = len:=by simp [hl1]
  have cell : ∀ i j,i < l.length → j < k → ∃ y,W.cell? ⟨b,o + i * k + j,none⟩ = some y ∧ ∀ (h : i < l.length) (h2 : j < (f l[i]).cells.length),RepP W (inW W) (f l[i]).cells[j] y:=by
   intro i j hi hj
   obtain ⟨cs',c1,c2⟩:=hl3 i hi
   obtain ⟨_,c3,c4⟩:=World.cells?_some c1
   have hq : q = none:=spot (by omega)
   subst hq
   have c5:=c4 j hj
   rw [Addr.add_lit,Addr.add_lit,List.getElem?_eq_getElem (by omega)] at c5
   exact ⟨_,c5,fun h h2=>c2 j h2 (by omega)⟩
  have:=RepP.ps (w:=W) (ok:=inW W) (c:=.opt) (xs:=l.map f) (β:=b) (o:=o) (k:=k) (cap:=cap) (q:=q) (val:=fun i j=>(W.cell? ⟨b,o + i * k + j,none⟩).getD Go.undef)
   (by simp) (by omega) (by simp) (fun hne=>by
    have hp : 0 < l.length:=by cases l with
     | nil=>exact absurd rfl hne
     | cons _ _=>simp
    obtain ⟨y,hy,_⟩:=cell 0 0 hp h0
    unfold inW
    unfold World.cell? at hy
    simp only at hy
    rcases Nat.lt_or_ge b W.heap.size with h | h
    ·exact h
    ·rw [Array.getElem?_eq_none h] at hy; simp at hy)
   (fun i hi=>by simp [hf])
   (fun i j hi hj=>by
    obtain ⟨y,hy,_⟩:=cell i j (by simpa using hi) hj
    rw [hy]; rfl)
   (fun i hi j hj=>by
    obtain ⟨y,hy,hr⟩:=cell i j (by simpa using hi) (by rw [← hf (l[i]'(by simpa using hi))]; simpa using hj)
    rw [hy]
    have:=hr (by simpa using hi) (by simpa using hj)
    simpa using this)
   (fun hq=>by
    rcases Nat.eq_zero_or_pos cap with h | h
    ·exact h
    ·exact absurd (spot h) hq)
  rw [hlen'] at this
  exact this
theorem open_slice {H : Type} {enc : TypeId × Value → H} {r : Reach} {b0 : Nat} {v : Value} {d : DataW H} {ps : List MemPlace} {g : List α → V} (ht : P.underlying t = some (.slice e)) (hg : ∀ l,(g l).cells = [g l]) {good' : List α → Prop} (ho : Opens P W t g good')
  (hval : Value.okWide P W r b0 t v) (h : DataW.Trod enc P W 0 (fun _=>true) true t v d ps) : ∃ l,good' l ∧ RepP W (inW W) (g l) v:=by
 obtain ⟨a,len,cap,rfl⟩:=okWide_slice ht hval
 obtain ⟨fuel,hf⟩:=h
 obtain ⟨l,h1,h2,h3⟩:=ho H enc fuel _ _ hf
 refine ⟨l,h1,?_⟩
 have:=h3 0 (by rw [hg]; simp) (by simp [Value.cells])
 simpa [hg,Value.cells] using this
end
theorem calls_of_PT {P : Program} {g : FuncId} {vs : List V} {b : Bool} (h : PT P g vs (.p (.bool b))) (w : World) (xs : Array Value) (hl : vs.length = xs.size) (hr : ∀ i (h1 : i < vs.length) (h2 : i < xs.size),RepP w (inW w) vs[i] xs[i]) :
  Calls P g xs w fun e w'=>e = .returned (.bool b) ∧ Below w.heap.size w w':=by
 refine (h (fun _=>False) w xs (fun β h=>h.elim) hl (fun i h1 h2=>(hr i h1 h2).mono fun β hβ=>⟨⟨hβ,fun h=>h,fun b l hb=>by simp [noM] at hb⟩,fun _=>rfl⟩)).mono ?_
 rintro e w' ⟨x,rfl,hx,hle⟩
 exact ⟨by rw [repP_p hx],hle.below⟩
end Go.Mx
namespace Go.Su.Ytcadbebhhnggdaa
open Go.Mx Go.Proofs Go.Proofs.Ytcadbebhhnggdaa Go.ChangeShapes Go.WideShapes Go.RowKit
set_option linter.unusedVariables false
def okInt (k : IntKind) (n : Int) : Prop:=(Lit.int k n).wf = true
end Go.Su.Ytcadbebhhnggdaa
namespace Go.Mx
set_option linter.unusedVariables false
abbrev vi (x : Int) : V:=.p (.int .i64 x)
abbrev vb (x : Bool) : V:=.p (.bool x)
abbrev vz (x : Cx) : V:=.p (.complex .f64 x.re x.im)
abbrev c0 : Cx:=⟨0,0⟩
abbrev b0 : ByteArray:=ByteArray.empty
abbrev wr (x : Int) : Int:=IntKind.i64.wrap x
abbrev ln {α : Type} (l : List α) : Int:=(l.length : Int)
section
variable {P : Program} {T : TypeId → Option TI} {bad : Nat → Prop} {E : Ent} {N : Nat} {α : Type}
theorem Sg (hT : TabOk P T) {ops : Array Oper} {i : Nat} {s : SA} {Q : Exit → SA → Prop} (n : Nat) (ks : List Nat) (s' : SA) (h : WO P bad E N ops (i + n) s' Q) (hr : runK P T N ops i n ks s = some s':=by kernel_rfl) (hk : ks.all (Nat.blt · N) = true:=by kernel_rfl) : WO P bad E N ops i s Q :=
 WO_seg hT n ks s' hr hk h
theorem Sz (hT : TabOk P T) {ops : Array Oper} {i : Nat} {s : SA} {Q : Exit → SA → Prop} (n : Nat) (ks : List Nat) (s' : SA) (h : Q .normal s') (hr : runK P T N ops i n ks s = some s':=by kernel_rfl) (hk : ks.all (Nat.blt · N) = true:=by kernel_rfl) (hi : Nat.ble ops.size (i + n) = true:=by kernel_rfl) : WO P bad E N ops i s Q :=
 WO_seg hT n ks s' hr hk (WO_end hi h)
theorem Rg (hT : TabOk P T) {id : Nat} {ops : Array Oper} {s : SA} {Q : Exit → SA → Prop} (n : Nat) (ks : List Nat) (s' : SA) (h : WO P bad E N ops (0 + n) s' Q) (hr : runK P T N ops 0 n ks s = some s':=by kernel_rfl) (hk : ks.all (Nat.blt · N) = true:=by kernel_rfl) : WA P bad E N (.region id ops false) s Q :=
 WA_region (WO_seg hT n ks s' hr hk h)
theorem Rz (hT : TabOk P T) {id : Nat} {ops : Array Oper} {s : SA} {Q : Exit → SA → Prop} (n : Nat) (ks : List Nat) (s' : SA) (h : Q .normal s') (hr : runK P T N ops 0 n ks s = some s':=by kernel_rfl) (hk : ks.all (Nat.blt · N) = true:=by kernel_rfl) (hi : Nat.ble ops.size (0 + n) = true:=by kernel_rfl) : WA P bad E N (.region id ops false) s Q :=
 WA_region (WO_seg hT n ks s' hr hk (WO_end hi h))
theorem Qg (hT : TabOk P T) {id : Nat} {ops : Array Oper} {y : Code} {s : SA} {Q : Exit → SA → Prop} (n : Nat) (ks : List Nat) (s' : SA) (h : WO P bad E N ops (0 + n) s' (thenA (fun s'=>WA P bad E N y s' Q) Q)) (hr : runK P T N ops 0 n ks s = some s':=by kernel_rfl) (hk : ks.all (Nat.blt · N) = true:=by kernel_rfl) : WA P bad E N (.seq (.region id ops false) y) s Q :=
 WA_seq (Rg hT n ks s' h hr hk)
theorem Qz (hT : TabOk P T) {id : Nat} {ops : Array Oper} {y : Code} {s : SA} {Q : Exit → SA → Prop} (n : Nat) (ks : List Nat) (s' : SA) (h : WA P bad E N y s' Q) (hr : runK P T N ops 0 n ks s = some s':=by kernel_rfl) (hk : ks.all (Nat.blt · N) = true:=by kernel_rfl) (hi : Nat.ble ops.size (0 + n) = true:=by kernel_rfl) : WA P bad E N (.seq (.region id ops false) y) s Q :=
 WA_seq (Rz hT n ks s' h hr hk hi)
theorem weakKR {s s' : SA} (ks : List Nat) (L : List (Nat × Nat × Nat)) (hk : ks.all (Nat.blt · N) = true) (hA : trA s.h (lookE L) (keepA ks s.A) = some s'.A) (hB : moveH s.h (lookE L) [] L = some s'.h) (hc : renOk s.h E.c s'.c L = true) : Weak bad E N s s' :=
 (Weak_keepE ks _ rfl hk).trans (Weak_ren (s:=⟨keepA ks s.A,s.h,s.c⟩) L s' hA hB hc)
theorem oK {ops : Array Oper} {i : Nat} {s s' : SA} {Q : Exit → SA → Prop} (ks : List Nat) (L : List (Nat × Nat × Nat)) (h : Q .normal s') (hi : Nat.ble ops.size i = true:=by kernel_rfl) (hk : ks.all (Nat.blt · N) = true:=by kernel_rfl)
  (hA : trA s.h (lookE L) (keepA ks s.A) = some s'.A:=by kernel_rfl) (hB : moveH s.h (lookE L) [] L = some s'.h:=by kernel_rfl) (hc : renOk s.h E.c s'.c L = true:=by kernel_rfl) : WO P bad E N ops i s Q :=
 WO_weak (weakKR ks L hk hA hB hc) (WO_end hi h)
theorem sK {s s' : SA} {Q : Exit → SA → Prop} (ks : List Nat) (L : List (Nat × Nat × Nat)) (h : Q .normal s') (hk : ks.all (Nat.blt · N) = true:=by kernel_rfl)
  (hA : trA s.h (lookE L) (keepA ks s.A) = some s'.A:=by kernel_rfl) (hB : moveH s.h (lookE L) [] L = some s'.h:=by kernel_rfl) (hc : renOk s.h E.c s'.c L = true:=by kernel_rfl) : WA P bad E N .skip s Q :=
 WA_weak (weakKR ks L hk hA hB hc) (WA_skip h)
theorem rK {s : SA} {Q : Exit → SA → Prop} (ks : List Nat) (L : List (Nat × Nat × Nat)) (s' : SA) (h : Q .ret s') (hk : ks.all (Nat.blt · N) = true:=by kernel_rfl)
  (hA : trA s.h (lookE L) (keepA ks s.A) = some s'.A:=by kernel_rfl) (hB : moveH s.h (lookE L) [] L = some s'.h:=by kernel_rfl) (hc : renOk s.h E.c s'.c L = true:=by kernel_rfl) : WA P bad E N .ret s Q :=
 WA_weak (weakKR ks L hk hA hB hc) (WA_ret h)
theorem lK {x : Code} {s s' : SA} {Q : Exit → SA → Prop} (ks : List Nat) (L : List (Nat × Nat × Nat)) (I : Nat → SA → Prop) (n : Nat) (h0 : I n s') (hz : ∀ s',I 0 s' → False) (h : ∀ k s',I (k + 1) s' → WA P bad E N x s' (thenA (I k) Q)) (hk : ks.all (Nat.blt · N) = true:=by kernel_rfl)
  (hA : trA s.h (lookE L) (keepA ks s.A) = some s'.A:=by kernel_rfl) (hB : moveH s.h (lookE L) [] L = some s'.h:=by kernel_rfl) (hc : renOk s.h E.c s'.c L = true:=by kernel_rfl) : WA P bad E N (.loop x) s Q :=
 WA_weak (weakKR ks L hk hA hB hc) (WA_loop I n h0 hz h)
theorem lR {x : Code} {s s' : SA} {Q : Exit → SA → Prop} (L : List (Nat × Nat × Nat)) (I : Nat → SA → Prop) (n : Nat) (h0 : I n s') (hz : ∀ s',I 0 s' → False) (h : ∀ k s',I (k + 1) s' → WA P bad E N x s' (thenA (I k) Q))
  (hA : trA s.h (lookE L) s.A = some s'.A:=by kernel_rfl) (hB : moveH s.h (lookE L) [] L = some s'.h:=by kernel_rfl) (hc : renOk s.h E.c s'.c L = true:=by kernel_rfl) : WA P bad E N (.loop x) s Q :=
 WA_weak (Weak_ren L s' hA hB hc) (WA_loop I n h0 hz h)
theorem aW {code : Code} {s : SA} {Q : Exit → SA → Prop} (ks : List Nat) (s' : SA) (h : WA P bad E N code s' Q) (he : (⟨keepA ks s.A,s.h,s.c⟩ : SA) = s':=by kernel_rfl) (hk : ks.all (Nat.blt · N) = true:=by kernel_rfl) : WA P bad E N code s Q:=WA_weak (Weak_keepE ks s' he hk) h
theorem Pt {ops : Array Oper} {i : Nat} {s : SA} {Q : Exit → SA → Prop} {o : Oper} {cl : Call} {g : FuncId} {vs : List V} {r : V} (hen : Enters P g) (hc : PT P g vs r) (hk : WO P bad E N ops (i + 1) ⟨putA s.A o.dst r,s.h,s.c⟩ Q)
  (ho : ops[i]? = some o:=by rfl) (hop : o.op = .call cl:=by rfl) (hg : evGuardA s.A ops o = some true:=by kernel_rfl) (htg : evTargetA s.A cl = some (g,vs):=by kernel_rfl) (hpu : vs.all (pur 6) = true:=by kernel_rfl)
  (hd : okD N o.dst = true:=by kernel_rfl) : WO P bad E N ops i s Q :=
 WO_pt ho hg vs r hop htg hen hpu hc hd hk
theorem One (hT : TabOk P T) {ops : Array Oper} {i : Nat} {s : SA} {Q : Exit → SA → Prop} {o : Oper} (ho : ops[i]? = some o) {v : V} {h' : Hp} {c' : Nat} (he : evOperF P T false (evA s.A) o s.h s.c = some (v,h',c')) (hk : WO P bad E N ops (i + 1) ⟨putA s.A o.dst v,h',c'⟩ Q)
  (hg : evGuardA s.A ops o = some true:=by kernel_rfl) (hd : okD N o.dst = true:=by kernel_rfl) : WO P bad E N ops i s Q :=
 WO_one hT ho hg he hd hk
end
end Go.Mx
namespace Go.Mx
set_option linter.unusedVariables false
def cadd (a b : Cx) : Option Cx:=(FloatKind.f64.format.add a.re b.re).bind fun r=>(FloatKind.f64.format.add a.im b.im).bind fun i=>some ⟨r,i⟩
section
variable {P : Program} {T : TypeId → Option TI}
theorem ev_cadd {ρ : Operand → V} {dr : Bool} {h : Hp} {c : Nat} {d : Option Tmp} {t t' ty : TypeId} {pos : String} {af : Array Edge} {g : Option (Nat × Bool)} {x y : Operand} (a b : Cx) {r : Cx} (hr : cadd a b = some r) (hx : ρ x = vz a) (hy : ρ y = vz b) :
  evOperF P T dr ρ ⟨d,.binOp .add t x y t',ty,pos,af,g⟩ h c = some (vz r,h,c):=by
 unfold cadd at hr
 simp only [Option.bind_eq_some_iff] at hr
 obtain ⟨r1,h1,r2,h2,h3⟩:=hr
 cases h3
 have h4 : still P (do eqGuard .add t x y (.complex .f64 a.re a.im) (.complex .f64 b.re b.im); binOp .add t (.complex .f64 a.re a.im) (.complex .f64 b.re b.im) : Sem Value) = some (.complex .f64 r1 r2):=by
  have e1 : eqGuard .add t x y (.complex .f64 a.re a.im) (.complex .f64 b.re b.im) = pure ():=rfl
  have e2 : binOp .add t (.complex .f64 a.re a.im) (.complex .f64 b.re b.im) = pure (.complex .f64 r1 r2):=by
   show Op.complexOp .add .f64 a.re a.im b.re b.im = _
   simp [Op.complexOp,Op.Complex.arith,Op.floatArith,h1,h2]
  rw [e1,e2]; rfl
 simp only [evOperF,evBin,hx,hy,toVal,fastBin,h4,Option.map_some]
end
end Go.Mx
namespace Go.Mx
set_option linter.unusedVariables false
section
variable {P : Program} {T : TypeId → Option TI} {α : Type}
end
end Go.Mx
namespace Go.Mx
set_option linter.unusedVariables false
set_option linter.unusedSimpArgs false
inductive EC where
 | int (k : IntKind) (a b : Int)
 | bool (a b : Bool)
 | str (a b : ByteArray)
def EC.x : EC → Value
 | .int k a _=>.int k a
 | .bool a _=>.bool a
 | .str a _=>.string a
def EC.y : EC → Value
 | .int k _ b=>.int k b
 | .bool _ b=>.bool b
 | .str _ b=>.string b
def EC.b : EC → Bool
 | .int _ a b=>a == b
 | .bool a b=>a == b
 | .str a b=>bytesEq a b
def EC.fits : EC → TypeDesc → Bool
 | .int _ _ _,.int _=>true
 | .bool _ _,.bool=>true
 | .str _ _,.string=>true
 | _,_=>false
theorem still_bind {α β : Type} (P : Program) (s : Sem α) (k : α → Sem β) : still P (s >>= k) = (still P s).bind fun a=>still P (k a):=by
 show still P (Sem.bind s k) = _
 induction s with
 | pure a=>rfl
 | program f ih=>exact ih P
 | _=>rfl
theorem still_pure {α : Type} (P : Program) (a : α) : still P (pure a : Sem α) = some a:=rfl
theorem still_underlying {P : Program} {t : TypeId} {D : TypeDesc} (h : P.underlying t = some D) : still P (underlying t) = some D:=by
 simp only [underlying,still_bind]
 simp [program,still,h]
 rfl
section
variable {P : Program} {T : TypeId → Option TI}
theorem EC.eq (c : EC) {e : TypeId} {D : TypeDesc} (hu : P.underlying e = some D) (hf : c.fits D = true) (d : Nat) : still P (Op.equalIn (d + 1) e c.x c.y) = some c.b:=by
 cases c <;> cases D <;> simp [EC.fits] at hf <;> simp only [Op.equalIn,still_bind,still_underlying hu,Option.bind_some,EC.x,EC.y,EC.b,if_true,still_pure]
 rw [bytesEq_eq,beq_toListBytes]
variable {ρ : Operand → V} {dr : Bool} {h : Hp} {c : Nat} {d : Option Tmp} {t t' ty : TypeId} {pos : String} {af : Array Edge} {g : Option (Nat × Bool)} {x y : Operand}
end
end Go.Mx
namespace Go.Mx
set_option linter.unusedVariables false
section
variable {P : Program} {T : TypeId → Option TI} {bad : Nat → Prop} {E : Ent} {N : Nat}
variable {ops : Array Oper} {i : Nat} {A : List (Nat × V)} {h : Hp} {c : Nat}
theorem Sgd (hT : TabOk P T) {Q : Exit → SA → Prop} (n : Nat) (ks : List Nat) (dA : List (Nat × V)) (hq : WO P bad E N ops (i + n) ⟨keepA ks (dA ++ A),h,c⟩ Q)
  (hr : runK P T N ops i n ks ⟨A,h,c⟩ = some ⟨keepA ks (dA ++ A),h,c⟩:=by kernel_rfl) (hk : ks.all (Nat.blt · N) = true:=by kernel_rfl) : WO P bad E N ops i ⟨A,h,c⟩ Q:=WO_seg hT n ks _ hr hk hq
theorem Szd (hT : TabOk P T) {Q : Exit → SA → Prop} (n : Nat) (ks : List Nat) (dA : List (Nat × V)) (hq : Q .normal ⟨keepA ks (dA ++ A),h,c⟩)
  (hr : runK P T N ops i n ks ⟨A,h,c⟩ = some ⟨keepA ks (dA ++ A),h,c⟩:=by kernel_rfl) (hk : ks.all (Nat.blt · N) = true:=by kernel_rfl) (hi : Nat.ble ops.size (i + n) = true:=by kernel_rfl) : WO P bad E N ops i ⟨A,h,c⟩ Q:=Sz hT n ks _ hq hr hk hi
theorem Rgd (hT : TabOk P T) {id : Nat} {Q : Exit → SA → Prop} (n : Nat) (ks : List Nat) (dA : List (Nat × V)) (hq : WO P bad E N ops (0 + n) ⟨keepA ks (dA ++ A),h,c⟩ Q)
  (hr : runK P T N ops 0 n ks ⟨A,h,c⟩ = some ⟨keepA ks (dA ++ A),h,c⟩:=by kernel_rfl) (hk : ks.all (Nat.blt · N) = true:=by kernel_rfl) : WA P bad E N (.region id ops false) ⟨A,h,c⟩ Q:=Rg hT n ks _ hq hr hk
theorem Qgd (hT : TabOk P T) {id : Nat} {y : Code} {Q : Exit → SA → Prop} (n : Nat) (ks : List Nat) (dA : List (Nat × V)) (hq : WO P bad E N ops (0 + n) ⟨keepA ks (dA ++ A),h,c⟩ (thenA (fun s'=>WA P bad E N y s' Q) Q))
  (hr : runK P T N ops 0 n ks ⟨A,h,c⟩ = some ⟨keepA ks (dA ++ A),h,c⟩:=by kernel_rfl) (hk : ks.all (Nat.blt · N) = true:=by kernel_rfl) : WA P bad E N (.seq (.region id ops false) y) ⟨A,h,c⟩ Q:=Qg hT n ks _ hq hr hk
theorem Qzd (hT : TabOk P T) {id : Nat} {y : Code} {Q : Exit → SA → Prop} (n : Nat) (ks : List Nat) (dA : List (Nat × V)) (hq : WA P bad E N y ⟨keepA ks (dA ++ A),h,c⟩ Q)
  (hr : runK P T N ops 0 n ks ⟨A,h,c⟩ = some ⟨keepA ks (dA ++ A),h,c⟩:=by kernel_rfl) (hk : ks.all (Nat.blt · N) = true:=by kernel_rfl) (hi : Nat.ble ops.size (0 + n) = true:=by kernel_rfl) : WA P bad E N (.seq (.region id ops false) y) ⟨A,h,c⟩ Q:=Qz hT n ks _ hq hr hk hi
theorem Sgh (hT : TabOk P T) {Q : Exit → SA → Prop} (n : Nat) (ks : List Nat) (dA : List (Nat × V)) (h' : Hp) (c' : Nat) (hq : WO P bad E N ops (i + n) ⟨keepA ks (dA ++ A),h',c'⟩ Q)
  (hr : runK P T N ops i n ks ⟨A,h,c⟩ = some ⟨keepA ks (dA ++ A),h',c'⟩:=by kernel_rfl) (hk : ks.all (Nat.blt · N) = true:=by kernel_rfl) : WO P bad E N ops i ⟨A,h,c⟩ Q:=WO_seg hT n ks _ hr hk hq
theorem Szh (hT : TabOk P T) {Q : Exit → SA → Prop} (n : Nat) (ks : List Nat) (dA : List (Nat × V)) (h' : Hp) (c' : Nat) (hq : Q .normal ⟨keepA ks (dA ++ A),h',c'⟩)
  (hr : runK P T N ops i n ks ⟨A,h,c⟩ = some ⟨keepA ks (dA ++ A),h',c'⟩:=by kernel_rfl) (hk : ks.all (Nat.blt · N) = true:=by kernel_rfl) (hi : Nat.ble ops.size (i + n) = true:=by kernel_rfl) : WO P bad E N ops i ⟨A,h,c⟩ Q:=Sz hT n ks _ hq hr hk hi
variable {es rs : List (Nat × List Nat)} {Q : SA → Prop}
theorem Ds (n : Nat) (dA : List (Nat × V)) (dE dR : List (Nat × List Nat)) (hq : WD P T bad N ops (i + n) (es ++ dE) (rs ++ dR) ⟨dA ++ A,h,c⟩ Q) (hs : keysLt N A = true:=by kernel_rfl)
  (hr : runD P T N ops n i (ops.toList.drop i) ⟨A,h,c⟩ es rs = some (⟨dA ++ A,h,c⟩,es ++ dE,rs ++ dR):=by kernel_rfl) : WD P T bad N ops i es rs ⟨A,h,c⟩ Q:=WD_seg n _ _ _ hs hr hq
theorem Dh (n : Nat) (dA : List (Nat × V)) (h' : Hp) (c' : Nat) (dE dR : List (Nat × List Nat)) (hq : WD P T bad N ops (i + n) (es ++ dE) (rs ++ dR) ⟨dA ++ A,h',c'⟩ Q) (hs : keysLt N A = true:=by kernel_rfl)
  (hr : runD P T N ops n i (ops.toList.drop i) ⟨A,h,c⟩ es rs = some (⟨dA ++ A,h',c'⟩,es ++ dE,rs ++ dR):=by kernel_rfl) : WD P T bad N ops i es rs ⟨A,h,c⟩ Q:=WD_seg n _ _ _ hs hr hq
theorem Dt {d : Option Tmp} {v : V} (v' : V) (hq : WD P T bad N ops i es rs ⟨putA A d v',h,c⟩ Q) (hv : v = v':=by kernel_rfl) : WD P T bad N ops i es rs ⟨putA A d v,h,c⟩ Q:=by
 subst hv; exact hq
end
end Go.Mx
namespace Go.Mx
set_option linter.unusedVariables false
section
variable {P : Program} {T : TypeId → Option TI} {bad : Nat → Prop} {E : Ent} {N : Nat} {α : Type}
theorem WO_go' {ops : Array Oper} {i : Nat} {A : List (Nat × V)} {h0 : Hp} {c0 : Nat} {Q : Exit → SA → Prop} {o : Oper} (ho : ops[i]? = some o) (hgd : evGuardA A ops o = some true) {cl : Call} {g : FuncId} (hA hr : Hp) (vs vs' : List V) (E1 E2 : List (Nat × Nat × Nat)) (hB : Hp) (r r' : V) (c2 : Nat)
  (hop : o.op = .call cl) (htg : evTargetA A cl = some (g,vs)) (hen : Enters P g) (hvs : mapO (trV h0 (lookE E1) [] 5) vs = some vs') (hA' : moveH h0 (lookE E1) [] E1 = some hA)
  (hc1 : (E1.all (fun x=>Nat.beq x.2.2 0) && nodupB (E1.map (·.1)) && nodupB (E1.map fun x=>x.2.1) && nodupB (E2.map (·.1)) && nodupB (E2.map fun x=>x.2.1) && Nat.ble c0 c2) = true)
  (hg : GO P g hA vs' r hr) (hr' : trV hr (lookE E2) [] 5 r = some r') (hB' : moveH hr (lookE E2) [] E2 = some hB) (hE2 : E2.all (okE2 h0 hr E1 c0 c2) = true) (hd : okD N o.dst = true)
  (hk : WO P bad E N ops (i + 1) ⟨putA A o.dst r',hB ++ eraseAll h0 (E1.map (·.1)),c2⟩ Q) : WO P bad E N ops i ⟨A,h0,c0⟩ Q :=
 WO_go (s:=⟨A,h0,c0⟩) (ho:=ho) (hgd:=hgd) (hA:=hA) (hr:=hr) (vs:=vs) (vs':=vs') (E1:=E1) (E2:=E2) (hB:=hB) (r:=r) (r':=r') (c2:=c2) (hop:=hop) (htg:=htg) (hen:=hen) (hvs:=hvs) (hA':=hA') (hc1:=hc1) (hg:=hg) (hr':=hr') (hB':=hB') (hE2:=hE2) (hd:=hd) (hk:=hk)
theorem WO_append' (hT : TabOk P T) (σ : SE T α) {ops : Array Oper} {i : Nat} {A : List (Nat × V)} {h0 : Hp} {c0 : Nat} {Q : Exit → SA → Prop} {o : Oper} (hoi : ops[i]? = some o) (hgd : evGuardA A ops o = some true) {d : Nat} {ty : TypeId} {pos : String} {af : Array Edge} {g : Option (Nat × Bool)} {x y : Operand} (b st : Nat) (nl : Bool) (l l2 : List α)
  (ho : o = ⟨some d,.call ⟨.builtin .append,#[x,y],#[σ.t,σ.t]⟩,ty,pos,af,g⟩) (hx : evA A x = .sl b st 0 (σ.F l).length true) (hg : h0.get b = some ⟨st,σ.e,σ.sz,false,nl,σ.F l⟩) (hy : elems h0 (evA A y) = some (σ.F l2))
  (hroom : room σ.i1.bytes l.length l2.length = true) (hd : Nat.blt d N = true)
  (hk : WO P bad E N ops (i + 1) ⟨(d,.sl d c0 0 (σ.F (l ++ l2)).length true) :: A,(h0.erase b).set d ⟨c0,σ.e,σ.sz,false,true,σ.F (l ++ l2)⟩,c0 + 1⟩ Q) : WO P bad E N ops i ⟨A,h0,c0⟩ Q :=
 WO_append (s:=⟨A,h0,c0⟩) (hT:=hT) (σ:=σ) (hoi:=hoi) (hgd:=hgd) (b:=b) (st:=st) (nl:=nl) (l:=l) (l2:=l2) (ho:=ho) (hx:=hx) (hg:=hg) (hy:=hy) (hroom:=hroom) (hd:=hd) (hk:=hk)
theorem One' (hT : TabOk P T) {ops : Array Oper} {i : Nat} {A : List (Nat × V)} {h0 : Hp} {c0 : Nat} {Q : Exit → SA → Prop} {o : Oper} (ho : ops[i]? = some o) {v : V} {h' : Hp} {c' : Nat} (he : evOperF P T false (evA A) o h0 c0 = some (v,h',c')) (hk : WO P bad E N ops (i + 1) ⟨putA A o.dst v,h',c'⟩ Q)
  (hg : evGuardA A ops o = some true:=by kernel_rfl) (hd : okD N o.dst = true:=by kernel_rfl) : WO P bad E N ops i ⟨A,h0,c0⟩ Q :=
 One (s:=⟨A,h0,c0⟩) (hT:=hT) (ho:=ho) (he:=he) (hk:=hk) (hg:=hg) (hd:=hd)
theorem Pt' {ops : Array Oper} {i : Nat} {A : List (Nat × V)} {h0 : Hp} {c0 : Nat} {Q : Exit → SA → Prop} {o : Oper} {cl : Call} {g : FuncId} {vs : List V} {r : V} (hen : Enters P g) (hc : PT P g vs r) (hk : WO P bad E N ops (i + 1) ⟨putA A o.dst r,h0,c0⟩ Q)
  (ho : ops[i]? = some o:=by rfl) (hop : o.op = .call cl:=by rfl) (hg : evGuardA A ops o = some true:=by kernel_rfl) (htg : evTargetA A cl = some (g,vs):=by kernel_rfl) (hpu : vs.all (pur 6) = true:=by kernel_rfl)
  (hd : okD N o.dst = true:=by kernel_rfl) : WO P bad E N ops i ⟨A,h0,c0⟩ Q :=
 Pt (s:=⟨A,h0,c0⟩) (hen:=hen) (hc:=hc) (hk:=hk) (ho:=ho) (hop:=hop) (hg:=hg) (htg:=htg) (hpu:=hpu) (hd:=hd)
theorem WD_loc' {ops : Array Oper} {i : Nat} {es rs : List (Nat × List Nat)} {A : List (Nat × V)} {h0 : Hp} {c0 : Nat} {Q : SA → Prop} {o : Oper} (ho : ops[i]? = some o) (hs : keysLt N A = true) (hg : evGuardA A ops o = some true) (hl : localOp o.op = true) {v : V} {h' : Hp} {c' : Nat}
  (he : evOperF P T true (evA A) o h0 c0 = some (v,h',c')) (hd : okD N o.dst = true) (hk : WD P T bad N ops (i + 1) es (rs ++ entryL i (rdA A o.op)) ⟨putA A o.dst v,h0,c0⟩ Q) : WD P T bad N ops i es rs ⟨A,h0,c0⟩ Q :=
 WD_loc (s:=⟨A,h0,c0⟩) (ho:=ho) (hs:=hs) (hg:=hg) (hl:=hl) (he:=he) (hd:=hd) (hk:=hk)
theorem WD_pt' {ops : Array Oper} {i : Nat} {es rs : List (Nat × List Nat)} {A : List (Nat × V)} {h0 : Hp} {c0 : Nat} {Q : SA → Prop} {o : Oper} (ho : ops[i]? = some o) (hs : keysLt N A = true) (hg : evGuardA A ops o = some true) {cl : Call} {g : FuncId} (vs : List V) (r : V) (hop : o.op = .call cl) (htg : evTargetA A cl = some (g,vs)) (hen : Enters P g)
  (hpu : vs.all (pur 6) = true) (hc : PT P g vs r) (hd : okD N o.dst = true) (hk : WD P T bad N ops (i + 1) es rs ⟨putA A o.dst r,h0,c0⟩ Q) : WD P T bad N ops i es rs ⟨A,h0,c0⟩ Q :=
 WD_pt (s:=⟨A,h0,c0⟩) (ho:=ho) (hs:=hs) (hg:=hg) (vs:=vs) (r:=r) (hop:=hop) (htg:=htg) (hen:=hen) (hpu:=hpu) (hc:=hc) (hd:=hd) (hk:=hk)
end
end Go.Mx
namespace Go.Mx
set_option linter.unusedVariables false
section
variable {P : Program} {T : TypeId → Option TI} {bad : Nat → Prop} {E : Ent} {N : Nat} {α : Type}
theorem Og {ops : Array Oper} {i : Nat} {A : List (Nat × V)} {h0 : Hp} {c0 : Nat} {Q : Exit → SA → Prop} {o : Oper} {cl : Call} {g : FuncId} (hA hr : Hp) (vs vs' : List V) (E1 E2 : List (Nat × Nat × Nat)) (hB : Hp) (r r' : V) (c2 : Nat) (hen : Enters P g) (hg : GO P g hA vs' r hr) (hk : WO P bad E N ops (i + 1) ⟨putA A o.dst r',hB ++ eraseAll h0 (E1.map (·.1)),c2⟩ Q) (ho : ops[i]? = some o:=by exact rfl) (hgd : evGuardA A ops o = some true:=by kernel_rfl) (hop : o.op = .call cl:=by exact rfl) (htg : evTargetA A cl = some (g,vs):=by kernel_rfl) (hvs : mapO (trV h0 (lookE E1) [] 5) vs = some vs':=by kernel_rfl) (hA' : moveH h0 (lookE E1) [] E1 = some hA:=by kernel_rfl) (hc1 : (E1.all (fun x=>Nat.beq x.2.2 0) && nodupB (E1.map (·.1)) && nodupB (E1.map fun x=>x.2.1) && nodupB (E2.map (·.1)) && nodupB (E2.map fun x=>x.2.1) && Nat.ble c0 c2) = true:=by kernel_rfl) (hr' : trV hr (lookE E2) [] 5 r = some r':=by kernel_rfl) (hB' : moveH hr (lookE E2) [] E2 = some hB:=by kernel_rfl) (hE2 : E2.all (okE2 h0 hr E1 c0 c2) = true:=by kernel_rfl) (hd : okD N o.dst = true:=by kernel_rfl) : WO P bad E N ops i ⟨A,h0,c0⟩ Q:=WO_go' (ho:=ho) (hgd:=hgd) (hA:=hA) (hr:=hr) (vs:=vs) (vs':=vs') (E1:=E1) (E2:=E2) (hB:=hB) (r:=r) (r':=r') (c2:=c2) (hop:=hop) (htg:=htg) (hen:=hen) (hvs:=hvs) (hA':=hA') (hc1:=hc1) (hg:=hg) (hr':=hr') (hB':=hB') (hE2:=hE2) (hd:=hd) (hk:=hk)
theorem Oa (hT : TabOk P T) (σ : SE T α) {ops : Array Oper} {i : Nat} {A : List (Nat × V)} {h0 : Hp} {c0 : Nat} {Q : Exit → SA → Prop} {o : Oper} {d : Nat} {ty : TypeId} {pos : String} {af : Array Edge} {g : Option (Nat × Bool)} {x y : Operand} (b st : Nat) (nl : Bool) (l l2 : List α) (hy : elems h0 (evA A y) = some (σ.F l2)) (hroom : room σ.i1.bytes l.length l2.length = true) (hk : WO P bad E N ops (i + 1) ⟨(d,.sl d c0 0 (σ.F (l ++ l2)).length true) :: A,(h0.erase b).set d ⟨c0,σ.e,σ.sz,false,true,σ.F (l ++ l2)⟩,c0 + 1⟩ Q) (hoi : ops[i]? = some o:=by exact rfl) (hgd : evGuardA A ops o = some true:=by kernel_rfl) (ho : o = ⟨some d,.call ⟨.builtin .append,#[x,y],#[σ.t,σ.t]⟩,ty,pos,af,g⟩:=by exact rfl) (hx : evA A x = .sl b st 0 (σ.F l).length true:=by kernel_rfl) (hg : h0.get b = some ⟨st,σ.e,σ.sz,false,nl,σ.F l⟩:=by kernel_rfl) (hd : Nat.blt d N = true:=by kernel_rfl) : WO P bad E N ops i ⟨A,h0,c0⟩ Q:=WO_append' (hT:=hT) (σ:=σ) (hoi:=hoi) (hgd:=hgd) (b:=b) (st:=st) (nl:=nl) (l:=l) (l2:=l2) (ho:=ho) (hx:=hx) (hg:=hg) (hy:=hy) (hroom:=hroom) (hd:=hd) (hk:=hk)
theorem Dl {ops : Array Oper} {i : Nat} {es rs : List (Nat × List Nat)} {A : List (Nat × V)} {h0 : Hp} {c0 : Nat} {Q : SA → Prop} {o : Oper} (ho : ops[i]? = some o) {v : V} {h' : Hp} {c' : Nat} (he : evOperF P T true (evA A) o h0 c0 = some (v,h',c')) (hk : WD P T bad N ops (i + 1) es (rs ++ entryL i (rdA A o.op)) ⟨putA A o.dst v,h0,c0⟩ Q) (hs : keysLt N A = true:=by kernel_rfl) (hg : evGuardA A ops o = some true:=by kernel_rfl) (hl : localOp o.op = true:=by kernel_rfl) (hd : okD N o.dst = true:=by kernel_rfl) : WD P T bad N ops i es rs ⟨A,h0,c0⟩ Q:=WD_loc' (ho:=ho) (hs:=hs) (hg:=hg) (hl:=hl) (he:=he) (hd:=hd) (hk:=hk)
theorem Dp {ops : Array Oper} {i : Nat} {es rs : List (Nat × List Nat)} {A : List (Nat × V)} {h0 : Hp} {c0 : Nat} {Q : SA → Prop} {o : Oper} {cl : Call} {g : FuncId} (vs : List V) (r : V) (hen : Enters P g) (hc : PT P g vs r) (hk : WD P T bad N ops (i + 1) es rs ⟨putA A o.dst r,h0,c0⟩ Q) (ho : ops[i]? = some o:=by exact rfl) (hs : keysLt N A = true:=by kernel_rfl) (hg : evGuardA A ops o = some true:=by kernel_rfl) (hop : o.op = .call cl:=by exact rfl) (htg : evTargetA A cl = some (g,vs):=by kernel_rfl) (hpu : vs.all (pur 6) = true:=by kernel_rfl) (hd : okD N o.dst = true:=by kernel_rfl) : WD P T bad N ops i es rs ⟨A,h0,c0⟩ Q:=WD_pt' (ho:=ho) (hs:=hs) (hg:=hg) (vs:=vs) (r:=r) (hop:=hop) (htg:=htg) (hen:=hen) (hpu:=hpu) (hc:=hc) (hd:=hd) (hk:=hk)
theorem eO (σ : SE T α) {h : Hp} {v : V} (b s : Nat) (tip : Bool) (B : Blk) (l : List α) (hx : v = .sl b s 0 (σ.F l).length tip:=by kernel_rfl) (hg : h.get b = some B:=by kernel_rfl) (hs : B.s = s:=by exact rfl) (hv : B.var = false:=by exact rfl) (he : B.es = σ.F l:=by exact rfl) : elems h v = some (σ.F l):=elems_own (σ:=σ) (b:=b) (s:=s) (tip:=tip) (B:=B) (l:=l) (hx:=hx) (hg:=hg) (hs:=hs) (hv:=hv) (he:=he)
theorem v_index (σ : SE T α) {ρ : Operand → V} {dr : Bool} {h : Hp} {c : Nat} {d : Option Tmp} {ty : TypeId} {pos : String} {af : Array Edge} {g : Option (Nat × Bool)} {x ix : Operand} (k : SC) (l : List α) (kd : IntKind) (n : Int) {a : α} (ha : idx l n = some a) (hk : k ≠ .nil:=by decide) (hx : ρ x = .ps k (σ.F l):=by kernel_rfl) (hi : ρ ix = .p (.int kd n):=by kernel_rfl) :
  evOperF P T dr ρ ⟨d,.indexAddr σ.t x ix,ty,pos,af,g⟩ h c = some (.ref (σ.f a) 0,h,c):=ev_index (σ:=σ) (k:=k) (l:=l) (kd:=kd) (n:=n) (ha:=ha) (hk:=hk) (hx:=hx) (hi:=hi)
theorem v_len (σ : SE T α) {ρ : Operand → V} {dr : Bool} {h : Hp} {c : Nat} {d : Option Tmp} {ty : TypeId} {pos : String} {af : Array Edge} {g : Option (Nat × Bool)} {x : Operand} (k : SC) (l : List α) (hx : ρ x = .ps k (σ.F l):=by kernel_rfl) :
  evOperF P T dr ρ ⟨d,.call ⟨.builtin .len,#[x],#[σ.t]⟩,ty,pos,af,g⟩ h c = some (.p (.int .i64 l.length),h,c):=ev_len (σ:=σ) (k:=k) (l:=l) (hx:=hx)
end
section
variable {P : Program} {T : TypeId → Option TI} {bad : Nat → Prop} {E : Ent} {N : Nat}
theorem De {ops : Array Oper} {i : Nat} {es rs : List (Nat × List Nat)} {s : SA} {Q : SA → Prop} (h : Q s) (hi : Nat.ble ops.size i = true:=by kernel_rfl) (hc : (effPairs (closM ops.toList 0 []) es && wrPairs (closM ops.toList 0 []) rs es) = true:=by kernel_rfl) (hk : keysLt N s.A = true:=by kernel_rfl) : WD P T bad N ops i es rs s Q:=WD_end (hi:=hi) (hc:=hc) (hk:=hk) (h:=h)
theorem wOh {s : SA} (b0 b j : Nat) (B0 : Blk) (v0 v0' : V) (e : TypeId) (wd : Nat) (hg : s.h.get b0 = some B0:=by kernel_rfl) (hv : B0.var = true:=by kernel_rfl) (hes : B0.es = [v0]:=by kernel_rfl) (hj : v0.cells[j]? = some (.ps .nil []):=by kernel_rfl) (hc' : v0'.cells = v0.cells.set j (.sl b s.c 0 0 true):=by kernel_rfl) (hb : s.h.get b = none:=by kernel_rfl) (hc : Nat.ble E.c s.c = true:=by kernel_rfl) : Weak bad E N s ⟨s.A,(b,⟨s.c,e,wd,false,true,[]⟩) :: (b0,{ B0 with es:=[v0'] }) :: s.h.erase b0,s.c + 1⟩:=Weak_ownH (b0:=b0) (b:=b) (j:=j) (B0:=B0) (v0:=v0) (v0':=v0') (e:=e) (wd:=wd) (hg:=hg) (hv:=hv) (hes:=hes) (hj:=hj) (hc':=hc') (hb:=hb) (hc:=hc)
theorem wO {s : SA} (k b : Nat) (e : TypeId) (wd : Nat) (h : lkA s.A k = .ps .nil []:=by kernel_rfl) (hb : s.h.get b = none:=by kernel_rfl) (hk : Nat.blt k N = true:=by kernel_rfl) (hc : Nat.ble E.c s.c = true:=by kernel_rfl) :
  Weak bad E N s ⟨(k,.sl b s.c 0 0 true) :: s.A,(b,⟨s.c,e,wd,false,true,[]⟩) :: s.h,s.c + 1⟩:=Weak_own (k:=k) (b:=b) (e:=e) (wd:=wd) (h:=h) (hb:=hb) (hk:=hk) (hc:=hc)
theorem wF {s : SA} (b st : Nat) (B : Blk) (A' : List (Nat × V)) (h' : Hp) (hA : FzA b st B.es s.A A') (hH : FzH b st B.es (s.h.erase b) h') (hg : s.h.get b = some B:=by kernel_rfl) (hs : B.s = st:=by exact rfl) (hv : B.var = false:=by exact rfl) : Weak bad E N s ⟨A',h',s.c⟩:=Weak_frz (b:=b) (st:=st) (B:=B) (hg:=hg) (hs:=hs) (hv:=hv) (A':=A') (h':=h') (hA:=hA) (hH:=hH)
end
section
variable {P : Program} {bad : Nat → Prop} {E : Ent} {N : Nat}
theorem Ci {k : Operand} {x y : Code} {s : SA} {Q : Exit → SA → Prop} {β : Type} {X Y r : β} {b : Bool} (h : (bif b then X else Y) = r) (h1 : X = r → WA P bad E N x s Q) (h2 : Y = r → WA P bad E N y s Q) (hk : evA s.A k = .p (.bool b):=by kernel_rfl) : WA P bad E N (.cond k x y) s Q :=
 WA_cond b hk (fun hb=>h1 (ctrue hb h)) fun hb=>h2 (cfalse hb h)
end
abbrev cb (st t e : Nat) (v : V) : Blk:=⟨st,t,e,true,false,[v]⟩
abbrev rb {T : TypeId → Option TI} {α : Type} (st : Nat) (σ : SE T α) (l : List α) : Blk:=⟨st,σ.e,σ.sz,false,true,σ.F l⟩
abbrev po {T : TypeId → Option TI} {α : Type} (σ : SE T α) (l : List α) : V:=.ps .opt (σ.F l)
abbrev vs {T : TypeId → Option TI} {α : Type} (b st : Nat) (σ : SE T α) (l : List α) : V:=.sl b st 0 (σ.F l).length true
abbrev vn : V:=.ps .nil []
abbrev bx (b s : Nat) : V:=.box b s 0 0
end Go.Mx
namespace Go.Mx
set_option linter.unusedVariables false
set_option linter.unusedSimpArgs false
section
variable {P : Program} {T : TypeId → Option TI} {bad : Nat → Prop} {E : Ent} {N : Nat} {α : Type}
end
end Go.Mx
namespace Go.Mx
set_option linter.unusedVariables false
set_option linter.unusedSimpArgs false
section
variable {P : Program} {T : TypeId → Option TI} {bad : Nat → Prop} {E : Ent} {N : Nat} {α : Type}
end
end Go.Mx
namespace Go.Mx
set_option linter.unusedVariables false
set_option linter.unusedSimpArgs false
abbrev Ch:=List (List V)
def lkY (tt : Ch) (k : Nat) : Option V:=(tt.getD (Nat.div k 16) [])[Nat.mod k 16]?
def RelC (tt : Ch) (t : List V) : Prop:=∀ k,lkY tt k = t[k]?
def evalY (tt : Ch) : Operand → V
 | .tmp k=>(lkY tt k).getD .undef
 | .const v=>ofC v
 | .func f=>.fn f [] []
 | .global _=>.undef
theorem evalY_eq {tt : Ch} {t : List V} (h : RelC tt t) : evalY tt = evalO t:=by
 funext x
 cases x <;> simp only [evalY,evalO]
 rw [h,List.getD_eq_getElem?_getD]
def setC : Ch → Nat → Nat → V → Ch
 | [],_,_,_=>[]
 | c :: r,0,j,v=>c.set j v :: r
 | c :: r,i + 1,j,v=>c :: setC r i j v
theorem setC_getD : ∀ (tt : Ch) (i j : Nat) (v : V) (i' : Nat),(setC tt i j v).getD i' [] = if i = i' then (tt.getD i []).set j v else tt.getD i' []
 | [],i,j,v,i'=>by simp [setC]
 | c :: r,0,j,v,i'=>by
  cases i' with
  | zero=>simp [setC]
  | succ i'=>simp [setC]
 | c :: r,i + 1,j,v,i'=>by
  cases i' with
  | zero=>simp [setC]
  | succ i' =>
   have:=setC_getD r i j v i'
   simpa [setC] using this
theorem RelC.set {tt : Ch} {t : List V} (h : RelC tt t) (n : Nat) (v : V) : RelC (setC tt (Nat.div n 16) (Nat.mod n 16) v) (t.set n v):=by
 intro k
 have hk:=h k
 have hn:=h n
 have dn : Nat.div n 16 = n / 16:=rfl
 have mn : Nat.mod n 16 = n % 16:=rfl
 have dk : Nat.div k 16 = k / 16:=rfl
 have mk : Nat.mod k 16 = k % 16:=rfl
 unfold lkY at hk hn ⊢
 rw [dk,mk] at hk ⊢
 rw [dn,mn] at hn ⊢
 rw [setC_getD,List.getElem?_set]
 by_cases e : n / 16 = k / 16
 ·rw [if_pos e,List.getElem?_set]
  by_cases e2 : n % 16 = k % 16
  ·have : n = k:=by omega
   subst this
   simp only [if_true]
   by_cases h3 : n < t.length
   ·have h4 : n % 16 < (tt.getD (n / 16) []).length:=by
     rcases Nat.lt_or_ge (n % 16) (tt.getD (n / 16) []).length with h5 | h5
     ·exact h5
     ·rw [List.getElem?_eq_none h5,List.getElem?_eq_getElem h3] at hn; cases hn
    rw [if_pos h4,if_pos h3]
   ·have h4 : ¬ n % 16 < (tt.getD (n / 16) []).length:=by
     intro h5
     rw [List.getElem?_eq_getElem h5,List.getElem?_eq_none (by omega)] at hn; cases hn
    rw [if_neg h4,if_neg h3]
  ·rw [if_neg e2,e,hk,if_neg (by omega)]
 ·rw [if_neg e,hk,if_neg (by omega)]
def chunks : Nat → List V → Ch
 | 0,_=>[]
 | n + 1,t=>t.take 16 :: chunks n (t.drop 16)
theorem chunks_getD : ∀ (n : Nat) (t : List V) (i : Nat),t.length ≤ 16 * n → (chunks n t).getD i [] = (t.drop (16 * i)).take 16
 | 0,t,i,h=>by
  have : t = []:=List.length_eq_zero_iff.1 (by omega)
  subst this
  simp [chunks]
 | n + 1,t,0,h=>by simp [chunks]
 | n + 1,t,i + 1,h=>by
  have:=chunks_getD n (t.drop 16) i (by simp; omega)
  simp only [chunks,List.getD_cons_succ,this,List.drop_drop]
  rw [show 16 + 16 * i = 16 * (i + 1) by omega]
theorem RelC_chunks {t : List V} {n : Nat} (h : t.length ≤ 16 * n) : RelC (chunks n t) t:=by
 intro k
 have dk : Nat.div k 16 = k / 16:=rfl
 have mk : Nat.mod k 16 = k % 16:=rfl
 unfold lkY
 rw [dk,mk,chunks_getD n t _ h,List.getElem?_take,if_pos (Nat.mod_lt _ (by omega)),List.getElem?_drop]
 rw [show 16 * (k / 16) + k % 16 = k by omega]
section
universe u
variable {α : Type u}
def forceCh : Ch → (Ch → α) → α
 | [],k=>k []
 | c :: r,k=>forceL forceP c fun c=>forceCh r fun r=>k (c :: r)
theorem forceCh_eq : ∀ (t : Ch) (k : Ch → α),forceCh t k = k t
 | [],k=>rfl
 | c :: r,k=>by simp only [forceCh,forceL_eq forceP_eq,forceCh_eq r]
def putC : Ch → Nat → Nat → V → (Ch → α) → α
 | [],_,_,_,k=>k []
 | c :: r,0,j,v,k=>putF c j v fun c=>k (c :: r)
 | c :: r,i + 1,j,v,k=>putC r i j v fun r=>k (c :: r)
theorem putC_eq : ∀ (tt : Ch) (i j : Nat) (v : V) (k : Ch → α),putC tt i j v k = k (setC tt i j v)
 | [],_,_,_,k=>rfl
 | c :: r,0,j,v,k=>by simp only [putC,putF_eq,setC]
 | c :: r,i + 1,j,v,k=>by simp only [putC,putC_eq r,setC]
def putY (tt : Ch) (d : Option Tmp) (v : V) (k : Ch → α) : α :=
 match d with
 | some n=>putC tt (Nat.div n 16) (Nat.mod n 16) v k
 | none=>k tt
def setY (tt : Ch) (d : Option Tmp) (v : V) : Ch :=
 match d with
 | some n=>setC tt (Nat.div n 16) (Nat.mod n 16) v
 | none=>tt
theorem putY_eq (tt : Ch) (d : Option Tmp) (v : V) (k : Ch → α) : putY tt d v k = k (setY tt d v):=by
 cases d <;> simp only [putY,setY,putC_eq]
theorem RelC.put {tt : Ch} {t : List V} (h : RelC tt t) (d : Option Tmp) (v : V) : RelC (setY tt d v) (putT t d v):=by
 cases d with
 | none=>exact h
 | some n=>exact h.set n v
def withAllY (t : Ch) (d : Option Tmp) (v : V) (h : Hp) (c : Nat) (k : V → Ch → Hp → Nat → α) : α :=
 forceSh v fun v=>putY t d v fun t=>forceHd h fun h=>forceN c fun c=>k v t h c
theorem withAllY_eq (t : Ch) (d : Option Tmp) (v : V) (h : Hp) (c : Nat) (k : V → Ch → Hp → Nat → α) : withAllY t d v h c k = k v (setY t d v) h c:=by
 simp only [withAllY,forceSh_eq,putY_eq,forceHd_eq,forceN_eq]
def withCallY (t : Ch) (d : Option Tmp) (v : V) (h : Hp) (c : Nat) (k : V → Ch → Hp → Nat → α) : α :=
 forceV 5 v fun v=>putY t d v fun t=>forceH h fun h=>forceN c fun c=>k v t h c
theorem withCallY_eq (t : Ch) (d : Option Tmp) (v : V) (h : Hp) (c : Nat) (k : V → Ch → Hp → Nat → α) : withCallY t d v h c k = k v (setY t d v) h c:=by
 simp only [withCallY,forceV_eq,putY_eq,forceH_eq,forceN_eq]
def withVY (deep : Bool) (t : Ch) (d : Option Tmp) (v : V) (k : V → Ch → α) : α:=bif deep then forceV 5 v fun v=>putY t d v fun t=>k v t else forceSh v fun v=>putY t d v fun t=>k v t
theorem withVY_eq (deep : Bool) (t : Ch) (d : Option Tmp) (v : V) (k : V → Ch → α) : withVY deep t d v k = k v (setY t d v):=by
 cases deep <;> simp only [withVY,cond_true,cond_false,forceV_eq,forceSh_eq,putY_eq]
end
def puY (v : Option V) (h : Hp) (c : Nat) : Option (V × Hp × Nat):=v.map fun v=>(v,h,c)
def yPick (a : V) (b : V) (h : Hp) (c : Nat) : V → Option (V × Hp × Nat)
 | .p (.bool true)=>some (a,h,c)
 | .p (.bool false)=>some (b,h,c)
 | _=>none
def yAlloc (T : TypeId → Option TI) (e : TypeId) (h : Hp) (c : Nat) (o : Option Tmp) : Option (V × Hp × Nat):=match o,T e with
  | some d,some i=>some (.box d c 0 0,h.set d ⟨c,e,i.size,true,false,[i.zero]⟩,c + 1)
  | _,_=>none
def yBox (e : TypeId) (x : V) (h : Hp) (c : Nat) (o : Option Tmp) : Option (V × Hp × Nat):=match o with
  | some d=>if x.cells.all V.one = true then some (.box d c 0 0,h.set d ⟨c,e,x.cells.length,true,false,[x]⟩,c + 1) else none
  | none=>none
def yBuildSlice (T : TypeId → Option TI) (draw : Bool) (t : TypeId) (len : Nat) (ps : List (Nat × V)) (h : Hp) (c : Nat) (o : Option Tmp) : Option (V × Hp × Nat):=match o with
  | some d=>evBuildSlice T d draw t len ps h c
  | none=>none
def yStore (o : Option Hp) (c : Nat) : Option (V × Hp × Nat):=o.map fun h'=>(.p Go.undef,h',c)
def yNilCheck (h : Hp) (c : Nat) (x : V) : Option (V × Hp × Nat):=match x with
  | .ref v off=>some (.ref v off,h,c)
  | .box b s i off=>if liveB h b s then some (.box b s i off,h,c) else none
  | _=>none
def yMakeSlice (T : TypeId → Option TI) (t : TypeId) (l k : V) (h : Hp) (c : Nat) (o : Option Tmp) : Option (V × Hp × Nat):=match o with
  | some d=>evMake T d t l k h c
  | none=>none
def ySlice (T : TypeId → Option TI) (t : TypeId) (x : V) (lo hi mx : Option V) (h : Hp) (c : Nat) (no : Bool) : Option (V × Hp × Nat):=if no then none else puY (evSlice T h t x lo hi mx) h c
def yExtract (i : Nat) (h : Hp) (c : Nat) (x : V) : Option (V × Hp × Nat):=match x with
  | .tup vs=>puY vs[i]? h c
  | _=>none
def yAppend (T : TypeId → Option TI) (ρ : Operand → V) (h : Hp) (c : Nat) (o : Option Tmp) (a : List Operand) (ts : List TypeId) : Option (V × Hp × Nat):=match o,a,ts with
   | some d,[s,x],[t1,t2]=>if t1 = t2 then evAppend T d t1 (ρ s) (ρ x) h c else none
   | _,_,_=>none
def yLen (T : TypeId → Option TI) (ρ : Operand → V) (h : Hp) (c : Nat) (a : List Operand) (ts : List TypeId) : Option (V × Hp × Nat):=match a,ts with
   | [x],[t1]=>puY (evLen T h t1 (ρ x)) h c
   | _,_=>none
def yCopy (T : TypeId → Option TI) (ρ : Operand → V) (h : Hp) (c : Nat) (a : List Operand) (ts : List TypeId) : Option (V × Hp × Nat):=match a,ts with
   | [d,x],[t1,_]=>evCopy T t1 (ρ d) (ρ x) h c
   | _,_=>none
def yClear (T : TypeId → Option TI) (ρ : Operand → V) (h : Hp) (c : Nat) (a : List Operand) (ts : List TypeId) : Option (V × Hp × Nat):=match a,ts with
   | [x],[t1]=>evClear T t1 (ρ x) h c
   | _,_=>none
def yBuiltin (P : Program) (T : TypeId → Option TI) (ρ : Operand → V) (o : Option Tmp) (ty : TypeId) (args : Array Operand) (argTypes : Array TypeId) (h : Hp) (c : Nat) (b : Builtin) : Option (V × Hp × Nat):=match b with
  | .append=>yAppend T ρ h c o args.toList argTypes.toList
  | .len=>yLen T ρ h c args.toList argTypes.toList
  | .copy=>yCopy T ρ h c args.toList argTypes.toList
  | .clear=>yClear T ρ h c args.toList argTypes.toList
  | .max | .min | .complex | .real | .imag=>puY (evBuiltin P b argTypes ty (args.map fun | .const _=>true | _=>false) (args.toList.map ρ)) h c
  | _=>none
def partsY (ρ : Operand → V) : List (Nat × Operand) → List (Nat × V)
 | []=>[]
 | x :: r=>(x.1,ρ x.2) :: partsY ρ r
theorem partsY_eq (ρ : Operand → V) : ∀ l,partsY ρ l = l.map fun x=>(x.1,ρ x.2)
 | []=>rfl
 | x :: r=>by simp only [partsY,List.map_cons,partsY_eq ρ r]
def evOperY (P : Program) (T : TypeId → Option TI) (draw : Bool) (ρ : Operand → V) (dst : Option Tmp) (ty : TypeId) (h : Hp) (c : Nat) (op : Op) : Option (V × Hp × Nat) :=
 match op with
 | .move x | .assign x=>some (ρ x,h,c)
 | .pick k a b=>yPick (ρ a) (ρ b) h c (ρ k)
 | .alloc e=>yAlloc T e h c dst
 | .box e x=>yBox e (ρ x) h c dst
 | .build t ps=>puY (evBuild T t (partsY ρ ps.toList)) h c
 | .buildSlice t len ps=>yBuildSlice T draw t len (partsY ρ ps.toList) h c dst
 | .load t a=>puY (evLoad T h t (ρ a)) h c
 | .store t a x=>yStore (evStore T h t (ρ a) (ρ x)) c
 | .nilCheck x=>yNilCheck h c (ρ x)
 | .binOp op xt x y _=>puY (evBin P T h op xt x y (ρ x) (ρ y)) h c
 | .unOp op _ x=>puY (evUn P op (ρ x)) h c
 | .convert src d x=>puY (evConvert P T h src d (ρ x)) h c
 | .makeFunc (.func f) first cap=>some (.fn f (first.toList.map ρ) (cap.toList.map ρ),h,c)
 | .makeSlice t l k=>yMakeSlice T t (ρ l) (ρ k) h c dst
 | .slice t x lo hi mx=>ySlice T t (ρ x) (lo.map ρ) (hi.map ρ) (mx.map ρ) h c (mx.isSome && hi.isNone)
 | .fieldAddr s x f=>puY (evFieldAddr T h s (ρ x) f) h c
 | .field s x f=>puY (evField T s (ρ x) f) h c
 | .indexAddr t x ix=>puY (evIndexAddr T h t (ρ x) (ρ ix)) h c
 | .index t x ix=>puY (evIndex T t (ρ x) (ρ ix)) h c
 | .extract x i=>yExtract i h c (ρ x)
 | .call { callee:=.builtin b,args,argTypes }=>yBuiltin P T ρ dst ty args argTypes h c b
 | _=>none
theorem evOperY_eq (P : Program) (T : TypeId → Option TI) (draw : Bool) (t : List V) (o : Oper) (h : Hp) (c : Nat) : evOperY P T draw (evalO t) o.dst o.type h c o.op = evOper P T draw t o h c:=by
 obtain ⟨dst,op,ty,pos,after,guard⟩:=o
 cases op <;> simp only [evOperY,evOper,partsY_eq]
 case makeFunc fn first cap=>cases fn <;> rfl
 case call cl =>
  obtain ⟨callee,args,argTypes⟩:=cl
  cases callee <;> rfl
 all_goals rfl
end Go.Mx
namespace Go.Mx
set_option linter.unusedVariables false
set_option linter.unusedSimpArgs false
structure YS where
 t : Ch
 h : Hp
 c : Nat
def Rel (s : YS) (st : St) : Prop:=RelC s.t st.t ∧ st.h = s.h ∧ st.c = s.c
def guardV : Option V → Bool → Option Bool
 | some (.p (.bool b)),want=>some (b == want)
 | some (.p _),_=>some false
 | _,_=>none
def evGuardY (t : Ch) (ops : Array Oper) (g : Option (Nat × Bool)) : Option Bool :=
 match g with
 | none=>some true
 | some (j,want)=>match (ops[j]?).bind (·.dst) with
  | none=>some false
  | some d=>guardV (lkY t d) want
theorem evGuardY_eq {t : Ch} {l : List V} (h : RelC t l) (ops : Array Oper) (o : Oper) : evGuardY t ops o.guard = evGuard l ops o:=by
 unfold evGuardY evGuard
 cases o.guard with
 | none=>rfl
 | some x =>
  obtain ⟨j,want⟩:=x
  simp only []
  cases (ops[j]?).bind (·.dst) with
  | none=>rfl
  | some d =>
   have hd : lkY t d = l[d]?:=h d
   show guardV (lkY t d) want = _
   rw [hd]
   show _ = match l[d]? with
    | some (.p (.bool b))=>some (b == want)
    | some (.p _)=>some false
    | _=>none
   cases l[d]? with
   | none=>rfl
   | some v =>
    cases v <;> try rfl
    rename_i x
    cases x <;> rfl
def evTargetY (ρ : Operand → V) (f : Operand) (args : Array Operand) : Option (FuncId × List V) :=
 match ρ f with
 | .fn g first cap=>some (g,first ++ args.toList.map ρ ++ cap)
 | _=>none
theorem evTargetY_eq (l : List V) (f : Operand) (args : Array Operand) (at_ : Array TypeId) : evTargetY (evalO l) f args = evTarget l { callee:=.value f,args:=args,argTypes:=at_ }:=rfl
def rdOfY (ρ : Operand → V) (o : Op) : List Nat:=if consults o then o.operands.toList.flatMap fun x=>topIds (ρ x) else []
def wrOpY (ρ : Operand → V) (dst : Option Tmp) (h h' : Hp) : Op → List Nat
 | .store _ a _=>topIds (ρ a) ++ goneOf h h'
 | .call cl=>dst.toList ++ cl.args.toList.flatMap fun x=>topIds (ρ x)
 | _=>dst.toList
theorem wrOpY_eq (l : List V) (o : Oper) (h h' : Hp) : wrOpY (evalO l) o.dst h h' o.op = wrOp l o h h':=by
 obtain ⟨dst,op,ty,pos,after,guard⟩:=o
 cases op <;> rfl
abbrev YStp:=Bool × List Nat × List Nat
def Stp.y (s : Stp) : YStp:=(s.eff,s.wr,s.rd)
def effListY : List YStp → Nat → List (Nat × List Nat)
 | [],_=>[]
 | s :: r,j=>bif s.1 then (j,s.2.1) :: effListY r (Nat.succ j) else effListY r (Nat.succ j)
def rdListY : List YStp → Nat → List (Nat × List Nat)
 | [],_=>[]
 | s :: r,j=>match s.2.2 with
  | []=>rdListY r (Nat.succ j)
  | x :: y=>(j,x :: y) :: rdListY r (Nat.succ j)
theorem effListY_eq : ∀ (tr : List Stp) (k : Nat),effListY (tr.map Stp.y) k = effList tr k
 | [],_=>rfl
 | s :: r,k=>by simp only [List.map_cons,effListY,effList,Stp.y,effListY_eq r]
theorem rdListY_eq : ∀ (tr : List Stp) (k : Nat),rdListY (tr.map Stp.y) k = rdList tr k
 | [],_=>rfl
 | s :: r,k=>by
  simp only [List.map_cons,rdListY,rdList,Stp.y,rdListY_eq r]
  cases s.rd <;> rfl
def effsOkY (M : List (Nat × Nat)) (tr : List YStp) : Bool:=match effListY tr 0 with
 | []=>true
 | E=>effPairs M E && wrPairs M (rdListY tr 0) E
theorem effsOkY_eq (M : List (Nat × Nat)) (tr : List Stp) (h : effsOkY M (tr.map Stp.y) = true) : effsOk M tr = true:=by
 unfold effsOkY at h
 rw [effListY_eq,rdListY_eq] at h
 unfold effsOk
 split at h
 ·rename_i he
  rw [he]; rfl
 ·exact h
def yOps (P : Program) (T : TypeId → Option TI) (call : CallF) (ops : Array Oper) : List Oper → YS → Option YS
 | [],st=>some st
 | o :: r,st=>match evGuardY st.t ops o.guard with
  | some true=>match o.op with
   | .call { callee:=.value f,args,argTypes }=>match evTargetY (evalY st.t) f args with
    | some (g,vs)=>withL vs fun vs=>match call g vs st.h st.c (o.dst.getD 0) with
     | some (v,h',c',_)=>withCallY st.t o.dst v h' c' fun _ t' h' c'=>yOps P T call ops r ⟨t',h',c'⟩
     | none=>none
    | none=>none
   | op=>match evOperY P T false (evalY st.t) o.dst o.type st.h st.c op with
    | some (v,h',c')=>bif changesH op then withAllY st.t o.dst v h' c' fun _ t' h' c'=>yOps P T call ops r ⟨t',h',c'⟩ else withVY (deepOp op) st.t o.dst v fun _ t'=>yOps P T call ops r ⟨t',h',c'⟩
    | none=>none
  | some false=>withVY false st.t o.dst (.p Go.undef) fun _ t'=>yOps P T call ops r ⟨t',st.h,st.c⟩
  | none=>none
def yStp (P : Program) (T : TypeId → Option TI) (callP : CallP) (call : CallF) (ops : Array Oper) : List Oper → YS → Option (List YStp × YS)
 | [],st=>some ([],st)
 | o :: r,st=>match evGuardY st.t ops o.guard with
  | some true =>
   bif localOp o.op then match evOperY P T true (evalY st.t) o.dst o.type st.h st.c o.op with
    | some (v,_,_)=>withVY (deepOp o.op) st.t o.dst v fun v t'=>match yStp P T callP call ops r ⟨t',st.h,st.c⟩ with
     | some (tr,fin)=>some ((false,[],rdOfY (evalY st.t) o.op) :: tr,fin)
     | none=>none
    | none=>none
   else match o.op with
   | .call { callee:=.value f,args,argTypes }=>match evTargetY (evalY st.t) f args with
    | some (g,vs)=>withL vs fun vs=>match callP g vs with
     | some v=>withVY true st.t o.dst v fun v t'=>match yStp P T callP call ops r ⟨t',st.h,st.c⟩ with
      | some (tr,fin)=>some ((false,[],[]) :: tr,fin)
      | none=>none
     | none=>match call g vs st.h st.c (o.dst.getD 0) with
     | some (v,h',c',wr)=>withCallY st.t o.dst v h' c' fun v t' h' c'=>match yStp P T callP call ops r ⟨t',h',c'⟩ with
      | some (tr,fin)=>some ((true,wr,[]) :: tr,fin)
      | none=>none
     | none=>none
    | none=>none
   | op=>bif writesOp op then match evOperY P T true (evalY st.t) o.dst o.type st.h st.c op with
     | some (v,h',c')=>withAllY st.t o.dst v h' c' fun v t' h' c'=>match yStp P T callP call ops r ⟨t',h',c'⟩ with
      | some (tr,fin)=>some ((true,wrOpY (evalY st.t) o.dst st.h h' op,[]) :: tr,fin)
      | none=>none
     | none=>none
    else none
  | some false=>withVY false st.t o.dst (.p Go.undef) fun _ t'=>match yStp P T callP call ops r ⟨t',st.h,st.c⟩ with
   | some (tr,fin)=>some ((false,[],[]) :: tr,fin)
   | none=>none
  | none=>none
def yDraw (P : Program) (T : TypeId → Option TI) (callP : CallP) (call : CallF) (ops : Array Oper) (st : YS) : Option YS :=
 match yStp P T callP call ops ops.toList st with
 | some (tr,fin)=>bif namesOk ops && effsOkY (closM ops.toList 0 []) tr then some fin else none
 | none=>none
def yLoop (body : YS → Option (Exit × YS)) : Nat → YS → Option (Exit × YS)
 | 0,_=>none
 | n + 1,st=>match body st with
  | some (.normal,st')=>yLoop body n st'
  | r=>r
def condY (v : V) (a b : YS → Option (Exit × YS)) (st : YS) : Option (Exit × YS) :=
 match v with
 | .p (.bool true)=>a st
 | .p (.bool false)=>b st
 | _=>none
def blockY (id : Nat) : Option (Exit × YS) → Option (Exit × YS)
 | some (.exit id',st')=>bif Nat.beq id' id then some (.normal,st') else some (.exit id',st')
 | r=>r
def normY : Option YS → Option (Exit × YS)
 | some st'=>some (.normal,st')
 | none=>none
def thenY (b : YS → Option (Exit × YS)) : Option (Exit × YS) → Option (Exit × YS)
 | some (.normal,st')=>b st'
 | r=>r
def yCode (P : Program) (T : TypeId → Option TI) (callP : CallP) (call : CallF) (fuel : Nat) : Code → YS → Option (Exit × YS)
 | .skip,st=>some (.normal,st)
 | .label _,st=>some (.normal,st)
 | .seq a b,st=>thenY (yCode P T callP call fuel b) (yCode P T callP call fuel a st)
 | .cond k a b,st=>condY (evalY st.t k) (yCode P T callP call fuel a) (yCode P T callP call fuel b) st
 | .block id a,st=>blockY id (yCode P T callP call fuel a st)
 | .loop a,st=>yLoop (yCode P T callP call fuel a) fuel st
 | .exit id,st=>some (.exit id,st)
 | .ret,st=>some (.ret,st)
 | .region _ ops draw,st=>normY (bif draw then yDraw P T callP call ops st else yOps P T call ops ops.toList st)
 | _,_=>none
section
variable {P : Program} {T : TypeId → Option TI} {bad : Nat → Prop}
theorem Rel.put {s : YS} {st : St} (h : Rel s st) (d : Option Tmp) (v : V) (h' : Hp) (c' : Nat) : Rel ⟨setY s.t d v,h',c'⟩ ⟨putT st.t d v,h',c'⟩:=⟨h.1.put d v,rfl,rfl⟩
theorem yOps_sound (hT : TabOk P T) {call : CallF} (hcall : CallOk P call) {ops : Array Oper} : ∀ (r : List Oper) (i : Nat) (s : YS) (st : St) (s' : YS),Rel s st → ops.toList.drop i = r → yOps P T call ops r s = some s' →
  WOps P bad ops (List.range' i r.length) st (fun st'=>Rel s' st'):=by
 intro r
 induction r with
 | nil =>
  intro i s st s' hR _ he
  simp only [yOps,Option.some.injEq] at he
  subst he
  exact WOps_nil hR
 | cons o r ih =>
  intro i s st s' hR hd he
  obtain ⟨t,h,c⟩:=st
  obtain ⟨hR1,h2,h3⟩:=hR
  simp only at hR1 h2 h3
  subst h2 h3
  have ho : ops[i]? = some o:=by
   have : ops.toList[i]? = some o:=by
    have:=congrArg (fun l=>l[0]?) hd
    simpa using this
   simpa using this
  have hd' : ops.toList.drop (i + 1) = r:=by
   have:=congrArg (List.drop 1) hd
   simpa [List.drop_drop] using this
  rw [List.length_cons,List.range'_succ]
  simp only [yOps,withVY_eq,withAllY_eq,withCallY_eq,withL_eq,Bool.cond_self,evalY_eq hR1,evGuardY_eq hR1] at he
  have nx : ∀ d v h' c',Rel ⟨setY s.t d v,h',c'⟩ ⟨putT t d v,h',c'⟩:=fun d v h' c'=>⟨hR1.put d v,rfl,rfl⟩
  split at he
  ·rename_i hg
   split at he
   ·rename_i f args argTypes hop
    split at he
    ·rename_i g vs htg
     split at he
     ·rename_i v h' c' wr hc
      obtain ⟨h1,_,h2⟩:=hcall _ _ _ _ _ _ _ _ _ hc
      exact WOps_call ho hg hop (evTargetY_eq t f args argTypes ▸ htg) h1 (h2 bad) (ih (i + 1) _ _ _ (nx _ _ _ _) hd' he)
     ·cases he
    ·cases he
   ·split at he
    ·rename_i v h' c' hev
     rw [evOperY_eq] at hev
     exact WOps_op hT ho hg hev (ih (i + 1) _ _ _ (nx _ _ _ _) hd' he)
    ·cases he
  ·rename_i hg
   exact WOps_skip ho hg (ih (i + 1) _ _ _ (nx _ _ _ _) hd' he)
  ·cases he
theorem yStp_spec {callP : CallP} {call : CallF} (hcallP : CallPOk P callP) (hcall : CallOk P call) {ops : Array Oper} : ∀ (r : List Oper) (s : YS) (st : St) (ytr : List YStp) (yfin : YS),Rel s st → yStp P T callP call ops r s = some (ytr,yfin) →
  ∃ tr fin,tr.map Stp.y = ytr ∧ Rel yfin fin ∧ tr.map (·.o) = r ∧ (∀ s ∈ tr,s.Good P T bad ops) ∧ Chain fin tr st.t st.h st.c:=by
 intro r
 induction r with
 | nil =>
  intro s st ytr yfin hR he
  simp only [yStp,Option.some.injEq,Prod.mk.injEq] at he
  obtain ⟨rfl,rfl⟩:=he
  exact ⟨[],st,rfl,hR,rfl,fun s hs=>by simp at hs,rfl,rfl,rfl⟩
 | cons o r ih =>
  intro s st ytr yfin hR he
  obtain ⟨t,h,c⟩:=st
  obtain ⟨hR1,h2,h3⟩:=hR
  simp only at hR1 h2 h3
  subst h2 h3
  have nx : ∀ d v h' c',Rel ⟨setY s.t d v,h',c'⟩ ⟨putT t d v,h',c'⟩:=fun d v h' c'=>⟨hR1.put d v,rfl,rfl⟩
  have step : ∀ (q : Stp) (ytr' : List YStp) (s' : YS),q.o = o → q.t = t → q.h = s.h → q.c = s.c → q.Good P T bad ops → s' = ⟨setY s.t o.dst q.v,q.h',q.c'⟩ → yStp P T callP call ops r s' = some (ytr',yfin) → ytr = q.y :: ytr' →
    ∃ tr fin,tr.map Stp.y = ytr ∧ Rel yfin fin ∧ tr.map (·.o) = o :: r ∧ (∀ s ∈ tr,s.Good P T bad ops) ∧ Chain fin tr t s.h s.c:=by
   rintro q ytr' s' h1 h2 h3 h4 h5 rfl h6 rfl
   obtain ⟨tr,fin,i0,iR,i1,i2,i3⟩:=ih _ _ _ _ (nx o.dst q.v q.h' q.c') h6
   refine ⟨q :: tr,fin,by simp [i0],iR,by simp [h1,i1],fun s' hs'=>?_,h2,h3,h4,by rw [h1]; exact i3⟩
   rcases List.mem_cons.1 hs' with rfl | hs'
   ·exact h5
   ·exact i2 s' hs'
  simp only [yStp,withVY_eq,withAllY_eq,withCallY_eq,withL_eq,evalY_eq hR1,evGuardY_eq hR1] at he
  split at he
  ·rename_i hg
   cases hloc : localOp o.op with
   | true =>
    rw [hloc] at he
    simp only [cond_true] at he
    split at he
    ·rename_i v h' c' hev
     split at he
     ·rename_i tr' fin' hr
      simp only [Option.some.injEq,Prod.mk.injEq] at he
      obtain ⟨rfl,rfl⟩:=he
      rw [evOperY_eq] at hev
      obtain ⟨e1,e2,_⟩:=evOper_local (h2:=s.h) (c2:=s.c) hloc hev (fun _ _=>rfl) (fun _ _=>rfl)
      subst e1 e2
      exact step ⟨o,t,s.h,s.c,true,false,v,s.h,s.c,[],rdOf t o.op⟩ _ _ rfl rfl rfl rfl ⟨hg,fun _=>⟨rfl,rfl⟩,fun h=>by simp at h,fun h=>by simp at h,fun _=>.inl ⟨rfl,hloc,hev,rfl⟩⟩ rfl hr rfl
     ·cases he
    ·cases he
   | false =>
    rw [hloc] at he
    simp only [cond_false] at he
    split at he
    ·rename_i f args argTypes hop
     split at he
     ·rename_i g vs htg
      have htg' : evTarget t { callee:=.value f,args:=args,argTypes:=argTypes } = some (g,vs):=htg
      split at he
      ·rename_i v hc
       obtain ⟨k1,k2⟩:=hcallP _ _ _ hc
       split at he
       ·rename_i tr' fin' hr
        simp only [Option.some.injEq,Prod.mk.injEq] at he
        obtain ⟨rfl,rfl⟩:=he
        exact step ⟨o,t,s.h,s.c,true,false,v,s.h,s.c,[],[]⟩ _ _ rfl rfl rfl rfl ⟨hg,fun _=>⟨rfl,rfl⟩,fun h=>by simp at h,fun h=>by simp at h,fun _=>.inr (.inl ⟨rfl,_,g,vs,hop,htg',k1,k2 bad⟩)⟩ rfl hr rfl
       ·cases he
      split at he
      ·rename_i v h' c' wr hc
       obtain ⟨k1,k2,k3⟩:=hcall _ _ _ _ _ _ _ _ _ hc
       split at he
       ·rename_i tr' fin' hr
        simp only [Option.some.injEq,Prod.mk.injEq] at he
        obtain ⟨rfl,rfl⟩:=he
        exact step ⟨o,t,s.h,s.c,true,true,v,h',c',wr,[]⟩ _ _ rfl rfl rfl rfl ⟨hg,fun h=>by simp at h,fun h=>by simp at h,fun _=>k2,fun _=>.inr (.inr ⟨rfl,.inr ⟨_,g,vs,hop,htg',k1,k3 bad⟩⟩)⟩ rfl hr rfl
       ·cases he
      ·cases he
     ·cases he
    ·cases hwo : writesOp o.op with
     | false=>rw [hwo] at he; cases he
     | true =>
      rw [hwo] at he
      simp only [cond_true] at he
      split at he
      ·rename_i v h' c' hev
       rw [evOperY_eq] at hev
       split at he
       ·rename_i tr' fin' hr
        simp only [Option.some.injEq,Prod.mk.injEq] at he
        obtain ⟨rfl,rfl⟩:=he
        exact step ⟨o,t,s.h,s.c,true,true,v,h',c',wrOp t o s.h h',[]⟩ _ _ rfl rfl rfl rfl ⟨hg,fun h=>by simp at h,fun h=>by simp at h,fun _=>wrOp_spec hwo hev,fun _=>.inr (.inr ⟨rfl,.inl ⟨hwo,hev⟩⟩)⟩ rfl hr (by rw [wrOpY_eq]; rfl)
       ·cases he
      ·cases he
  ·rename_i hg
   split at he
   ·rename_i tr' fin' hr
    simp only [Option.some.injEq,Prod.mk.injEq] at he
    obtain ⟨rfl,rfl⟩:=he
    exact step ⟨o,t,s.h,s.c,false,false,.p Go.undef,s.h,s.c,[],[]⟩ _ _ rfl rfl rfl rfl ⟨hg,fun _=>⟨rfl,rfl⟩,fun _=>⟨rfl,rfl⟩,fun h=>by simp at h,fun h=>by simp at h⟩ rfl hr rfl
   ·cases he
  ·cases he
theorem yDraw_sound (hT : TabOk P T) {callP : CallP} {call : CallF} (hcallP : CallPOk P callP) (hcall : CallOk P call) (hm : P.follows .mixedOrders = true) {id : Nat} {ops : Array Oper} {s s1 : YS} {st : St} (hR : Rel s st) (he : yDraw P T callP call ops s = some s1) :
  WC P bad (.region id ops true) st (fun e' st'=>e' = .normal ∧ Rel s1 st'):=by
 unfold yDraw at he
 split at he
 ·rename_i ytr yfin hs
  cases hcond : (namesOk ops && effsOkY (closM ops.toList 0 []) ytr) with
  | false=>rw [hcond] at he; cases he
  | true =>
   rw [hcond] at he
   simp only [cond_true,Option.some.injEq] at he
   subst he
   rw [Bool.and_eq_true] at hcond
   obtain ⟨tr,fin,h0,hRf,h1,h2,h3⟩:=yStp_spec (bad:=bad) hcallP hcall _ _ _ _ _ hR hs
   have hed : edgesOk ops = true:=by
    have:=hcond.1
    simp only [namesOk,Bool.and_eq_true] at this
    exact this.1
   exact WC_draw hT hm h1 h2 h3 hed (pairsOk_of h1 hcond.1 (effsOkY_eq _ _ (by rw [h0]; exact hcond.2))) ⟨rfl,hRf⟩
 ·cases he
theorem yLoop_sound {x : Code} {body : YS → Option (Exit × YS)} (hb : ∀ s st e s',Rel s st → body s = some (e,s') → WC P bad x st (fun e' st'=>e' = e ∧ Rel s' st')) : ∀ (n : Nat) (s : YS) (st : St) (e : Exit) (s' : YS),Rel s st → yLoop body n s = some (e,s') →
  WLoop P bad x n st (fun e' st'=>e' = e ∧ Rel s' st'):=by
 intro n
 induction n with
 | zero=>intro s st e s' _ h; simp [yLoop] at h
 | succ n ih =>
  intro s st e s' hR h
  simp only [yLoop] at h
  split at h
  ·rename_i st1 h1
   refine WC_mono (hb _ _ _ _ hR h1) ?_
   rintro e' q ⟨rfl,hq⟩
   exact ih _ _ _ _ hq h
  ·rename_i hne
   refine WC_mono (hb _ _ _ _ hR h) ?_
   rintro e' q ⟨rfl,hq⟩
   cases e' <;> first | exact ⟨rfl,hq⟩ | exact absurd h (hne _)
theorem yCode_sound (hT : TabOk P T) {callP : CallP} {call : CallF} (hcallP : CallPOk P callP) (hcall : CallOk P call) (hm : P.follows .mixedOrders = true) (fuel : Nat) : ∀ (code : Code) (s : YS) (st : St) (e : Exit) (s' : YS),Rel s st → yCode P T callP call fuel code s = some (e,s') →
  WC P bad code st (fun e' st'=>e' = e ∧ Rel s' st'):=by
 intro code
 induction code with
 | skip=>intro s st e s' hR h; simp only [yCode,Option.some.injEq,Prod.mk.injEq] at h; exact WC_skip ⟨h.1,h.2 ▸ hR⟩
 | label l=>intro s st e s' hR h; simp only [yCode,Option.some.injEq,Prod.mk.injEq] at h; exact WC_label ⟨h.1,h.2 ▸ hR⟩
 | exit id=>intro s st e s' hR h; simp only [yCode,Option.some.injEq,Prod.mk.injEq] at h; exact WC_exit ⟨h.1,h.2 ▸ hR⟩
 | ret=>intro s st e s' hR h; simp only [yCode,Option.some.injEq,Prod.mk.injEq] at h; exact WC_ret ⟨h.1,h.2 ▸ hR⟩
 | seq a b iha ihb =>
  intro s st e s' hR h
  simp only [yCode] at h
  unfold thenY at h
  split at h
  ·rename_i st1 h1
   refine WC_seq (WC_mono (iha _ _ _ _ hR h1) ?_)
   rintro e' q ⟨rfl,hq⟩
   exact ihb _ _ _ _ hq h
  ·rename_i hne
   refine WC_seq (WC_mono (iha _ _ _ _ hR h) ?_)
   rintro e' q ⟨rfl,hq⟩
   cases e' <;> first | exact ⟨rfl,hq⟩ | exact absurd h (hne _)
 | cond k a b iha ihb =>
  intro s st e s' hR h
  simp only [yCode,evalY_eq hR.1] at h
  unfold condY at h
  split at h
  ·rename_i hk; exact WC_cond hk (iha _ _ _ _ hR h)
  ·rename_i hk; exact WC_cond hk (ihb _ _ _ _ hR h)
  ·cases h
 | block id a ih =>
  intro s st e s' hR h
  simp only [yCode] at h
  unfold blockY at h
  split at h
  ·rename_i id' st1 h1
   refine WC_block (WC_mono (ih _ _ _ _ hR h1) ?_)
   rintro e' q ⟨rfl,hq⟩
   simp only [blockQ]
   cases hid : Nat.beq id' id with
   | true =>
    rw [hid] at h
    simp only [cond_true,Option.some.injEq,Prod.mk.injEq] at h
    rw [if_pos (Nat.eq_of_beq_eq_true hid)]; exact ⟨h.1,h.2 ▸ hq⟩
   | false =>
    rw [hid] at h
    simp only [cond_false,Option.some.injEq,Prod.mk.injEq] at h
    rw [if_neg (Nat.ne_of_beq_eq_false hid)]; exact ⟨h.1,h.2 ▸ hq⟩
  ·rename_i hne
   refine WC_block (WC_mono (ih _ _ _ _ hR h) ?_)
   rintro e' q ⟨rfl,hq⟩
   cases e' <;> first | exact ⟨rfl,hq⟩ | exact absurd h (hne _ _)
 | loop a ih =>
  intro s st e s' hR h
  simp only [yCode] at h
  exact WC_loop fuel (yLoop_sound ih fuel _ _ _ _ hR h)
 | region id ops draw =>
  intro s st e s' hR h
  simp only [yCode] at h
  unfold normY at h
  split at h
  ·rename_i st1 h1
   simp only [Option.some.injEq,Prod.mk.injEq] at h
   obtain ⟨rfl,rfl⟩:=h
   cases draw with
   | false =>
    simp only [cond_false] at h1
    have:=yOps_sound (bad:=bad) hT hcall ops.toList 0 s st st1 hR (by simp) h1
    refine WC_region ?_
    rw [List.range_eq_range']
    simp only [Array.length_toList] at this
    exact WOps_mono this fun s hs=>⟨rfl,hs⟩
   | true =>
    simp only [cond_true] at h1
    exact yDraw_sound hT hcallP hcall hm hR h1
  ·cases h
 | rangeFunc f ps a b=>intro s st e s' hR h; simp [yCode] at h
 | scope a=>intro s st e s' hR h; simp [yCode] at h
 | goto l=>intro s st e s' hR h; simp [yCode] at h
 | refuse w=>intro s st e s' hR h; simp [yCode] at h
end
def evResultY (T : TypeId → Option TI) (s : YS) : ResultVar → Option V
 | .tmp k=>some ((lkY s.t k).getD .undef)
 | .cell a t=>evLoad T s.h t ((lkY s.t a).getD .undef)
def evResultsY (T : TypeId → Option TI) (s : YS) (rs : List ResultVar) : Option V :=
 match rs with
 | [r]=>evResultY T s r
 | rs=>(rs.mapM (evResultY T s)).map .tup
theorem evResultsY_eq (T : TypeId → Option TI) {s : YS} {st : St} (hR : Rel s st) (rs : List ResultVar) : evResultsY T s rs = evResults T st rs:=by
 have h : evResultY T s = evResult T st:=by
  funext r
  obtain ⟨h1,h2,h3⟩:=hR
  have h1' : ∀ k,lkY s.t k = st.t[k]?:=h1
  cases r <;> simp only [evResultY,evResult,h1',List.getD_eq_getElem?_getD,h2]
 unfold evResultsY evResults
 rw [h]
 match rs with
 | []=>rfl
 | [r]=>rfl
 | _ :: _ :: _=>rfl
def endY (T : TypeId → Option TI) (fn : Func) : Option (Exit × YS) → Option (V × Hp × Nat)
 | some (.normal,st) | some (.ret,st)=>match evResultsY T st fn.results.toList with
  | some r=>some (r,st.h,st.c)
  | none=>none
 | _=>none
section
variable {P : Program} {T : TypeId → Option TI} {F : FuncId → Option Func} {mode : FuncId → Nat}
end
end Go.Mx
