/-
  The kinds of values of the program, and how they stand in the machine.
-/
import Derived.Test.YtogllinpkijkpaaZoDx9
import Derived.WalkKit
import Derived.OpenShut
import Derived.ShutString
import Derived.ChangeOld
import Derived.Below
import Derived.SizedLaws
import Derived.Test.YtogllinpkijkpaaRows
import Derived.KernelRfl
import Derived.Laws.StructEq
import Derived.Test.YtogllinpkijkpaaChecked
namespace Go.Mx
open Go.ChangeShapes Go.WideShapes Go.RowKit
set_option linter.unusedVariables false
theorem Le.below {w w' : World} {c c' : Nat} {m' : MM} (h : Le w noM c w' m' c') : Below w.heap.size w w' :=
 ⟨h.os,h.tape,h.output,h.size,fun k hk=>h.keep k hk fun b l hb=>by simp [noM] at hb⟩
def inW (W : World) (β : Nat) : Prop:=β < W.heap.size
def Opens (P : Program) (W : World) (t : TypeId) {α : Type} (f : α → V) (good : α → Prop) : Prop :=
 ∀ (H : Type) (enc : TypeId × Value → H) (fuel : Nat) (cs : List Value) (x : DataW H × List MemPlace),DataW.trod enc P W 0 (fun _=>true) true fuel t cs = some x →
  ∃ a,good a ∧ (f a).cells.length = cs.length ∧ ∀ i (h1 : i < (f a).cells.length) (h2 : i < cs.length),RepP W (inW W) (f a).cells[i] cs[i]
section
variable {P : Program} {W : World} {t e : TypeId} {α : Type} {f : α → V} {good : α → Prop}
theorem opens_int {k : IntKind} (ht : P.underlying t = some (.int k)) : Opens P W t (fun n=>.p (.int k n)) (fun n=>(Lit.int k n).wf = true):=by
 intro H enc fuel cs x h
 obtain ⟨n,rfl,_,hw⟩:=DataW.trod_int ht h
 refine ⟨n,hw,rfl,fun i h1 h2=>?_⟩
 have : i = 0:=by simpa [V.cells] using h1
 subst this
 exact .p _
theorem opens_slice {k : Nat} (ht : P.underlying t = some (.slice e)) (hk : P.cellsOf e = k) (h0 : 0 < k) (hf : ∀ a,(f a).cells.length = k) (ho : Opens P W e f good) :
  Opens P W t (fun l : List α=>.ps .opt (l.map f)) (fun l=>l.length ≤ maxLen ∧ ∀ a ∈ l,good a):=by
 intro H enc fuel cs x h
 rcases DataW.trod_slice ht h with ⟨rfl,_⟩ | ⟨a,len,cap,elems,rest,n,_,rfl,_,_,hl,hm,hlen,hel,hsp,_⟩
 ·refine ⟨[],⟨by simp,by simp⟩,rfl,fun i h1 h2=>?_⟩
  have : i = 0:=by simpa [V.cells] using h1
  subst this
  exact .psNil (by simp)
 ·rw [hk] at hel hsp
  obtain ⟨hrl,hr⟩:=hsp rfl
  obtain ⟨b,o,q⟩:=a

  have each : ∀ i,i < len → ∃ cs',W.cells? 0 ((⟨b,o,q⟩ : Addr).add (i * k)) k = some cs' ∧ ∃ y,DataW.trod enc P W 0 (fun _=>true) true n e cs' = some y:=fun i hi=>by
   have:=hel i hi
   rw [List.getElem?_eq_getElem (by omega),Option.bind_eq_some_iff] at this
   obtain ⟨cs',h1,h2⟩:=this
   exact ⟨cs',h1,_,h2⟩
  have spot : 0 < cap → q = none:=fun hc=>by
   have key : ∃ cs',W.cells? 0 ((⟨b,o,q⟩ : Addr).add (0 * k)) k = some cs':=by
    by_cases hz : 0 < len
    ·obtain ⟨cs',h1,_⟩:=each 0 hz
     exact ⟨cs',h1⟩
    ·have h1:=hr 0 (by omega)
     rw [List.getElem?_eq_getElem (by omega),Option.bind_eq_some_iff] at h1
     obtain ⟨cs',h1,_⟩:=h1
     have : len = 0:=by omega
     subst this
     exact ⟨cs',h1⟩
   obtain ⟨cs',h1⟩:=key
   obtain ⟨_,h2,h3⟩:=World.cells?_some h1
   have h4:=h3 0 h0
   rw [List.getElem?_eq_getElem (by omega)] at h4
   simpa [Addr.add] using World.cell?_spot h4
  have mk : ∀ m,m ≤ len → ∃ l : List α,l.length = m ∧ (∀ a ∈ l,good a) ∧ ∀ i (hi : i < l.length),∃ cs',W.cells? 0 ((⟨b,o,q⟩ : Addr).add (i * k)) k = some cs' ∧
    ∀ j (h1 : j < (f l[i]).cells.length) (h2 : j < cs'.length),RepP W (inW W) (f l[i]).cells[j] cs'[j]:=by
   intro m
   induction m with
   | zero=>exact fun _=>⟨[],rfl,by simp,fun i hi=>by simp at hi⟩
   | succ m ih =>
    intro hm'
    obtain ⟨l,hl1,hl2,hl3⟩:=ih (by omega)
    obtain ⟨cs',h1,y,h2⟩:=each m (by omega)
    obtain ⟨a,g1,g2,g3⟩:=ho H enc n cs' y h2
    refine ⟨l ++ [a],by simp [hl1],fun z hz=>?_,fun i hi=>?_⟩
    ·rcases List.mem_append.1 hz with hz | hz
     ·exact hl2 z hz
     ·obtain rfl:=List.mem_singleton.1 hz
      exact g1
    ·by_cases hi' : i < l.length
     ·obtain ⟨c1,c2,c3⟩:=hl3 i hi'
      refine ⟨c1,c2,?_⟩
      rw [List.getElem_append_left hi']
      exact c3
     ·have : i = m:=by simp at hi; omega
      subst this
      refine ⟨cs',h1,?_⟩
      have : (l ++ [a])[i] = a:=by simp [← hl1]
      rw [this]
      exact g3
  obtain ⟨l,hl1,hl2,hl3⟩:=mk len (Nat.le_refl _)
  refine ⟨l,⟨by rw [hl1]; omega,hl2⟩,rfl,fun i h1 h2=>?_⟩
  have : i = 0:=by simpa [V.cells] using h1
  subst this
  show RepP W (inW W) (.ps .opt (l.map f)) (.slice (some ⟨b,o,q⟩) len cap)
  have hlen' : (l.map f).length = len:=by simp [hl1]
  have cell : ∀ i j,i < l.length → j < k → ∃ y,W.cell? ⟨b,o + i * k + j,none⟩ = some y ∧ ∀ (h : i < l.length) (h2 : j < (f l[i]).cells.length),RepP W (inW W) (f l[i]).cells[j] y:=by
   intro i j hi hj
   obtain ⟨cs',c1,c2⟩:=hl3 i hi
   obtain ⟨_,c3,c4⟩:=World.cells?_some c1
   have hq : q = none:=spot (by omega)
   subst hq
   have c5:=c4 j hj
   rw [Addr.add_lit,Addr.add_lit,List.getElem?_eq_getElem (by omega)] at c5
   exact ⟨_,c5,fun h h2=>c2 j h2 (by omega)⟩
  have:=RepP.ps (w:=W) (ok:=inW W) (c:=.opt) (xs:=l.map f) (β:=b) (o:=o) (k:=k) (cap:=cap) (q:=q) (val:=fun i j=>(W.cell? ⟨b,o + i * k + j,none⟩).getD Go.undef)
   (by simp) (by omega) (by simp) (fun hne=>by
    have hp : 0 < l.length:=by cases l with
     | nil=>exact absurd rfl hne
     | cons _ _=>simp
    obtain ⟨y,hy,_⟩:=cell 0 0 hp h0
    unfold inW
    unfold World.cell? at hy
    simp only at hy
    rcases Nat.lt_or_ge b W.heap.size with h | h
    ·exact h
    ·rw [Array.getElem?_eq_none h] at hy; simp at hy)
   (fun i hi=>by simp [hf])
   (fun i j hi hj=>by
    obtain ⟨y,hy,_⟩:=cell i j (by simpa using hi) hj
    rw [hy]; rfl)
   (fun i hi j hj=>by
    obtain ⟨y,hy,hr⟩:=cell i j (by simpa using hi) (by rw [← hf (l[i]'(by simpa using hi))]; simpa using hj)
    rw [hy]
    have:=hr (by simpa using hi) (by simpa using hj)
    simpa using this)
   (fun hq=>by
    rcases Nat.eq_zero_or_pos cap with h | h
    ·exact h
    ·exact absurd (spot h) hq)
  rw [hlen'] at this
  exact this
theorem opens_field {fs : Array Field} {H : Type} {enc : TypeId × Value → H} {n : Nat} {cs : List Value} {xs : List (DataW H × List MemPlace)} (hx : xs.length = fs.size)
  (h : ∀ (i : Nat) (fl : Field),fs[i]? = some fl → DataW.trod enc P W 0 (fun _=>true) true n fl.type ((cs.drop fl.offset).take (P.cellsOf fl.type)) = xs[i]?)
  (i : Nat) {fl : Field} (hfl : fs[i]? = some fl) {k o : Nat} (hk : P.cellsOf fl.type = k) (ho' : fl.offset = o) (hl : o + k ≤ cs.length) (ho : Opens P W fl.type f good) :
  ∃ a,good a ∧ (f a).cells.length = k ∧ ∀ j (h1 : j < (f a).cells.length) (h2 : o + j < cs.length),RepP W (inW W) (f a).cells[j] cs[o + j]:=by
 have h1:=h i fl hfl
 have hi : i < fs.size:=(Array.getElem?_eq_some_iff.1 hfl).1
 rw [List.getElem?_eq_getElem (by omega),hk,ho'] at h1
 obtain ⟨a,g1,g2,g3⟩:=ho H enc n _ _ h1
 have hlen : ((cs.drop o).take k).length = k:=by simp; omega
 refine ⟨a,g1,by rw [g2,hlen],fun j h1 h2=>?_⟩
 have:=g3 j h1 (by omega)
 simpa using this
theorem open_slice {H : Type} {enc : TypeId × Value → H} {r : Reach} {b0 : Nat} {v : Value} {d : DataW H} {ps : List MemPlace} {g : List α → V} (ht : P.underlying t = some (.slice e)) (hg : ∀ l,(g l).cells = [g l]) {good' : List α → Prop} (ho : Opens P W t g good')
  (hval : Value.okWide P W r b0 t v) (h : DataW.Trod enc P W 0 (fun _=>true) true t v d ps) : ∃ l,good' l ∧ RepP W (inW W) (g l) v:=by
 obtain ⟨a,len,cap,rfl⟩:=okWide_slice ht hval
 obtain ⟨fuel,hf⟩:=h
 obtain ⟨l,h1,h2,h3⟩:=ho H enc fuel _ _ hf
 refine ⟨l,h1,?_⟩
 have:=h3 0 (by rw [hg]; simp) (by simp [Value.cells])
 simpa [hg,Value.cells] using this
end
theorem calls_of_PT {P : Program} {g : FuncId} {vs : List V} {b : Bool} (h : PT P g vs (.p (.bool b))) (w : World) (xs : Array Value) (hl : vs.length = xs.size) (hr : ∀ i (h1 : i < vs.length) (h2 : i < xs.size),RepP w (inW w) vs[i] xs[i]) :
  Calls P g xs w fun e w'=>e = .returned (.bool b) ∧ Below w.heap.size w w':=by
 refine (h (fun _=>False) w xs (fun β h=>h.elim) hl (fun i h1 h2=>(hr i h1 h2).mono fun β hβ=>⟨⟨hβ,fun h=>h,fun b l hb=>by simp [noM] at hb⟩,fun _=>rfl⟩)).mono ?_
 rintro e w' ⟨x,rfl,hx,hle⟩
 exact ⟨by rw [repP_p hx],hle.below⟩
end Go.Mx
namespace Go.Su.Ytogllinpkijkpaa
open Go.Mx Go.Proofs Go.Proofs.Ytogllinpkijkpaa Go.ChangeShapes Go.WideShapes Go.RowKit
set_option linter.unusedVariables false
def okInt (k : IntKind) (n : Int) : Prop:=(Lit.int k n).wf = true
end Go.Su.Ytogllinpkijkpaa
namespace Go.Mx
set_option linter.unusedVariables false
abbrev vi (x : Int) : V:=.p (.int .i64 x)
abbrev vb (x : Bool) : V:=.p (.bool x)
abbrev vw (x : ByteArray) : V:=.p (.string x)
abbrev vz (x : Cx) : V:=.p (.complex .f64 x.re x.im)
abbrev c0 : Cx:=⟨0,0⟩
abbrev b0 : ByteArray:=ByteArray.empty
abbrev wr (x : Int) : Int:=IntKind.i64.wrap x
abbrev ln {α : Type} (l : List α) : Int:=(l.length : Int)
section
variable {P : Program} {T : TypeId → Option TI} {bad : Nat → Prop} {E : Ent} {N : Nat} {α : Type}
theorem Sg (hT : TabOk P T) {ops : Array Oper} {i : Nat} {s : SA} {Q : Exit → SA → Prop} (n : Nat) (ks : List Nat) (s' : SA) (h : WO P bad E N ops (i + n) s' Q) (hr : runK P T N ops i n ks s = some s':=by kernel_rfl) (hk : ks.all (Nat.blt · N) = true:=by kernel_rfl) : WO P bad E N ops i s Q :=
 WO_seg hT n ks s' hr hk h
theorem Sz (hT : TabOk P T) {ops : Array Oper} {i : Nat} {s : SA} {Q : Exit → SA → Prop} (n : Nat) (ks : List Nat) (s' : SA) (h : Q .normal s') (hr : runK P T N ops i n ks s = some s':=by kernel_rfl) (hk : ks.all (Nat.blt · N) = true:=by kernel_rfl) (hi : Nat.ble ops.size (i + n) = true:=by kernel_rfl) : WO P bad E N ops i s Q :=
 WO_seg hT n ks s' hr hk (WO_end hi h)
theorem Rg (hT : TabOk P T) {id : Nat} {ops : Array Oper} {s : SA} {Q : Exit → SA → Prop} (n : Nat) (ks : List Nat) (s' : SA) (h : WO P bad E N ops (0 + n) s' Q) (hr : runK P T N ops 0 n ks s = some s':=by kernel_rfl) (hk : ks.all (Nat.blt · N) = true:=by kernel_rfl) : WA P bad E N (.region id ops false) s Q :=
 WA_region (WO_seg hT n ks s' hr hk h)
theorem Rz (hT : TabOk P T) {id : Nat} {ops : Array Oper} {s : SA} {Q : Exit → SA → Prop} (n : Nat) (ks : List Nat) (s' : SA) (h : Q .normal s') (hr : runK P T N ops 0 n ks s = some s':=by kernel_rfl) (hk : ks.all (Nat.blt · N) = true:=by kernel_rfl) (hi : Nat.ble ops.size (0 + n) = true:=by kernel_rfl) : WA P bad E N (.region id ops false) s Q :=
 WA_region (WO_seg hT n ks s' hr hk (WO_end hi h))
theorem Qg (hT : TabOk P T) {id : Nat} {ops : Array Oper} {y : Code} {s : SA} {Q : Exit → SA → Prop} (n : Nat) (ks : List Nat) (s' : SA) (h : WO P bad E N ops (0 + n) s' (thenA (fun s'=>WA P bad E N y s' Q) Q)) (hr : runK P T N ops 0 n ks s = some s':=by kernel_rfl) (hk : ks.all (Nat.blt · N) = true:=by kernel_rfl) : WA P bad E N (.seq (.region id ops false) y) s Q :=
 WA_seq (Rg hT n ks s' h hr hk)
theorem Qz (hT : TabOk P T) {id : Nat} {ops : Array Oper} {y : Code} {s : SA} {Q : Exit → SA → Prop} (n : Nat) (ks : List Nat) (s' : SA) (h : WA P bad E N y s' Q) (hr : runK P T N ops 0 n ks s = some s':=by kernel_rfl) (hk : ks.all (Nat.blt · N) = true:=by kernel_rfl) (hi : Nat.ble ops.size (0 + n) = true:=by kernel_rfl) : WA P bad E N (.seq (.region id ops false) y) s Q :=
 WA_seq (Rz hT n ks s' h hr hk hi)
theorem weakKR {s s' : SA} (ks : List Nat) (L : List (Nat × Nat × Nat)) (hk : ks.all (Nat.blt · N) = true) (hA : trA s.h (lookE L) (keepA ks s.A) = some s'.A) (hB : moveH s.h (lookE L) [] L = some s'.h) (hc : renOk s.h E.c s'.c L = true) : Weak bad E N s s' :=
 (Weak_keepE ks _ rfl hk).trans (Weak_ren (s:=⟨keepA ks s.A,s.h,s.c⟩) L s' hA hB hc)
theorem oK {ops : Array Oper} {i : Nat} {s s' : SA} {Q : Exit → SA → Prop} (ks : List Nat) (L : List (Nat × Nat × Nat)) (h : Q .normal s') (hi : Nat.ble ops.size i = true:=by kernel_rfl) (hk : ks.all (Nat.blt · N) = true:=by kernel_rfl)
  (hA : trA s.h (lookE L) (keepA ks s.A) = some s'.A:=by kernel_rfl) (hB : moveH s.h (lookE L) [] L = some s'.h:=by kernel_rfl) (hc : renOk s.h E.c s'.c L = true:=by kernel_rfl) : WO P bad E N ops i s Q :=
 WO_weak (weakKR ks L hk hA hB hc) (WO_end hi h)
theorem sK {s s' : SA} {Q : Exit → SA → Prop} (ks : List Nat) (L : List (Nat × Nat × Nat)) (h : Q .normal s') (hk : ks.all (Nat.blt · N) = true:=by kernel_rfl)
  (hA : trA s.h (lookE L) (keepA ks s.A) = some s'.A:=by kernel_rfl) (hB : moveH s.h (lookE L) [] L = some s'.h:=by kernel_rfl) (hc : renOk s.h E.c s'.c L = true:=by kernel_rfl) : WA P bad E N .skip s Q :=
 WA_weak (weakKR ks L hk hA hB hc) (WA_skip h)
theorem eK {id : Nat} {s s' : SA} {Q : Exit → SA → Prop} (ks : List Nat) (L : List (Nat × Nat × Nat)) (h : Q (.exit id) s') (hk : ks.all (Nat.blt · N) = true:=by kernel_rfl)
  (hA : trA s.h (lookE L) (keepA ks s.A) = some s'.A:=by kernel_rfl) (hB : moveH s.h (lookE L) [] L = some s'.h:=by kernel_rfl) (hc : renOk s.h E.c s'.c L = true:=by kernel_rfl) : WA P bad E N (.exit id) s Q :=
 WA_weak (weakKR ks L hk hA hB hc) (WA_exit h)
theorem rK {s : SA} {Q : Exit → SA → Prop} (ks : List Nat) (L : List (Nat × Nat × Nat)) (s' : SA) (h : Q .ret s') (hk : ks.all (Nat.blt · N) = true:=by kernel_rfl)
  (hA : trA s.h (lookE L) (keepA ks s.A) = some s'.A:=by kernel_rfl) (hB : moveH s.h (lookE L) [] L = some s'.h:=by kernel_rfl) (hc : renOk s.h E.c s'.c L = true:=by kernel_rfl) : WA P bad E N .ret s Q :=
 WA_weak (weakKR ks L hk hA hB hc) (WA_ret h)
theorem wK {s s' : SA} {Q : SA → Prop} (ks : List Nat) (L : List (Nat × Nat × Nat)) (h : Q s') (hk : ks.all (Nat.blt · N) = true:=by kernel_rfl)
  (hA : trA s.h (lookE L) (keepA ks s.A) = some s'.A:=by kernel_rfl) (hB : moveH s.h (lookE L) [] L = some s'.h:=by kernel_rfl) (hc : renOk s.h E.c s'.c L = true:=by kernel_rfl) : Wk bad E N s Q :=
 Wk_step (weakKR ks L hk hA hB hc) (Wk_done h)
theorem lK {x : Code} {s s' : SA} {Q : Exit → SA → Prop} (ks : List Nat) (L : List (Nat × Nat × Nat)) (I : Nat → SA → Prop) (n : Nat) (h0 : I n s') (hz : ∀ s',I 0 s' → False) (h : ∀ k s',I (k + 1) s' → WA P bad E N x s' (thenA (I k) Q)) (hk : ks.all (Nat.blt · N) = true:=by kernel_rfl)
  (hA : trA s.h (lookE L) (keepA ks s.A) = some s'.A:=by kernel_rfl) (hB : moveH s.h (lookE L) [] L = some s'.h:=by kernel_rfl) (hc : renOk s.h E.c s'.c L = true:=by kernel_rfl) : WA P bad E N (.loop x) s Q :=
 WA_weak (weakKR ks L hk hA hB hc) (WA_loop I n h0 hz h)
theorem oR {ops : Array Oper} {i : Nat} {s s' : SA} {Q : Exit → SA → Prop} (L : List (Nat × Nat × Nat)) (h : Q .normal s') (hi : Nat.ble ops.size i = true:=by kernel_rfl)
  (hA : trA s.h (lookE L) s.A = some s'.A:=by kernel_rfl) (hB : moveH s.h (lookE L) [] L = some s'.h:=by kernel_rfl) (hc : renOk s.h E.c s'.c L = true:=by kernel_rfl) : WO P bad E N ops i s Q :=
 WO_weak (Weak_ren L s' hA hB hc) (WO_end hi h)
theorem sR {s s' : SA} {Q : Exit → SA → Prop} (L : List (Nat × Nat × Nat)) (h : Q .normal s')
  (hA : trA s.h (lookE L) s.A = some s'.A:=by kernel_rfl) (hB : moveH s.h (lookE L) [] L = some s'.h:=by kernel_rfl) (hc : renOk s.h E.c s'.c L = true:=by kernel_rfl) : WA P bad E N .skip s Q :=
 WA_weak (Weak_ren L s' hA hB hc) (WA_skip h)
theorem rR {s : SA} {Q : Exit → SA → Prop} (L : List (Nat × Nat × Nat)) (s' : SA) (h : Q .ret s')
  (hA : trA s.h (lookE L) s.A = some s'.A:=by kernel_rfl) (hB : moveH s.h (lookE L) [] L = some s'.h:=by kernel_rfl) (hc : renOk s.h E.c s'.c L = true:=by kernel_rfl) : WA P bad E N .ret s Q :=
 WA_weak (Weak_ren L s' hA hB hc) (WA_ret h)
theorem lR {x : Code} {s s' : SA} {Q : Exit → SA → Prop} (L : List (Nat × Nat × Nat)) (I : Nat → SA → Prop) (n : Nat) (h0 : I n s') (hz : ∀ s',I 0 s' → False) (h : ∀ k s',I (k + 1) s' → WA P bad E N x s' (thenA (I k) Q))
  (hA : trA s.h (lookE L) s.A = some s'.A:=by kernel_rfl) (hB : moveH s.h (lookE L) [] L = some s'.h:=by kernel_rfl) (hc : renOk s.h E.c s'.c L = true:=by kernel_rfl) : WA P bad E N (.loop x) s Q :=
 WA_weak (Weak_ren L s' hA hB hc) (WA_loop I n h0 hz h)
theorem oW {ops : Array Oper} {i : Nat} {s : SA} {Q : Exit → SA → Prop} (ks : List Nat) (s' : SA) (h : WO P bad E N ops i s' Q) (he : (⟨keepA ks s.A,s.h,s.c⟩ : SA) = s':=by kernel_rfl) (hk : ks.all (Nat.blt · N) = true:=by kernel_rfl) : WO P bad E N ops i s Q:=WO_weak (Weak_keepE ks s' he hk) h
theorem aW {code : Code} {s : SA} {Q : Exit → SA → Prop} (ks : List Nat) (s' : SA) (h : WA P bad E N code s' Q) (he : (⟨keepA ks s.A,s.h,s.c⟩ : SA) = s':=by kernel_rfl) (hk : ks.all (Nat.blt · N) = true:=by kernel_rfl) : WA P bad E N code s Q:=WA_weak (Weak_keepE ks s' he hk) h
theorem kW {s : SA} {Q : SA → Prop} (ks : List Nat) (s' : SA) (h : Wk bad E N s' Q) (he : (⟨keepA ks s.A,s.h,s.c⟩ : SA) = s':=by kernel_rfl) (hk : ks.all (Nat.blt · N) = true:=by kernel_rfl) : Wk bad E N s Q:=Wk_step (Weak_keepE ks s' he hk) h
theorem Pt {ops : Array Oper} {i : Nat} {s : SA} {Q : Exit → SA → Prop} {o : Oper} {cl : Call} {g : FuncId} {vs : List V} {r : V} (hen : Enters P g) (hc : PT P g vs r) (hk : WO P bad E N ops (i + 1) ⟨putA s.A o.dst r,s.h,s.c⟩ Q)
  (ho : ops[i]? = some o:=by rfl) (hop : o.op = .call cl:=by rfl) (hg : evGuardA s.A ops o = some true:=by kernel_rfl) (htg : evTargetA s.A cl = some (g,vs):=by kernel_rfl) (hpu : vs.all (pur 6) = true:=by kernel_rfl)
  (hd : okD N o.dst = true:=by kernel_rfl) : WO P bad E N ops i s Q :=
 WO_pt ho hg vs r hop htg hen hpu hc hd hk
theorem One (hT : TabOk P T) {ops : Array Oper} {i : Nat} {s : SA} {Q : Exit → SA → Prop} {o : Oper} (ho : ops[i]? = some o) {v : V} {h' : Hp} {c' : Nat} (he : evOperF P T false (evA s.A) o s.h s.c = some (v,h',c')) (hk : WO P bad E N ops (i + 1) ⟨putA s.A o.dst v,h',c'⟩ Q)
  (hg : evGuardA s.A ops o = some true:=by kernel_rfl) (hd : okD N o.dst = true:=by kernel_rfl) : WO P bad E N ops i s Q :=
 WO_one hT ho hg he hd hk
end
end Go.Mx
namespace Go.Mx
set_option linter.unusedVariables false
theorem GO_leH {P : Program} {g : FuncId} {hA hA' hb : Hp} {vs : List V} {r : V} (hH : HLe hA' hA) (h : GO P g hA vs r hb) : GO P g hA' vs r hb :=
 fun bad w m xs hh hl hr=>h bad w m xs (hH.rep hh) hl hr
section
variable {P : Program} {T : TypeId → Option TI}
end
end Go.Mx
namespace Go.Mx
set_option linter.unusedVariables false
def lov {α : Type} (es : List α) (off : Nat) (xs : List α) : List α:=es.take off ++ xs ++ es.drop (off + xs.length)
def lcopy {α : Type} (l xs : List α) : List α:=lov l 0 (xs.take (min xs.length l.length))
def rcopy {α : Type} (l : List α) (n : Nat) : List α:=lov l n ((l.take n).take (min n (l.length - n)))
theorem lov_length {α : Type} {es xs : List α} {off : Nat} (h : off + xs.length ≤ es.length) : (lov es off xs).length = es.length:=by unfold lov; simp; omega
theorem lcopy_length {α : Type} (l xs : List α) : (lcopy l xs).length = l.length:=lov_length (by simp; omega)
theorem rcopy_length {α : Type} (l : List α) (n : Nat) : (rcopy l n).length = l.length:=by
 unfold rcopy
 rcases Nat.lt_or_ge l.length n with h | h
 ·unfold lov; simp; omega
 ·exact lov_length (by simp; omega)
section
variable {P : Program} {T : TypeId → Option TI} {α : Type}
theorem SE.lov (σ : SE T α) (l : List α) (off : Nat) (xs : List α) : over (σ.F l) off (σ.F xs) = σ.F (lov l off xs):=by
 simp only [over,Go.Mx.lov,σ.hF,List.map_append,List.map_take,List.map_drop,List.length_map]
end
end Go.Mx
namespace Go.Mx
set_option linter.unusedVariables false
set_option linter.unusedSimpArgs false
inductive EC where
 | int (k : IntKind) (a b : Int)
 | bool (a b : Bool)
 | str (a b : ByteArray)
def EC.x : EC → Value
 | .int k a _=>.int k a
 | .bool a _=>.bool a
 | .str a _=>.string a
def EC.y : EC → Value
 | .int k _ b=>.int k b
 | .bool _ b=>.bool b
 | .str _ b=>.string b
def EC.b : EC → Bool
 | .int _ a b=>a == b
 | .bool a b=>a == b
 | .str a b=>bytesEq a b
section
variable {P : Program} {T : TypeId → Option TI}
variable {ρ : Operand → V} {dr : Bool} {h : Hp} {c : Nat} {d : Option Tmp} {t t' ty : TypeId} {pos : String} {af : Array Edge} {g : Option (Nat × Bool)} {x y : Operand}
end
end Go.Mx
namespace Go.Mx
set_option linter.unusedVariables false
section
variable {P : Program} {T : TypeId → Option TI} {bad : Nat → Prop} {E : Ent} {N : Nat}
variable {ops : Array Oper} {i : Nat} {A : List (Nat × V)} {h : Hp} {c : Nat}
theorem Sgd (hT : TabOk P T) {Q : Exit → SA → Prop} (n : Nat) (ks : List Nat) (dA : List (Nat × V)) (hq : WO P bad E N ops (i + n) ⟨keepA ks (dA ++ A),h,c⟩ Q)
  (hr : runK P T N ops i n ks ⟨A,h,c⟩ = some ⟨keepA ks (dA ++ A),h,c⟩:=by kernel_rfl) (hk : ks.all (Nat.blt · N) = true:=by kernel_rfl) : WO P bad E N ops i ⟨A,h,c⟩ Q:=WO_seg hT n ks _ hr hk hq
theorem Szd (hT : TabOk P T) {Q : Exit → SA → Prop} (n : Nat) (ks : List Nat) (dA : List (Nat × V)) (hq : Q .normal ⟨keepA ks (dA ++ A),h,c⟩)
  (hr : runK P T N ops i n ks ⟨A,h,c⟩ = some ⟨keepA ks (dA ++ A),h,c⟩:=by kernel_rfl) (hk : ks.all (Nat.blt · N) = true:=by kernel_rfl) (hi : Nat.ble ops.size (i + n) = true:=by kernel_rfl) : WO P bad E N ops i ⟨A,h,c⟩ Q:=Sz hT n ks _ hq hr hk hi
theorem Rgd (hT : TabOk P T) {id : Nat} {Q : Exit → SA → Prop} (n : Nat) (ks : List Nat) (dA : List (Nat × V)) (hq : WO P bad E N ops (0 + n) ⟨keepA ks (dA ++ A),h,c⟩ Q)
  (hr : runK P T N ops 0 n ks ⟨A,h,c⟩ = some ⟨keepA ks (dA ++ A),h,c⟩:=by kernel_rfl) (hk : ks.all (Nat.blt · N) = true:=by kernel_rfl) : WA P bad E N (.region id ops false) ⟨A,h,c⟩ Q:=Rg hT n ks _ hq hr hk
theorem Rzd (hT : TabOk P T) {id : Nat} {Q : Exit → SA → Prop} (n : Nat) (ks : List Nat) (dA : List (Nat × V)) (hq : Q .normal ⟨keepA ks (dA ++ A),h,c⟩)
  (hr : runK P T N ops 0 n ks ⟨A,h,c⟩ = some ⟨keepA ks (dA ++ A),h,c⟩:=by kernel_rfl) (hk : ks.all (Nat.blt · N) = true:=by kernel_rfl) (hi : Nat.ble ops.size (0 + n) = true:=by kernel_rfl) : WA P bad E N (.region id ops false) ⟨A,h,c⟩ Q:=Rz hT n ks _ hq hr hk hi
theorem Qgd (hT : TabOk P T) {id : Nat} {y : Code} {Q : Exit → SA → Prop} (n : Nat) (ks : List Nat) (dA : List (Nat × V)) (hq : WO P bad E N ops (0 + n) ⟨keepA ks (dA ++ A),h,c⟩ (thenA (fun s'=>WA P bad E N y s' Q) Q))
  (hr : runK P T N ops 0 n ks ⟨A,h,c⟩ = some ⟨keepA ks (dA ++ A),h,c⟩:=by kernel_rfl) (hk : ks.all (Nat.blt · N) = true:=by kernel_rfl) : WA P bad E N (.seq (.region id ops false) y) ⟨A,h,c⟩ Q:=Qg hT n ks _ hq hr hk
theorem Qzd (hT : TabOk P T) {id : Nat} {y : Code} {Q : Exit → SA → Prop} (n : Nat) (ks : List Nat) (dA : List (Nat × V)) (hq : WA P bad E N y ⟨keepA ks (dA ++ A),h,c⟩ Q)
  (hr : runK P T N ops 0 n ks ⟨A,h,c⟩ = some ⟨keepA ks (dA ++ A),h,c⟩:=by kernel_rfl) (hk : ks.all (Nat.blt · N) = true:=by kernel_rfl) (hi : Nat.ble ops.size (0 + n) = true:=by kernel_rfl) : WA P bad E N (.seq (.region id ops false) y) ⟨A,h,c⟩ Q:=Qz hT n ks _ hq hr hk hi
theorem Sgh (hT : TabOk P T) {Q : Exit → SA → Prop} (n : Nat) (ks : List Nat) (dA : List (Nat × V)) (h' : Hp) (c' : Nat) (hq : WO P bad E N ops (i + n) ⟨keepA ks (dA ++ A),h',c'⟩ Q)
  (hr : runK P T N ops i n ks ⟨A,h,c⟩ = some ⟨keepA ks (dA ++ A),h',c'⟩:=by kernel_rfl) (hk : ks.all (Nat.blt · N) = true:=by kernel_rfl) : WO P bad E N ops i ⟨A,h,c⟩ Q:=WO_seg hT n ks _ hr hk hq
theorem Szh (hT : TabOk P T) {Q : Exit → SA → Prop} (n : Nat) (ks : List Nat) (dA : List (Nat × V)) (h' : Hp) (c' : Nat) (hq : Q .normal ⟨keepA ks (dA ++ A),h',c'⟩)
  (hr : runK P T N ops i n ks ⟨A,h,c⟩ = some ⟨keepA ks (dA ++ A),h',c'⟩:=by kernel_rfl) (hk : ks.all (Nat.blt · N) = true:=by kernel_rfl) (hi : Nat.ble ops.size (i + n) = true:=by kernel_rfl) : WO P bad E N ops i ⟨A,h,c⟩ Q:=Sz hT n ks _ hq hr hk hi
theorem Rgh (hT : TabOk P T) {id : Nat} {Q : Exit → SA → Prop} (n : Nat) (ks : List Nat) (dA : List (Nat × V)) (h' : Hp) (c' : Nat) (hq : WO P bad E N ops (0 + n) ⟨keepA ks (dA ++ A),h',c'⟩ Q)
  (hr : runK P T N ops 0 n ks ⟨A,h,c⟩ = some ⟨keepA ks (dA ++ A),h',c'⟩:=by kernel_rfl) (hk : ks.all (Nat.blt · N) = true:=by kernel_rfl) : WA P bad E N (.region id ops false) ⟨A,h,c⟩ Q:=Rg hT n ks _ hq hr hk
theorem Qzh (hT : TabOk P T) {id : Nat} {y : Code} {Q : Exit → SA → Prop} (n : Nat) (ks : List Nat) (dA : List (Nat × V)) (h' : Hp) (c' : Nat) (hq : WA P bad E N y ⟨keepA ks (dA ++ A),h',c'⟩ Q)
  (hr : runK P T N ops 0 n ks ⟨A,h,c⟩ = some ⟨keepA ks (dA ++ A),h',c'⟩:=by kernel_rfl) (hk : ks.all (Nat.blt · N) = true:=by kernel_rfl) (hi : Nat.ble ops.size (0 + n) = true:=by kernel_rfl) : WA P bad E N (.seq (.region id ops false) y) ⟨A,h,c⟩ Q:=Qz hT n ks _ hq hr hk hi
variable {es rs : List (Nat × List Nat)} {Q : SA → Prop}
theorem Ds (n : Nat) (dA : List (Nat × V)) (dE dR : List (Nat × List Nat)) (hq : WD P T bad N ops (i + n) (es ++ dE) (rs ++ dR) ⟨dA ++ A,h,c⟩ Q) (hs : keysLt N A = true:=by kernel_rfl)
  (hr : runD P T N ops n i (ops.toList.drop i) ⟨A,h,c⟩ es rs = some (⟨dA ++ A,h,c⟩,es ++ dE,rs ++ dR):=by kernel_rfl) : WD P T bad N ops i es rs ⟨A,h,c⟩ Q:=WD_seg n _ _ _ hs hr hq
theorem Dh (n : Nat) (dA : List (Nat × V)) (h' : Hp) (c' : Nat) (dE dR : List (Nat × List Nat)) (hq : WD P T bad N ops (i + n) (es ++ dE) (rs ++ dR) ⟨dA ++ A,h',c'⟩ Q) (hs : keysLt N A = true:=by kernel_rfl)
  (hr : runD P T N ops n i (ops.toList.drop i) ⟨A,h,c⟩ es rs = some (⟨dA ++ A,h',c'⟩,es ++ dE,rs ++ dR):=by kernel_rfl) : WD P T bad N ops i es rs ⟨A,h,c⟩ Q:=WD_seg n _ _ _ hs hr hq
theorem Dt {d : Option Tmp} {v : V} (v' : V) (hq : WD P T bad N ops i es rs ⟨putA A d v',h,c⟩ Q) (hv : v = v':=by kernel_rfl) : WD P T bad N ops i es rs ⟨putA A d v,h,c⟩ Q:=by
 subst hv; exact hq
end
end Go.Mx
namespace Go.Mx
set_option linter.unusedVariables false
section
variable {P : Program} {T : TypeId → Option TI} {bad : Nat → Prop} {E : Ent} {N : Nat} {α : Type}
theorem WO_go' {ops : Array Oper} {i : Nat} {A : List (Nat × V)} {h0 : Hp} {c0 : Nat} {Q : Exit → SA → Prop} {o : Oper} (ho : ops[i]? = some o) (hgd : evGuardA A ops o = some true) {cl : Call} {g : FuncId} (hA hr : Hp) (vs vs' : List V) (E1 E2 : List (Nat × Nat × Nat)) (hB : Hp) (r r' : V) (c2 : Nat)
  (hop : o.op = .call cl) (htg : evTargetA A cl = some (g,vs)) (hen : Enters P g) (hvs : mapO (trV h0 (lookE E1) [] 5) vs = some vs') (hA' : moveH h0 (lookE E1) [] E1 = some hA)
  (hc1 : (E1.all (fun x=>Nat.beq x.2.2 0) && nodupB (E1.map (·.1)) && nodupB (E1.map fun x=>x.2.1) && nodupB (E2.map (·.1)) && nodupB (E2.map fun x=>x.2.1) && Nat.ble c0 c2) = true)
  (hg : GO P g hA vs' r hr) (hr' : trV hr (lookE E2) [] 5 r = some r') (hB' : moveH hr (lookE E2) [] E2 = some hB) (hE2 : E2.all (okE2 h0 hr E1 c0 c2) = true) (hd : okD N o.dst = true)
  (hk : WO P bad E N ops (i + 1) ⟨putA A o.dst r',hB ++ eraseAll h0 (E1.map (·.1)),c2⟩ Q) : WO P bad E N ops i ⟨A,h0,c0⟩ Q :=
 WO_go (s:=⟨A,h0,c0⟩) (ho:=ho) (hgd:=hgd) (hA:=hA) (hr:=hr) (vs:=vs) (vs':=vs') (E1:=E1) (E2:=E2) (hB:=hB) (r:=r) (r':=r') (c2:=c2) (hop:=hop) (htg:=htg) (hen:=hen) (hvs:=hvs) (hA':=hA') (hc1:=hc1) (hg:=hg) (hr':=hr') (hB':=hB') (hE2:=hE2) (hd:=hd) (hk:=hk)
theorem WO_append' (hT : TabOk P T) (σ : SE T α) {ops : Array Oper} {i : Nat} {A : List (Nat × V)} {h0 : Hp} {c0 : Nat} {Q : Exit → SA → Prop} {o : Oper} (hoi : ops[i]? = some o) (hgd : evGuardA A ops o = some true) {d : Nat} {ty : TypeId} {pos : String} {af : Array Edge} {g : Option (Nat × Bool)} {x y : Operand} (b st : Nat) (nl : Bool) (l l2 : List α)
  (ho : o = ⟨some d,.call ⟨.builtin .append,#[x,y],#[σ.t,σ.t]⟩,ty,pos,af,g⟩) (hx : evA A x = .sl b st 0 (σ.F l).length true) (hg : h0.get b = some ⟨st,σ.e,σ.sz,false,nl,σ.F l⟩) (hy : elems h0 (evA A y) = some (σ.F l2))
  (hroom : room σ.i1.bytes l.length l2.length = true) (hd : Nat.blt d N = true)
  (hk : WO P bad E N ops (i + 1) ⟨(d,.sl d c0 0 (σ.F (l ++ l2)).length true) :: A,(h0.erase b).set d ⟨c0,σ.e,σ.sz,false,true,σ.F (l ++ l2)⟩,c0 + 1⟩ Q) : WO P bad E N ops i ⟨A,h0,c0⟩ Q :=
 WO_append (s:=⟨A,h0,c0⟩) (hT:=hT) (σ:=σ) (hoi:=hoi) (hgd:=hgd) (b:=b) (st:=st) (nl:=nl) (l:=l) (l2:=l2) (ho:=ho) (hx:=hx) (hg:=hg) (hy:=hy) (hroom:=hroom) (hd:=hd) (hk:=hk)
theorem WO_clip' (hT : TabOk P T) (σ : SE T α) {ops : Array Oper} {i : Nat} {A : List (Nat × V)} {h0 : Hp} {c0 : Nat} {Q : Exit → SA → Prop} {o : Oper} (hoi : ops[i]? = some o) (hgd : evGuardA A ops o = some true) {d : Option Tmp} {ty : TypeId} {pos : String} {af : Array Edge} {g : Option (Nat × Bool)} {x : Operand} {hi mx : Operand} (b st n : Nat) (tip : Bool) (B : Blk)
  (ho : o = ⟨d,.slice σ.t x none (some hi) (some mx),ty,pos,af,g⟩) (hx : evA A x = .sl b st 0 n tip) (hg : h0.get b = some B) (hs : B.s = st) (hh : evA A hi = .p (.int .i64 n)) (hm : evA A mx = .p (.int .i64 n)) (hd : okD N d = true)
  (hk : WO P bad E N ops (i + 1) ⟨putA A d (.sl b st 0 n false),h0,c0⟩ Q) : WO P bad E N ops i ⟨A,h0,c0⟩ Q :=
 WO_clip (s:=⟨A,h0,c0⟩) (hT:=hT) (σ:=σ) (hoi:=hoi) (hgd:=hgd) (b:=b) (st:=st) (n:=n) (tip:=tip) (B:=B) (ho:=ho) (hx:=hx) (hg:=hg) (hs:=hs) (hh:=hh) (hm:=hm) (hd:=hd) (hk:=hk)
theorem WO_isnil' (hT : TabOk P T) (σ : SE T α) {ops : Array Oper} {i : Nat} {A : List (Nat × V)} {h0 : Hp} {c0 : Nat} {Q : Exit → SA → Prop} {o : Oper} (hoi : ops[i]? = some o) (hgd : evGuardA A ops o = some true) {d : Option Tmp} {t' ty : TypeId} {pos : String} {af : Array Edge} {g : Option (Nat × Bool)} {x : Operand} (k : SC) (l : List α)
  (ho : o = ⟨d,.binOp .eql σ.t x (.const (.slice none 0 0)) t',ty,pos,af,g⟩) (hx : evA A x = .ps k (σ.F l)) (hd : okD N d = true)
  (hk : ∀ b : Bool,(b = true → l = []) → WO P bad E N ops (i + 1) ⟨putA A d (.p (.bool b)),h0,c0⟩ Q) : WO P bad E N ops i ⟨A,h0,c0⟩ Q :=
 WO_isnil (s:=⟨A,h0,c0⟩) (hT:=hT) (σ:=σ) (hoi:=hoi) (hgd:=hgd) (k:=k) (l:=l) (ho:=ho) (hx:=hx) (hd:=hd) (hk:=hk)
theorem One' (hT : TabOk P T) {ops : Array Oper} {i : Nat} {A : List (Nat × V)} {h0 : Hp} {c0 : Nat} {Q : Exit → SA → Prop} {o : Oper} (ho : ops[i]? = some o) {v : V} {h' : Hp} {c' : Nat} (he : evOperF P T false (evA A) o h0 c0 = some (v,h',c')) (hk : WO P bad E N ops (i + 1) ⟨putA A o.dst v,h',c'⟩ Q)
  (hg : evGuardA A ops o = some true:=by kernel_rfl) (hd : okD N o.dst = true:=by kernel_rfl) : WO P bad E N ops i ⟨A,h0,c0⟩ Q :=
 One (s:=⟨A,h0,c0⟩) (hT:=hT) (ho:=ho) (he:=he) (hk:=hk) (hg:=hg) (hd:=hd)
theorem Pt' {ops : Array Oper} {i : Nat} {A : List (Nat × V)} {h0 : Hp} {c0 : Nat} {Q : Exit → SA → Prop} {o : Oper} {cl : Call} {g : FuncId} {vs : List V} {r : V} (hen : Enters P g) (hc : PT P g vs r) (hk : WO P bad E N ops (i + 1) ⟨putA A o.dst r,h0,c0⟩ Q)
  (ho : ops[i]? = some o:=by rfl) (hop : o.op = .call cl:=by rfl) (hg : evGuardA A ops o = some true:=by kernel_rfl) (htg : evTargetA A cl = some (g,vs):=by kernel_rfl) (hpu : vs.all (pur 6) = true:=by kernel_rfl)
  (hd : okD N o.dst = true:=by kernel_rfl) : WO P bad E N ops i ⟨A,h0,c0⟩ Q :=
 Pt (s:=⟨A,h0,c0⟩) (hen:=hen) (hc:=hc) (hk:=hk) (ho:=ho) (hop:=hop) (hg:=hg) (htg:=htg) (hpu:=hpu) (hd:=hd)
theorem WD_loc' {ops : Array Oper} {i : Nat} {es rs : List (Nat × List Nat)} {A : List (Nat × V)} {h0 : Hp} {c0 : Nat} {Q : SA → Prop} {o : Oper} (ho : ops[i]? = some o) (hs : keysLt N A = true) (hg : evGuardA A ops o = some true) (hl : localOp o.op = true) {v : V} {h' : Hp}
  (he : evOperF P T true (evA A) o h0 c0 = some (v,h',c0)) (hd : okD N o.dst = true) (hk : WD P T bad N ops (i + 1) es (rs ++ entryL i (rdA A o.op)) ⟨putA A o.dst v,h0,c0⟩ Q) : WD P T bad N ops i es rs ⟨A,h0,c0⟩ Q :=
 WD_loc (s:=⟨A,h0,c0⟩) (ho:=ho) (hs:=hs) (hg:=hg) (hl:=hl) (he:=he) (hd:=hd) (hk:=hk)
theorem WD_wr' {ops : Array Oper} {i : Nat} {es rs : List (Nat × List Nat)} {A : List (Nat × V)} {h0 : Hp} {c0 : Nat} {Q : SA → Prop} {o : Oper} (ho : ops[i]? = some o) (hs : keysLt N A = true) (hg : evGuardA A ops o = some true) (hl : writesOp o.op = true) {v : V} {h' : Hp} {c' : Nat}
  (he : evOperF P T true (evA A) o h0 c0 = some (v,h',c')) (hd : okD N o.dst = true) (hk : WD P T bad N ops (i + 1) (es ++ [(i,wrA A o h0 h')]) rs ⟨putA A o.dst v,h',c'⟩ Q) : WD P T bad N ops i es rs ⟨A,h0,c0⟩ Q :=
 WD_wr (s:=⟨A,h0,c0⟩) (ho:=ho) (hs:=hs) (hg:=hg) (hl:=hl) (he:=he) (hd:=hd) (hk:=hk)
theorem WD_pt' {ops : Array Oper} {i : Nat} {es rs : List (Nat × List Nat)} {A : List (Nat × V)} {h0 : Hp} {c0 : Nat} {Q : SA → Prop} {o : Oper} (ho : ops[i]? = some o) (hs : keysLt N A = true) (hg : evGuardA A ops o = some true) {cl : Call} {g : FuncId} (vs : List V) (r : V) (hop : o.op = .call cl) (htg : evTargetA A cl = some (g,vs)) (hen : Enters P g)
  (hpu : vs.all (pur 6) = true) (hc : PT P g vs r) (hd : okD N o.dst = true) (hk : WD P T bad N ops (i + 1) es rs ⟨putA A o.dst r,h0,c0⟩ Q) : WD P T bad N ops i es rs ⟨A,h0,c0⟩ Q :=
 WD_pt (s:=⟨A,h0,c0⟩) (ho:=ho) (hs:=hs) (hg:=hg) (vs:=vs) (r:=r) (hop:=hop) (htg:=htg) (hen:=hen) (hpu:=hpu) (hc:=hc) (hd:=hd) (hk:=hk)
theorem WD_go' {ops : Array Oper} {i : Nat} {es rs : List (Nat × List Nat)} {A : List (Nat × V)} {h0 : Hp} {c0 : Nat} {Q : SA → Prop} {o : Oper} (ho : ops[i]? = some o) (hs : keysLt N A = true) (hgd : evGuardA A ops o = some true) {cl : Call} {g : FuncId} (hA hr : Hp) (vs vs' : List V) (E1 E2 : List (Nat × Nat × Nat)) (hB : Hp) (r r' : V) (c2 : Nat)
  (hop : o.op = .call cl) (htg : evTargetA A cl = some (g,vs)) (hen : Enters P g) (hvs : mapO (trV h0 (lookE E1) [] 5) vs = some vs') (hA' : moveH h0 (lookE E1) [] E1 = some hA)
  (hc1 : (E1.all (fun x=>Nat.beq x.2.2 0) && nodupB (E1.map (·.1)) && nodupB (E1.map fun x=>x.2.1) && nodupB (E2.map (·.1)) && nodupB (E2.map fun x=>x.2.1) && Nat.ble c0 c2) = true)
  (hg : GO P g hA vs' r hr) (hr' : trV hr (lookE E2) [] 5 r = some r') (hB' : moveH hr (lookE E2) [] E2 = some hB) (hE2 : E2.all (okE2 h0 hr E1 c0 c2) = true) (hd : okD N o.dst = true)
  (hk : WD P T bad N ops (i + 1) (es ++ [(i,(E2.map fun x=>x.2.1) ++ E1.map (·.1))]) rs ⟨putA A o.dst r',hB ++ eraseAll h0 (E1.map (·.1)),c2⟩ Q) : WD P T bad N ops i es rs ⟨A,h0,c0⟩ Q :=
 WD_go (s:=⟨A,h0,c0⟩) (ho:=ho) (hs:=hs) (hgd:=hgd) (hA:=hA) (hr:=hr) (vs:=vs) (vs':=vs') (E1:=E1) (E2:=E2) (hB:=hB) (r:=r) (r':=r') (c2:=c2) (hop:=hop) (htg:=htg) (hen:=hen) (hvs:=hvs) (hA':=hA') (hc1:=hc1) (hg:=hg) (hr':=hr') (hB':=hB') (hE2:=hE2) (hd:=hd) (hk:=hk)
end
end Go.Mx
namespace Go.Mx
set_option linter.unusedVariables false
section
variable {P : Program} {T : TypeId → Option TI} {bad : Nat → Prop} {E : Ent} {N : Nat} {α : Type}
theorem Og {ops : Array Oper} {i : Nat} {A : List (Nat × V)} {h0 : Hp} {c0 : Nat} {Q : Exit → SA → Prop} {o : Oper} {cl : Call} {g : FuncId} (hA hr : Hp) (vs vs' : List V) (E1 E2 : List (Nat × Nat × Nat)) (hB : Hp) (r r' : V) (c2 : Nat) (hen : Enters P g) (hg : GO P g hA vs' r hr) (hk : WO P bad E N ops (i + 1) ⟨putA A o.dst r',hB ++ eraseAll h0 (E1.map (·.1)),c2⟩ Q) (ho : ops[i]? = some o:=by exact rfl) (hgd : evGuardA A ops o = some true:=by kernel_rfl) (hop : o.op = .call cl:=by exact rfl) (htg : evTargetA A cl = some (g,vs):=by kernel_rfl) (hvs : mapO (trV h0 (lookE E1) [] 5) vs = some vs':=by kernel_rfl) (hA' : moveH h0 (lookE E1) [] E1 = some hA:=by kernel_rfl) (hc1 : (E1.all (fun x=>Nat.beq x.2.2 0) && nodupB (E1.map (·.1)) && nodupB (E1.map fun x=>x.2.1) && nodupB (E2.map (·.1)) && nodupB (E2.map fun x=>x.2.1) && Nat.ble c0 c2) = true:=by kernel_rfl) (hr' : trV hr (lookE E2) [] 5 r = some r':=by kernel_rfl) (hB' : moveH hr (lookE E2) [] E2 = some hB:=by kernel_rfl) (hE2 : E2.all (okE2 h0 hr E1 c0 c2) = true:=by kernel_rfl) (hd : okD N o.dst = true:=by kernel_rfl) : WO P bad E N ops i ⟨A,h0,c0⟩ Q:=WO_go' (ho:=ho) (hgd:=hgd) (hA:=hA) (hr:=hr) (vs:=vs) (vs':=vs') (E1:=E1) (E2:=E2) (hB:=hB) (r:=r) (r':=r') (c2:=c2) (hop:=hop) (htg:=htg) (hen:=hen) (hvs:=hvs) (hA':=hA') (hc1:=hc1) (hg:=hg) (hr':=hr') (hB':=hB') (hE2:=hE2) (hd:=hd) (hk:=hk)
theorem Oa (hT : TabOk P T) (σ : SE T α) {ops : Array Oper} {i : Nat} {A : List (Nat × V)} {h0 : Hp} {c0 : Nat} {Q : Exit → SA → Prop} {o : Oper} {d : Nat} {ty : TypeId} {pos : String} {af : Array Edge} {g : Option (Nat × Bool)} {x y : Operand} (b st : Nat) (nl : Bool) (l l2 : List α) (hy : elems h0 (evA A y) = some (σ.F l2)) (hroom : room σ.i1.bytes l.length l2.length = true) (hk : WO P bad E N ops (i + 1) ⟨(d,.sl d c0 0 (σ.F (l ++ l2)).length true) :: A,(h0.erase b).set d ⟨c0,σ.e,σ.sz,false,true,σ.F (l ++ l2)⟩,c0 + 1⟩ Q) (hoi : ops[i]? = some o:=by exact rfl) (hgd : evGuardA A ops o = some true:=by kernel_rfl) (ho : o = ⟨some d,.call ⟨.builtin .append,#[x,y],#[σ.t,σ.t]⟩,ty,pos,af,g⟩:=by exact rfl) (hx : evA A x = .sl b st 0 (σ.F l).length true:=by kernel_rfl) (hg : h0.get b = some ⟨st,σ.e,σ.sz,false,nl,σ.F l⟩:=by kernel_rfl) (hd : Nat.blt d N = true:=by kernel_rfl) : WO P bad E N ops i ⟨A,h0,c0⟩ Q:=WO_append' (hT:=hT) (σ:=σ) (hoi:=hoi) (hgd:=hgd) (b:=b) (st:=st) (nl:=nl) (l:=l) (l2:=l2) (ho:=ho) (hx:=hx) (hg:=hg) (hy:=hy) (hroom:=hroom) (hd:=hd) (hk:=hk)
theorem Dl {ops : Array Oper} {i : Nat} {es rs : List (Nat × List Nat)} {A : List (Nat × V)} {h0 : Hp} {c0 : Nat} {Q : SA → Prop} {o : Oper} (ho : ops[i]? = some o) {v : V} {h' : Hp} (he : evOperF P T true (evA A) o h0 c0 = some (v,h',c0)) (hk : WD P T bad N ops (i + 1) es (rs ++ entryL i (rdA A o.op)) ⟨putA A o.dst v,h0,c0⟩ Q) (hs : keysLt N A = true:=by kernel_rfl) (hg : evGuardA A ops o = some true:=by kernel_rfl) (hl : localOp o.op = true:=by kernel_rfl) (hd : okD N o.dst = true:=by kernel_rfl) : WD P T bad N ops i es rs ⟨A,h0,c0⟩ Q:=WD_loc' (ho:=ho) (hs:=hs) (hg:=hg) (hl:=hl) (he:=he) (hd:=hd) (hk:=hk)
theorem Dw {ops : Array Oper} {i : Nat} {es rs : List (Nat × List Nat)} {A : List (Nat × V)} {h0 : Hp} {c0 : Nat} {Q : SA → Prop} {o : Oper} (ho : ops[i]? = some o) {v : V} {h' : Hp} {c' : Nat} (he : evOperF P T true (evA A) o h0 c0 = some (v,h',c')) (hk : WD P T bad N ops (i + 1) (es ++ [(i,wrA A o h0 h')]) rs ⟨putA A o.dst v,h',c'⟩ Q) (hs : keysLt N A = true:=by kernel_rfl) (hg : evGuardA A ops o = some true:=by kernel_rfl) (hl : writesOp o.op = true:=by kernel_rfl) (hd : okD N o.dst = true:=by kernel_rfl) : WD P T bad N ops i es rs ⟨A,h0,c0⟩ Q:=WD_wr' (ho:=ho) (hs:=hs) (hg:=hg) (hl:=hl) (he:=he) (hd:=hd) (hk:=hk)
theorem Dp {ops : Array Oper} {i : Nat} {es rs : List (Nat × List Nat)} {A : List (Nat × V)} {h0 : Hp} {c0 : Nat} {Q : SA → Prop} {o : Oper} {cl : Call} {g : FuncId} (vs : List V) (r : V) (hen : Enters P g) (hc : PT P g vs r) (hk : WD P T bad N ops (i + 1) es rs ⟨putA A o.dst r,h0,c0⟩ Q) (ho : ops[i]? = some o:=by exact rfl) (hs : keysLt N A = true:=by kernel_rfl) (hg : evGuardA A ops o = some true:=by kernel_rfl) (hop : o.op = .call cl:=by exact rfl) (htg : evTargetA A cl = some (g,vs):=by kernel_rfl) (hpu : vs.all (pur 6) = true:=by kernel_rfl) (hd : okD N o.dst = true:=by kernel_rfl) : WD P T bad N ops i es rs ⟨A,h0,c0⟩ Q:=WD_pt' (ho:=ho) (hs:=hs) (hg:=hg) (vs:=vs) (r:=r) (hop:=hop) (htg:=htg) (hen:=hen) (hpu:=hpu) (hc:=hc) (hd:=hd) (hk:=hk)
theorem Dg {ops : Array Oper} {i : Nat} {es rs : List (Nat × List Nat)} {A : List (Nat × V)} {h0 : Hp} {c0 : Nat} {Q : SA → Prop} {o : Oper} {cl : Call} {g : FuncId} (hA hr : Hp) (vs vs' : List V) (E1 E2 : List (Nat × Nat × Nat)) (hB : Hp) (r r' : V) (c2 : Nat) (hen : Enters P g) (hg : GO P g hA vs' r hr) (hk : WD P T bad N ops (i + 1) (es ++ [(i,(E2.map fun x=>x.2.1) ++ E1.map (·.1))]) rs ⟨putA A o.dst r',hB ++ eraseAll h0 (E1.map (·.1)),c2⟩ Q) (ho : ops[i]? = some o:=by exact rfl) (hs : keysLt N A = true:=by kernel_rfl) (hgd : evGuardA A ops o = some true:=by kernel_rfl) (hop : o.op = .call cl:=by exact rfl) (htg : evTargetA A cl = some (g,vs):=by kernel_rfl) (hvs : mapO (trV h0 (lookE E1) [] 5) vs = some vs':=by kernel_rfl) (hA' : moveH h0 (lookE E1) [] E1 = some hA:=by kernel_rfl) (hc1 : (E1.all (fun x=>Nat.beq x.2.2 0) && nodupB (E1.map (·.1)) && nodupB (E1.map fun x=>x.2.1) && nodupB (E2.map (·.1)) && nodupB (E2.map fun x=>x.2.1) && Nat.ble c0 c2) = true:=by kernel_rfl) (hr' : trV hr (lookE E2) [] 5 r = some r':=by kernel_rfl) (hB' : moveH hr (lookE E2) [] E2 = some hB:=by kernel_rfl) (hE2 : E2.all (okE2 h0 hr E1 c0 c2) = true:=by kernel_rfl) (hd : okD N o.dst = true:=by kernel_rfl) : WD P T bad N ops i es rs ⟨A,h0,c0⟩ Q:=WD_go' (ho:=ho) (hs:=hs) (hgd:=hgd) (hA:=hA) (hr:=hr) (vs:=vs) (vs':=vs') (E1:=E1) (E2:=E2) (hB:=hB) (r:=r) (r':=r') (c2:=c2) (hop:=hop) (htg:=htg) (hen:=hen) (hvs:=hvs) (hA':=hA') (hc1:=hc1) (hg:=hg) (hr':=hr') (hB':=hB') (hE2:=hE2) (hd:=hd) (hk:=hk)
theorem eO (σ : SE T α) {h : Hp} {v : V} (b s : Nat) (tip : Bool) (B : Blk) (l : List α) (hx : v = .sl b s 0 (σ.F l).length tip:=by kernel_rfl) (hg : h.get b = some B:=by kernel_rfl) (hs : B.s = s:=by exact rfl) (hv : B.var = false:=by exact rfl) (he : B.es = σ.F l:=by exact rfl) : elems h v = some (σ.F l):=elems_own (σ:=σ) (b:=b) (s:=s) (tip:=tip) (B:=B) (l:=l) (hx:=hx) (hg:=hg) (hs:=hs) (hv:=hv) (he:=he)
theorem v_index (σ : SE T α) {ρ : Operand → V} {dr : Bool} {h : Hp} {c : Nat} {d : Option Tmp} {ty : TypeId} {pos : String} {af : Array Edge} {g : Option (Nat × Bool)} {x ix : Operand} (k : SC) (l : List α) (kd : IntKind) (n : Int) {a : α} (ha : idx l n = some a) (hk : k ≠ .nil:=by decide) (hx : ρ x = .ps k (σ.F l):=by kernel_rfl) (hi : ρ ix = .p (.int kd n):=by kernel_rfl) :
  evOperF P T dr ρ ⟨d,.indexAddr σ.t x ix,ty,pos,af,g⟩ h c = some (.ref (σ.f a) 0,h,c):=ev_index (σ:=σ) (k:=k) (l:=l) (kd:=kd) (n:=n) (ha:=ha) (hk:=hk) (hx:=hx) (hi:=hi)
theorem v_indexA {ρ : Operand → V} {dr : Bool} {h : Hp} {c : Nat} {d : Option Tmp} {t ty : TypeId} {pos : String} {af : Array Edge} {g : Option (Nat × Bool)} {x ix : Operand} (f : α → V) (l : List α) (kd : IntKind) (n : Int) {a : α} (i0 i1 : TI) (e : TypeId) (ha : idx l n = some a) (hx : ρ x = .agg (l.map f):=by kernel_rfl) (hi : ρ ix = .p (.int kd n):=by kernel_rfl) (h0 : T t = some i0:=by exact rfl) (hd : i0.desc = .array l.length e:=by exact rfl) (he : T e = some i1:=by exact rfl) (hz : i1.size = 1:=by exact rfl) (hag : isAggD i1.desc = false:=by exact rfl) :
  evOperF P T dr ρ ⟨d,.index t x ix,ty,pos,af,g⟩ h c = some (f a,h,c):=ev_indexA (f:=f) (l:=l) (kd:=kd) (n:=n) (i0:=i0) (i1:=i1) (e:=e) (ha:=ha) (hx:=hx) (hi:=hi) (h0:=h0) (hd:=hd) (he:=he) (hz:=hz) (hag:=hag)
theorem v_index_own (σ : SE T α) {ρ : Operand → V} {dr : Bool} {h : Hp} {c : Nat} {d : Option Tmp} {ty : TypeId} {pos : String} {af : Array Edge} {g : Option (Nat × Bool)} {x ix : Operand} (b s : Nat) (tip : Bool) (B : Blk) (l : List α) (kd : IntKind) (n : Int) {a : α} (ha : idx l n = some a) (hx : ρ x = .sl b s 0 (σ.F l).length tip:=by kernel_rfl) (hi : ρ ix = .p (.int kd n):=by kernel_rfl) (hg : h.get b = some B:=by exact rfl) (hs : B.s = s:=by exact rfl) (hw : B.w = σ.sz:=by exact rfl) :
  evOperF P T dr ρ ⟨d,.indexAddr σ.t x ix,ty,pos,af,g⟩ h c = some (.box b s n.toNat 0,h,c):=ev_index_own (σ:=σ) (b:=b) (s:=s) (tip:=tip) (B:=B) (l:=l) (kd:=kd) (n:=n) (ha:=ha) (hx:=hx) (hi:=hi) (hg:=hg) (hs:=hs) (hw:=hw)
theorem v_len (σ : SE T α) {ρ : Operand → V} {dr : Bool} {h : Hp} {c : Nat} {d : Option Tmp} {ty : TypeId} {pos : String} {af : Array Edge} {g : Option (Nat × Bool)} {x : Operand} (k : SC) (l : List α) (hx : ρ x = .ps k (σ.F l):=by kernel_rfl) :
  evOperF P T dr ρ ⟨d,.call ⟨.builtin .len,#[x],#[σ.t]⟩,ty,pos,af,g⟩ h c = some (.p (.int .i64 l.length),h,c):=ev_len (σ:=σ) (k:=k) (l:=l) (hx:=hx)
theorem v_len_own (σ : SE T α) {ρ : Operand → V} {dr : Bool} {h : Hp} {c : Nat} {d : Option Tmp} {ty : TypeId} {pos : String} {af : Array Edge} {g : Option (Nat × Bool)} {x : Operand} (b s : Nat) (tip : Bool) (B : Blk) (l : List α) (hx : ρ x = .sl b s 0 (σ.F l).length tip:=by kernel_rfl) (hg : h.get b = some B:=by exact rfl) (hs : B.s = s:=by exact rfl) :
  evOperF P T dr ρ ⟨d,.call ⟨.builtin .len,#[x],#[σ.t]⟩,ty,pos,af,g⟩ h c = some (.p (.int .i64 l.length),h,c):=ev_len_own (σ:=σ) (b:=b) (s:=s) (tip:=tip) (B:=B) (l:=l) (hx:=hx) (hg:=hg) (hs:=hs)
theorem v_load_row (σ : SE T α) {ρ : Operand → V} {dr : Bool} {h : Hp} {c : Nat} {d : Option Tmp} {t ty : TypeId} {pos : String} {af : Array Edge} {g : Option (Nat × Bool)} {x : Operand} (b s : Nat) (B : Blk) (l : List α) (n off : Nat) (a : α) (v : V) (ha : l[n]? = some a) (hx : ρ x = .box b s n off:=by kernel_rfl) (hg : h.get b = some B:=by exact rfl) (hs : B.s = s:=by exact rfl) (hes : B.es = σ.F l:=by exact rfl) (hv : evLoad T [] t (.ref (σ.f a) off) = some v:=by kernel_rfl) :
  evOperF P T dr ρ ⟨d,.load t x,ty,pos,af,g⟩ h c = some (v,h,c):=ev_load_row (σ:=σ) (b:=b) (s:=s) (B:=B) (l:=l) (n:=n) (off:=off) (a:=a) (v:=v) (ha:=ha) (hx:=hx) (hg:=hg) (hs:=hs) (hes:=hes) (hv:=hv)
theorem v_slice (σ : SE T α) {ρ : Operand → V} {dr : Bool} {h : Hp} {c : Nat} {d : Option Tmp} {ty : TypeId} {pos : String} {af : Array Edge} {g : Option (Nat × Bool)} {x : Operand} {lo hi mx : Option Operand} (k : SC) (l : List α) (a b : Int) (q : Option Int) (l' : List α) (k' : SC) (hl' : sub l a b = some l') (hq : ∀ y ∈ q,y = b) (hx : ρ x = .ps k (σ.F l):=by kernel_rfl) (hlo : intOr 0 (lo.map ρ) = some a:=by kernel_rfl) (hhi : intOr l.length (hi.map ρ) = some b:=by kernel_rfl) (hmx : intOpt (mx.map ρ) = some q:=by kernel_rfl) (hmh : (mx.isSome && hi.isNone) = false:=by exact rfl) (hk : (match k with | .nil=>(.nil : SC) | .opt | .fopt=>if mx.isSome then .fopt else .opt | _=>if mx.isSome then .full else .any) = k':=by exact rfl) (hk0 : k ≠ .nil:=by decide) :
  evOperF P T dr ρ ⟨d,.slice σ.t x lo hi mx,ty,pos,af,g⟩ h c = some (.ps k' (σ.F l'),h,c):=ev_slice (σ:=σ) (k:=k) (l:=l) (a:=a) (b:=b) (q:=q) (l':=l') (k':=k') (hl':=hl') (hx:=hx) (hlo:=hlo) (hhi:=hhi) (hmx:=hmx) (hq:=hq) (hmh:=hmh) (hk:=hk) (hk0:=hk0)
theorem v_storeRow (σ : SE T α) {dr : Bool} {ρ : Operand → V} {h : Hp} {c : Nat} {d : Option Tmp} {t ty : TypeId} {pos : String} {af : Array Edge} {g : Option (Nat × Bool)} {x y : Operand} (b st : Nat) (B : Blk) (l : List α) (n off : Nat) (a a' : α) (ha : l[n]? = some a) {i0 : TI} (hx : ρ x = .box b st n off:=by kernel_rfl) (hg : h.get b = some B:=by kernel_rfl) (hs : B.s = st:=by exact rfl) (hv : B.var = false:=by exact rfl) (hes : B.es = σ.F l:=by exact rfl) (h0 : T t = some i0:=by exact rfl) (hf : frz 4 h (ρ y) = some (ρ y,h):=by kernel_rfl) (hz : (Nat.blt 0 i0.size && Nat.beq (optV (ρ y)).cells.length i0.size && Nat.ble (off + i0.size) (σ.f a).cells.length && (optV (ρ y)).cells.all V.one) = true:=by kernel_rfl) (he : (if off = 0 ∧ (σ.f a).isAgg = true ∧ (optV (ρ y)).isAgg = true ∧ (σ.f a).cells.length = i0.size then optV (ρ y) else if (σ.f a).isAgg = true then .agg ((σ.f a).cells.take off ++ (optV (ρ y)).cells ++ (σ.f a).cells.drop (off + i0.size)) else ((optV (ρ y)).cells.headD .undef)) = σ.f a':=by kernel_rfl) :
  evOperF P T dr ρ ⟨d,.store t x y,ty,pos,af,g⟩ h c = some (.p Go.undef,h.set b { B with es:=σ.F (l.set n a') },c):=ev_storeRow (σ:=σ) (b:=b) (st:=st) (B:=B) (l:=l) (n:=n) (off:=off) (a:=a) (a':=a') (ha:=ha) (hx:=hx) (hg:=hg) (hs:=hs) (hv:=hv) (hes:=hes) (h0:=h0) (hf:=hf) (hz:=hz) (he:=he)
end
section
variable {P : Program} {T : TypeId → Option TI} {bad : Nat → Prop} {E : Ent} {N : Nat}
theorem De {ops : Array Oper} {i : Nat} {es rs : List (Nat × List Nat)} {s : SA} {Q : SA → Prop} (h : Q s) (hi : Nat.ble ops.size i = true:=by kernel_rfl) (hc : (effPairs (closM ops.toList 0 []) es && wrPairs (closM ops.toList 0 []) rs es) = true:=by kernel_rfl) (hk : keysLt N s.A = true:=by kernel_rfl) : WD P T bad N ops i es rs s Q:=WD_end (hi:=hi) (hc:=hc) (hk:=hk) (h:=h)
theorem wOh {s : SA} (b0 b j : Nat) (B0 : Blk) (v0 v0' : V) (e : TypeId) (wd : Nat) (hg : s.h.get b0 = some B0:=by kernel_rfl) (hv : B0.var = true:=by kernel_rfl) (hes : B0.es = [v0]:=by kernel_rfl) (hj : v0.cells[j]? = some (.ps .nil []):=by kernel_rfl) (hc' : v0'.cells = v0.cells.set j (.sl b s.c 0 0 true):=by kernel_rfl) (hb : s.h.get b = none:=by kernel_rfl) (hc : Nat.ble E.c s.c = true:=by kernel_rfl) : Weak bad E N s ⟨s.A,(b,⟨s.c,e,wd,false,true,[]⟩) :: (b0,{ B0 with es:=[v0'] }) :: s.h.erase b0,s.c + 1⟩:=Weak_ownH (b0:=b0) (b:=b) (j:=j) (B0:=B0) (v0:=v0) (v0':=v0') (e:=e) (wd:=wd) (hg:=hg) (hv:=hv) (hes:=hes) (hj:=hj) (hc':=hc') (hb:=hb) (hc:=hc)
theorem wO {s : SA} (k b : Nat) (e : TypeId) (wd : Nat) (h : lkA s.A k = .ps .nil []:=by kernel_rfl) (hb : s.h.get b = none:=by kernel_rfl) (hk : Nat.blt k N = true:=by kernel_rfl) (hc : Nat.ble E.c s.c = true:=by kernel_rfl) :
  Weak bad E N s ⟨(k,.sl b s.c 0 0 true) :: s.A,(b,⟨s.c,e,wd,false,true,[]⟩) :: s.h,s.c + 1⟩:=Weak_own (k:=k) (b:=b) (e:=e) (wd:=wd) (h:=h) (hb:=hb) (hk:=hk) (hc:=hc)
theorem wF {s : SA} (b st : Nat) (B : Blk) (A' : List (Nat × V)) (h' : Hp) (hA : FzA b st B.es s.A A') (hH : FzH b st B.es (s.h.erase b) h') (hg : s.h.get b = some B:=by kernel_rfl) (hs : B.s = st:=by exact rfl) (hv : B.var = false:=by exact rfl) : Weak bad E N s ⟨A',h',s.c⟩:=Weak_frz (b:=b) (st:=st) (B:=B) (hg:=hg) (hs:=hs) (hv:=hv) (A':=A') (h':=h') (hA:=hA) (hH:=hH)
theorem wL {s : SA} (A' : List (Nat × V)) (h' : Hp) (hA : SLe s.A A') (hH : HLe s.h h') (hk : keysLt N A' = true:=by kernel_rfl) : Weak bad E N s ⟨A',h',s.c⟩:=Weak_leH (A':=A') (h':=h') (hk:=hk) (hA:=hA) (hH:=hH)
end
section
variable {P : Program} {bad : Nat → Prop} {E : Ent} {N : Nat}
theorem Ci {k : Operand} {x y : Code} {s : SA} {Q : Exit → SA → Prop} {β : Type} {X Y r : β} {b : Bool} (h : (bif b then X else Y) = r) (h1 : X = r → WA P bad E N x s Q) (h2 : Y = r → WA P bad E N y s Q) (hk : evA s.A k = .p (.bool b):=by kernel_rfl) : WA P bad E N (.cond k x y) s Q :=
 WA_cond b hk (fun hb=>h1 (ctrue hb h)) fun hb=>h2 (cfalse hb h)
end
abbrev cb (st t e : Nat) (v : V) : Blk:=⟨st,t,e,true,false,[v]⟩
abbrev rb {T : TypeId → Option TI} {α : Type} (st : Nat) (σ : SE T α) (l : List α) : Blk:=⟨st,σ.e,σ.sz,false,true,σ.F l⟩
abbrev po {T : TypeId → Option TI} {α : Type} (σ : SE T α) (l : List α) : V:=.ps .opt (σ.F l)
abbrev vs {T : TypeId → Option TI} {α : Type} (b st : Nat) (σ : SE T α) (l : List α) : V:=.sl b st 0 (σ.F l).length true
abbrev vn : V:=.ps .nil []
abbrev bx (b s : Nat) : V:=.box b s 0 0
abbrev vU : V:=.p Go.undef
end Go.Mx
namespace Go.Mx
set_option linter.unusedVariables false
set_option linter.unusedSimpArgs false
section
variable {P : Program} {T : TypeId → Option TI} {bad : Nat → Prop} {E : Ent} {N : Nat} {α : Type}
theorem HeapRep.swap {w : World} {m : MM} {c : Nat} {h : Hp} (hh : HeapRep bad h w m c) {b : Nat} {B B' : Blk} (hg : h.get b = some B) (hB : ∀ l,m b = some l → HoldsB bad w m c l B → HoldsB bad w m c l B') : HeapRep bad (h.set b B') w m c:=by
 refine ⟨fun k B1 hk=>?_,fun k hk=>?_,hh.lt,hh.nb,hh.inj⟩
 ·rw [Hp.get_set] at hk
  split at hk
  ·rename_i e; subst e
   cases hk
   obtain ⟨l,h1,h2⟩:=hh.get b B hg
   exact ⟨l,h1,hB l h1 h2⟩
  ·exact hh.get k B1 hk
 ·rw [Hp.get_set] at hk
  split at hk
  ·cases hk
  ·exact hh.non k hk
def clr (l : List α) (n : Int) (z : α) : List α:=l.take n.toNat ++ List.replicate (l.length - n.toNat) z
theorem clr_length (l : List α) (n : Int) (z : α) : (clr l n z).length = l.length:=by
 unfold clr; simp; omega
end
end Go.Mx
namespace Go.Mx
set_option linter.unusedVariables false
set_option linter.unusedSimpArgs false
section
variable {P : Program} {T : TypeId → Option TI} {bad : Nat → Prop} {E : Ent} {N : Nat} {α : Type}
theorem Eff_peek {o : Oper} {s s' : SA} (hw : Weak bad E N s s') {cl : Call} {g : FuncId} {bor : List Nat} {vs vs' : List V} {r : V} (hop : o.op = .call cl) (htg : evTargetA s'.A cl = some (g,vs)) (hen : Enters P g)
  (ht : mapO (trV s'.h (fun _=>none) bor 5) vs = some vs') (hpu : vs'.all (pur 6) = true) (hsc : scal 4 r = true) (hc : PT P g vs' r) (hd : okD N o.dst = true) : Eff P bad E N o s (fun t=>t = ⟨putA s.A o.dst r,s.h,s.c⟩):=by
 intro a w m hs hl K QQ hK
 obtain ⟨m',hs',_⟩:=hw a w m hs hl
 have htg' : evTarget (mkT N s'.A) cl = some (g,vs):=by
  rw [← htg]; unfold evTarget evTargetA; simp only [evA_eq hs'.1]
  cases cl.callee with
  | value f=>simp only []; cases evalO (mkT N s'.A) f <;> rfl
  | _=>rfl
 obtain ⟨xs,hrun,hlen,hr⟩:=call_run hs'.2.t htg' hen o hop
 have hh:=hs'.2.h
 simp only [SA.st] at hh hr
 obtain ⟨hl',htr⟩:=mapO_spec ht
 let bad' : Nat → Prop:=fun β=>bad β ∨ ∃ b l,b ∉ bor ∧ m' b = some l ∧ l.blk = some β
 have hbad' : ∀ β,bad' β → β < w.heap.size:=fun β hβ=>by
  rcases hβ with h1 | ⟨b,l,_,h1,h2⟩
  ·exact hh.lt β h1
  ·exact hh.blk_lt h1 h2
 have hok : ∀ β,okOf bad w m' β → okOf bad' w noM β:=fun β hβ=>⟨hβ.1,fun h1=>by
  rcases h1 with h1 | ⟨b,l,_,h1,h2⟩
  ·exact hβ.2.1 h1
  ·exact hβ.2.2 b l h1 h2,fun b l h1=>by simp [noM] at h1⟩
 have hargs : ∀ i (h1 : i < vs'.length) (h2 : i < xs.size),RepP w (okOf bad' w noM) vs'[i] xs[i]:=fun i h1 h2=>by
  have:=trV_sound (bad':=bad') (m':=noM) (c':=s'.c) hh hok (κ:=fun _=>none) (bor:=bor) (fun b b' s' h=>by cases h) (fun b hb _ l β h3 h4=>⟨hh.blk_lt h3 h4,fun h5=>by
   rcases h5 with h5 | ⟨b2,l2,h6,h7,h8⟩
   ·exact hh.nb b l β h3 h4 h5
   ·exact h6 (hh.inj b b2 l l2 β h3 h7 h4 h8 ▸ hb),fun b l h1=>by simp [noM] at h1⟩) 5 _ _ _ (hr i (by omega) h2) (htr i (by omega) h1)
  exact rep_noM this (List.all_eq_true.1 hpu _ (List.getElem_mem h1))
 simp only [Oper.wp,hrun,Oper.upon]
 refine (hc bad' w xs hbad' (by omega) hargs).mono ?_
 rintro e w' ⟨x,rfl,hrx,hle⟩
 have hkeep : ∀ β,β < w.heap.size → w'.heap[β]? = w.heap[β]?:=fun β hβ=>hle.keep β hβ fun b l h1=>by simp [noM] at h1
 obtain ⟨le1,hh1⟩:=hs.2.h.world hkeep hle.size hle.os hle.output hle.tape
 exact hK _ _ _ m rfl (hs.put le1 hh1 (.pure (scal_rep 4 hsc hrx)) hd) (hl.trans le1)
theorem WO_pk {ops : Array Oper} {i : Nat} {A : List (Nat × V)} {h0 : Hp} {c0 : Nat} {Q : Exit → SA → Prop} {o : Oper} (s' : SA) (hw : Weak bad E N ⟨A,h0,c0⟩ s') {cl : Call} {g : FuncId} (bor : List Nat) (vs vs' : List V) (r : V) (hen : Enters P g) (hc : PT P g vs' r)
  (hk : WO P bad E N ops (i + 1) ⟨putA A o.dst r,h0,c0⟩ Q) (ho : ops[i]? = some o:=by exact rfl) (hop : o.op = .call cl:=by exact rfl) (hgd : evGuardA A ops o = some true:=by kernel_rfl) (htg : evTargetA s'.A cl = some (g,vs):=by kernel_rfl)
  (ht : mapO (trV s'.h (fun _=>none) bor 5) vs = some vs':=by kernel_rfl) (hpu : vs'.all (pur 6) = true:=by kernel_rfl) (hsc : scal 4 r = true:=by kernel_rfl) (hd : okD N o.dst = true:=by kernel_rfl) : WO P bad E N ops i ⟨A,h0,c0⟩ Q :=
 WO_eff _ ho hgd (Eff_peek hw hop htg hen ht hpu hsc hc hd) fun t e=>by subst e; exact hk
end
end Go.Mx
namespace Go.Su.Ytogllinpkijkpaa
open Go.Mx Go.Proofs
set_option maxRecDepth 100000
set_option maxHeartbeats 20000000
set_option linter.unusedVariables false
set_option linter.unusedSimpArgs false
structure Act where
 What : Int
 A : Int
 B : Int
 N : Int
 E : List Int
structure Decl where
 Kind : Int
 Name : ByteArray
 N : Int
 At : Cx
structure Expr where
 Kind : Int
 N : Int
 Name : ByteArray
 Of : List Expr
structure Stmt where
 Kind : Int
 Name : ByteArray
 Other : ByteArray
 N : Int
 E : Expr
 Body : List Stmt
 Else : List Stmt
 At : Cx
structure Prog where
 Decls : List Decl
 Threads : List (List Stmt)
structure Arr2_string where
 e0 : ByteArray
 e1 : ByteArray
def eAct (x : Act) : V:=.agg [.p (.int .i64 x.What),.p (.int .i64 x.A),.p (.int .i64 x.B),.p (.int .i64 x.N),.ps .opt (List.map e_i64 x.E)]
def eDecl (x : Decl) : V:=.agg [.p (.int .i64 x.Kind),.p (.string x.Name),.p (.int .i64 x.N),.p (.complex .f64 x.At.re x.At.im)]
mutual
def rExpr : Expr → V
 | ⟨x0,x1,x2,x3⟩=>.agg [.p (.int .i64 x0),.p (.int .i64 x1),.p (.string x2),.ps .opt (lExpr x3)]
def lExpr : List Expr → List V
 | []=>[]
 | e :: r=>rExpr e :: lExpr r
end
def eExpr (x : Expr) : V:=.agg [.p (.int .i64 x.Kind),.p (.int .i64 x.N),.p (.string x.Name),.ps .opt (lExpr x.Of)]
theorem rExpr_eq (x : Expr) : rExpr x = eExpr x:=by cases x; rw [rExpr]; rfl
theorem lExpr_eq (l : List Expr) : lExpr l = l.map eExpr:=by
 induction l with
 | nil=>rw [lExpr]; rfl
 | cons a r ih=>rw [lExpr,rExpr_eq,ih]; rfl
mutual
def rStmt : Stmt → V
 | ⟨x0,x1,x2,x3,x4,x5,x6,x7⟩=>.agg [.p (.int .i64 x0),.p (.string x1),.p (.string x2),.p (.int .i64 x3),.p (.int .i64 x4.Kind),.p (.int .i64 x4.N),.p (.string x4.Name),.ps .opt (lExpr x4.Of),.ps .opt (lStmt x5),.ps .opt (lStmt x6),.p (.complex .f64 x7.re x7.im)]
def lStmt : List Stmt → List V
 | []=>[]
 | e :: r=>rStmt e :: lStmt r
end
def eStmt (x : Stmt) : V:=.agg [.p (.int .i64 x.Kind),.p (.string x.Name),.p (.string x.Other),.p (.int .i64 x.N),.p (.int .i64 x.E.Kind),.p (.int .i64 x.E.N),.p (.string x.E.Name),.ps .opt (lExpr x.E.Of),.ps .opt (lStmt x.Body),.ps .opt (lStmt x.Else),.p (.complex .f64 x.At.re x.At.im)]
theorem rStmt_eq (x : Stmt) : rStmt x = eStmt x:=by cases x; rw [rStmt]; rfl
theorem lStmt_eq (l : List Stmt) : lStmt l = l.map eStmt:=by
 induction l with
 | nil=>rw [lStmt]; rfl
 | cons a r ih=>rw [lStmt,rStmt_eq,ih]; rfl
def eProg (x : Prog) : V:=.agg [.ps .opt (List.map eDecl x.Decls),.ps .opt (List.map (fun l=>V.ps .opt (lStmt l)) x.Threads)]
def tbl : List (Nat × TI):=[(3,⟨1,8,.int .i64,.p (.int .i64 0)⟩),
 (4,⟨1,1,.bool,.p (.bool false)⟩),
 (9,⟨1,16,.string,.p (.string ByteArray.empty)⟩),
 (22,⟨1,24,.slice 73,.ps .nil []⟩),
 (23,⟨1,24,.slice 42,.ps .nil []⟩),
 (24,⟨1,24,.slice 29,.ps .nil []⟩),
 (26,⟨2,48,.struct #[⟨"Decls",23,0,false, "", "",0⟩,⟨"Threads",24,1,false, "", "",24⟩],.agg [.ps .nil [],.ps .nil []]⟩),
 (29,⟨1,24,.slice 39,.ps .nil []⟩),
 (34,⟨1,24,.slice 36,.ps .nil []⟩),
 (36,⟨4,56,.struct #[⟨"Kind",3,0,false, "", "",0⟩,⟨"N",3,1,false, "", "",8⟩,⟨"Name",9,2,false, "", "",16⟩,⟨"Of",34,3,false, "", "",32⟩],.agg [.p (.int .i64 0),.p (.int .i64 0),.p (.string ByteArray.empty),.ps .nil []]⟩),
 (37,⟨1,16,.complex .f64,.p (.complex .f64 0 0)⟩),
 (39,⟨11,168,.struct #[⟨"Kind",3,0,false, "", "",0⟩,⟨"Name",9,1,false, "", "",8⟩,⟨"Other",9,2,false, "", "",24⟩,⟨"N",3,3,false, "", "",40⟩,⟨"E",36,4,false, "", "",48⟩,⟨"Body",29,8,false, "", "",104⟩,⟨"Else",29,9,false, "", "",128⟩,⟨"At",37,10,false, "", "",152⟩],.agg [.p (.int .i64 0),.p (.string ByteArray.empty),.p (.string ByteArray.empty),.p (.int .i64 0),.p (.int .i64 0),.p (.int .i64 0),.p (.string ByteArray.empty),.ps .nil [],.ps .nil [],.ps .nil [],.p (.complex .f64 0 0)]⟩),
 (42,⟨4,48,.struct #[⟨"Kind",3,0,false, "", "",0⟩,⟨"Name",9,1,false, "", "",8⟩,⟨"N",3,2,false, "", "",24⟩,⟨"At",37,3,false, "", "",32⟩],.agg [.p (.int .i64 0),.p (.string ByteArray.empty),.p (.int .i64 0),.p (.complex .f64 0 0)]⟩),
 (45,⟨1,24,.slice 3,.ps .nil []⟩),
 (49,⟨1,24,.slice 9,.ps .nil []⟩),
 (55,⟨3,72,.array 3 22,.agg [.ps .nil [],.ps .nil [],.ps .nil []]⟩),
 (73,⟨5,56,.struct #[⟨"What",3,0,false, "", "",0⟩,⟨"A",3,1,false, "", "",8⟩,⟨"B",3,2,false, "", "",16⟩,⟨"N",3,3,false, "", "",24⟩,⟨"E",45,4,false, "", "",32⟩],.agg [.p (.int .i64 0),.p (.int .i64 0),.p (.int .i64 0),.p (.int .i64 0),.ps .nil []]⟩),
 (76,⟨2,32,.array 2 9,.agg [.p (.string ByteArray.empty),.p (.string ByteArray.empty)]⟩),
 (81,⟨1,8,.int .u64,.p (.int .u64 0)⟩),
 (84,⟨8,128,.array 8 9,.agg [.p (.string ByteArray.empty),.p (.string ByteArray.empty),.p (.string ByteArray.empty),.p (.string ByteArray.empty),.p (.string ByteArray.empty),.p (.string ByteArray.empty),.p (.string ByteArray.empty),.p (.string ByteArray.empty)]⟩),
 (90,⟨1,8,.int .u64,.p (.int .u64 0)⟩)]
def tb : TypeId → Option TI:=lookT tbl
theorem rows : rowsOk Try.prog tbl:=⟨by kernel_rfl,by kernel_rfl,by kernel_rfl,by kernel_rfl,by kernel_rfl,by kernel_rfl,by kernel_rfl,by kernel_rfl,by kernel_rfl,by kernel_rfl,by kernel_rfl,by kernel_rfl,by kernel_rfl,by kernel_rfl,by kernel_rfl,by kernel_rfl,by kernel_rfl,by kernel_rfl,by kernel_rfl,by kernel_rfl,by kernel_rfl,trivial⟩
theorem hT : TabOk Try.prog tb:=tab_ok rows (by kernel_rfl)
theorem hM : Try.prog.follows .mixedOrders = true:=Checked.mixed Try.checked
def el_Act (l : List Act) : V:=.ps .opt (List.map eAct l)
def el_Stmt (l : List Stmt) : V:=.ps .opt (lStmt l)
def el_int (l : List Int) : V:=.ps .opt (List.map e_i64 l)
def s_Act : SE tb Act:={ f:=eAct,F:=List.map eAct,hF:=fun _=>rfl,sz:=5,hs:=fun _=>rfl,h1:=fun _=>rfl,t:=22,e:=73,i0:=⟨1,24,.slice 73,.ps .nil []⟩,i1:=⟨5,56,.struct #[⟨"What",3,0,false, "", "",0⟩,⟨"A",3,1,false, "", "",8⟩,⟨"B",3,2,false, "", "",16⟩,⟨"N",3,3,false, "", "",24⟩,⟨"E",45,4,false, "", "",32⟩],.agg [.p (.int .i64 0),.p (.int .i64 0),.p (.int .i64 0),.p (.int .i64 0),.ps .nil []]⟩,ht:=by kernel_rfl,hd:=rfl,he:=by kernel_rfl,hz:=rfl,hp:=by decide,hb:=by decide }
def s_Decl : SE tb Decl:={ f:=eDecl,F:=List.map eDecl,hF:=fun _=>rfl,sz:=4,hs:=fun _=>rfl,h1:=fun _=>rfl,t:=23,e:=42,i0:=⟨1,24,.slice 42,.ps .nil []⟩,i1:=⟨4,48,.struct #[⟨"Kind",3,0,false, "", "",0⟩,⟨"Name",9,1,false, "", "",8⟩,⟨"N",3,2,false, "", "",24⟩,⟨"At",37,3,false, "", "",32⟩],.agg [.p (.int .i64 0),.p (.string ByteArray.empty),.p (.int .i64 0),.p (.complex .f64 0 0)]⟩,ht:=by kernel_rfl,hd:=rfl,he:=by kernel_rfl,hz:=rfl,hp:=by decide,hb:=by decide }
def s_LStmt : SE tb (List Stmt):={ f:=el_Stmt,F:=List.map el_Stmt,hF:=fun _=>rfl,sz:=1,hs:=fun _=>rfl,h1:=fun _=>rfl,t:=24,e:=29,i0:=⟨1,24,.slice 29,.ps .nil []⟩,i1:=⟨1,24,.slice 39,.ps .nil []⟩,ht:=by kernel_rfl,hd:=rfl,he:=by kernel_rfl,hz:=rfl,hp:=by decide,hb:=by decide }
def s_Stmt : SE tb Stmt:={ f:=eStmt,F:=lStmt,hF:=lStmt_eq,sz:=11,hs:=fun _=>rfl,h1:=fun _=>rfl,t:=29,e:=39,i0:=⟨1,24,.slice 39,.ps .nil []⟩,i1:=⟨11,168,.struct #[⟨"Kind",3,0,false, "", "",0⟩,⟨"Name",9,1,false, "", "",8⟩,⟨"Other",9,2,false, "", "",24⟩,⟨"N",3,3,false, "", "",40⟩,⟨"E",36,4,false, "", "",48⟩,⟨"Body",29,8,false, "", "",104⟩,⟨"Else",29,9,false, "", "",128⟩,⟨"At",37,10,false, "", "",152⟩],.agg [.p (.int .i64 0),.p (.string ByteArray.empty),.p (.string ByteArray.empty),.p (.int .i64 0),.p (.int .i64 0),.p (.int .i64 0),.p (.string ByteArray.empty),.ps .nil [],.ps .nil [],.ps .nil [],.p (.complex .f64 0 0)]⟩,ht:=by kernel_rfl,hd:=rfl,he:=by kernel_rfl,hz:=rfl,hp:=by decide,hb:=by decide }
def s_Expr : SE tb Expr:={ f:=eExpr,F:=lExpr,hF:=lExpr_eq,sz:=4,hs:=fun _=>rfl,h1:=fun _=>rfl,t:=34,e:=36,i0:=⟨1,24,.slice 36,.ps .nil []⟩,i1:=⟨4,56,.struct #[⟨"Kind",3,0,false, "", "",0⟩,⟨"N",3,1,false, "", "",8⟩,⟨"Name",9,2,false, "", "",16⟩,⟨"Of",34,3,false, "", "",32⟩],.agg [.p (.int .i64 0),.p (.int .i64 0),.p (.string ByteArray.empty),.ps .nil []]⟩,ht:=by kernel_rfl,hd:=rfl,he:=by kernel_rfl,hz:=rfl,hp:=by decide,hb:=by decide }
def s_int : SE tb Int:={ f:=e_i64,F:=List.map e_i64,hF:=fun _=>rfl,sz:=1,hs:=fun _=>rfl,h1:=fun _=>rfl,t:=45,e:=3,i0:=⟨1,24,.slice 3,.ps .nil []⟩,i1:=⟨1,8,.int .i64,.p (.int .i64 0)⟩,ht:=by kernel_rfl,hd:=rfl,he:=by kernel_rfl,hz:=rfl,hp:=by decide,hb:=by decide }
def s_string : SE tb ByteArray:={ f:=e_s,F:=List.map e_s,hF:=fun _=>rfl,sz:=1,hs:=fun _=>rfl,h1:=fun _=>rfl,t:=49,e:=9,i0:=⟨1,24,.slice 9,.ps .nil []⟩,i1:=⟨1,16,.string,.p (.string ByteArray.empty)⟩,ht:=by kernel_rfl,hd:=rfl,he:=by kernel_rfl,hz:=rfl,hp:=by decide,hb:=by decide }
theorem en7 : Enters Try.prog 7:=enters Try.f7 Try.func7 rfl (by kernel_rfl)
theorem en8 : Enters Try.prog 8:=enters Try.f8 Try.func8 rfl (by kernel_rfl)
theorem en9 : Enters Try.prog 9:=enters Try.f9 Try.func9 rfl (by kernel_rfl)
theorem en10 : Enters Try.prog 10:=enters Try.f10 Try.func10 rfl (by kernel_rfl)
theorem en11 : Enters Try.prog 11:=enters Try.f11 Try.func11 rfl (by kernel_rfl)
theorem en12 : Enters Try.prog 12:=enters Try.f12 Try.func12 rfl (by kernel_rfl)
theorem en13 : Enters Try.prog 13:=enters Try.f13 Try.func13 rfl (by kernel_rfl)
theorem en15 : Enters Try.prog 15:=enters Try.f15 Try.func15 rfl (by kernel_rfl)
theorem en16 : Enters Try.prog 16:=enters Try.f16 Try.func16 rfl (by kernel_rfl)
theorem en22 : Enters Try.prog 22:=enters Try.f22 Try.func22 rfl (by kernel_rfl)
theorem en24 : Enters Try.prog 24:=enters Try.f24 Try.func24 rfl (by kernel_rfl)
theorem en25 : Enters Try.prog 25:=enters Try.f25 Try.func25 rfl (by kernel_rfl)
theorem en26 : Enters Try.prog 26:=enters Try.f26 Try.func26 rfl (by kernel_rfl)
theorem en27 : Enters Try.prog 27:=enters Try.f27 Try.func27 rfl (by kernel_rfl)
theorem en28 : Enters Try.prog 28:=enters Try.f28 Try.func28 rfl (by kernel_rfl)
theorem en29 : Enters Try.prog 29:=enters Try.f29 Try.func29 rfl (by kernel_rfl)
theorem en30 : Enters Try.prog 30:=enters Try.f30 Try.func30 rfl (by kernel_rfl)
theorem en31 : Enters Try.prog 31:=enters Try.f31 Try.func31 rfl (by kernel_rfl)
theorem en32 : Enters Try.prog 32:=enters Try.f32 Try.func32 rfl (by kernel_rfl)
theorem en33 : Enters Try.prog 33:=enters Try.f33 Try.func33 rfl (by kernel_rfl)
theorem en34 : Enters Try.prog 34:=enters Try.f34 Try.func34 rfl (by kernel_rfl)
theorem en35 : Enters Try.prog 35:=enters Try.f35 Try.func35 rfl (by kernel_rfl)
theorem en36 : Enters Try.prog 36:=enters Try.f36 Try.func36 rfl (by kernel_rfl)
theorem en37 : Enters Try.prog 37:=enters Try.f37 Try.func37 rfl (by kernel_rfl)
theorem en38 : Enters Try.prog 38:=enters Try.f38 Try.func38 rfl (by kernel_rfl)
theorem en39 : Enters Try.prog 39:=enters Try.f39 Try.func39 rfl (by kernel_rfl)
theorem en42 : Enters Try.prog 42:=enters Try.f42 Try.func42 rfl (by kernel_rfl)
theorem en45 : Enters Try.prog 45:=enters Try.f45 Try.func45 rfl (by kernel_rfl)
theorem en46 : Enters Try.prog 46:=enters Try.f46 Try.func46 rfl (by kernel_rfl)
theorem en47 : Enters Try.prog 47:=enters Try.f47 Try.func47 rfl (by kernel_rfl)
theorem en48 : Enters Try.prog 48:=enters Try.f48 Try.func48 rfl (by kernel_rfl)
theorem en49 : Enters Try.prog 49:=enters Try.f49 Try.func49 rfl (by kernel_rfl)
theorem en50 : Enters Try.prog 50:=enters Try.f50 Try.func50 rfl (by kernel_rfl)
theorem en51 : Enters Try.prog 51:=enters Try.f51 Try.func51 rfl (by kernel_rfl)
theorem en53 : Enters Try.prog 53:=enters Try.f53 Try.func53 rfl (by kernel_rfl)
theorem en54 : Enters Try.prog 54:=enters Try.f54 Try.func54 rfl (by kernel_rfl)
theorem en55 : Enters Try.prog 55:=enters Try.f55 Try.func55 rfl (by kernel_rfl)
abbrev k_x : ByteArray:=⟨#[120]⟩
abbrev k_y : ByteArray:=⟨#[121]⟩
abbrev k_z : ByteArray:=⟨#[122]⟩
abbrev k_a : ByteArray:=⟨#[97]⟩
abbrev k_t : ByteArray:=⟨#[116]⟩
abbrev k_m : ByteArray:=⟨#[109]⟩
abbrev k_c : ByteArray:=⟨#[99]⟩
abbrev k_d : ByteArray:=⟨#[100]⟩
abbrev k_l : ByteArray:=⟨#[108]⟩
abbrev k_k : ByteArray:=⟨#[107]⟩
end Go.Su.Ytogllinpkijkpaa
