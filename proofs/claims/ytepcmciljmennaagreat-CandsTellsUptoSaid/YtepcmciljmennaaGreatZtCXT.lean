/-
  The kinds of values of the program, and how they stand in the machine.
-/
import Derived.Test.YtepcmciljmennaaGreatZtDx11
import Derived.Laws.StructEq
import Derived.Lib.SlicesCompact
import Derived.Test.YtepcmciljmennaaGreatChecked
namespace Go.Mx
set_option linter.unusedVariables false
def cadd (a b : Cx) : Option Cx:=(FloatKind.f64.format.add a.re b.re).bind fun r=>(FloatKind.f64.format.add a.im b.im).bind fun i=>some ⟨r,i⟩
def cmul (a b : Cx) : Option Cx :=
 (FloatKind.f64.format.mul a.re b.re).bind fun p=>(FloatKind.f64.format.mul a.im b.im).bind fun q=>(FloatKind.f64.format.sub p q).bind fun r =>
 (FloatKind.f64.format.mul a.re b.im).bind fun s=>(FloatKind.f64.format.mul a.im b.re).bind fun t=>(FloatKind.f64.format.add s t).bind fun i=>some ⟨r,i⟩
theorem GO_leH {P : Program} {g : FuncId} {hA hA' hb : Hp} {vs : List V} {r : V} (hH : HLe hA' hA) (h : GO P g hA vs r hb) : GO P g hA' vs r hb :=
 fun bad w m xs hh hl hr=>h bad w m xs (hH.rep hh) hl hr
section
variable {P : Program} {T : TypeId → Option TI}
theorem ev_cadd {ρ : Operand → V} {dr : Bool} {h : Hp} {c : Nat} {d : Option Tmp} {t t' ty : TypeId} {pos : String} {af : Array Edge} {g : Option (Nat × Bool)} {x y : Operand} (a b : Cx) {r : Cx} (hr : cadd a b = some r) (hx : ρ x = vz a) (hy : ρ y = vz b) :
  evOperF P T dr ρ ⟨d,.binOp .add t x y t',ty,pos,af,g⟩ h c = some (vz r,h,c):=by
 unfold cadd at hr
 simp only [Option.bind_eq_some_iff] at hr
 obtain ⟨r1,h1,r2,h2,h3⟩:=hr
 cases h3
 have h4 : still P (do eqGuard .add t x y (.complex .f64 a.re a.im) (.complex .f64 b.re b.im); binOp .add t (.complex .f64 a.re a.im) (.complex .f64 b.re b.im) : Sem Value) = some (.complex .f64 r1 r2):=by
  have e1 : eqGuard .add t x y (.complex .f64 a.re a.im) (.complex .f64 b.re b.im) = pure ():=rfl
  have e2 : binOp .add t (.complex .f64 a.re a.im) (.complex .f64 b.re b.im) = pure (.complex .f64 r1 r2):=by
   show Op.complexOp .add .f64 a.re a.im b.re b.im = _
   simp [Op.complexOp,Op.Complex.arith,Op.floatArith,h1,h2]
  rw [e1,e2]; rfl
 simp only [evOperF,evBin,hx,hy,toVal,fastBin,h4,Option.map_some]
theorem ev_cmul {ρ : Operand → V} {dr : Bool} {h : Hp} {c : Nat} {d : Option Tmp} {t t' ty : TypeId} {pos : String} {af : Array Edge} {g : Option (Nat × Bool)} {x y : Operand} (a b : Cx) {r : Cx} (hr : cmul a b = some r) (hx : ρ x = vz a) (hy : ρ y = vz b) :
  evOperF P T dr ρ ⟨d,.binOp .mul t x y t',ty,pos,af,g⟩ h c = some (vz r,h,c):=by
 unfold cmul at hr
 simp only [Option.bind_eq_some_iff] at hr
 obtain ⟨p,h1,q,h2,r1,h3,s,h4,u,h5,i,h6,h7⟩:=hr
 cases h7
 have h8 : still P (do eqGuard .mul t x y (.complex .f64 a.re a.im) (.complex .f64 b.re b.im); binOp .mul t (.complex .f64 a.re a.im) (.complex .f64 b.re b.im) : Sem Value) = some (.complex .f64 r1 i):=by
  have e1 : eqGuard .mul t x y (.complex .f64 a.re a.im) (.complex .f64 b.re b.im) = pure ():=rfl
  have e2 : binOp .mul t (.complex .f64 a.re a.im) (.complex .f64 b.re b.im) = pure (.complex .f64 r1 i):=by
   show Op.complexOp .mul .f64 a.re a.im b.re b.im = _
   simp [Op.complexOp,Op.Complex.conv,Op.Complex.product,Op.Complex.mul,Op.Complex.sub,Op.Complex.add,Op.Complex.arith,Op.floatArith,h1,h2,h3,h4,h5,h6]
  rw [e1,e2]; rfl
 simp only [evOperF,evBin,hx,hy,toVal,fastBin,h8,Option.map_some]
end
end Go.Mx
namespace Go.Mx
set_option linter.unusedVariables false
def lov {α : Type} (es : List α) (off : Nat) (xs : List α) : List α:=es.take off ++ xs ++ es.drop (off + xs.length)
def lcopy {α : Type} (l xs : List α) : List α:=lov l 0 (xs.take (min xs.length l.length))
def rcopy {α : Type} (l : List α) (n : Nat) : List α:=lov l n ((l.take n).take (min n (l.length - n)))
theorem lov_length {α : Type} {es xs : List α} {off : Nat} (h : off + xs.length ≤ es.length) : (lov es off xs).length = es.length:=by unfold lov; simp; omega
theorem lcopy_length {α : Type} (l xs : List α) : (lcopy l xs).length = l.length:=lov_length (by simp; omega)
theorem rcopy_length {α : Type} (l : List α) (n : Nat) : (rcopy l n).length = l.length:=by
 unfold rcopy
 rcases Nat.lt_or_ge l.length n with h | h
 ·unfold lov; simp; omega
 ·exact lov_length (by simp; omega)
section
variable {P : Program} {T : TypeId → Option TI} {α : Type}
theorem SE.lov (σ : SE T α) (l : List α) (off : Nat) (xs : List α) : over (σ.F l) off (σ.F xs) = σ.F (lov l off xs):=by
 simp only [over,Go.Mx.lov,σ.hF,List.map_append,List.map_take,List.map_drop,List.length_map]
end
end Go.Mx
namespace Go.Mx
set_option linter.unusedVariables false
set_option linter.unusedSimpArgs false
inductive EC where
 | int (k : IntKind) (a b : Int)
 | bool (a b : Bool)
 | str (a b : ByteArray)
def EC.x : EC → Value
 | .int k a _=>.int k a
 | .bool a _=>.bool a
 | .str a _=>.string a
def EC.y : EC → Value
 | .int k _ b=>.int k b
 | .bool _ b=>.bool b
 | .str _ b=>.string b
def EC.b : EC → Bool
 | .int _ a b=>a == b
 | .bool a b=>a == b
 | .str a b=>bytesEq a b
def EC.fits : EC → TypeDesc → Bool
 | .int _ _ _,.int _=>true
 | .bool _ _,.bool=>true
 | .str _ _,.string=>true
 | _,_=>false
theorem still_bind {α β : Type} (P : Program) (s : Sem α) (k : α → Sem β) : still P (s >>= k) = (still P s).bind fun a=>still P (k a):=by
 show still P (Sem.bind s k) = _
 induction s with
 | pure a=>rfl
 | program f ih=>exact ih P
 | _=>rfl
theorem still_pure {α : Type} (P : Program) (a : α) : still P (pure a : Sem α) = some a:=rfl
theorem still_underlying {P : Program} {t : TypeId} {D : TypeDesc} (h : P.underlying t = some D) : still P (underlying t) = some D:=by
 simp only [underlying,still_bind]
 simp [program,still,h]
 rfl
section
variable {P : Program} {T : TypeId → Option TI}
theorem EC.eq (c : EC) {e : TypeId} {D : TypeDesc} (hu : P.underlying e = some D) (hf : c.fits D = true) (d : Nat) : still P (Op.equalIn (d + 1) e c.x c.y) = some c.b:=by
 cases c <;> cases D <;> simp [EC.fits] at hf <;> simp only [Op.equalIn,still_bind,still_underlying hu,Option.bind_some,EC.x,EC.y,EC.b,if_true,still_pure]
 rw [bytesEq_eq,beq_toListBytes]
variable {ρ : Operand → V} {dr : Bool} {h : Hp} {c : Nat} {d : Option Tmp} {t t' ty : TypeId} {pos : String} {af : Array Edge} {g : Option (Nat × Bool)} {x y : Operand}
end
end Go.Mx
namespace Go.Mx
set_option linter.unusedVariables false
section
variable {P : Program} {T : TypeId → Option TI} {bad : Nat → Prop} {E : Ent} {N : Nat}
variable {ops : Array Oper} {i : Nat} {A : List (Nat × V)} {h : Hp} {c : Nat}
theorem Sgd (hT : TabOk P T) {Q : Exit → SA → Prop} (n : Nat) (ks : List Nat) (dA : List (Nat × V)) (hq : WO P bad E N ops (i + n) ⟨keepA ks (dA ++ A),h,c⟩ Q)
  (hr : runK P T N ops i n ks ⟨A,h,c⟩ = some ⟨keepA ks (dA ++ A),h,c⟩:=by kernel_rfl) (hk : ks.all (Nat.blt · N) = true:=by kernel_rfl) : WO P bad E N ops i ⟨A,h,c⟩ Q:=WO_seg hT n ks _ hr hk hq
theorem Szd (hT : TabOk P T) {Q : Exit → SA → Prop} (n : Nat) (ks : List Nat) (dA : List (Nat × V)) (hq : Q .normal ⟨keepA ks (dA ++ A),h,c⟩)
  (hr : runK P T N ops i n ks ⟨A,h,c⟩ = some ⟨keepA ks (dA ++ A),h,c⟩:=by kernel_rfl) (hk : ks.all (Nat.blt · N) = true:=by kernel_rfl) (hi : Nat.ble ops.size (i + n) = true:=by kernel_rfl) : WO P bad E N ops i ⟨A,h,c⟩ Q:=Sz hT n ks _ hq hr hk hi
theorem Rgd (hT : TabOk P T) {id : Nat} {Q : Exit → SA → Prop} (n : Nat) (ks : List Nat) (dA : List (Nat × V)) (hq : WO P bad E N ops (0 + n) ⟨keepA ks (dA ++ A),h,c⟩ Q)
  (hr : runK P T N ops 0 n ks ⟨A,h,c⟩ = some ⟨keepA ks (dA ++ A),h,c⟩:=by kernel_rfl) (hk : ks.all (Nat.blt · N) = true:=by kernel_rfl) : WA P bad E N (.region id ops false) ⟨A,h,c⟩ Q:=Rg hT n ks _ hq hr hk
theorem Rzd (hT : TabOk P T) {id : Nat} {Q : Exit → SA → Prop} (n : Nat) (ks : List Nat) (dA : List (Nat × V)) (hq : Q .normal ⟨keepA ks (dA ++ A),h,c⟩)
  (hr : runK P T N ops 0 n ks ⟨A,h,c⟩ = some ⟨keepA ks (dA ++ A),h,c⟩:=by kernel_rfl) (hk : ks.all (Nat.blt · N) = true:=by kernel_rfl) (hi : Nat.ble ops.size (0 + n) = true:=by kernel_rfl) : WA P bad E N (.region id ops false) ⟨A,h,c⟩ Q:=Rz hT n ks _ hq hr hk hi
theorem Qgd (hT : TabOk P T) {id : Nat} {y : Code} {Q : Exit → SA → Prop} (n : Nat) (ks : List Nat) (dA : List (Nat × V)) (hq : WO P bad E N ops (0 + n) ⟨keepA ks (dA ++ A),h,c⟩ (thenA (fun s'=>WA P bad E N y s' Q) Q))
  (hr : runK P T N ops 0 n ks ⟨A,h,c⟩ = some ⟨keepA ks (dA ++ A),h,c⟩:=by kernel_rfl) (hk : ks.all (Nat.blt · N) = true:=by kernel_rfl) : WA P bad E N (.seq (.region id ops false) y) ⟨A,h,c⟩ Q:=Qg hT n ks _ hq hr hk
theorem Qzd (hT : TabOk P T) {id : Nat} {y : Code} {Q : Exit → SA → Prop} (n : Nat) (ks : List Nat) (dA : List (Nat × V)) (hq : WA P bad E N y ⟨keepA ks (dA ++ A),h,c⟩ Q)
  (hr : runK P T N ops 0 n ks ⟨A,h,c⟩ = some ⟨keepA ks (dA ++ A),h,c⟩:=by kernel_rfl) (hk : ks.all (Nat.blt · N) = true:=by kernel_rfl) (hi : Nat.ble ops.size (0 + n) = true:=by kernel_rfl) : WA P bad E N (.seq (.region id ops false) y) ⟨A,h,c⟩ Q:=Qz hT n ks _ hq hr hk hi
theorem Sgh (hT : TabOk P T) {Q : Exit → SA → Prop} (n : Nat) (ks : List Nat) (dA : List (Nat × V)) (h' : Hp) (c' : Nat) (hq : WO P bad E N ops (i + n) ⟨keepA ks (dA ++ A),h',c'⟩ Q)
  (hr : runK P T N ops i n ks ⟨A,h,c⟩ = some ⟨keepA ks (dA ++ A),h',c'⟩:=by kernel_rfl) (hk : ks.all (Nat.blt · N) = true:=by kernel_rfl) : WO P bad E N ops i ⟨A,h,c⟩ Q:=WO_seg hT n ks _ hr hk hq
theorem Szh (hT : TabOk P T) {Q : Exit → SA → Prop} (n : Nat) (ks : List Nat) (dA : List (Nat × V)) (h' : Hp) (c' : Nat) (hq : Q .normal ⟨keepA ks (dA ++ A),h',c'⟩)
  (hr : runK P T N ops i n ks ⟨A,h,c⟩ = some ⟨keepA ks (dA ++ A),h',c'⟩:=by kernel_rfl) (hk : ks.all (Nat.blt · N) = true:=by kernel_rfl) (hi : Nat.ble ops.size (i + n) = true:=by kernel_rfl) : WO P bad E N ops i ⟨A,h,c⟩ Q:=Sz hT n ks _ hq hr hk hi
theorem Rgh (hT : TabOk P T) {id : Nat} {Q : Exit → SA → Prop} (n : Nat) (ks : List Nat) (dA : List (Nat × V)) (h' : Hp) (c' : Nat) (hq : WO P bad E N ops (0 + n) ⟨keepA ks (dA ++ A),h',c'⟩ Q)
  (hr : runK P T N ops 0 n ks ⟨A,h,c⟩ = some ⟨keepA ks (dA ++ A),h',c'⟩:=by kernel_rfl) (hk : ks.all (Nat.blt · N) = true:=by kernel_rfl) : WA P bad E N (.region id ops false) ⟨A,h,c⟩ Q:=Rg hT n ks _ hq hr hk
theorem Qgh (hT : TabOk P T) {id : Nat} {y : Code} {Q : Exit → SA → Prop} (n : Nat) (ks : List Nat) (dA : List (Nat × V)) (h' : Hp) (c' : Nat) (hq : WO P bad E N ops (0 + n) ⟨keepA ks (dA ++ A),h',c'⟩ (thenA (fun s'=>WA P bad E N y s' Q) Q))
  (hr : runK P T N ops 0 n ks ⟨A,h,c⟩ = some ⟨keepA ks (dA ++ A),h',c'⟩:=by kernel_rfl) (hk : ks.all (Nat.blt · N) = true:=by kernel_rfl) : WA P bad E N (.seq (.region id ops false) y) ⟨A,h,c⟩ Q:=Qg hT n ks _ hq hr hk
theorem Qzh (hT : TabOk P T) {id : Nat} {y : Code} {Q : Exit → SA → Prop} (n : Nat) (ks : List Nat) (dA : List (Nat × V)) (h' : Hp) (c' : Nat) (hq : WA P bad E N y ⟨keepA ks (dA ++ A),h',c'⟩ Q)
  (hr : runK P T N ops 0 n ks ⟨A,h,c⟩ = some ⟨keepA ks (dA ++ A),h',c'⟩:=by kernel_rfl) (hk : ks.all (Nat.blt · N) = true:=by kernel_rfl) (hi : Nat.ble ops.size (0 + n) = true:=by kernel_rfl) : WA P bad E N (.seq (.region id ops false) y) ⟨A,h,c⟩ Q:=Qz hT n ks _ hq hr hk hi
variable {es rs : List (Nat × List Nat)} {Q : SA → Prop}
theorem Ds (n : Nat) (dA : List (Nat × V)) (dE dR : List (Nat × List Nat)) (hq : WD P T bad N ops (i + n) (es ++ dE) (rs ++ dR) ⟨dA ++ A,h,c⟩ Q) (hs : keysLt N A = true:=by kernel_rfl)
  (hr : runD P T N ops n i (ops.toList.drop i) ⟨A,h,c⟩ es rs = some (⟨dA ++ A,h,c⟩,es ++ dE,rs ++ dR):=by kernel_rfl) : WD P T bad N ops i es rs ⟨A,h,c⟩ Q:=WD_seg n _ _ _ hs hr hq
theorem Dh (n : Nat) (dA : List (Nat × V)) (h' : Hp) (c' : Nat) (dE dR : List (Nat × List Nat)) (hq : WD P T bad N ops (i + n) (es ++ dE) (rs ++ dR) ⟨dA ++ A,h',c'⟩ Q) (hs : keysLt N A = true:=by kernel_rfl)
  (hr : runD P T N ops n i (ops.toList.drop i) ⟨A,h,c⟩ es rs = some (⟨dA ++ A,h',c'⟩,es ++ dE,rs ++ dR):=by kernel_rfl) : WD P T bad N ops i es rs ⟨A,h,c⟩ Q:=WD_seg n _ _ _ hs hr hq
theorem Dt {d : Option Tmp} {v : V} (v' : V) (hq : WD P T bad N ops i es rs ⟨putA A d v',h,c⟩ Q) (hv : v = v':=by kernel_rfl) : WD P T bad N ops i es rs ⟨putA A d v,h,c⟩ Q:=by
 subst hv; exact hq
end
end Go.Mx
namespace Go.Mx
set_option linter.unusedVariables false
section
variable {P : Program} {T : TypeId → Option TI} {bad : Nat → Prop} {E : Ent} {N : Nat} {α : Type}
theorem WO_go' {ops : Array Oper} {i : Nat} {A : List (Nat × V)} {h0 : Hp} {c0 : Nat} {Q : Exit → SA → Prop} {o : Oper} (ho : ops[i]? = some o) (hgd : evGuardA A ops o = some true) {cl : Call} {g : FuncId} (hA hr : Hp) (vs vs' : List V) (E1 E2 : List (Nat × Nat × Nat)) (hB : Hp) (r r' : V) (c2 : Nat)
  (hop : o.op = .call cl) (htg : evTargetA A cl = some (g,vs)) (hen : Enters P g) (hvs : mapO (trV h0 (lookE E1) [] 5) vs = some vs') (hA' : moveH h0 (lookE E1) [] E1 = some hA)
  (hc1 : (E1.all (fun x=>Nat.beq x.2.2 0) && nodupB (E1.map (·.1)) && nodupB (E1.map fun x=>x.2.1) && nodupB (E2.map (·.1)) && nodupB (E2.map fun x=>x.2.1) && Nat.ble c0 c2) = true)
  (hg : GO P g hA vs' r hr) (hr' : trV hr (lookE E2) [] 5 r = some r') (hB' : moveH hr (lookE E2) [] E2 = some hB) (hE2 : E2.all (okE2 h0 hr E1 c0 c2) = true) (hd : okD N o.dst = true)
  (hk : WO P bad E N ops (i + 1) ⟨putA A o.dst r',hB ++ eraseAll h0 (E1.map (·.1)),c2⟩ Q) : WO P bad E N ops i ⟨A,h0,c0⟩ Q :=
 WO_go (s:=⟨A,h0,c0⟩) (ho:=ho) (hgd:=hgd) (hA:=hA) (hr:=hr) (vs:=vs) (vs':=vs') (E1:=E1) (E2:=E2) (hB:=hB) (r:=r) (r':=r') (c2:=c2) (hop:=hop) (htg:=htg) (hen:=hen) (hvs:=hvs) (hA':=hA') (hc1:=hc1) (hg:=hg) (hr':=hr') (hB':=hB') (hE2:=hE2) (hd:=hd) (hk:=hk)
theorem WO_append' (hT : TabOk P T) (σ : SE T α) {ops : Array Oper} {i : Nat} {A : List (Nat × V)} {h0 : Hp} {c0 : Nat} {Q : Exit → SA → Prop} {o : Oper} (hoi : ops[i]? = some o) (hgd : evGuardA A ops o = some true) {d : Nat} {ty : TypeId} {pos : String} {af : Array Edge} {g : Option (Nat × Bool)} {x y : Operand} (b st : Nat) (nl : Bool) (l l2 : List α)
  (ho : o = ⟨some d,.call ⟨.builtin .append,#[x,y],#[σ.t,σ.t]⟩,ty,pos,af,g⟩) (hx : evA A x = .sl b st 0 (σ.F l).length true) (hg : h0.get b = some ⟨st,σ.e,σ.sz,false,nl,σ.F l⟩) (hy : elems h0 (evA A y) = some (σ.F l2))
  (hroom : room σ.i1.bytes l.length l2.length = true) (hd : Nat.blt d N = true)
  (hk : WO P bad E N ops (i + 1) ⟨(d,.sl d c0 0 (σ.F (l ++ l2)).length true) :: A,(h0.erase b).set d ⟨c0,σ.e,σ.sz,false,true,σ.F (l ++ l2)⟩,c0 + 1⟩ Q) : WO P bad E N ops i ⟨A,h0,c0⟩ Q :=
 WO_append (s:=⟨A,h0,c0⟩) (hT:=hT) (σ:=σ) (hoi:=hoi) (hgd:=hgd) (b:=b) (st:=st) (nl:=nl) (l:=l) (l2:=l2) (ho:=ho) (hx:=hx) (hg:=hg) (hy:=hy) (hroom:=hroom) (hd:=hd) (hk:=hk)
theorem WO_clip' (hT : TabOk P T) (σ : SE T α) {ops : Array Oper} {i : Nat} {A : List (Nat × V)} {h0 : Hp} {c0 : Nat} {Q : Exit → SA → Prop} {o : Oper} (hoi : ops[i]? = some o) (hgd : evGuardA A ops o = some true) {d : Option Tmp} {ty : TypeId} {pos : String} {af : Array Edge} {g : Option (Nat × Bool)} {x : Operand} {hi mx : Operand} (b st n : Nat) (tip : Bool) (B : Blk)
  (ho : o = ⟨d,.slice σ.t x none (some hi) (some mx),ty,pos,af,g⟩) (hx : evA A x = .sl b st 0 n tip) (hg : h0.get b = some B) (hs : B.s = st) (hh : evA A hi = .p (.int .i64 n)) (hm : evA A mx = .p (.int .i64 n)) (hd : okD N d = true)
  (hk : WO P bad E N ops (i + 1) ⟨putA A d (.sl b st 0 n false),h0,c0⟩ Q) : WO P bad E N ops i ⟨A,h0,c0⟩ Q :=
 WO_clip (s:=⟨A,h0,c0⟩) (hT:=hT) (σ:=σ) (hoi:=hoi) (hgd:=hgd) (b:=b) (st:=st) (n:=n) (tip:=tip) (B:=B) (ho:=ho) (hx:=hx) (hg:=hg) (hs:=hs) (hh:=hh) (hm:=hm) (hd:=hd) (hk:=hk)
theorem WO_isnil' (hT : TabOk P T) (σ : SE T α) {ops : Array Oper} {i : Nat} {A : List (Nat × V)} {h0 : Hp} {c0 : Nat} {Q : Exit → SA → Prop} {o : Oper} (hoi : ops[i]? = some o) (hgd : evGuardA A ops o = some true) {d : Option Tmp} {t' ty : TypeId} {pos : String} {af : Array Edge} {g : Option (Nat × Bool)} {x : Operand} (k : SC) (l : List α)
  (ho : o = ⟨d,.binOp .eql σ.t x (.const (.slice none 0 0)) t',ty,pos,af,g⟩) (hx : evA A x = .ps k (σ.F l)) (hd : okD N d = true)
  (hk : ∀ b : Bool,(b = true → l = []) → WO P bad E N ops (i + 1) ⟨putA A d (.p (.bool b)),h0,c0⟩ Q) : WO P bad E N ops i ⟨A,h0,c0⟩ Q :=
 WO_isnil (s:=⟨A,h0,c0⟩) (hT:=hT) (σ:=σ) (hoi:=hoi) (hgd:=hgd) (k:=k) (l:=l) (ho:=ho) (hx:=hx) (hd:=hd) (hk:=hk)
theorem WO_ptb' {ops : Array Oper} {i : Nat} {A : List (Nat × V)} {h0 : Hp} {c0 : Nat} {Q : Exit → SA → Prop} {o : Oper} (ho : ops[i]? = some o) (hg : evGuardA A ops o = some true) {cl : Call} {g : FuncId} (bor : List Nat) (vs vs' : List V) (r : V) (hop : o.op = .call cl) (htg : evTargetA A cl = some (g,vs)) (hen : Enters P g)
  (ht : mapO (trV h0 (fun _=>none) bor 5) vs = some vs') (hpu : vs'.all (pur 6) = true) (hs : scal 4 r = true) (hc : PT P g vs' r) (hd : okD N o.dst = true) (hk : WO P bad E N ops (i + 1) ⟨putA A o.dst r,h0,c0⟩ Q) : WO P bad E N ops i ⟨A,h0,c0⟩ Q :=
 WO_ptb (s:=⟨A,h0,c0⟩) (ho:=ho) (hg:=hg) (bor:=bor) (vs:=vs) (vs':=vs') (r:=r) (hop:=hop) (htg:=htg) (hen:=hen) (ht:=ht) (hpu:=hpu) (hs:=hs) (hc:=hc) (hd:=hd) (hk:=hk)
theorem One' (hT : TabOk P T) {ops : Array Oper} {i : Nat} {A : List (Nat × V)} {h0 : Hp} {c0 : Nat} {Q : Exit → SA → Prop} {o : Oper} (ho : ops[i]? = some o) {v : V} {h' : Hp} {c' : Nat} (he : evOperF P T false (evA A) o h0 c0 = some (v,h',c')) (hk : WO P bad E N ops (i + 1) ⟨putA A o.dst v,h',c'⟩ Q)
  (hg : evGuardA A ops o = some true:=by kernel_rfl) (hd : okD N o.dst = true:=by kernel_rfl) : WO P bad E N ops i ⟨A,h0,c0⟩ Q :=
 One (s:=⟨A,h0,c0⟩) (hT:=hT) (ho:=ho) (he:=he) (hk:=hk) (hg:=hg) (hd:=hd)
theorem Pt' {ops : Array Oper} {i : Nat} {A : List (Nat × V)} {h0 : Hp} {c0 : Nat} {Q : Exit → SA → Prop} {o : Oper} {cl : Call} {g : FuncId} {vs : List V} {r : V} (hen : Enters P g) (hc : PT P g vs r) (hk : WO P bad E N ops (i + 1) ⟨putA A o.dst r,h0,c0⟩ Q)
  (ho : ops[i]? = some o:=by rfl) (hop : o.op = .call cl:=by rfl) (hg : evGuardA A ops o = some true:=by kernel_rfl) (htg : evTargetA A cl = some (g,vs):=by kernel_rfl) (hpu : vs.all (pur 6) = true:=by kernel_rfl)
  (hd : okD N o.dst = true:=by kernel_rfl) : WO P bad E N ops i ⟨A,h0,c0⟩ Q :=
 Pt (s:=⟨A,h0,c0⟩) (hen:=hen) (hc:=hc) (hk:=hk) (ho:=ho) (hop:=hop) (hg:=hg) (htg:=htg) (hpu:=hpu) (hd:=hd)
theorem WD_loc' {ops : Array Oper} {i : Nat} {es rs : List (Nat × List Nat)} {A : List (Nat × V)} {h0 : Hp} {c0 : Nat} {Q : SA → Prop} {o : Oper} (ho : ops[i]? = some o) (hs : keysLt N A = true) (hg : evGuardA A ops o = some true) (hl : localOp o.op = true) {v : V} {h' : Hp} {c' : Nat}
  (he : evOperF P T true (evA A) o h0 c0 = some (v,h',c')) (hd : okD N o.dst = true) (hk : WD P T bad N ops (i + 1) es (rs ++ entryL i (rdA A o.op)) ⟨putA A o.dst v,h0,c0⟩ Q) : WD P T bad N ops i es rs ⟨A,h0,c0⟩ Q :=
 WD_loc (s:=⟨A,h0,c0⟩) (ho:=ho) (hs:=hs) (hg:=hg) (hl:=hl) (he:=he) (hd:=hd) (hk:=hk)
theorem WD_wr' {ops : Array Oper} {i : Nat} {es rs : List (Nat × List Nat)} {A : List (Nat × V)} {h0 : Hp} {c0 : Nat} {Q : SA → Prop} {o : Oper} (ho : ops[i]? = some o) (hs : keysLt N A = true) (hg : evGuardA A ops o = some true) (hl : writesOp o.op = true) {v : V} {h' : Hp} {c' : Nat}
  (he : evOperF P T true (evA A) o h0 c0 = some (v,h',c')) (hd : okD N o.dst = true) (hk : WD P T bad N ops (i + 1) (es ++ [(i,wrA A o h0 h')]) rs ⟨putA A o.dst v,h',c'⟩ Q) : WD P T bad N ops i es rs ⟨A,h0,c0⟩ Q :=
 WD_wr (s:=⟨A,h0,c0⟩) (ho:=ho) (hs:=hs) (hg:=hg) (hl:=hl) (he:=he) (hd:=hd) (hk:=hk)
theorem WD_pt' {ops : Array Oper} {i : Nat} {es rs : List (Nat × List Nat)} {A : List (Nat × V)} {h0 : Hp} {c0 : Nat} {Q : SA → Prop} {o : Oper} (ho : ops[i]? = some o) (hs : keysLt N A = true) (hg : evGuardA A ops o = some true) {cl : Call} {g : FuncId} (vs : List V) (r : V) (hop : o.op = .call cl) (htg : evTargetA A cl = some (g,vs)) (hen : Enters P g)
  (hpu : vs.all (pur 6) = true) (hc : PT P g vs r) (hd : okD N o.dst = true) (hk : WD P T bad N ops (i + 1) es rs ⟨putA A o.dst r,h0,c0⟩ Q) : WD P T bad N ops i es rs ⟨A,h0,c0⟩ Q :=
 WD_pt (s:=⟨A,h0,c0⟩) (ho:=ho) (hs:=hs) (hg:=hg) (vs:=vs) (r:=r) (hop:=hop) (htg:=htg) (hen:=hen) (hpu:=hpu) (hc:=hc) (hd:=hd) (hk:=hk)
theorem WD_go' {ops : Array Oper} {i : Nat} {es rs : List (Nat × List Nat)} {A : List (Nat × V)} {h0 : Hp} {c0 : Nat} {Q : SA → Prop} {o : Oper} (ho : ops[i]? = some o) (hs : keysLt N A = true) (hgd : evGuardA A ops o = some true) {cl : Call} {g : FuncId} (hA hr : Hp) (vs vs' : List V) (E1 E2 : List (Nat × Nat × Nat)) (hB : Hp) (r r' : V) (c2 : Nat)
  (hop : o.op = .call cl) (htg : evTargetA A cl = some (g,vs)) (hen : Enters P g) (hvs : mapO (trV h0 (lookE E1) [] 5) vs = some vs') (hA' : moveH h0 (lookE E1) [] E1 = some hA)
  (hc1 : (E1.all (fun x=>Nat.beq x.2.2 0) && nodupB (E1.map (·.1)) && nodupB (E1.map fun x=>x.2.1) && nodupB (E2.map (·.1)) && nodupB (E2.map fun x=>x.2.1) && Nat.ble c0 c2) = true)
  (hg : GO P g hA vs' r hr) (hr' : trV hr (lookE E2) [] 5 r = some r') (hB' : moveH hr (lookE E2) [] E2 = some hB) (hE2 : E2.all (okE2 h0 hr E1 c0 c2) = true) (hd : okD N o.dst = true)
  (hk : WD P T bad N ops (i + 1) (es ++ [(i,(E2.map fun x=>x.2.1) ++ E1.map (·.1))]) rs ⟨putA A o.dst r',hB ++ eraseAll h0 (E1.map (·.1)),c2⟩ Q) : WD P T bad N ops i es rs ⟨A,h0,c0⟩ Q :=
 WD_go (s:=⟨A,h0,c0⟩) (ho:=ho) (hs:=hs) (hgd:=hgd) (hA:=hA) (hr:=hr) (vs:=vs) (vs':=vs') (E1:=E1) (E2:=E2) (hB:=hB) (r:=r) (r':=r') (c2:=c2) (hop:=hop) (htg:=htg) (hen:=hen) (hvs:=hvs) (hA':=hA') (hc1:=hc1) (hg:=hg) (hr':=hr') (hB':=hB') (hE2:=hE2) (hd:=hd) (hk:=hk)
end
end Go.Mx
namespace Go.Mx
set_option linter.unusedVariables false
section
variable {P : Program} {T : TypeId → Option TI} {bad : Nat → Prop} {E : Ent} {N : Nat} {α : Type}
theorem Og {ops : Array Oper} {i : Nat} {A : List (Nat × V)} {h0 : Hp} {c0 : Nat} {Q : Exit → SA → Prop} {o : Oper} {cl : Call} {g : FuncId} (hA hr : Hp) (vs vs' : List V) (E1 E2 : List (Nat × Nat × Nat)) (hB : Hp) (r r' : V) (c2 : Nat) (hen : Enters P g) (hg : GO P g hA vs' r hr) (hk : WO P bad E N ops (i + 1) ⟨putA A o.dst r',hB ++ eraseAll h0 (E1.map (·.1)),c2⟩ Q) (ho : ops[i]? = some o:=by exact rfl) (hgd : evGuardA A ops o = some true:=by kernel_rfl) (hop : o.op = .call cl:=by exact rfl) (htg : evTargetA A cl = some (g,vs):=by kernel_rfl) (hvs : mapO (trV h0 (lookE E1) [] 5) vs = some vs':=by kernel_rfl) (hA' : moveH h0 (lookE E1) [] E1 = some hA:=by kernel_rfl) (hc1 : (E1.all (fun x=>Nat.beq x.2.2 0) && nodupB (E1.map (·.1)) && nodupB (E1.map fun x=>x.2.1) && nodupB (E2.map (·.1)) && nodupB (E2.map fun x=>x.2.1) && Nat.ble c0 c2) = true:=by kernel_rfl) (hr' : trV hr (lookE E2) [] 5 r = some r':=by kernel_rfl) (hB' : moveH hr (lookE E2) [] E2 = some hB:=by kernel_rfl) (hE2 : E2.all (okE2 h0 hr E1 c0 c2) = true:=by kernel_rfl) (hd : okD N o.dst = true:=by kernel_rfl) : WO P bad E N ops i ⟨A,h0,c0⟩ Q:=WO_go' (ho:=ho) (hgd:=hgd) (hA:=hA) (hr:=hr) (vs:=vs) (vs':=vs') (E1:=E1) (E2:=E2) (hB:=hB) (r:=r) (r':=r') (c2:=c2) (hop:=hop) (htg:=htg) (hen:=hen) (hvs:=hvs) (hA':=hA') (hc1:=hc1) (hg:=hg) (hr':=hr') (hB':=hB') (hE2:=hE2) (hd:=hd) (hk:=hk)
theorem Oa (hT : TabOk P T) (σ : SE T α) {ops : Array Oper} {i : Nat} {A : List (Nat × V)} {h0 : Hp} {c0 : Nat} {Q : Exit → SA → Prop} {o : Oper} {d : Nat} {ty : TypeId} {pos : String} {af : Array Edge} {g : Option (Nat × Bool)} {x y : Operand} (b st : Nat) (nl : Bool) (l l2 : List α) (hy : elems h0 (evA A y) = some (σ.F l2)) (hroom : room σ.i1.bytes l.length l2.length = true) (hk : WO P bad E N ops (i + 1) ⟨(d,.sl d c0 0 (σ.F (l ++ l2)).length true) :: A,(h0.erase b).set d ⟨c0,σ.e,σ.sz,false,true,σ.F (l ++ l2)⟩,c0 + 1⟩ Q) (hoi : ops[i]? = some o:=by exact rfl) (hgd : evGuardA A ops o = some true:=by kernel_rfl) (ho : o = ⟨some d,.call ⟨.builtin .append,#[x,y],#[σ.t,σ.t]⟩,ty,pos,af,g⟩:=by exact rfl) (hx : evA A x = .sl b st 0 (σ.F l).length true:=by kernel_rfl) (hg : h0.get b = some ⟨st,σ.e,σ.sz,false,nl,σ.F l⟩:=by kernel_rfl) (hd : Nat.blt d N = true:=by kernel_rfl) : WO P bad E N ops i ⟨A,h0,c0⟩ Q:=WO_append' (hT:=hT) (σ:=σ) (hoi:=hoi) (hgd:=hgd) (b:=b) (st:=st) (nl:=nl) (l:=l) (l2:=l2) (ho:=ho) (hx:=hx) (hg:=hg) (hy:=hy) (hroom:=hroom) (hd:=hd) (hk:=hk)
theorem Ob {ops : Array Oper} {i : Nat} {A : List (Nat × V)} {h0 : Hp} {c0 : Nat} {Q : Exit → SA → Prop} {o : Oper} {cl : Call} {g : FuncId} (bor : List Nat) (vs vs' : List V) (r : V) (hen : Enters P g) (hc : PT P g vs' r) (hk : WO P bad E N ops (i + 1) ⟨putA A o.dst r,h0,c0⟩ Q) (ho : ops[i]? = some o:=by exact rfl) (hg : evGuardA A ops o = some true:=by kernel_rfl) (hop : o.op = .call cl:=by exact rfl) (htg : evTargetA A cl = some (g,vs):=by kernel_rfl) (ht : mapO (trV h0 (fun _=>none) bor 5) vs = some vs':=by kernel_rfl) (hpu : vs'.all (pur 6) = true:=by kernel_rfl) (hs : scal 4 r = true:=by kernel_rfl) (hd : okD N o.dst = true:=by kernel_rfl) : WO P bad E N ops i ⟨A,h0,c0⟩ Q:=WO_ptb' (ho:=ho) (hg:=hg) (bor:=bor) (vs:=vs) (vs':=vs') (r:=r) (hop:=hop) (htg:=htg) (hen:=hen) (ht:=ht) (hpu:=hpu) (hs:=hs) (hc:=hc) (hd:=hd) (hk:=hk)
theorem Dl {ops : Array Oper} {i : Nat} {es rs : List (Nat × List Nat)} {A : List (Nat × V)} {h0 : Hp} {c0 : Nat} {Q : SA → Prop} {o : Oper} (ho : ops[i]? = some o) {v : V} {h' : Hp} {c' : Nat} (he : evOperF P T true (evA A) o h0 c0 = some (v,h',c')) (hk : WD P T bad N ops (i + 1) es (rs ++ entryL i (rdA A o.op)) ⟨putA A o.dst v,h0,c0⟩ Q) (hs : keysLt N A = true:=by kernel_rfl) (hg : evGuardA A ops o = some true:=by kernel_rfl) (hl : localOp o.op = true:=by kernel_rfl) (hd : okD N o.dst = true:=by kernel_rfl) : WD P T bad N ops i es rs ⟨A,h0,c0⟩ Q:=WD_loc' (ho:=ho) (hs:=hs) (hg:=hg) (hl:=hl) (he:=he) (hd:=hd) (hk:=hk)
theorem Dw {ops : Array Oper} {i : Nat} {es rs : List (Nat × List Nat)} {A : List (Nat × V)} {h0 : Hp} {c0 : Nat} {Q : SA → Prop} {o : Oper} (ho : ops[i]? = some o) {v : V} {h' : Hp} {c' : Nat} (he : evOperF P T true (evA A) o h0 c0 = some (v,h',c')) (hk : WD P T bad N ops (i + 1) (es ++ [(i,wrA A o h0 h')]) rs ⟨putA A o.dst v,h',c'⟩ Q) (hs : keysLt N A = true:=by kernel_rfl) (hg : evGuardA A ops o = some true:=by kernel_rfl) (hl : writesOp o.op = true:=by kernel_rfl) (hd : okD N o.dst = true:=by kernel_rfl) : WD P T bad N ops i es rs ⟨A,h0,c0⟩ Q:=WD_wr' (ho:=ho) (hs:=hs) (hg:=hg) (hl:=hl) (he:=he) (hd:=hd) (hk:=hk)
theorem Dp {ops : Array Oper} {i : Nat} {es rs : List (Nat × List Nat)} {A : List (Nat × V)} {h0 : Hp} {c0 : Nat} {Q : SA → Prop} {o : Oper} {cl : Call} {g : FuncId} (vs : List V) (r : V) (hen : Enters P g) (hc : PT P g vs r) (hk : WD P T bad N ops (i + 1) es rs ⟨putA A o.dst r,h0,c0⟩ Q) (ho : ops[i]? = some o:=by exact rfl) (hs : keysLt N A = true:=by kernel_rfl) (hg : evGuardA A ops o = some true:=by kernel_rfl) (hop : o.op = .call cl:=by exact rfl) (htg : evTargetA A cl = some (g,vs):=by kernel_rfl) (hpu : vs.all (pur 6) = true:=by kernel_rfl) (hd : okD N o.dst = true:=by kernel_rfl) : WD P T bad N ops i es rs ⟨A,h0,c0⟩ Q:=WD_pt' (ho:=ho) (hs:=hs) (hg:=hg) (vs:=vs) (r:=r) (hop:=hop) (htg:=htg) (hen:=hen) (hpu:=hpu) (hc:=hc) (hd:=hd) (hk:=hk)
theorem Dg {ops : Array Oper} {i : Nat} {es rs : List (Nat × List Nat)} {A : List (Nat × V)} {h0 : Hp} {c0 : Nat} {Q : SA → Prop} {o : Oper} {cl : Call} {g : FuncId} (hA hr : Hp) (vs vs' : List V) (E1 E2 : List (Nat × Nat × Nat)) (hB : Hp) (r r' : V) (c2 : Nat) (hen : Enters P g) (hg : GO P g hA vs' r hr) (hk : WD P T bad N ops (i + 1) (es ++ [(i,(E2.map fun x=>x.2.1) ++ E1.map (·.1))]) rs ⟨putA A o.dst r',hB ++ eraseAll h0 (E1.map (·.1)),c2⟩ Q) (ho : ops[i]? = some o:=by exact rfl) (hs : keysLt N A = true:=by kernel_rfl) (hgd : evGuardA A ops o = some true:=by kernel_rfl) (hop : o.op = .call cl:=by exact rfl) (htg : evTargetA A cl = some (g,vs):=by kernel_rfl) (hvs : mapO (trV h0 (lookE E1) [] 5) vs = some vs':=by kernel_rfl) (hA' : moveH h0 (lookE E1) [] E1 = some hA:=by kernel_rfl) (hc1 : (E1.all (fun x=>Nat.beq x.2.2 0) && nodupB (E1.map (·.1)) && nodupB (E1.map fun x=>x.2.1) && nodupB (E2.map (·.1)) && nodupB (E2.map fun x=>x.2.1) && Nat.ble c0 c2) = true:=by kernel_rfl) (hr' : trV hr (lookE E2) [] 5 r = some r':=by kernel_rfl) (hB' : moveH hr (lookE E2) [] E2 = some hB:=by kernel_rfl) (hE2 : E2.all (okE2 h0 hr E1 c0 c2) = true:=by kernel_rfl) (hd : okD N o.dst = true:=by kernel_rfl) : WD P T bad N ops i es rs ⟨A,h0,c0⟩ Q:=WD_go' (ho:=ho) (hs:=hs) (hgd:=hgd) (hA:=hA) (hr:=hr) (vs:=vs) (vs':=vs') (E1:=E1) (E2:=E2) (hB:=hB) (r:=r) (r':=r') (c2:=c2) (hop:=hop) (htg:=htg) (hen:=hen) (hvs:=hvs) (hA':=hA') (hc1:=hc1) (hg:=hg) (hr':=hr') (hB':=hB') (hE2:=hE2) (hd:=hd) (hk:=hk)
theorem eO (σ : SE T α) {h : Hp} {v : V} (b s : Nat) (tip : Bool) (B : Blk) (l : List α) (hx : v = .sl b s 0 (σ.F l).length tip:=by kernel_rfl) (hg : h.get b = some B:=by kernel_rfl) (hs : B.s = s:=by exact rfl) (hv : B.var = false:=by exact rfl) (he : B.es = σ.F l:=by exact rfl) : elems h v = some (σ.F l):=elems_own (σ:=σ) (b:=b) (s:=s) (tip:=tip) (B:=B) (l:=l) (hx:=hx) (hg:=hg) (hs:=hs) (hv:=hv) (he:=he)
theorem v_index (σ : SE T α) {ρ : Operand → V} {dr : Bool} {h : Hp} {c : Nat} {d : Option Tmp} {ty : TypeId} {pos : String} {af : Array Edge} {g : Option (Nat × Bool)} {x ix : Operand} (k : SC) (l : List α) (kd : IntKind) (n : Int) {a : α} (ha : idx l n = some a) (hk : k ≠ .nil:=by decide) (hx : ρ x = .ps k (σ.F l):=by kernel_rfl) (hi : ρ ix = .p (.int kd n):=by kernel_rfl) :
  evOperF P T dr ρ ⟨d,.indexAddr σ.t x ix,ty,pos,af,g⟩ h c = some (.ref (σ.f a) 0,h,c):=ev_index (σ:=σ) (k:=k) (l:=l) (kd:=kd) (n:=n) (ha:=ha) (hk:=hk) (hx:=hx) (hi:=hi)
theorem v_indexA {ρ : Operand → V} {dr : Bool} {h : Hp} {c : Nat} {d : Option Tmp} {t ty : TypeId} {pos : String} {af : Array Edge} {g : Option (Nat × Bool)} {x ix : Operand} (f : α → V) (l : List α) (kd : IntKind) (n : Int) {a : α} (i0 i1 : TI) (e : TypeId) (ha : idx l n = some a) (hx : ρ x = .agg (l.map f):=by kernel_rfl) (hi : ρ ix = .p (.int kd n):=by kernel_rfl) (h0 : T t = some i0:=by exact rfl) (hd : i0.desc = .array l.length e:=by exact rfl) (he : T e = some i1:=by exact rfl) (hz : i1.size = 1:=by exact rfl) (hag : isAggD i1.desc = false:=by exact rfl) :
  evOperF P T dr ρ ⟨d,.index t x ix,ty,pos,af,g⟩ h c = some (f a,h,c):=ev_indexA (f:=f) (l:=l) (kd:=kd) (n:=n) (i0:=i0) (i1:=i1) (e:=e) (ha:=ha) (hx:=hx) (hi:=hi) (h0:=h0) (hd:=hd) (he:=he) (hz:=hz) (hag:=hag)
theorem v_indexS {ρ : Operand → V} {dr : Bool} {h : Hp} {c : Nat} {d : Option Tmp} {t ty : TypeId} {pos : String} {af : Array Edge} {g : Option (Nat × Bool)} {x ix : Operand} (s : ByteArray) (kd : IntKind) (n : Int) {a : Int} {i0 : TI} (ha : idxS s n = some a) (hx : ρ x = .p (.string s):=by kernel_rfl) (hi : ρ ix = .p (.int kd n):=by kernel_rfl) (h0 : T t = some i0:=by exact rfl) (hd : i0.desc = .string:=by exact rfl) :
  evOperF P T dr ρ ⟨d,.index t x ix,ty,pos,af,g⟩ h c = some (.p (.int .u8 a),h,c):=ev_indexS (s:=s) (kd:=kd) (n:=n) (ha:=ha) (hx:=hx) (hi:=hi) (h0:=h0) (hd:=hd)
theorem v_index_own (σ : SE T α) {ρ : Operand → V} {dr : Bool} {h : Hp} {c : Nat} {d : Option Tmp} {ty : TypeId} {pos : String} {af : Array Edge} {g : Option (Nat × Bool)} {x ix : Operand} (b s : Nat) (tip : Bool) (B : Blk) (l : List α) (kd : IntKind) (n : Int) {a : α} (ha : idx l n = some a) (hx : ρ x = .sl b s 0 (σ.F l).length tip:=by kernel_rfl) (hi : ρ ix = .p (.int kd n):=by kernel_rfl) (hg : h.get b = some B:=by exact rfl) (hs : B.s = s:=by exact rfl) (hw : B.w = σ.sz:=by exact rfl) :
  evOperF P T dr ρ ⟨d,.indexAddr σ.t x ix,ty,pos,af,g⟩ h c = some (.box b s n.toNat 0,h,c):=ev_index_own (σ:=σ) (b:=b) (s:=s) (tip:=tip) (B:=B) (l:=l) (kd:=kd) (n:=n) (ha:=ha) (hx:=hx) (hi:=hi) (hg:=hg) (hs:=hs) (hw:=hw)
theorem v_len (σ : SE T α) {ρ : Operand → V} {dr : Bool} {h : Hp} {c : Nat} {d : Option Tmp} {ty : TypeId} {pos : String} {af : Array Edge} {g : Option (Nat × Bool)} {x : Operand} (k : SC) (l : List α) (hx : ρ x = .ps k (σ.F l):=by kernel_rfl) :
  evOperF P T dr ρ ⟨d,.call ⟨.builtin .len,#[x],#[σ.t]⟩,ty,pos,af,g⟩ h c = some (.p (.int .i64 l.length),h,c):=ev_len (σ:=σ) (k:=k) (l:=l) (hx:=hx)
theorem v_len_own (σ : SE T α) {ρ : Operand → V} {dr : Bool} {h : Hp} {c : Nat} {d : Option Tmp} {ty : TypeId} {pos : String} {af : Array Edge} {g : Option (Nat × Bool)} {x : Operand} (b s : Nat) (tip : Bool) (B : Blk) (l : List α) (hx : ρ x = .sl b s 0 (σ.F l).length tip:=by kernel_rfl) (hg : h.get b = some B:=by exact rfl) (hs : B.s = s:=by exact rfl) :
  evOperF P T dr ρ ⟨d,.call ⟨.builtin .len,#[x],#[σ.t]⟩,ty,pos,af,g⟩ h c = some (.p (.int .i64 l.length),h,c):=ev_len_own (σ:=σ) (b:=b) (s:=s) (tip:=tip) (B:=B) (l:=l) (hx:=hx) (hg:=hg) (hs:=hs)
theorem v_load_row (σ : SE T α) {ρ : Operand → V} {dr : Bool} {h : Hp} {c : Nat} {d : Option Tmp} {t ty : TypeId} {pos : String} {af : Array Edge} {g : Option (Nat × Bool)} {x : Operand} (b s : Nat) (B : Blk) (l : List α) (n off : Nat) (a : α) (v : V) (ha : l[n]? = some a) (hx : ρ x = .box b s n off:=by kernel_rfl) (hg : h.get b = some B:=by exact rfl) (hs : B.s = s:=by exact rfl) (hes : B.es = σ.F l:=by exact rfl) (hv : evLoad T [] t (.ref (σ.f a) off) = some v:=by kernel_rfl) :
  evOperF P T dr ρ ⟨d,.load t x,ty,pos,af,g⟩ h c = some (v,h,c):=ev_load_row (σ:=σ) (b:=b) (s:=s) (B:=B) (l:=l) (n:=n) (off:=off) (a:=a) (v:=v) (ha:=ha) (hx:=hx) (hg:=hg) (hs:=hs) (hes:=hes) (hv:=hv)
theorem v_sadd {ρ : Operand → V} {dr : Bool} {h : Hp} {c : Nat} {d : Option Tmp} {t t' ty : TypeId} {pos : String} {af : Array Edge} {g : Option (Nat × Bool)} {x y : Operand} (a b : ByteArray) (hr : sroom a b = true) (hx : ρ x = .p (.string a):=by kernel_rfl) (hy : ρ y = .p (.string b):=by kernel_rfl) :
  evOperF P T dr ρ ⟨d,.binOp .add t x y t',ty,pos,af,g⟩ h c = some (.p (.string (a ++ b)),h,c):=ev_sadd (a:=a) (b:=b) (hr:=hr) (hx:=hx) (hy:=hy)
theorem v_slice (σ : SE T α) {ρ : Operand → V} {dr : Bool} {h : Hp} {c : Nat} {d : Option Tmp} {ty : TypeId} {pos : String} {af : Array Edge} {g : Option (Nat × Bool)} {x : Operand} {lo hi mx : Option Operand} (k : SC) (l : List α) (a b : Int) (q : Option Int) (l' : List α) (k' : SC) (hl' : sub l a b = some l') (hq : ∀ y ∈ q,y = b) (hx : ρ x = .ps k (σ.F l):=by kernel_rfl) (hlo : intOr 0 (lo.map ρ) = some a:=by kernel_rfl) (hhi : intOr l.length (hi.map ρ) = some b:=by kernel_rfl) (hmx : intOpt (mx.map ρ) = some q:=by kernel_rfl) (hmh : (mx.isSome && hi.isNone) = false:=by exact rfl) (hk : (match k with | .nil=>(.nil : SC) | .opt | .fopt=>if mx.isSome then .fopt else .opt | _=>if mx.isSome then .full else .any) = k':=by exact rfl) (hk0 : k ≠ .nil:=by decide) :
  evOperF P T dr ρ ⟨d,.slice σ.t x lo hi mx,ty,pos,af,g⟩ h c = some (.ps k' (σ.F l'),h,c):=ev_slice (σ:=σ) (k:=k) (l:=l) (a:=a) (b:=b) (q:=q) (l':=l') (k':=k') (hl':=hl') (hx:=hx) (hlo:=hlo) (hhi:=hhi) (hmx:=hmx) (hq:=hq) (hmh:=hmh) (hk:=hk) (hk0:=hk0)
theorem v_storeRow (σ : SE T α) {dr : Bool} {ρ : Operand → V} {h : Hp} {c : Nat} {d : Option Tmp} {t ty : TypeId} {pos : String} {af : Array Edge} {g : Option (Nat × Bool)} {x y : Operand} (b st : Nat) (B : Blk) (l : List α) (n off : Nat) (a a' : α) (ha : l[n]? = some a) {i0 : TI} (hx : ρ x = .box b st n off:=by kernel_rfl) (hg : h.get b = some B:=by kernel_rfl) (hs : B.s = st:=by exact rfl) (hv : B.var = false:=by exact rfl) (hes : B.es = σ.F l:=by exact rfl) (h0 : T t = some i0:=by exact rfl) (hf : frz 4 h (ρ y) = some (ρ y,h):=by kernel_rfl) (hz : (Nat.blt 0 i0.size && Nat.beq (optV (ρ y)).cells.length i0.size && Nat.ble (off + i0.size) (σ.f a).cells.length && (optV (ρ y)).cells.all V.one) = true:=by kernel_rfl) (he : (if off = 0 ∧ (σ.f a).isAgg = true ∧ (optV (ρ y)).isAgg = true ∧ (σ.f a).cells.length = i0.size then optV (ρ y) else if (σ.f a).isAgg = true then .agg ((σ.f a).cells.take off ++ (optV (ρ y)).cells ++ (σ.f a).cells.drop (off + i0.size)) else ((optV (ρ y)).cells.headD .undef)) = σ.f a':=by kernel_rfl) :
  evOperF P T dr ρ ⟨d,.store t x y,ty,pos,af,g⟩ h c = some (.p Go.undef,h.set b { B with es:=σ.F (l.set n a') },c):=ev_storeRow (σ:=σ) (b:=b) (st:=st) (B:=B) (l:=l) (n:=n) (off:=off) (a:=a) (a':=a') (ha:=ha) (hx:=hx) (hg:=hg) (hs:=hs) (hv:=hv) (hes:=hes) (h0:=h0) (hf:=hf) (hz:=hz) (he:=he)
end
section
variable {P : Program} {T : TypeId → Option TI} {bad : Nat → Prop} {E : Ent} {N : Nat}
theorem De {ops : Array Oper} {i : Nat} {es rs : List (Nat × List Nat)} {s : SA} {Q : SA → Prop} (h : Q s) (hi : Nat.ble ops.size i = true:=by kernel_rfl) (hc : (effPairs (closM ops.toList 0 []) es && wrPairs (closM ops.toList 0 []) rs es) = true:=by kernel_rfl) (hk : keysLt N s.A = true:=by kernel_rfl) : WD P T bad N ops i es rs s Q:=WD_end (hi:=hi) (hc:=hc) (hk:=hk) (h:=h)
theorem wOh {s : SA} (b0 b j : Nat) (B0 : Blk) (v0 v0' : V) (e : TypeId) (wd : Nat) (hg : s.h.get b0 = some B0:=by kernel_rfl) (hv : B0.var = true:=by kernel_rfl) (hes : B0.es = [v0]:=by kernel_rfl) (hj : v0.cells[j]? = some (.ps .nil []):=by kernel_rfl) (hc' : v0'.cells = v0.cells.set j (.sl b s.c 0 0 true):=by kernel_rfl) (hb : s.h.get b = none:=by kernel_rfl) (hc : Nat.ble E.c s.c = true:=by kernel_rfl) : Weak bad E N s ⟨s.A,(b,⟨s.c,e,wd,false,true,[]⟩) :: (b0,{ B0 with es:=[v0'] }) :: s.h.erase b0,s.c + 1⟩:=Weak_ownH (b0:=b0) (b:=b) (j:=j) (B0:=B0) (v0:=v0) (v0':=v0') (e:=e) (wd:=wd) (hg:=hg) (hv:=hv) (hes:=hes) (hj:=hj) (hc':=hc') (hb:=hb) (hc:=hc)
theorem wO {s : SA} (k b : Nat) (e : TypeId) (wd : Nat) (h : lkA s.A k = .ps .nil []:=by kernel_rfl) (hb : s.h.get b = none:=by kernel_rfl) (hk : Nat.blt k N = true:=by kernel_rfl) (hc : Nat.ble E.c s.c = true:=by kernel_rfl) :
  Weak bad E N s ⟨(k,.sl b s.c 0 0 true) :: s.A,(b,⟨s.c,e,wd,false,true,[]⟩) :: s.h,s.c + 1⟩:=Weak_own (k:=k) (b:=b) (e:=e) (wd:=wd) (h:=h) (hb:=hb) (hk:=hk) (hc:=hc)
theorem wF {s : SA} (b st : Nat) (B : Blk) (A' : List (Nat × V)) (h' : Hp) (hA : FzA b st B.es s.A A') (hH : FzH b st B.es (s.h.erase b) h') (hg : s.h.get b = some B:=by kernel_rfl) (hs : B.s = st:=by exact rfl) (hv : B.var = false:=by exact rfl) : Weak bad E N s ⟨A',h',s.c⟩:=Weak_frz (b:=b) (st:=st) (B:=B) (hg:=hg) (hs:=hs) (hv:=hv) (A':=A') (h':=h') (hA:=hA) (hH:=hH)
theorem wL {s : SA} (A' : List (Nat × V)) (h' : Hp) (hA : SLe s.A A') (hH : HLe s.h h') (hk : keysLt N A' = true:=by kernel_rfl) : Weak bad E N s ⟨A',h',s.c⟩:=Weak_leH (A':=A') (h':=h') (hk:=hk) (hA:=hA) (hH:=hH)
end
section
variable {P : Program} {bad : Nat → Prop} {E : Ent} {N : Nat}
theorem Ci {k : Operand} {x y : Code} {s : SA} {Q : Exit → SA → Prop} {β : Type} {X Y r : β} {b : Bool} (h : (bif b then X else Y) = r) (h1 : X = r → WA P bad E N x s Q) (h2 : Y = r → WA P bad E N y s Q) (hk : evA s.A k = .p (.bool b):=by kernel_rfl) : WA P bad E N (.cond k x y) s Q :=
 WA_cond b hk (fun hb=>h1 (ctrue hb h)) fun hb=>h2 (cfalse hb h)
end
abbrev cb (st t e : Nat) (v : V) : Blk:=⟨st,t,e,true,false,[v]⟩
abbrev rb {T : TypeId → Option TI} {α : Type} (st : Nat) (σ : SE T α) (l : List α) : Blk:=⟨st,σ.e,σ.sz,false,true,σ.F l⟩
abbrev po {T : TypeId → Option TI} {α : Type} (σ : SE T α) (l : List α) : V:=.ps .opt (σ.F l)
abbrev vs {T : TypeId → Option TI} {α : Type} (b st : Nat) (σ : SE T α) (l : List α) : V:=.sl b st 0 (σ.F l).length true
abbrev vn : V:=.ps .nil []
abbrev bx (b s : Nat) : V:=.box b s 0 0
abbrev vU : V:=.p Go.undef
end Go.Mx
namespace Go.Mx
set_option linter.unusedVariables false
set_option linter.unusedSimpArgs false
section
variable {P : Program} {T : TypeId → Option TI} {bad : Nat → Prop} {E : Ent} {N : Nat} {α : Type}
def clr (l : List α) (n : Int) (z : α) : List α:=l.take n.toNat ++ List.replicate (l.length - n.toNat) z
theorem clr_length (l : List α) (n : Int) (z : α) : (clr l n z).length = l.length:=by
 unfold clr; simp; omega
end
end Go.Mx
namespace Go.Mx
set_option linter.unusedVariables false
set_option linter.unusedSimpArgs false
section
variable {P : Program} {T : TypeId → Option TI} {bad : Nat → Prop} {E : Ent} {N : Nat} {α : Type}
end
end Go.Mx
namespace Go.Mx
set_option linter.unusedVariables false
set_option linter.unusedSimpArgs false
def srt (l : List Int) : List Int:=l.mergeSort fun x y=>decide (x ≤ y)
def cpt (l : List Int) : List Int:=Lib.compact l
def sroomI (l : List Int) : Bool:=decide (l.length < 4611686018427387904)
theorem srt_length (l : List Int) : (srt l).length = l.length:=List.length_mergeSort l
theorem cpt_length (l : List Int) : (cpt l).length ≤ l.length:=by
 unfold cpt Lib.compact Lib.compactUpTo
 rw [List.length_map]
 exact Nat.le_trans (List.length_filter_le _ _) (by simp)
theorem pad_get (l k : List Int) (j : Nat) (hj : j < l.length) (h : j < (l ++ k).length) : (l ++ k)[j] = l[j]:=List.getElem_append_left hj
theorem srt_len (τ : TE Int) (l : List Int) : (τ.F l).length = (τ.F (srt l)).length:=by rw [τ.len,τ.len,srt_length]
end Go.Mx
namespace Go.Su.YtepcmciljmennaaGreat
open Go.Mx Go.Proofs
set_option maxRecDepth 100000
set_option maxHeartbeats 20000000
set_option linter.unusedVariables false
set_option linter.unusedSimpArgs false
structure Act where
 What : Int
 A : Int
 B : Int
 N : Int
 E : List Int
structure Decl where
 Kind : Int
 Name : ByteArray
 N : Int
 At : Cx
structure Expr where
 Kind : Int
 N : Int
 Name : ByteArray
 Of : List Expr
structure Stmt where
 Kind : Int
 Name : ByteArray
 Other : ByteArray
 N : Int
 E : Expr
 Body : List Stmt
 Else : List Stmt
 At : Cx
structure Prog where
 Decls : List Decl
 Threads : List (List Stmt)
structure Cand where
 Guard : Bool
 Names : List Int
 Cost : Cx
structure Race where
 A : Int
 B : Int
 Name : Int
 Picks : List Int
structure Token where
 Kind : Int
 Text : ByteArray
 N : Int
 At : Int
structure Reader where
 T : List Token
 At : Int
 Fail : Bool
 Bad : Int
structure Mark where
 S : Stmt
 Block : List Int
 At : Int
structure Arr2_string where
 e0 : ByteArray
 e1 : ByteArray
def eAct (x : Act) : V:=.agg [.p (.int .i64 x.What),.p (.int .i64 x.A),.p (.int .i64 x.B),.p (.int .i64 x.N),.ps .opt (List.map e_i64 x.E)]
def eDecl (x : Decl) : V:=.agg [.p (.int .i64 x.Kind),.p (.string x.Name),.p (.int .i64 x.N),.p (.complex .f64 x.At.re x.At.im)]
mutual
def rExpr : Expr → V
 | ⟨x0,x1,x2,x3⟩=>.agg [.p (.int .i64 x0),.p (.int .i64 x1),.p (.string x2),.ps .opt (lExpr x3)]
def lExpr : List Expr → List V
 | []=>[]
 | e :: r=>rExpr e :: lExpr r
end
def eExpr (x : Expr) : V:=.agg [.p (.int .i64 x.Kind),.p (.int .i64 x.N),.p (.string x.Name),.ps .opt (lExpr x.Of)]
theorem rExpr_eq (x : Expr) : rExpr x = eExpr x:=by cases x; rw [rExpr]; rfl
theorem lExpr_eq (l : List Expr) : lExpr l = l.map eExpr:=by
 induction l with
 | nil=>rw [lExpr]; rfl
 | cons a r ih=>rw [lExpr,rExpr_eq,ih]; rfl
mutual
def rStmt : Stmt → V
 | ⟨x0,x1,x2,x3,x4,x5,x6,x7⟩=>.agg [.p (.int .i64 x0),.p (.string x1),.p (.string x2),.p (.int .i64 x3),.p (.int .i64 x4.Kind),.p (.int .i64 x4.N),.p (.string x4.Name),.ps .opt (lExpr x4.Of),.ps .opt (lStmt x5),.ps .opt (lStmt x6),.p (.complex .f64 x7.re x7.im)]
def lStmt : List Stmt → List V
 | []=>[]
 | e :: r=>rStmt e :: lStmt r
end
def eStmt (x : Stmt) : V:=.agg [.p (.int .i64 x.Kind),.p (.string x.Name),.p (.string x.Other),.p (.int .i64 x.N),.p (.int .i64 x.E.Kind),.p (.int .i64 x.E.N),.p (.string x.E.Name),.ps .opt (lExpr x.E.Of),.ps .opt (lStmt x.Body),.ps .opt (lStmt x.Else),.p (.complex .f64 x.At.re x.At.im)]
theorem rStmt_eq (x : Stmt) : rStmt x = eStmt x:=by cases x; rw [rStmt]; rfl
theorem lStmt_eq (l : List Stmt) : lStmt l = l.map eStmt:=by
 induction l with
 | nil=>rw [lStmt]; rfl
 | cons a r ih=>rw [lStmt,rStmt_eq,ih]; rfl
def eProg (x : Prog) : V:=.agg [.ps .opt (List.map eDecl x.Decls),.ps .opt (List.map (fun l=>V.ps .opt (lStmt l)) x.Threads)]
def eCand (x : Cand) : V:=.agg [.p (.bool x.Guard),.ps .opt (List.map e_i64 x.Names),.p (.complex .f64 x.Cost.re x.Cost.im)]
def eRace (x : Race) : V:=.agg [.p (.int .i64 x.A),.p (.int .i64 x.B),.p (.int .i64 x.Name),.ps .opt (List.map e_i64 x.Picks)]
def eToken (x : Token) : V:=.agg [.p (.int .i64 x.Kind),.p (.string x.Text),.p (.int .i64 x.N),.p (.int .i64 x.At)]
def eReader (x : Reader) : V:=.agg [.ps .opt (List.map eToken x.T),.p (.int .i64 x.At),.p (.bool x.Fail),.p (.int .i64 x.Bad)]
def eMark (x : Mark) : V:=.agg [.p (.int .i64 x.S.Kind),.p (.string x.S.Name),.p (.string x.S.Other),.p (.int .i64 x.S.N),.p (.int .i64 x.S.E.Kind),.p (.int .i64 x.S.E.N),.p (.string x.S.E.Name),.ps .opt (lExpr x.S.E.Of),.ps .opt (lStmt x.S.Body),.ps .opt (lStmt x.S.Else),.p (.complex .f64 x.S.At.re x.S.At.im),.ps .opt (List.map e_i64 x.Block),.p (.int .i64 x.At)]
def tbl : List (Nat × TI):=[(3,⟨1,8,.int .i64,.p (.int .i64 0)⟩),
 (4,⟨1,1,.bool,.p (.bool false)⟩),
 (5,⟨1,1,.int .u8,.p (.int .u8 0)⟩),
 (9,⟨1,16,.string,.p (.string ByteArray.empty)⟩),
 (22,⟨1,24,.slice 127,.ps .nil []⟩),
 (23,⟨1,24,.slice 3,.ps .nil []⟩),
 (24,⟨1,24,.slice 51,.ps .nil []⟩),
 (25,⟨1,24,.slice 80,.ps .nil []⟩),
 (27,⟨2,48,.struct #[⟨"Decls",24,0,false, "", "",0⟩,⟨"Threads",25,1,false, "", "",24⟩],.agg [.ps .nil [],.ps .nil []]⟩),
 (32,⟨1,24,.slice 37,.ps .nil []⟩),
 (35,⟨1,16,.complex .f64,.p (.complex .f64 0 0)⟩),
 (37,⟨3,48,.struct #[⟨"Guard",4,0,false, "", "",0⟩,⟨"Names",23,1,false, "", "",8⟩,⟨"Cost",35,2,false, "", "",32⟩],.agg [.p (.bool false),.ps .nil [],.p (.complex .f64 0 0)]⟩),
 (39,⟨1,24,.slice 41,.ps .nil []⟩),
 (41,⟨4,48,.struct #[⟨"A",3,0,false, "", "",0⟩,⟨"B",3,1,false, "", "",8⟩,⟨"Name",3,2,false, "", "",16⟩,⟨"Picks",23,3,false, "", "",24⟩],.agg [.p (.int .i64 0),.p (.int .i64 0),.p (.int .i64 0),.ps .nil []]⟩),
 (44,⟨1,8,.int .i64,.p (.int .i64 0)⟩),
 (51,⟨4,48,.struct #[⟨"Kind",3,0,false, "", "",0⟩,⟨"Name",9,1,false, "", "",8⟩,⟨"N",3,2,false, "", "",24⟩,⟨"At",35,3,false, "", "",32⟩],.agg [.p (.int .i64 0),.p (.string ByteArray.empty),.p (.int .i64 0),.p (.complex .f64 0 0)]⟩),
 (53,⟨1,8,.func #[3] #[4] false,.p .nilFunc⟩),
 (56,⟨1,24,.slice 23,.ps .nil []⟩),
 (60,⟨1,24,.slice 9,.ps .nil []⟩),
 (67,⟨1,24,.slice 74,.ps .nil []⟩),
 (70,⟨1,8,.pointer 72,.p (.pointer none)⟩),
 (72,⟨4,48,.struct #[⟨"T",67,0,false, "", "",0⟩,⟨"At",3,1,false, "", "",24⟩,⟨"Fail",4,2,false, "", "",32⟩,⟨"Bad",3,3,false, "", "",40⟩],.agg [.ps .nil [],.p (.int .i64 0),.p (.bool false),.p (.int .i64 0)]⟩),
 (74,⟨4,40,.struct #[⟨"Kind",3,0,false, "", "",0⟩,⟨"Text",9,1,false, "", "",8⟩,⟨"N",3,2,false, "", "",24⟩,⟨"At",3,3,false, "", "",32⟩],.agg [.p (.int .i64 0),.p (.string ByteArray.empty),.p (.int .i64 0),.p (.int .i64 0)]⟩),
 (80,⟨1,24,.slice 101,.ps .nil []⟩),
 (82,⟨7,112,.array 7 9,.agg [.p (.string ByteArray.empty),.p (.string ByteArray.empty),.p (.string ByteArray.empty),.p (.string ByteArray.empty),.p (.string ByteArray.empty),.p (.string ByteArray.empty),.p (.string ByteArray.empty)]⟩),
 (90,⟨3,72,.array 3 22,.agg [.ps .nil [],.ps .nil [],.ps .nil []]⟩),
 (97,⟨1,24,.slice 99,.ps .nil []⟩),
 (99,⟨4,56,.struct #[⟨"Kind",3,0,false, "", "",0⟩,⟨"N",3,1,false, "", "",8⟩,⟨"Name",9,2,false, "", "",16⟩,⟨"Of",97,3,false, "", "",32⟩],.agg [.p (.int .i64 0),.p (.int .i64 0),.p (.string ByteArray.empty),.ps .nil []]⟩),
 (101,⟨11,168,.struct #[⟨"Kind",3,0,false, "", "",0⟩,⟨"Name",9,1,false, "", "",8⟩,⟨"Other",9,2,false, "", "",24⟩,⟨"N",3,3,false, "", "",40⟩,⟨"E",99,4,false, "", "",48⟩,⟨"Body",80,8,false, "", "",104⟩,⟨"Else",80,9,false, "", "",128⟩,⟨"At",35,10,false, "", "",152⟩],.agg [.p (.int .i64 0),.p (.string ByteArray.empty),.p (.string ByteArray.empty),.p (.int .i64 0),.p (.int .i64 0),.p (.int .i64 0),.p (.string ByteArray.empty),.ps .nil [],.ps .nil [],.ps .nil [],.p (.complex .f64 0 0)]⟩),
 (110,⟨6,96,.array 6 9,.agg [.p (.string ByteArray.empty),.p (.string ByteArray.empty),.p (.string ByteArray.empty),.p (.string ByteArray.empty),.p (.string ByteArray.empty),.p (.string ByteArray.empty)]⟩),
 (116,⟨1,24,.slice 5,.ps .nil []⟩),
 (118,⟨1,24,.slice 121,.ps .nil []⟩),
 (121,⟨13,200,.struct #[⟨"S",101,0,false, "", "",0⟩,⟨"Block",23,11,false, "", "",168⟩,⟨"At",3,12,false, "", "",192⟩],.agg [.p (.int .i64 0),.p (.string ByteArray.empty),.p (.string ByteArray.empty),.p (.int .i64 0),.p (.int .i64 0),.p (.int .i64 0),.p (.string ByteArray.empty),.ps .nil [],.ps .nil [],.ps .nil [],.p (.complex .f64 0 0),.ps .nil [],.p (.int .i64 0)]⟩),
 (124,⟨1,8,.pointer 3,.p (.pointer none)⟩),
 (127,⟨5,56,.struct #[⟨"What",3,0,false, "", "",0⟩,⟨"A",3,1,false, "", "",8⟩,⟨"B",3,2,false, "", "",16⟩,⟨"N",3,3,false, "", "",24⟩,⟨"E",23,4,false, "", "",32⟩],.agg [.p (.int .i64 0),.p (.int .i64 0),.p (.int .i64 0),.p (.int .i64 0),.ps .nil []]⟩),
 (129,⟨2,32,.array 2 9,.agg [.p (.string ByteArray.empty),.p (.string ByteArray.empty)]⟩),
 (155,⟨17,272,.array 17 9,.agg [.p (.string ByteArray.empty),.p (.string ByteArray.empty),.p (.string ByteArray.empty),.p (.string ByteArray.empty),.p (.string ByteArray.empty),.p (.string ByteArray.empty),.p (.string ByteArray.empty),.p (.string ByteArray.empty),.p (.string ByteArray.empty),.p (.string ByteArray.empty),.p (.string ByteArray.empty),.p (.string ByteArray.empty),.p (.string ByteArray.empty),.p (.string ByteArray.empty),.p (.string ByteArray.empty),.p (.string ByteArray.empty),.p (.string ByteArray.empty)]⟩),
 (160,⟨8,128,.array 8 9,.agg [.p (.string ByteArray.empty),.p (.string ByteArray.empty),.p (.string ByteArray.empty),.p (.string ByteArray.empty),.p (.string ByteArray.empty),.p (.string ByteArray.empty),.p (.string ByteArray.empty),.p (.string ByteArray.empty)]⟩)]
def tb : TypeId → Option TI:=lookT tbl
theorem rows : rowsOk Tryz.prog tbl:=⟨by kernel_rfl,by kernel_rfl,by kernel_rfl,by kernel_rfl,by kernel_rfl,by kernel_rfl,by kernel_rfl,by kernel_rfl,by kernel_rfl,by kernel_rfl,by kernel_rfl,by kernel_rfl,by kernel_rfl,by kernel_rfl,by kernel_rfl,by kernel_rfl,by kernel_rfl,by kernel_rfl,by kernel_rfl,by kernel_rfl,by kernel_rfl,by kernel_rfl,by kernel_rfl,by kernel_rfl,by kernel_rfl,by kernel_rfl,by kernel_rfl,by kernel_rfl,by kernel_rfl,by kernel_rfl,by kernel_rfl,by kernel_rfl,by kernel_rfl,by kernel_rfl,by kernel_rfl,by kernel_rfl,by kernel_rfl,by kernel_rfl,trivial⟩
theorem hT : TabOk Tryz.prog tb:=tab_ok rows (by kernel_rfl)
theorem hM : Tryz.prog.follows .mixedOrders = true:=Checked.mixed Tryz.checked
def el_Act (l : List Act) : V:=.ps .opt (List.map eAct l)
def el_int (l : List Int) : V:=.ps .opt (List.map e_i64 l)
def el_string (l : List ByteArray) : V:=.ps .opt (List.map e_s l)
def el_Stmt (l : List Stmt) : V:=.ps .opt (lStmt l)
def s_Act : SE tb Act:={ f:=eAct,F:=List.map eAct,hF:=fun _=>rfl,sz:=5,hs:=fun _=>rfl,h1:=fun _=>rfl,t:=22,e:=127,i0:=⟨1,24,.slice 127,.ps .nil []⟩,i1:=⟨5,56,.struct #[⟨"What",3,0,false, "", "",0⟩,⟨"A",3,1,false, "", "",8⟩,⟨"B",3,2,false, "", "",16⟩,⟨"N",3,3,false, "", "",24⟩,⟨"E",23,4,false, "", "",32⟩],.agg [.p (.int .i64 0),.p (.int .i64 0),.p (.int .i64 0),.p (.int .i64 0),.ps .nil []]⟩,ht:=by kernel_rfl,hd:=rfl,he:=by kernel_rfl,hz:=rfl,hp:=by decide,hb:=by decide }
def s_int : SE tb Int:={ f:=e_i64,F:=List.map e_i64,hF:=fun _=>rfl,sz:=1,hs:=fun _=>rfl,h1:=fun _=>rfl,t:=23,e:=3,i0:=⟨1,24,.slice 3,.ps .nil []⟩,i1:=⟨1,8,.int .i64,.p (.int .i64 0)⟩,ht:=by kernel_rfl,hd:=rfl,he:=by kernel_rfl,hz:=rfl,hp:=by decide,hb:=by decide }
def s_Decl : SE tb Decl:={ f:=eDecl,F:=List.map eDecl,hF:=fun _=>rfl,sz:=4,hs:=fun _=>rfl,h1:=fun _=>rfl,t:=24,e:=51,i0:=⟨1,24,.slice 51,.ps .nil []⟩,i1:=⟨4,48,.struct #[⟨"Kind",3,0,false, "", "",0⟩,⟨"Name",9,1,false, "", "",8⟩,⟨"N",3,2,false, "", "",24⟩,⟨"At",35,3,false, "", "",32⟩],.agg [.p (.int .i64 0),.p (.string ByteArray.empty),.p (.int .i64 0),.p (.complex .f64 0 0)]⟩,ht:=by kernel_rfl,hd:=rfl,he:=by kernel_rfl,hz:=rfl,hp:=by decide,hb:=by decide }
def s_LStmt : SE tb (List Stmt):={ f:=el_Stmt,F:=List.map el_Stmt,hF:=fun _=>rfl,sz:=1,hs:=fun _=>rfl,h1:=fun _=>rfl,t:=25,e:=80,i0:=⟨1,24,.slice 80,.ps .nil []⟩,i1:=⟨1,24,.slice 101,.ps .nil []⟩,ht:=by kernel_rfl,hd:=rfl,he:=by kernel_rfl,hz:=rfl,hp:=by decide,hb:=by decide }
def s_Cand : SE tb Cand:={ f:=eCand,F:=List.map eCand,hF:=fun _=>rfl,sz:=3,hs:=fun _=>rfl,h1:=fun _=>rfl,t:=32,e:=37,i0:=⟨1,24,.slice 37,.ps .nil []⟩,i1:=⟨3,48,.struct #[⟨"Guard",4,0,false, "", "",0⟩,⟨"Names",23,1,false, "", "",8⟩,⟨"Cost",35,2,false, "", "",32⟩],.agg [.p (.bool false),.ps .nil [],.p (.complex .f64 0 0)]⟩,ht:=by kernel_rfl,hd:=rfl,he:=by kernel_rfl,hz:=rfl,hp:=by decide,hb:=by decide }
def s_Race : SE tb Race:={ f:=eRace,F:=List.map eRace,hF:=fun _=>rfl,sz:=4,hs:=fun _=>rfl,h1:=fun _=>rfl,t:=39,e:=41,i0:=⟨1,24,.slice 41,.ps .nil []⟩,i1:=⟨4,48,.struct #[⟨"A",3,0,false, "", "",0⟩,⟨"B",3,1,false, "", "",8⟩,⟨"Name",3,2,false, "", "",16⟩,⟨"Picks",23,3,false, "", "",24⟩],.agg [.p (.int .i64 0),.p (.int .i64 0),.p (.int .i64 0),.ps .nil []]⟩,ht:=by kernel_rfl,hd:=rfl,he:=by kernel_rfl,hz:=rfl,hp:=by decide,hb:=by decide }
def s_Lint : SE tb (List Int):={ f:=el_int,F:=List.map el_int,hF:=fun _=>rfl,sz:=1,hs:=fun _=>rfl,h1:=fun _=>rfl,t:=56,e:=23,i0:=⟨1,24,.slice 23,.ps .nil []⟩,i1:=⟨1,24,.slice 3,.ps .nil []⟩,ht:=by kernel_rfl,hd:=rfl,he:=by kernel_rfl,hz:=rfl,hp:=by decide,hb:=by decide }
def s_string : SE tb ByteArray:={ f:=e_s,F:=List.map e_s,hF:=fun _=>rfl,sz:=1,hs:=fun _=>rfl,h1:=fun _=>rfl,t:=60,e:=9,i0:=⟨1,24,.slice 9,.ps .nil []⟩,i1:=⟨1,16,.string,.p (.string ByteArray.empty)⟩,ht:=by kernel_rfl,hd:=rfl,he:=by kernel_rfl,hz:=rfl,hp:=by decide,hb:=by decide }
def s_Token : SE tb Token:={ f:=eToken,F:=List.map eToken,hF:=fun _=>rfl,sz:=4,hs:=fun _=>rfl,h1:=fun _=>rfl,t:=67,e:=74,i0:=⟨1,24,.slice 74,.ps .nil []⟩,i1:=⟨4,40,.struct #[⟨"Kind",3,0,false, "", "",0⟩,⟨"Text",9,1,false, "", "",8⟩,⟨"N",3,2,false, "", "",24⟩,⟨"At",3,3,false, "", "",32⟩],.agg [.p (.int .i64 0),.p (.string ByteArray.empty),.p (.int .i64 0),.p (.int .i64 0)]⟩,ht:=by kernel_rfl,hd:=rfl,he:=by kernel_rfl,hz:=rfl,hp:=by decide,hb:=by decide }
def s_Stmt : SE tb Stmt:={ f:=eStmt,F:=lStmt,hF:=lStmt_eq,sz:=11,hs:=fun _=>rfl,h1:=fun _=>rfl,t:=80,e:=101,i0:=⟨1,24,.slice 101,.ps .nil []⟩,i1:=⟨11,168,.struct #[⟨"Kind",3,0,false, "", "",0⟩,⟨"Name",9,1,false, "", "",8⟩,⟨"Other",9,2,false, "", "",24⟩,⟨"N",3,3,false, "", "",40⟩,⟨"E",99,4,false, "", "",48⟩,⟨"Body",80,8,false, "", "",104⟩,⟨"Else",80,9,false, "", "",128⟩,⟨"At",35,10,false, "", "",152⟩],.agg [.p (.int .i64 0),.p (.string ByteArray.empty),.p (.string ByteArray.empty),.p (.int .i64 0),.p (.int .i64 0),.p (.int .i64 0),.p (.string ByteArray.empty),.ps .nil [],.ps .nil [],.ps .nil [],.p (.complex .f64 0 0)]⟩,ht:=by kernel_rfl,hd:=rfl,he:=by kernel_rfl,hz:=rfl,hp:=by decide,hb:=by decide }
def s_Expr : SE tb Expr:={ f:=eExpr,F:=lExpr,hF:=lExpr_eq,sz:=4,hs:=fun _=>rfl,h1:=fun _=>rfl,t:=97,e:=99,i0:=⟨1,24,.slice 99,.ps .nil []⟩,i1:=⟨4,56,.struct #[⟨"Kind",3,0,false, "", "",0⟩,⟨"N",3,1,false, "", "",8⟩,⟨"Name",9,2,false, "", "",16⟩,⟨"Of",97,3,false, "", "",32⟩],.agg [.p (.int .i64 0),.p (.int .i64 0),.p (.string ByteArray.empty),.ps .nil []]⟩,ht:=by kernel_rfl,hd:=rfl,he:=by kernel_rfl,hz:=rfl,hp:=by decide,hb:=by decide }
def s_uint8 : SE tb Int:={ f:=e_u8,F:=List.map e_u8,hF:=fun _=>rfl,sz:=1,hs:=fun _=>rfl,h1:=fun _=>rfl,t:=116,e:=5,i0:=⟨1,24,.slice 5,.ps .nil []⟩,i1:=⟨1,1,.int .u8,.p (.int .u8 0)⟩,ht:=by kernel_rfl,hd:=rfl,he:=by kernel_rfl,hz:=rfl,hp:=by decide,hb:=by decide }
def s_mark : SE tb Mark:={ f:=eMark,F:=List.map eMark,hF:=fun _=>rfl,sz:=13,hs:=fun _=>rfl,h1:=fun _=>rfl,t:=118,e:=121,i0:=⟨1,24,.slice 121,.ps .nil []⟩,i1:=⟨13,200,.struct #[⟨"S",101,0,false, "", "",0⟩,⟨"Block",23,11,false, "", "",168⟩,⟨"At",3,12,false, "", "",192⟩],.agg [.p (.int .i64 0),.p (.string ByteArray.empty),.p (.string ByteArray.empty),.p (.int .i64 0),.p (.int .i64 0),.p (.int .i64 0),.p (.string ByteArray.empty),.ps .nil [],.ps .nil [],.ps .nil [],.p (.complex .f64 0 0),.ps .nil [],.p (.int .i64 0)]⟩,ht:=by kernel_rfl,hd:=rfl,he:=by kernel_rfl,hz:=rfl,hp:=by decide,hb:=by decide }
theorem en4 : Enters Tryz.prog 4:=enters Tryz.f4 Tryz.func4 rfl (by kernel_rfl)
theorem en5 : Enters Tryz.prog 5:=enters Tryz.f5 Tryz.func5 rfl (by kernel_rfl)
theorem en6 : Enters Tryz.prog 6:=enters Tryz.f6 Tryz.func6 rfl (by kernel_rfl)
theorem en7 : Enters Tryz.prog 7:=enters Tryz.f7 Tryz.func7 rfl (by kernel_rfl)
theorem en8 : Enters Tryz.prog 8:=enters Tryz.f8 Tryz.func8 rfl (by kernel_rfl)
theorem en9 : Enters Tryz.prog 9:=enters Tryz.f9 Tryz.func9 rfl (by kernel_rfl)
theorem en10 : Enters Tryz.prog 10:=enters Tryz.f10 Tryz.func10 rfl (by kernel_rfl)
theorem en11 : Enters Tryz.prog 11:=enters Tryz.f11 Tryz.func11 rfl (by kernel_rfl)
theorem en12 : Enters Tryz.prog 12:=enters Tryz.f12 Tryz.func12 rfl (by kernel_rfl)
theorem en13 : Enters Tryz.prog 13:=enters Tryz.f13 Tryz.func13 rfl (by kernel_rfl)
theorem en14 : Enters Tryz.prog 14:=enters Tryz.f14 Tryz.func14 rfl (by kernel_rfl)
theorem en15 : Enters Tryz.prog 15:=enters Tryz.f15 Tryz.func15 rfl (by kernel_rfl)
theorem en16 : Enters Tryz.prog 16:=enters Tryz.f16 Tryz.func16 rfl (by kernel_rfl)
theorem en17 : Enters Tryz.prog 17:=enters Tryz.f17 Tryz.func17 rfl (by kernel_rfl)
theorem en18 : Enters Tryz.prog 18:=enters Tryz.f18 Tryz.func18 rfl (by kernel_rfl)
theorem en19 : Enters Tryz.prog 19:=enters Tryz.f19 Tryz.func19 rfl (by kernel_rfl)
theorem en20 : Enters Tryz.prog 20:=enters Tryz.f20 Tryz.func20 rfl (by kernel_rfl)
theorem en21 : Enters Tryz.prog 21:=enters Tryz.f21 Tryz.func21 rfl (by kernel_rfl)
theorem en22 : Enters Tryz.prog 22:=enters Tryz.f22 Tryz.func22 rfl (by kernel_rfl)
theorem en23 : Enters Tryz.prog 23:=enters Tryz.f23 Tryz.func23 rfl (by kernel_rfl)
theorem en24 : Enters Tryz.prog 24:=enters Tryz.f24 Tryz.func24 rfl (by kernel_rfl)
theorem en25 : Enters Tryz.prog 25:=enters Tryz.f25 Tryz.func25 rfl (by kernel_rfl)
theorem en26 : Enters Tryz.prog 26:=enters Tryz.f26 Tryz.func26 rfl (by kernel_rfl)
theorem en27 : Enters Tryz.prog 27:=enters Tryz.f27 Tryz.func27 rfl (by kernel_rfl)
theorem en28 : Enters Tryz.prog 28:=enters Tryz.f28 Tryz.func28 rfl (by kernel_rfl)
theorem en29 : Enters Tryz.prog 29:=enters Tryz.f29 Tryz.func29 rfl (by kernel_rfl)
theorem en30 : Enters Tryz.prog 30:=enters Tryz.f30 Tryz.func30 rfl (by kernel_rfl)
theorem en31 : Enters Tryz.prog 31:=enters Tryz.f31 Tryz.func31 rfl (by kernel_rfl)
theorem en32 : Enters Tryz.prog 32:=enters Tryz.f32 Tryz.func32 rfl (by kernel_rfl)
theorem en33 : Enters Tryz.prog 33:=enters Tryz.f33 Tryz.func33 rfl (by kernel_rfl)
theorem en34 : Enters Tryz.prog 34:=enters Tryz.f34 Tryz.func34 rfl (by kernel_rfl)
theorem en35 : Enters Tryz.prog 35:=enters Tryz.f35 Tryz.func35 rfl (by kernel_rfl)
theorem en36 : Enters Tryz.prog 36:=enters Tryz.f36 Tryz.func36 rfl (by kernel_rfl)
theorem en37 : Enters Tryz.prog 37:=enters Tryz.f37 Tryz.func37 rfl (by kernel_rfl)
theorem en38 : Enters Tryz.prog 38:=enters Tryz.f38 Tryz.func38 rfl (by kernel_rfl)
theorem en39 : Enters Tryz.prog 39:=enters Tryz.f39 Tryz.func39 rfl (by kernel_rfl)
theorem en40 : Enters Tryz.prog 40:=enters Tryz.f40 Tryz.func40 rfl (by kernel_rfl)
theorem en41 : Enters Tryz.prog 41:=enters Tryz.f41 Tryz.func41 rfl (by kernel_rfl)
theorem en42 : Enters Tryz.prog 42:=enters Tryz.f42 Tryz.func42 rfl (by kernel_rfl)
theorem en43 : Enters Tryz.prog 43:=enters Tryz.f43 Tryz.func43 rfl (by kernel_rfl)
theorem en44 : Enters Tryz.prog 44:=enters Tryz.f44 Tryz.func44 rfl (by kernel_rfl)
theorem en45 : Enters Tryz.prog 45:=enters Tryz.f45 Tryz.func45 rfl (by kernel_rfl)
theorem en46 : Enters Tryz.prog 46:=enters Tryz.f46 Tryz.func46 rfl (by kernel_rfl)
theorem en47 : Enters Tryz.prog 47:=enters Tryz.f47 Tryz.func47 rfl (by kernel_rfl)
theorem en48 : Enters Tryz.prog 48:=enters Tryz.f48 Tryz.func48 rfl (by kernel_rfl)
theorem en49 : Enters Tryz.prog 49:=enters Tryz.f49 Tryz.func49 rfl (by kernel_rfl)
theorem en50 : Enters Tryz.prog 50:=enters Tryz.f50 Tryz.func50 rfl (by kernel_rfl)
theorem en51 : Enters Tryz.prog 51:=enters Tryz.f51 Tryz.func51 rfl (by kernel_rfl)
theorem en52 : Enters Tryz.prog 52:=enters Tryz.f52 Tryz.func52 rfl (by kernel_rfl)
theorem en53 : Enters Tryz.prog 53:=enters Tryz.f53 Tryz.func53 rfl (by kernel_rfl)
theorem en54 : Enters Tryz.prog 54:=enters Tryz.f54 Tryz.func54 rfl (by kernel_rfl)
theorem en55 : Enters Tryz.prog 55:=enters Tryz.f55 Tryz.func55 rfl (by kernel_rfl)
theorem en56 : Enters Tryz.prog 56:=enters Tryz.f56 Tryz.func56 rfl (by kernel_rfl)
theorem en57 : Enters Tryz.prog 57:=enters Tryz.f57 Tryz.func57 rfl (by kernel_rfl)
theorem en58 : Enters Tryz.prog 58:=enters Tryz.f58 Tryz.func58 rfl (by kernel_rfl)
theorem en59 : Enters Tryz.prog 59:=enters Tryz.f59 Tryz.func59 rfl (by kernel_rfl)
theorem en62 : Enters Tryz.prog 62:=enters Tryz.f62 Tryz.func62 rfl (by kernel_rfl)
theorem en63 : Enters Tryz.prog 63:=enters Tryz.f63 Tryz.func63 rfl (by kernel_rfl)
theorem en64 : Enters Tryz.prog 64:=enters Tryz.f64 Tryz.func64 rfl (by kernel_rfl)
theorem en65 : Enters Tryz.prog 65:=enters Tryz.f65 Tryz.func65 rfl (by kernel_rfl)
theorem en66 : Enters Tryz.prog 66:=enters Tryz.f66 Tryz.func66 rfl (by kernel_rfl)
theorem en67 : Enters Tryz.prog 67:=enters Tryz.f67 Tryz.func67 rfl (by kernel_rfl)
theorem en68 : Enters Tryz.prog 68:=enters Tryz.f68 Tryz.func68 rfl (by kernel_rfl)
theorem en69 : Enters Tryz.prog 69:=enters Tryz.f69 Tryz.func69 rfl (by kernel_rfl)
theorem en70 : Enters Tryz.prog 70:=enters Tryz.f70 Tryz.func70 rfl (by kernel_rfl)
theorem en71 : Enters Tryz.prog 71:=enters Tryz.f71 Tryz.func71 rfl (by kernel_rfl)
theorem en72 : Enters Tryz.prog 72:=enters Tryz.f72 Tryz.func72 rfl (by kernel_rfl)
theorem en73 : Enters Tryz.prog 73:=enters Tryz.f73 Tryz.func73 rfl (by kernel_rfl)
theorem en74 : Enters Tryz.prog 74:=enters Tryz.f74 Tryz.func74 rfl (by kernel_rfl)
theorem en75 : Enters Tryz.prog 75:=enters Tryz.f75 Tryz.func75 rfl (by kernel_rfl)
theorem en76 : Enters Tryz.prog 76:=enters Tryz.f76 Tryz.func76 rfl (by kernel_rfl)
theorem en77 : Enters Tryz.prog 77:=enters Tryz.f77 Tryz.func77 rfl (by kernel_rfl)
theorem en78 : Enters Tryz.prog 78:=enters Tryz.f78 Tryz.func78 rfl (by kernel_rfl)
theorem en79 : Enters Tryz.prog 79:=enters Tryz.f79 Tryz.func79 rfl (by kernel_rfl)
theorem en80 : Enters Tryz.prog 80:=enters Tryz.f80 Tryz.func80 rfl (by kernel_rfl)
theorem en81 : Enters Tryz.prog 81:=enters Tryz.f81 Tryz.func81 rfl (by kernel_rfl)
theorem en82 : Enters Tryz.prog 82:=enters Tryz.f82 Tryz.func82 rfl (by kernel_rfl)
theorem en83 : Enters Tryz.prog 83:=enters Tryz.f83 Tryz.func83 rfl (by kernel_rfl)
theorem en84 : Enters Tryz.prog 84:=enters Tryz.f84 Tryz.func84 rfl (by kernel_rfl)
theorem en85 : Enters Tryz.prog 85:=enters Tryz.f85 Tryz.func85 rfl (by kernel_rfl)
theorem en86 : Enters Tryz.prog 86:=enters Tryz.f86 Tryz.func86 rfl (by kernel_rfl)
theorem en87 : Enters Tryz.prog 87:=enters Tryz.f87 Tryz.func87 rfl (by kernel_rfl)
theorem en88 : Enters Tryz.prog 88:=enters Tryz.f88 Tryz.func88 rfl (by kernel_rfl)
theorem en89 : Enters Tryz.prog 89:=enters Tryz.f89 Tryz.func89 rfl (by kernel_rfl)
theorem en90 : Enters Tryz.prog 90:=enters Tryz.f90 Tryz.func90 rfl (by kernel_rfl)
theorem en102 : Enters Tryz.prog 102:=enters Tryz.f102 Tryz.func102 rfl (by kernel_rfl)
theorem en103 : Enters Tryz.prog 103:=enters Tryz.f103 Tryz.func103 rfl (by kernel_rfl)
theorem en104 : Enters Tryz.prog 104:=enters Tryz.f104 Tryz.func104 rfl (by kernel_rfl)
theorem en105 : Enters Tryz.prog 105:=enters Tryz.f105 Tryz.func105 rfl (by kernel_rfl)
theorem en106 : Enters Tryz.prog 106:=enters Tryz.f106 Tryz.func106 rfl (by kernel_rfl)
theorem en107 : Enters Tryz.prog 107:=enters Tryz.f107 Tryz.func107 rfl (by kernel_rfl)
theorem en108 : Enters Tryz.prog 108:=enters Tryz.f108 Tryz.func108 rfl (by kernel_rfl)
theorem en109 : Enters Tryz.prog 109:=enters Tryz.f109 Tryz.func109 rfl (by kernel_rfl)
theorem en110 : Enters Tryz.prog 110:=enters Tryz.f110 Tryz.func110 rfl (by kernel_rfl)
theorem en111 : Enters Tryz.prog 111:=enters Tryz.f111 Tryz.func111 rfl (by kernel_rfl)
theorem en112 : Enters Tryz.prog 112:=enters Tryz.f112 Tryz.func112 rfl (by kernel_rfl)
theorem en113 : Enters Tryz.prog 113:=enters Tryz.f113 Tryz.func113 rfl (by kernel_rfl)
theorem en114 : Enters Tryz.prog 114:=enters Tryz.f114 Tryz.func114 rfl (by kernel_rfl)
theorem en115 : Enters Tryz.prog 115:=enters Tryz.f115 Tryz.func115 rfl (by kernel_rfl)
theorem en116 : Enters Tryz.prog 116:=enters Tryz.f116 Tryz.func116 rfl (by kernel_rfl)
theorem en117 : Enters Tryz.prog 117:=enters Tryz.f117 Tryz.func117 rfl (by kernel_rfl)
theorem en118 : Enters Tryz.prog 118:=enters Tryz.f118 Tryz.func118 rfl (by kernel_rfl)
theorem en119 : Enters Tryz.prog 119:=enters Tryz.f119 Tryz.func119 rfl (by kernel_rfl)
theorem en120 : Enters Tryz.prog 120:=enters Tryz.f120 Tryz.func120 rfl (by kernel_rfl)
theorem en127 : Enters Tryz.prog 127:=enters Tryz.f127 Tryz.func127 rfl (by kernel_rfl)
theorem en128 : Enters Tryz.prog 128:=enters Tryz.f128 Tryz.func128 rfl (by kernel_rfl)
theorem en129 : Enters Tryz.prog 129:=enters Tryz.f129 Tryz.func129 rfl (by kernel_rfl)
theorem en130 : Enters Tryz.prog 130:=enters Tryz.f130 Tryz.func130 rfl (by kernel_rfl)
theorem en132 : Enters Tryz.prog 132:=enters Tryz.f132 Tryz.func132 rfl (by kernel_rfl)
theorem en133 : Enters Tryz.prog 133:=enters Tryz.f133 Tryz.func133 rfl (by kernel_rfl)
theorem en134 : Enters Tryz.prog 134:=enters Tryz.f134 Tryz.func134 rfl (by kernel_rfl)
theorem en135 : Enters Tryz.prog 135:=enters Tryz.f135 Tryz.func135 rfl (by kernel_rfl)
abbrev k_x : ByteArray:=⟨#[120]⟩
abbrev k_y : ByteArray:=⟨#[121]⟩
abbrev k_z : ByteArray:=⟨#[122]⟩
abbrev k_a : ByteArray:=⟨#[97]⟩
abbrev k_t : ByteArray:=⟨#[116]⟩
abbrev k_m : ByteArray:=⟨#[109]⟩
abbrev k_c : ByteArray:=⟨#[99]⟩
abbrev k_d : ByteArray:=⟨#[100]⟩
abbrev k_l : ByteArray:=⟨#[108]⟩
abbrev k_k : ByteArray:=⟨#[107]⟩
abbrev x_3f : ByteArray:=⟨#[63]⟩
abbrev k_var : ByteArray:=⟨#[118,97,114]⟩
abbrev k_wide : ByteArray:=⟨#[119,105,100,101]⟩
abbrev k_atomic : ByteArray:=⟨#[97,116,111,109,105,99]⟩
abbrev k_local : ByteArray:=⟨#[108,111,99,97,108]⟩
abbrev k_mutex : ByteArray:=⟨#[109,117,116,101,120]⟩
abbrev k_chan : ByteArray:=⟨#[99,104,97,110]⟩
abbrev x_20 : ByteArray:=⟨#[32]⟩
abbrev x_0a : ByteArray:=⟨#[10]⟩
abbrev x_676f207b0a : ByteArray:=⟨#[103,111,32,123,10]⟩
abbrev x_09 : ByteArray:=⟨#[9]⟩
abbrev x_203d20 : ByteArray:=⟨#[32,61,32]⟩
abbrev x_28 : ByteArray:=⟨#[40]⟩
abbrev x_29 : ByteArray:=⟨#[41]⟩
abbrev x_2d : ByteArray:=⟨#[45]⟩
abbrev x_2b : ByteArray:=⟨#[43]⟩
abbrev x_2a : ByteArray:=⟨#[42]⟩
abbrev x_2f : ByteArray:=⟨#[47]⟩
abbrev x_25 : ByteArray:=⟨#[37]⟩
abbrev x_3c : ByteArray:=⟨#[60]⟩
abbrev x_3d3d : ByteArray:=⟨#[61,61]⟩
abbrev x_6c6f636b20 : ByteArray:=⟨#[108,111,99,107,32]⟩
abbrev x_756e6c6f636b20 : ByteArray:=⟨#[117,110,108,111,99,107,32]⟩
abbrev x_73656e6420 : ByteArray:=⟨#[115,101,110,100,32]⟩
abbrev x_7265637620 : ByteArray:=⟨#[114,101,99,118,32]⟩
abbrev x_7072696e7420 : ByteArray:=⟨#[112,114,105,110,116,32]⟩
abbrev x_676f746f20 : ByteArray:=⟨#[103,111,116,111,32]⟩
abbrev x_6c6162656c20 : ByteArray:=⟨#[108,97,98,101,108,32]⟩
abbrev x_696620 : ByteArray:=⟨#[105,102,32]⟩
abbrev x_207b0a : ByteArray:=⟨#[32,123,10]⟩
abbrev x_7d : ByteArray:=⟨#[125]⟩
abbrev x_20656c7365207b0a : ByteArray:=⟨#[32,101,108,115,101,32,123,10]⟩
abbrev x_72657065617420 : ByteArray:=⟨#[114,101,112,101,97,116,32]⟩
abbrev x_7d0a : ByteArray:=⟨#[125,10]⟩
abbrev x_30 : ByteArray:=⟨#[48]⟩
abbrev x_3d3c2b2d2a2f2528297b7d : ByteArray:=⟨#[61,60,43,45,42,47,37,40,41,123,125]⟩
abbrev k_go : ByteArray:=⟨#[103,111]⟩
abbrev k_lock : ByteArray:=⟨#[108,111,99,107]⟩
abbrev k_unlock : ByteArray:=⟨#[117,110,108,111,99,107]⟩
abbrev k_send : ByteArray:=⟨#[115,101,110,100]⟩
abbrev k_recv : ByteArray:=⟨#[114,101,99,118]⟩
abbrev k_print : ByteArray:=⟨#[112,114,105,110,116]⟩
abbrev k_if : ByteArray:=⟨#[105,102]⟩
abbrev k_else : ByteArray:=⟨#[101,108,115,101]⟩
abbrev k_repeat : ByteArray:=⟨#[114,101,112,101,97,116]⟩
abbrev k_goto : ByteArray:=⟨#[103,111,116,111]⟩
abbrev k_label : ByteArray:=⟨#[108,97,98,101,108]⟩
abbrev x_7b : ByteArray:=⟨#[123]⟩
abbrev x_3d : ByteArray:=⟨#[61]⟩
abbrev tx59 : ByteArray:=⟨#[118,97,114,32,120,32,119,105,100,101,32,121,32,103,111,123,120,61,121,125,103,111,123,121,61,120,125]⟩
end Go.Su.YtepcmciljmennaaGreat
