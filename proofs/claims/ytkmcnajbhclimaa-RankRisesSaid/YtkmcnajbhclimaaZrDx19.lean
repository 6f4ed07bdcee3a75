/-
  A call of a function that looks at rows, and at variables, of the frame: they are let go for the call alone.
-/
import Derived.Test.YtkmcnajbhclimaaZrDx12
import Derived.Laws.StructEq
namespace Go.Mx
set_option linter.unusedVariables false
def lov {α : Type} (es : List α) (off : Nat) (xs : List α) : List α:=es.take off ++ xs ++ es.drop (off + xs.length)
def lcopy {α : Type} (l xs : List α) : List α:=lov l 0 (xs.take (min xs.length l.length))
def rcopy {α : Type} (l : List α) (n : Nat) : List α:=lov l n ((l.take n).take (min n (l.length - n)))
def mroom (b : Nat) (n : Int) : Bool:=decide (0 ≤ n) && decide (n.toNat * b ≤ roomB)
theorem lov_length {α : Type} {es xs : List α} {off : Nat} (h : off + xs.length ≤ es.length) : (lov es off xs).length = es.length:=by unfold lov; simp; omega
theorem lcopy_length {α : Type} (l xs : List α) : (lcopy l xs).length = l.length:=lov_length (by simp; omega)
theorem rcopy_length {α : Type} (l : List α) (n : Nat) : (rcopy l n).length = l.length:=by
 unfold rcopy
 rcases Nat.lt_or_ge l.length n with h | h
 ·unfold lov; simp; omega
 ·exact lov_length (by simp; omega)
section
variable {P : Program} {T : TypeId → Option TI} {α : Type}
theorem SE.lov (σ : SE T α) (l : List α) (off : Nat) (xs : List α) : over (σ.F l) off (σ.F xs) = σ.F (lov l off xs):=by
 simp only [over,Go.Mx.lov,σ.hF,List.map_append,List.map_take,List.map_drop,List.length_map]
theorem ev_make (σ : SE T α) {ρ : Operand → V} {dr : Bool} {h : Hp} {c d : Nat} {ty : TypeId} {pos : String} {af : Array Edge} {g : Option (Nat × Bool)} {x y : Operand} (n : Int) (z : α) (hr : mroom σ.i1.bytes n = true) (hx : ρ x = vi n) (hy : ρ y = vi n) (hz : σ.f z = σ.i1.zero) :
  evOperF P T dr ρ ⟨some d,.makeSlice σ.t x y,ty,pos,af,g⟩ h c = some (vo d c (σ.F (List.replicate n.toNat z)),h.set d ⟨c,σ.e,σ.sz,false,false,σ.F (List.replicate n.toNat z)⟩,c + 1):=by
 obtain ⟨sz,bt,zz,h1⟩:=σ.row
 unfold mroom at hr
 simp only [Bool.and_eq_true,decide_eq_true_eq] at hr
 obtain ⟨h2,h3⟩:=hr
 have e1 : σ.F (List.replicate n.toNat z) = List.replicate n.toNat σ.i1.zero:=by rw [σ.hF,List.map_replicate,hz]
 have hb:=σ.hb
 have hp:=σ.hp
 have hzz:=σ.hz
 simp only [evOperF,evMake,h1,σ.he,hx,hy,asI]
 rw [if_pos ⟨h2,Int.le_refl _,hb,by rw [hzz]; exact hp,h3⟩]
 simp only [vo,e1,hzz,List.length_replicate]
theorem ev_copy (σ : SE T α) {ρ : Operand → V} {dr : Bool} {h : Hp} {c : Nat} {d : Option Tmp} {ty t2 : TypeId} {pos : String} {af : Array Edge} {g : Option (Nat × Bool)} {x y : Operand} (b s : Nat) (l xs : List α) (hx : ρ x = vo b s (σ.F l)) (hg : h.get b = some ⟨s,σ.e,σ.sz,false,false,σ.F l⟩) (hy : elems h (ρ y) = some (σ.F xs)) :
  evOperF P T dr ρ ⟨d,.call ⟨.builtin .copy,#[x,y],#[σ.t,t2]⟩,ty,pos,af,g⟩ h c = some (vi (min xs.length l.length : Nat),h.set b ⟨s,σ.e,σ.sz,false,false,σ.F (lcopy l xs)⟩,c):=by
 obtain ⟨sz,bt,zz,e0⟩:=σ.row
 have hx' : ρ x = .sl b s 0 (σ.F l).length true:=hx
 have e2 : (σ.F xs).take (min (σ.F xs).length (σ.F l).length) = σ.F (xs.take (min xs.length l.length)):=by simp only [σ.len]; rw [σ.hF,σ.hF,List.map_take]
 simp only [evOperF,evCopy,e0,σ.he,hx',hy,hg]
 rw [if_pos ⟨trivial,trivial,trivial,σ.hz.symm,by omega,σ.all xs⟩,e2,σ.lov]
 simp only [σ.len]
 rfl
def inR (n : Int) (k : Nat) : Bool:=decide (0 < n) && decide (n < k)
theorem ev_subR (σ : SE T α) {ρ : Operand → V} {dr : Bool} {h : Hp} {c : Nat} {d : Option Tmp} {ty : TypeId} {pos : String} {af : Array Edge} {g : Option (Nat × Bool)} {x y : Operand} (b s : Nat) (l : List α) (n : Int) (hn : inR n l.length = true) (hx : ρ x = vo b s (σ.F l)) (hy : ρ y = vi n) (hg : h.get b = some ⟨s,σ.e,σ.sz,false,false,σ.F l⟩) :
  evOperF P T dr ρ ⟨d,.slice σ.t x (some y) none none,ty,pos,af,g⟩ h c = some (.sl b s n.toNat (l.length - n.toNat) false,h,c):=by
 obtain ⟨sz,bt,zz,e0⟩:=σ.row
 have hx' : ρ x = .sl b s 0 (σ.F l).length true:=hx
 unfold inR at hn
 simp only [Bool.and_eq_true,decide_eq_true_eq] at hn
 have hlen : lenV h (.sl b s 0 l.length true) = some l.length:=by simp [lenV,hg]
 have hn2 : (n == 0) = false:=by simp; omega
 have hn3 : ¬ n = (l.length : Int):=by omega
 have h5 : ∀ q : Int,q ∈ (none : Option Int) → q = (l.length : Int):=fun q hq=>by cases hq
 have key : evSlice T h σ.t (.sl b s 0 l.length true) (some (vi n)) none none = some (.sl b s n.toNat (l.length - n.toNat) false):=by
  simp only [evSlice,e0,σ.he,hlen,intOr,intOpt,asI]
  rw [if_pos ⟨by omega,by omega,Int.le_refl _,h5⟩]
  simp only [hg]
  rw [if_pos ⟨trivial,σ.hz.symm⟩,if_neg (by simp),if_neg hn3]
  simp [hn2]
 simp [evOperF,hx',hy,σ.len,key]
theorem ev_subL (σ : SE T α) {ρ : Operand → V} {dr : Bool} {h : Hp} {c : Nat} {d : Option Tmp} {ty : TypeId} {pos : String} {af : Array Edge} {g : Option (Nat × Bool)} {x y : Operand} (b s : Nat) (l : List α) (n : Int) (hn : inR n l.length = true) (hx : ρ x = vo b s (σ.F l)) (hy : ρ y = vi n) (hg : h.get b = some ⟨s,σ.e,σ.sz,false,false,σ.F l⟩) :
  evOperF P T dr ρ ⟨d,.slice σ.t x none (some y) none,ty,pos,af,g⟩ h c = some (.sl b s 0 n.toNat true,h,c):=by
 obtain ⟨sz,bt,zz,e0⟩:=σ.row
 have hx' : ρ x = .sl b s 0 (σ.F l).length true:=hx
 unfold inR at hn
 simp only [Bool.and_eq_true,decide_eq_true_eq] at hn
 have hlen : lenV h (.sl b s 0 l.length true) = some l.length:=by simp [lenV,hg]
 have hn3 : ¬ (0 : Int) = n:=by omega
 have h5 : ∀ q : Int,q ∈ (none : Option Int) → q = n:=fun q hq=>by cases hq
 have key : evSlice T h σ.t (.sl b s 0 l.length true) none (some (vi n)) none = some (.sl b s 0 n.toNat true):=by
  simp only [evSlice,e0,σ.he,hlen,intOr,intOpt,asI]
  rw [if_pos ⟨Int.le_refl _,by omega,by omega,h5⟩]
  simp only [hg]
  rw [if_pos ⟨trivial,σ.hz.symm⟩,if_neg (by simp),if_neg hn3]
  simp
 simp [evOperF,hx',hy,σ.len,key]
theorem ev_rcopy (σ : SE T α) {ρ : Operand → V} {dr : Bool} {h : Hp} {c : Nat} {d : Option Tmp} {ty t2 : TypeId} {pos : String} {af : Array Edge} {g : Option (Nat × Bool)} {x y : Operand} (b s : Nat) (l : List α) (n : Int) (hn : inR n l.length = true) (hx : ρ x = .sl b s n.toNat (l.length - n.toNat) false) (hy : ρ y = .sl b s 0 n.toNat true) (hg : h.get b = some ⟨s,σ.e,σ.sz,false,false,σ.F l⟩) :
  evOperF P T dr ρ ⟨d,.call ⟨.builtin .copy,#[x,y],#[σ.t,t2]⟩,ty,pos,af,g⟩ h c = some (vi (min n.toNat (l.length - n.toNat) : Nat),h.set b ⟨s,σ.e,σ.sz,false,false,σ.F (rcopy l n.toNat)⟩,c):=by
 obtain ⟨sz,bt,zz,e0⟩:=σ.row
 unfold inR at hn
 simp only [Bool.and_eq_true,decide_eq_true_eq] at hn
 have hel : elems h (.sl b s 0 n.toNat true) = some (σ.F (l.take n.toNat)):=by
  simp only [elems,hg]
  rw [if_pos ⟨trivial,trivial,by rw [σ.len]; omega⟩]
  rw [List.drop_zero,σ.hF,σ.hF,List.map_take]
 have hlt : (l.take n.toNat).length = n.toNat:=by simp; omega
 have e2 : (σ.F (l.take n.toNat)).take (min (σ.F (l.take n.toNat)).length (l.length - n.toNat)) = σ.F ((l.take n.toNat).take (min n.toNat (l.length - n.toNat))):=by simp only [σ.len,hlt]; rw [σ.hF,σ.hF,List.map_take (l:=l.take n.toNat)]
 simp only [evOperF,evCopy,e0,σ.he,hx,hy,hel,hg]
 rw [if_pos ⟨trivial,trivial,trivial,σ.hz.symm,by rw [σ.len]; omega,σ.all _⟩,e2,σ.lov]
 simp only [σ.len,hlt]
 rfl
end
end Go.Mx
namespace Go.Mx
set_option linter.unusedVariables false
set_option linter.unusedSimpArgs false
inductive EC where
 | int (k : IntKind) (a b : Int)
 | bool (a b : Bool)
 | str (a b : ByteArray)
def EC.x : EC → Value
 | .int k a _=>.int k a
 | .bool a _=>.bool a
 | .str a _=>.string a
def EC.y : EC → Value
 | .int k _ b=>.int k b
 | .bool _ b=>.bool b
 | .str _ b=>.string b
def EC.b : EC → Bool
 | .int _ a b=>a == b
 | .bool a b=>a == b
 | .str a b=>bytesEq a b
section
variable {P : Program} {T : TypeId → Option TI}
variable {ρ : Operand → V} {dr : Bool} {h : Hp} {c : Nat} {d : Option Tmp} {t t' ty : TypeId} {pos : String} {af : Array Edge} {g : Option (Nat × Bool)} {x y : Operand}
end
end Go.Mx
namespace Go.Mx
set_option linter.unusedVariables false
section
variable {P : Program} {T : TypeId → Option TI} {bad : Nat → Prop} {E : Ent} {N : Nat}
variable {ops : Array Oper} {i : Nat} {A : List (Nat × V)} {h : Hp} {c : Nat}
theorem Sgd (hT : TabOk P T) {Q : Exit → SA → Prop} (n : Nat) (ks : List Nat) (dA : List (Nat × V)) (hq : WO P bad E N ops (i + n) ⟨keepA ks (dA ++ A),h,c⟩ Q)
  (hr : runK P T N ops i n ks ⟨A,h,c⟩ = some ⟨keepA ks (dA ++ A),h,c⟩:=by kernel_rfl) (hk : ks.all (Nat.blt · N) = true:=by kernel_rfl) : WO P bad E N ops i ⟨A,h,c⟩ Q:=WO_seg hT n ks _ hr hk hq
theorem Szd (hT : TabOk P T) {Q : Exit → SA → Prop} (n : Nat) (ks : List Nat) (dA : List (Nat × V)) (hq : Q .normal ⟨keepA ks (dA ++ A),h,c⟩)
  (hr : runK P T N ops i n ks ⟨A,h,c⟩ = some ⟨keepA ks (dA ++ A),h,c⟩:=by kernel_rfl) (hk : ks.all (Nat.blt · N) = true:=by kernel_rfl) (hi : Nat.ble ops.size (i + n) = true:=by kernel_rfl) : WO P bad E N ops i ⟨A,h,c⟩ Q:=Sz hT n ks _ hq hr hk hi
theorem Rgd (hT : TabOk P T) {id : Nat} {Q : Exit → SA → Prop} (n : Nat) (ks : List Nat) (dA : List (Nat × V)) (hq : WO P bad E N ops (0 + n) ⟨keepA ks (dA ++ A),h,c⟩ Q)
  (hr : runK P T N ops 0 n ks ⟨A,h,c⟩ = some ⟨keepA ks (dA ++ A),h,c⟩:=by kernel_rfl) (hk : ks.all (Nat.blt · N) = true:=by kernel_rfl) : WA P bad E N (.region id ops false) ⟨A,h,c⟩ Q:=Rg hT n ks _ hq hr hk
theorem Rzd (hT : TabOk P T) {id : Nat} {Q : Exit → SA → Prop} (n : Nat) (ks : List Nat) (dA : List (Nat × V)) (hq : Q .normal ⟨keepA ks (dA ++ A),h,c⟩)
  (hr : runK P T N ops 0 n ks ⟨A,h,c⟩ = some ⟨keepA ks (dA ++ A),h,c⟩:=by kernel_rfl) (hk : ks.all (Nat.blt · N) = true:=by kernel_rfl) (hi : Nat.ble ops.size (0 + n) = true:=by kernel_rfl) : WA P bad E N (.region id ops false) ⟨A,h,c⟩ Q:=Rz hT n ks _ hq hr hk hi
theorem Qgd (hT : TabOk P T) {id : Nat} {y : Code} {Q : Exit → SA → Prop} (n : Nat) (ks : List Nat) (dA : List (Nat × V)) (hq : WO P bad E N ops (0 + n) ⟨keepA ks (dA ++ A),h,c⟩ (thenA (fun s'=>WA P bad E N y s' Q) Q))
  (hr : runK P T N ops 0 n ks ⟨A,h,c⟩ = some ⟨keepA ks (dA ++ A),h,c⟩:=by kernel_rfl) (hk : ks.all (Nat.blt · N) = true:=by kernel_rfl) : WA P bad E N (.seq (.region id ops false) y) ⟨A,h,c⟩ Q:=Qg hT n ks _ hq hr hk
theorem Qzd (hT : TabOk P T) {id : Nat} {y : Code} {Q : Exit → SA → Prop} (n : Nat) (ks : List Nat) (dA : List (Nat × V)) (hq : WA P bad E N y ⟨keepA ks (dA ++ A),h,c⟩ Q)
  (hr : runK P T N ops 0 n ks ⟨A,h,c⟩ = some ⟨keepA ks (dA ++ A),h,c⟩:=by kernel_rfl) (hk : ks.all (Nat.blt · N) = true:=by kernel_rfl) (hi : Nat.ble ops.size (0 + n) = true:=by kernel_rfl) : WA P bad E N (.seq (.region id ops false) y) ⟨A,h,c⟩ Q:=Qz hT n ks _ hq hr hk hi
theorem Sgh (hT : TabOk P T) {Q : Exit → SA → Prop} (n : Nat) (ks : List Nat) (dA : List (Nat × V)) (h' : Hp) (c' : Nat) (hq : WO P bad E N ops (i + n) ⟨keepA ks (dA ++ A),h',c'⟩ Q)
  (hr : runK P T N ops i n ks ⟨A,h,c⟩ = some ⟨keepA ks (dA ++ A),h',c'⟩:=by kernel_rfl) (hk : ks.all (Nat.blt · N) = true:=by kernel_rfl) : WO P bad E N ops i ⟨A,h,c⟩ Q:=WO_seg hT n ks _ hr hk hq
theorem Szh (hT : TabOk P T) {Q : Exit → SA → Prop} (n : Nat) (ks : List Nat) (dA : List (Nat × V)) (h' : Hp) (c' : Nat) (hq : Q .normal ⟨keepA ks (dA ++ A),h',c'⟩)
  (hr : runK P T N ops i n ks ⟨A,h,c⟩ = some ⟨keepA ks (dA ++ A),h',c'⟩:=by kernel_rfl) (hk : ks.all (Nat.blt · N) = true:=by kernel_rfl) (hi : Nat.ble ops.size (i + n) = true:=by kernel_rfl) : WO P bad E N ops i ⟨A,h,c⟩ Q:=Sz hT n ks _ hq hr hk hi
theorem Rgh (hT : TabOk P T) {id : Nat} {Q : Exit → SA → Prop} (n : Nat) (ks : List Nat) (dA : List (Nat × V)) (h' : Hp) (c' : Nat) (hq : WO P bad E N ops (0 + n) ⟨keepA ks (dA ++ A),h',c'⟩ Q)
  (hr : runK P T N ops 0 n ks ⟨A,h,c⟩ = some ⟨keepA ks (dA ++ A),h',c'⟩:=by kernel_rfl) (hk : ks.all (Nat.blt · N) = true:=by kernel_rfl) : WA P bad E N (.region id ops false) ⟨A,h,c⟩ Q:=Rg hT n ks _ hq hr hk
theorem Qgh (hT : TabOk P T) {id : Nat} {y : Code} {Q : Exit → SA → Prop} (n : Nat) (ks : List Nat) (dA : List (Nat × V)) (h' : Hp) (c' : Nat) (hq : WO P bad E N ops (0 + n) ⟨keepA ks (dA ++ A),h',c'⟩ (thenA (fun s'=>WA P bad E N y s' Q) Q))
  (hr : runK P T N ops 0 n ks ⟨A,h,c⟩ = some ⟨keepA ks (dA ++ A),h',c'⟩:=by kernel_rfl) (hk : ks.all (Nat.blt · N) = true:=by kernel_rfl) : WA P bad E N (.seq (.region id ops false) y) ⟨A,h,c⟩ Q:=Qg hT n ks _ hq hr hk
theorem Qzh (hT : TabOk P T) {id : Nat} {y : Code} {Q : Exit → SA → Prop} (n : Nat) (ks : List Nat) (dA : List (Nat × V)) (h' : Hp) (c' : Nat) (hq : WA P bad E N y ⟨keepA ks (dA ++ A),h',c'⟩ Q)
  (hr : runK P T N ops 0 n ks ⟨A,h,c⟩ = some ⟨keepA ks (dA ++ A),h',c'⟩:=by kernel_rfl) (hk : ks.all (Nat.blt · N) = true:=by kernel_rfl) (hi : Nat.ble ops.size (0 + n) = true:=by kernel_rfl) : WA P bad E N (.seq (.region id ops false) y) ⟨A,h,c⟩ Q:=Qz hT n ks _ hq hr hk hi
variable {es rs : List (Nat × List Nat)} {Q : SA → Prop}
theorem Ds (n : Nat) (dA : List (Nat × V)) (dE dR : List (Nat × List Nat)) (hq : WD P T bad N ops (i + n) (es ++ dE) (rs ++ dR) ⟨dA ++ A,h,c⟩ Q) (hs : keysLt N A = true:=by kernel_rfl)
  (hr : runD P T N ops n i (ops.toList.drop i) ⟨A,h,c⟩ es rs = some (⟨dA ++ A,h,c⟩,es ++ dE,rs ++ dR):=by kernel_rfl) : WD P T bad N ops i es rs ⟨A,h,c⟩ Q:=WD_seg n _ _ _ hs hr hq
theorem Dh (n : Nat) (dA : List (Nat × V)) (h' : Hp) (c' : Nat) (dE dR : List (Nat × List Nat)) (hq : WD P T bad N ops (i + n) (es ++ dE) (rs ++ dR) ⟨dA ++ A,h',c'⟩ Q) (hs : keysLt N A = true:=by kernel_rfl)
  (hr : runD P T N ops n i (ops.toList.drop i) ⟨A,h,c⟩ es rs = some (⟨dA ++ A,h',c'⟩,es ++ dE,rs ++ dR):=by kernel_rfl) : WD P T bad N ops i es rs ⟨A,h,c⟩ Q:=WD_seg n _ _ _ hs hr hq
theorem Dt {d : Option Tmp} {v : V} (v' : V) (hq : WD P T bad N ops i es rs ⟨putA A d v',h,c⟩ Q) (hv : v = v':=by kernel_rfl) : WD P T bad N ops i es rs ⟨putA A d v,h,c⟩ Q:=by
 subst hv; exact hq
end
end Go.Mx
namespace Go.Mx
set_option linter.unusedVariables false
section
variable {P : Program} {T : TypeId → Option TI} {bad : Nat → Prop} {E : Ent} {N : Nat} {α : Type}
theorem WO_go' {ops : Array Oper} {i : Nat} {A : List (Nat × V)} {h0 : Hp} {c0 : Nat} {Q : Exit → SA → Prop} {o : Oper} (ho : ops[i]? = some o) (hgd : evGuardA A ops o = some true) {cl : Call} {g : FuncId} (hA hr : Hp) (vs vs' : List V) (E1 E2 : List (Nat × Nat × Nat)) (hB : Hp) (r r' : V) (c2 : Nat)
  (hop : o.op = .call cl) (htg : evTargetA A cl = some (g,vs)) (hen : Enters P g) (hvs : mapO (trV h0 (lookE E1) [] 5) vs = some vs') (hA' : moveH h0 (lookE E1) [] E1 = some hA)
  (hc1 : (E1.all (fun x=>Nat.beq x.2.2 0) && nodupB (E1.map (·.1)) && nodupB (E1.map fun x=>x.2.1) && nodupB (E2.map (·.1)) && nodupB (E2.map fun x=>x.2.1) && Nat.ble c0 c2) = true)
  (hg : GO P g hA vs' r hr) (hr' : trV hr (lookE E2) [] 5 r = some r') (hB' : moveH hr (lookE E2) [] E2 = some hB) (hE2 : E2.all (okE2 h0 hr E1 c0 c2) = true) (hd : okD N o.dst = true)
  (hk : WO P bad E N ops (i + 1) ⟨putA A o.dst r',hB ++ eraseAll h0 (E1.map (·.1)),c2⟩ Q) : WO P bad E N ops i ⟨A,h0,c0⟩ Q :=
 WO_go (s:=⟨A,h0,c0⟩) (ho:=ho) (hgd:=hgd) (hA:=hA) (hr:=hr) (vs:=vs) (vs':=vs') (E1:=E1) (E2:=E2) (hB:=hB) (r:=r) (r':=r') (c2:=c2) (hop:=hop) (htg:=htg) (hen:=hen) (hvs:=hvs) (hA':=hA') (hc1:=hc1) (hg:=hg) (hr':=hr') (hB':=hB') (hE2:=hE2) (hd:=hd) (hk:=hk)
theorem WO_append' (hT : TabOk P T) (σ : SE T α) {ops : Array Oper} {i : Nat} {A : List (Nat × V)} {h0 : Hp} {c0 : Nat} {Q : Exit → SA → Prop} {o : Oper} (hoi : ops[i]? = some o) (hgd : evGuardA A ops o = some true) {d : Nat} {ty : TypeId} {pos : String} {af : Array Edge} {g : Option (Nat × Bool)} {x y : Operand} (b st : Nat) (nl : Bool) (l l2 : List α)
  (ho : o = ⟨some d,.call ⟨.builtin .append,#[x,y],#[σ.t,σ.t]⟩,ty,pos,af,g⟩) (hx : evA A x = .sl b st 0 (σ.F l).length true) (hg : h0.get b = some ⟨st,σ.e,σ.sz,false,nl,σ.F l⟩) (hy : elems h0 (evA A y) = some (σ.F l2))
  (hroom : room σ.i1.bytes l.length l2.length = true) (hd : Nat.blt d N = true)
  (hk : WO P bad E N ops (i + 1) ⟨(d,.sl d c0 0 (σ.F (l ++ l2)).length true) :: A,(h0.erase b).set d ⟨c0,σ.e,σ.sz,false,true,σ.F (l ++ l2)⟩,c0 + 1⟩ Q) : WO P bad E N ops i ⟨A,h0,c0⟩ Q :=
 WO_append (s:=⟨A,h0,c0⟩) (hT:=hT) (σ:=σ) (hoi:=hoi) (hgd:=hgd) (b:=b) (st:=st) (nl:=nl) (l:=l) (l2:=l2) (ho:=ho) (hx:=hx) (hg:=hg) (hy:=hy) (hroom:=hroom) (hd:=hd) (hk:=hk)
theorem WO_clip' (hT : TabOk P T) (σ : SE T α) {ops : Array Oper} {i : Nat} {A : List (Nat × V)} {h0 : Hp} {c0 : Nat} {Q : Exit → SA → Prop} {o : Oper} (hoi : ops[i]? = some o) (hgd : evGuardA A ops o = some true) {d : Option Tmp} {ty : TypeId} {pos : String} {af : Array Edge} {g : Option (Nat × Bool)} {x : Operand} {hi mx : Operand} (b st n : Nat) (tip : Bool) (B : Blk)
  (ho : o = ⟨d,.slice σ.t x none (some hi) (some mx),ty,pos,af,g⟩) (hx : evA A x = .sl b st 0 n tip) (hg : h0.get b = some B) (hs : B.s = st) (hh : evA A hi = .p (.int .i64 n)) (hm : evA A mx = .p (.int .i64 n)) (hd : okD N d = true)
  (hk : WO P bad E N ops (i + 1) ⟨putA A d (.sl b st 0 n false),h0,c0⟩ Q) : WO P bad E N ops i ⟨A,h0,c0⟩ Q :=
 WO_clip (s:=⟨A,h0,c0⟩) (hT:=hT) (σ:=σ) (hoi:=hoi) (hgd:=hgd) (b:=b) (st:=st) (n:=n) (tip:=tip) (B:=B) (ho:=ho) (hx:=hx) (hg:=hg) (hs:=hs) (hh:=hh) (hm:=hm) (hd:=hd) (hk:=hk)
theorem WO_isnil' (hT : TabOk P T) (σ : SE T α) {ops : Array Oper} {i : Nat} {A : List (Nat × V)} {h0 : Hp} {c0 : Nat} {Q : Exit → SA → Prop} {o : Oper} (hoi : ops[i]? = some o) (hgd : evGuardA A ops o = some true) {d : Option Tmp} {t' ty : TypeId} {pos : String} {af : Array Edge} {g : Option (Nat × Bool)} {x : Operand} (k : SC) (l : List α)
  (ho : o = ⟨d,.binOp .eql σ.t x (.const (.slice none 0 0)) t',ty,pos,af,g⟩) (hx : evA A x = .ps k (σ.F l)) (hd : okD N d = true)
  (hk : ∀ b : Bool,(b = true → l = []) → WO P bad E N ops (i + 1) ⟨putA A d (.p (.bool b)),h0,c0⟩ Q) : WO P bad E N ops i ⟨A,h0,c0⟩ Q :=
 WO_isnil (s:=⟨A,h0,c0⟩) (hT:=hT) (σ:=σ) (hoi:=hoi) (hgd:=hgd) (k:=k) (l:=l) (ho:=ho) (hx:=hx) (hd:=hd) (hk:=hk)
theorem WO_ptb' {ops : Array Oper} {i : Nat} {A : List (Nat × V)} {h0 : Hp} {c0 : Nat} {Q : Exit → SA → Prop} {o : Oper} (ho : ops[i]? = some o) (hg : evGuardA A ops o = some true) {cl : Call} {g : FuncId} (bor : List Nat) (vs vs' : List V) (r : V) (hop : o.op = .call cl) (htg : evTargetA A cl = some (g,vs)) (hen : Enters P g)
  (ht : mapO (trV h0 (fun _=>none) bor 5) vs = some vs') (hpu : vs'.all (pur 6) = true) (hs : scal 4 r = true) (hc : PT P g vs' r) (hd : okD N o.dst = true) (hk : WO P bad E N ops (i + 1) ⟨putA A o.dst r,h0,c0⟩ Q) : WO P bad E N ops i ⟨A,h0,c0⟩ Q :=
 WO_ptb (s:=⟨A,h0,c0⟩) (ho:=ho) (hg:=hg) (bor:=bor) (vs:=vs) (vs':=vs') (r:=r) (hop:=hop) (htg:=htg) (hen:=hen) (ht:=ht) (hpu:=hpu) (hs:=hs) (hc:=hc) (hd:=hd) (hk:=hk)
theorem One' (hT : TabOk P T) {ops : Array Oper} {i : Nat} {A : List (Nat × V)} {h0 : Hp} {c0 : Nat} {Q : Exit → SA → Prop} {o : Oper} (ho : ops[i]? = some o) {v : V} {h' : Hp} {c' : Nat} (he : evOperF P T false (evA A) o h0 c0 = some (v,h',c')) (hk : WO P bad E N ops (i + 1) ⟨putA A o.dst v,h',c'⟩ Q)
  (hg : evGuardA A ops o = some true:=by kernel_rfl) (hd : okD N o.dst = true:=by kernel_rfl) : WO P bad E N ops i ⟨A,h0,c0⟩ Q :=
 One (s:=⟨A,h0,c0⟩) (hT:=hT) (ho:=ho) (he:=he) (hk:=hk) (hg:=hg) (hd:=hd)
theorem Pt' {ops : Array Oper} {i : Nat} {A : List (Nat × V)} {h0 : Hp} {c0 : Nat} {Q : Exit → SA → Prop} {o : Oper} {cl : Call} {g : FuncId} {vs : List V} {r : V} (hen : Enters P g) (hc : PT P g vs r) (hk : WO P bad E N ops (i + 1) ⟨putA A o.dst r,h0,c0⟩ Q)
  (ho : ops[i]? = some o:=by rfl) (hop : o.op = .call cl:=by rfl) (hg : evGuardA A ops o = some true:=by kernel_rfl) (htg : evTargetA A cl = some (g,vs):=by kernel_rfl) (hpu : vs.all (pur 6) = true:=by kernel_rfl)
  (hd : okD N o.dst = true:=by kernel_rfl) : WO P bad E N ops i ⟨A,h0,c0⟩ Q :=
 Pt (s:=⟨A,h0,c0⟩) (hen:=hen) (hc:=hc) (hk:=hk) (ho:=ho) (hop:=hop) (hg:=hg) (htg:=htg) (hpu:=hpu) (hd:=hd)
theorem WD_loc' {ops : Array Oper} {i : Nat} {es rs : List (Nat × List Nat)} {A : List (Nat × V)} {h0 : Hp} {c0 : Nat} {Q : SA → Prop} {o : Oper} (ho : ops[i]? = some o) (hs : keysLt N A = true) (hg : evGuardA A ops o = some true) (hl : localOp o.op = true) {v : V} {h' : Hp} {c' : Nat}
  (he : evOperF P T true (evA A) o h0 c0 = some (v,h',c')) (hd : okD N o.dst = true) (hk : WD P T bad N ops (i + 1) es (rs ++ entryL i (rdA A o.op)) ⟨putA A o.dst v,h0,c0⟩ Q) : WD P T bad N ops i es rs ⟨A,h0,c0⟩ Q :=
 WD_loc (s:=⟨A,h0,c0⟩) (ho:=ho) (hs:=hs) (hg:=hg) (hl:=hl) (he:=he) (hd:=hd) (hk:=hk)
theorem WD_wr' {ops : Array Oper} {i : Nat} {es rs : List (Nat × List Nat)} {A : List (Nat × V)} {h0 : Hp} {c0 : Nat} {Q : SA → Prop} {o : Oper} (ho : ops[i]? = some o) (hs : keysLt N A = true) (hg : evGuardA A ops o = some true) (hl : writesOp o.op = true) {v : V} {h' : Hp} {c' : Nat}
  (he : evOperF P T true (evA A) o h0 c0 = some (v,h',c')) (hd : okD N o.dst = true) (hk : WD P T bad N ops (i + 1) (es ++ [(i,wrA A o h0 h')]) rs ⟨putA A o.dst v,h',c'⟩ Q) : WD P T bad N ops i es rs ⟨A,h0,c0⟩ Q :=
 WD_wr (s:=⟨A,h0,c0⟩) (ho:=ho) (hs:=hs) (hg:=hg) (hl:=hl) (he:=he) (hd:=hd) (hk:=hk)
theorem WD_pt' {ops : Array Oper} {i : Nat} {es rs : List (Nat × List Nat)} {A : List (Nat × V)} {h0 : Hp} {c0 : Nat} {Q : SA → Prop} {o : Oper} (ho : ops[i]? = some o) (hs : keysLt N A = true) (hg : evGuardA A ops o = some true) {cl : Call} {g : FuncId} (vs : List V) (r : V) (hop : o.op = .call cl) (htg : evTargetA A cl = some (g,vs)) (hen : Enters P g)
  (hpu : vs.all (pur 6) = true) (hc : PT P g vs r) (hd : okD N o.dst = true) (hk : WD P T bad N ops (i + 1) es rs ⟨putA A o.dst r,h0,c0⟩ Q) : WD P T bad N ops i es rs ⟨A,h0,c0⟩ Q :=
 WD_pt (s:=⟨A,h0,c0⟩) (ho:=ho) (hs:=hs) (hg:=hg) (vs:=vs) (r:=r) (hop:=hop) (htg:=htg) (hen:=hen) (hpu:=hpu) (hc:=hc) (hd:=hd) (hk:=hk)
theorem WD_go' {ops : Array Oper} {i : Nat} {es rs : List (Nat × List Nat)} {A : List (Nat × V)} {h0 : Hp} {c0 : Nat} {Q : SA → Prop} {o : Oper} (ho : ops[i]? = some o) (hs : keysLt N A = true) (hgd : evGuardA A ops o = some true) {cl : Call} {g : FuncId} (hA hr : Hp) (vs vs' : List V) (E1 E2 : List (Nat × Nat × Nat)) (hB : Hp) (r r' : V) (c2 : Nat)
  (hop : o.op = .call cl) (htg : evTargetA A cl = some (g,vs)) (hen : Enters P g) (hvs : mapO (trV h0 (lookE E1) [] 5) vs = some vs') (hA' : moveH h0 (lookE E1) [] E1 = some hA)
  (hc1 : (E1.all (fun x=>Nat.beq x.2.2 0) && nodupB (E1.map (·.1)) && nodupB (E1.map fun x=>x.2.1) && nodupB (E2.map (·.1)) && nodupB (E2.map fun x=>x.2.1) && Nat.ble c0 c2) = true)
  (hg : GO P g hA vs' r hr) (hr' : trV hr (lookE E2) [] 5 r = some r') (hB' : moveH hr (lookE E2) [] E2 = some hB) (hE2 : E2.all (okE2 h0 hr E1 c0 c2) = true) (hd : okD N o.dst = true)
  (hk : WD P T bad N ops (i + 1) (es ++ [(i,(E2.map fun x=>x.2.1) ++ E1.map (·.1))]) rs ⟨putA A o.dst r',hB ++ eraseAll h0 (E1.map (·.1)),c2⟩ Q) : WD P T bad N ops i es rs ⟨A,h0,c0⟩ Q :=
 WD_go (s:=⟨A,h0,c0⟩) (ho:=ho) (hs:=hs) (hgd:=hgd) (hA:=hA) (hr:=hr) (vs:=vs) (vs':=vs') (E1:=E1) (E2:=E2) (hB:=hB) (r:=r) (r':=r') (c2:=c2) (hop:=hop) (htg:=htg) (hen:=hen) (hvs:=hvs) (hA':=hA') (hc1:=hc1) (hg:=hg) (hr':=hr') (hB':=hB') (hE2:=hE2) (hd:=hd) (hk:=hk)
end
end Go.Mx
namespace Go.Mx
set_option linter.unusedVariables false
section
variable {P : Program} {T : TypeId → Option TI} {bad : Nat → Prop} {E : Ent} {N : Nat} {α : Type}
theorem Og {ops : Array Oper} {i : Nat} {A : List (Nat × V)} {h0 : Hp} {c0 : Nat} {Q : Exit → SA → Prop} {o : Oper} {cl : Call} {g : FuncId} (hA hr : Hp) (vs vs' : List V) (E1 E2 : List (Nat × Nat × Nat)) (hB : Hp) (r r' : V) (c2 : Nat) (hen : Enters P g) (hg : GO P g hA vs' r hr) (hk : WO P bad E N ops (i + 1) ⟨putA A o.dst r',hB ++ eraseAll h0 (E1.map (·.1)),c2⟩ Q) (ho : ops[i]? = some o:=by exact rfl) (hgd : evGuardA A ops o = some true:=by kernel_rfl) (hop : o.op = .call cl:=by exact rfl) (htg : evTargetA A cl = some (g,vs):=by kernel_rfl) (hvs : mapO (trV h0 (lookE E1) [] 5) vs = some vs':=by kernel_rfl) (hA' : moveH h0 (lookE E1) [] E1 = some hA:=by kernel_rfl) (hc1 : (E1.all (fun x=>Nat.beq x.2.2 0) && nodupB (E1.map (·.1)) && nodupB (E1.map fun x=>x.2.1) && nodupB (E2.map (·.1)) && nodupB (E2.map fun x=>x.2.1) && Nat.ble c0 c2) = true:=by kernel_rfl) (hr' : trV hr (lookE E2) [] 5 r = some r':=by kernel_rfl) (hB' : moveH hr (lookE E2) [] E2 = some hB:=by kernel_rfl) (hE2 : E2.all (okE2 h0 hr E1 c0 c2) = true:=by kernel_rfl) (hd : okD N o.dst = true:=by kernel_rfl) : WO P bad E N ops i ⟨A,h0,c0⟩ Q:=WO_go' (ho:=ho) (hgd:=hgd) (hA:=hA) (hr:=hr) (vs:=vs) (vs':=vs') (E1:=E1) (E2:=E2) (hB:=hB) (r:=r) (r':=r') (c2:=c2) (hop:=hop) (htg:=htg) (hen:=hen) (hvs:=hvs) (hA':=hA') (hc1:=hc1) (hg:=hg) (hr':=hr') (hB':=hB') (hE2:=hE2) (hd:=hd) (hk:=hk)
theorem Oa (hT : TabOk P T) (σ : SE T α) {ops : Array Oper} {i : Nat} {A : List (Nat × V)} {h0 : Hp} {c0 : Nat} {Q : Exit → SA → Prop} {o : Oper} {d : Nat} {ty : TypeId} {pos : String} {af : Array Edge} {g : Option (Nat × Bool)} {x y : Operand} (b st : Nat) (nl : Bool) (l l2 : List α) (hy : elems h0 (evA A y) = some (σ.F l2)) (hroom : room σ.i1.bytes l.length l2.length = true) (hk : WO P bad E N ops (i + 1) ⟨(d,.sl d c0 0 (σ.F (l ++ l2)).length true) :: A,(h0.erase b).set d ⟨c0,σ.e,σ.sz,false,true,σ.F (l ++ l2)⟩,c0 + 1⟩ Q) (hoi : ops[i]? = some o:=by exact rfl) (hgd : evGuardA A ops o = some true:=by kernel_rfl) (ho : o = ⟨some d,.call ⟨.builtin .append,#[x,y],#[σ.t,σ.t]⟩,ty,pos,af,g⟩:=by exact rfl) (hx : evA A x = .sl b st 0 (σ.F l).length true:=by kernel_rfl) (hg : h0.get b = some ⟨st,σ.e,σ.sz,false,nl,σ.F l⟩:=by kernel_rfl) (hd : Nat.blt d N = true:=by kernel_rfl) : WO P bad E N ops i ⟨A,h0,c0⟩ Q:=WO_append' (hT:=hT) (σ:=σ) (hoi:=hoi) (hgd:=hgd) (b:=b) (st:=st) (nl:=nl) (l:=l) (l2:=l2) (ho:=ho) (hx:=hx) (hg:=hg) (hy:=hy) (hroom:=hroom) (hd:=hd) (hk:=hk)
theorem Ob {ops : Array Oper} {i : Nat} {A : List (Nat × V)} {h0 : Hp} {c0 : Nat} {Q : Exit → SA → Prop} {o : Oper} {cl : Call} {g : FuncId} (bor : List Nat) (vs vs' : List V) (r : V) (hen : Enters P g) (hc : PT P g vs' r) (hk : WO P bad E N ops (i + 1) ⟨putA A o.dst r,h0,c0⟩ Q) (ho : ops[i]? = some o:=by exact rfl) (hg : evGuardA A ops o = some true:=by kernel_rfl) (hop : o.op = .call cl:=by exact rfl) (htg : evTargetA A cl = some (g,vs):=by kernel_rfl) (ht : mapO (trV h0 (fun _=>none) bor 5) vs = some vs':=by kernel_rfl) (hpu : vs'.all (pur 6) = true:=by kernel_rfl) (hs : scal 4 r = true:=by kernel_rfl) (hd : okD N o.dst = true:=by kernel_rfl) : WO P bad E N ops i ⟨A,h0,c0⟩ Q:=WO_ptb' (ho:=ho) (hg:=hg) (bor:=bor) (vs:=vs) (vs':=vs') (r:=r) (hop:=hop) (htg:=htg) (hen:=hen) (ht:=ht) (hpu:=hpu) (hs:=hs) (hc:=hc) (hd:=hd) (hk:=hk)
theorem Dl {ops : Array Oper} {i : Nat} {es rs : List (Nat × List Nat)} {A : List (Nat × V)} {h0 : Hp} {c0 : Nat} {Q : SA → Prop} {o : Oper} (ho : ops[i]? = some o) {v : V} {h' : Hp} {c' : Nat} (he : evOperF P T true (evA A) o h0 c0 = some (v,h',c')) (hk : WD P T bad N ops (i + 1) es (rs ++ entryL i (rdA A o.op)) ⟨putA A o.dst v,h0,c0⟩ Q) (hs : keysLt N A = true:=by kernel_rfl) (hg : evGuardA A ops o = some true:=by kernel_rfl) (hl : localOp o.op = true:=by kernel_rfl) (hd : okD N o.dst = true:=by kernel_rfl) : WD P T bad N ops i es rs ⟨A,h0,c0⟩ Q:=WD_loc' (ho:=ho) (hs:=hs) (hg:=hg) (hl:=hl) (he:=he) (hd:=hd) (hk:=hk)
theorem Dw {ops : Array Oper} {i : Nat} {es rs : List (Nat × List Nat)} {A : List (Nat × V)} {h0 : Hp} {c0 : Nat} {Q : SA → Prop} {o : Oper} (ho : ops[i]? = some o) {v : V} {h' : Hp} {c' : Nat} (he : evOperF P T true (evA A) o h0 c0 = some (v,h',c')) (hk : WD P T bad N ops (i + 1) (es ++ [(i,wrA A o h0 h')]) rs ⟨putA A o.dst v,h',c'⟩ Q) (hs : keysLt N A = true:=by kernel_rfl) (hg : evGuardA A ops o = some true:=by kernel_rfl) (hl : writesOp o.op = true:=by kernel_rfl) (hd : okD N o.dst = true:=by kernel_rfl) : WD P T bad N ops i es rs ⟨A,h0,c0⟩ Q:=WD_wr' (ho:=ho) (hs:=hs) (hg:=hg) (hl:=hl) (he:=he) (hd:=hd) (hk:=hk)
theorem Dp {ops : Array Oper} {i : Nat} {es rs : List (Nat × List Nat)} {A : List (Nat × V)} {h0 : Hp} {c0 : Nat} {Q : SA → Prop} {o : Oper} {cl : Call} {g : FuncId} (vs : List V) (r : V) (hen : Enters P g) (hc : PT P g vs r) (hk : WD P T bad N ops (i + 1) es rs ⟨putA A o.dst r,h0,c0⟩ Q) (ho : ops[i]? = some o:=by exact rfl) (hs : keysLt N A = true:=by kernel_rfl) (hg : evGuardA A ops o = some true:=by kernel_rfl) (hop : o.op = .call cl:=by exact rfl) (htg : evTargetA A cl = some (g,vs):=by kernel_rfl) (hpu : vs.all (pur 6) = true:=by kernel_rfl) (hd : okD N o.dst = true:=by kernel_rfl) : WD P T bad N ops i es rs ⟨A,h0,c0⟩ Q:=WD_pt' (ho:=ho) (hs:=hs) (hg:=hg) (vs:=vs) (r:=r) (hop:=hop) (htg:=htg) (hen:=hen) (hpu:=hpu) (hc:=hc) (hd:=hd) (hk:=hk)
theorem Dg {ops : Array Oper} {i : Nat} {es rs : List (Nat × List Nat)} {A : List (Nat × V)} {h0 : Hp} {c0 : Nat} {Q : SA → Prop} {o : Oper} {cl : Call} {g : FuncId} (hA hr : Hp) (vs vs' : List V) (E1 E2 : List (Nat × Nat × Nat)) (hB : Hp) (r r' : V) (c2 : Nat) (hen : Enters P g) (hg : GO P g hA vs' r hr) (hk : WD P T bad N ops (i + 1) (es ++ [(i,(E2.map fun x=>x.2.1) ++ E1.map (·.1))]) rs ⟨putA A o.dst r',hB ++ eraseAll h0 (E1.map (·.1)),c2⟩ Q) (ho : ops[i]? = some o:=by exact rfl) (hs : keysLt N A = true:=by kernel_rfl) (hgd : evGuardA A ops o = some true:=by kernel_rfl) (hop : o.op = .call cl:=by exact rfl) (htg : evTargetA A cl = some (g,vs):=by kernel_rfl) (hvs : mapO (trV h0 (lookE E1) [] 5) vs = some vs':=by kernel_rfl) (hA' : moveH h0 (lookE E1) [] E1 = some hA:=by kernel_rfl) (hc1 : (E1.all (fun x=>Nat.beq x.2.2 0) && nodupB (E1.map (·.1)) && nodupB (E1.map fun x=>x.2.1) && nodupB (E2.map (·.1)) && nodupB (E2.map fun x=>x.2.1) && Nat.ble c0 c2) = true:=by kernel_rfl) (hr' : trV hr (lookE E2) [] 5 r = some r':=by kernel_rfl) (hB' : moveH hr (lookE E2) [] E2 = some hB:=by kernel_rfl) (hE2 : E2.all (okE2 h0 hr E1 c0 c2) = true:=by kernel_rfl) (hd : okD N o.dst = true:=by kernel_rfl) : WD P T bad N ops i es rs ⟨A,h0,c0⟩ Q:=WD_go' (ho:=ho) (hs:=hs) (hgd:=hgd) (hA:=hA) (hr:=hr) (vs:=vs) (vs':=vs') (E1:=E1) (E2:=E2) (hB:=hB) (r:=r) (r':=r') (c2:=c2) (hop:=hop) (htg:=htg) (hen:=hen) (hvs:=hvs) (hA':=hA') (hc1:=hc1) (hg:=hg) (hr':=hr') (hB':=hB') (hE2:=hE2) (hd:=hd) (hk:=hk)
theorem eO (σ : SE T α) {h : Hp} {v : V} (b s : Nat) (tip : Bool) (B : Blk) (l : List α) (hx : v = .sl b s 0 (σ.F l).length tip:=by kernel_rfl) (hg : h.get b = some B:=by kernel_rfl) (hs : B.s = s:=by exact rfl) (hv : B.var = false:=by exact rfl) (he : B.es = σ.F l:=by exact rfl) : elems h v = some (σ.F l):=elems_own (σ:=σ) (b:=b) (s:=s) (tip:=tip) (B:=B) (l:=l) (hx:=hx) (hg:=hg) (hs:=hs) (hv:=hv) (he:=he)
theorem v_index (σ : SE T α) {ρ : Operand → V} {dr : Bool} {h : Hp} {c : Nat} {d : Option Tmp} {ty : TypeId} {pos : String} {af : Array Edge} {g : Option (Nat × Bool)} {x ix : Operand} (k : SC) (l : List α) (kd : IntKind) (n : Int) {a : α} (ha : idx l n = some a) (hk : k ≠ .nil:=by decide) (hx : ρ x = .ps k (σ.F l):=by kernel_rfl) (hi : ρ ix = .p (.int kd n):=by kernel_rfl) :
  evOperF P T dr ρ ⟨d,.indexAddr σ.t x ix,ty,pos,af,g⟩ h c = some (.ref (σ.f a) 0,h,c):=ev_index (σ:=σ) (k:=k) (l:=l) (kd:=kd) (n:=n) (ha:=ha) (hk:=hk) (hx:=hx) (hi:=hi)
theorem v_indexA {ρ : Operand → V} {dr : Bool} {h : Hp} {c : Nat} {d : Option Tmp} {t ty : TypeId} {pos : String} {af : Array Edge} {g : Option (Nat × Bool)} {x ix : Operand} (f : α → V) (l : List α) (kd : IntKind) (n : Int) {a : α} (i0 i1 : TI) (e : TypeId) (ha : idx l n = some a) (hx : ρ x = .agg (l.map f):=by kernel_rfl) (hi : ρ ix = .p (.int kd n):=by kernel_rfl) (h0 : T t = some i0:=by exact rfl) (hd : i0.desc = .array l.length e:=by exact rfl) (he : T e = some i1:=by exact rfl) (hz : i1.size = 1:=by exact rfl) (hag : isAggD i1.desc = false:=by exact rfl) :
  evOperF P T dr ρ ⟨d,.index t x ix,ty,pos,af,g⟩ h c = some (f a,h,c):=ev_indexA (f:=f) (l:=l) (kd:=kd) (n:=n) (i0:=i0) (i1:=i1) (e:=e) (ha:=ha) (hx:=hx) (hi:=hi) (h0:=h0) (hd:=hd) (he:=he) (hz:=hz) (hag:=hag)
theorem v_indexS {ρ : Operand → V} {dr : Bool} {h : Hp} {c : Nat} {d : Option Tmp} {t ty : TypeId} {pos : String} {af : Array Edge} {g : Option (Nat × Bool)} {x ix : Operand} (s : ByteArray) (kd : IntKind) (n : Int) {a : Int} {i0 : TI} (ha : idxS s n = some a) (hx : ρ x = .p (.string s):=by kernel_rfl) (hi : ρ ix = .p (.int kd n):=by kernel_rfl) (h0 : T t = some i0:=by exact rfl) (hd : i0.desc = .string:=by exact rfl) :
  evOperF P T dr ρ ⟨d,.index t x ix,ty,pos,af,g⟩ h c = some (.p (.int .u8 a),h,c):=ev_indexS (s:=s) (kd:=kd) (n:=n) (ha:=ha) (hx:=hx) (hi:=hi) (h0:=h0) (hd:=hd)
theorem v_index_own (σ : SE T α) {ρ : Operand → V} {dr : Bool} {h : Hp} {c : Nat} {d : Option Tmp} {ty : TypeId} {pos : String} {af : Array Edge} {g : Option (Nat × Bool)} {x ix : Operand} (b s : Nat) (tip : Bool) (B : Blk) (l : List α) (kd : IntKind) (n : Int) {a : α} (ha : idx l n = some a) (hx : ρ x = .sl b s 0 (σ.F l).length tip:=by kernel_rfl) (hi : ρ ix = .p (.int kd n):=by kernel_rfl) (hg : h.get b = some B:=by exact rfl) (hs : B.s = s:=by exact rfl) (hw : B.w = σ.sz:=by exact rfl) :
  evOperF P T dr ρ ⟨d,.indexAddr σ.t x ix,ty,pos,af,g⟩ h c = some (.box b s n.toNat 0,h,c):=ev_index_own (σ:=σ) (b:=b) (s:=s) (tip:=tip) (B:=B) (l:=l) (kd:=kd) (n:=n) (ha:=ha) (hx:=hx) (hi:=hi) (hg:=hg) (hs:=hs) (hw:=hw)
theorem v_len (σ : SE T α) {ρ : Operand → V} {dr : Bool} {h : Hp} {c : Nat} {d : Option Tmp} {ty : TypeId} {pos : String} {af : Array Edge} {g : Option (Nat × Bool)} {x : Operand} (k : SC) (l : List α) (hx : ρ x = .ps k (σ.F l):=by kernel_rfl) :
  evOperF P T dr ρ ⟨d,.call ⟨.builtin .len,#[x],#[σ.t]⟩,ty,pos,af,g⟩ h c = some (.p (.int .i64 l.length),h,c):=ev_len (σ:=σ) (k:=k) (l:=l) (hx:=hx)
theorem v_len_own (σ : SE T α) {ρ : Operand → V} {dr : Bool} {h : Hp} {c : Nat} {d : Option Tmp} {ty : TypeId} {pos : String} {af : Array Edge} {g : Option (Nat × Bool)} {x : Operand} (b s : Nat) (tip : Bool) (B : Blk) (l : List α) (hx : ρ x = .sl b s 0 (σ.F l).length tip:=by kernel_rfl) (hg : h.get b = some B:=by exact rfl) (hs : B.s = s:=by exact rfl) :
  evOperF P T dr ρ ⟨d,.call ⟨.builtin .len,#[x],#[σ.t]⟩,ty,pos,af,g⟩ h c = some (.p (.int .i64 l.length),h,c):=ev_len_own (σ:=σ) (b:=b) (s:=s) (tip:=tip) (B:=B) (l:=l) (hx:=hx) (hg:=hg) (hs:=hs)
theorem v_load_row (σ : SE T α) {ρ : Operand → V} {dr : Bool} {h : Hp} {c : Nat} {d : Option Tmp} {t ty : TypeId} {pos : String} {af : Array Edge} {g : Option (Nat × Bool)} {x : Operand} (b s : Nat) (B : Blk) (l : List α) (n off : Nat) (a : α) (v : V) (ha : l[n]? = some a) (hx : ρ x = .box b s n off:=by kernel_rfl) (hg : h.get b = some B:=by exact rfl) (hs : B.s = s:=by exact rfl) (hes : B.es = σ.F l:=by exact rfl) (hv : evLoad T [] t (.ref (σ.f a) off) = some v:=by kernel_rfl) :
  evOperF P T dr ρ ⟨d,.load t x,ty,pos,af,g⟩ h c = some (v,h,c):=ev_load_row (σ:=σ) (b:=b) (s:=s) (B:=B) (l:=l) (n:=n) (off:=off) (a:=a) (v:=v) (ha:=ha) (hx:=hx) (hg:=hg) (hs:=hs) (hes:=hes) (hv:=hv)
theorem v_sadd {ρ : Operand → V} {dr : Bool} {h : Hp} {c : Nat} {d : Option Tmp} {t t' ty : TypeId} {pos : String} {af : Array Edge} {g : Option (Nat × Bool)} {x y : Operand} (a b : ByteArray) (hr : sroom a b = true) (hx : ρ x = .p (.string a):=by kernel_rfl) (hy : ρ y = .p (.string b):=by kernel_rfl) :
  evOperF P T dr ρ ⟨d,.binOp .add t x y t',ty,pos,af,g⟩ h c = some (.p (.string (a ++ b)),h,c):=ev_sadd (a:=a) (b:=b) (hr:=hr) (hx:=hx) (hy:=hy)
theorem v_slice (σ : SE T α) {ρ : Operand → V} {dr : Bool} {h : Hp} {c : Nat} {d : Option Tmp} {ty : TypeId} {pos : String} {af : Array Edge} {g : Option (Nat × Bool)} {x : Operand} {lo hi mx : Option Operand} (k : SC) (l : List α) (a b : Int) (q : Option Int) (l' : List α) (k' : SC) (hl' : sub l a b = some l') (hq : ∀ y ∈ q,y = b) (hx : ρ x = .ps k (σ.F l):=by kernel_rfl) (hlo : intOr 0 (lo.map ρ) = some a:=by kernel_rfl) (hhi : intOr l.length (hi.map ρ) = some b:=by kernel_rfl) (hmx : intOpt (mx.map ρ) = some q:=by kernel_rfl) (hmh : (mx.isSome && hi.isNone) = false:=by exact rfl) (hk : (match k with | .nil=>(.nil : SC) | .opt | .fopt=>if mx.isSome then .fopt else .opt | _=>if mx.isSome then .full else .any) = k':=by exact rfl) (hk0 : k ≠ .nil:=by decide) :
  evOperF P T dr ρ ⟨d,.slice σ.t x lo hi mx,ty,pos,af,g⟩ h c = some (.ps k' (σ.F l'),h,c):=ev_slice (σ:=σ) (k:=k) (l:=l) (a:=a) (b:=b) (q:=q) (l':=l') (k':=k') (hl':=hl') (hx:=hx) (hlo:=hlo) (hhi:=hhi) (hmx:=hmx) (hq:=hq) (hmh:=hmh) (hk:=hk) (hk0:=hk0)
theorem v_storeRow (σ : SE T α) {dr : Bool} {ρ : Operand → V} {h : Hp} {c : Nat} {d : Option Tmp} {t ty : TypeId} {pos : String} {af : Array Edge} {g : Option (Nat × Bool)} {x y : Operand} (b st : Nat) (B : Blk) (l : List α) (n off : Nat) (a a' : α) (ha : l[n]? = some a) {i0 : TI} (hx : ρ x = .box b st n off:=by kernel_rfl) (hg : h.get b = some B:=by kernel_rfl) (hs : B.s = st:=by exact rfl) (hv : B.var = false:=by exact rfl) (hes : B.es = σ.F l:=by exact rfl) (h0 : T t = some i0:=by exact rfl) (hf : frz 4 h (ρ y) = some (ρ y,h):=by kernel_rfl) (hz : (Nat.blt 0 i0.size && Nat.beq (optV (ρ y)).cells.length i0.size && Nat.ble (off + i0.size) (σ.f a).cells.length && (optV (ρ y)).cells.all V.one) = true:=by kernel_rfl) (he : (if off = 0 ∧ (σ.f a).isAgg = true ∧ (optV (ρ y)).isAgg = true ∧ (σ.f a).cells.length = i0.size then optV (ρ y) else if (σ.f a).isAgg = true then .agg ((σ.f a).cells.take off ++ (optV (ρ y)).cells ++ (σ.f a).cells.drop (off + i0.size)) else ((optV (ρ y)).cells.headD .undef)) = σ.f a':=by kernel_rfl) :
  evOperF P T dr ρ ⟨d,.store t x y,ty,pos,af,g⟩ h c = some (.p Go.undef,h.set b { B with es:=σ.F (l.set n a') },c):=ev_storeRow (σ:=σ) (b:=b) (st:=st) (B:=B) (l:=l) (n:=n) (off:=off) (a:=a) (a':=a') (ha:=ha) (hx:=hx) (hg:=hg) (hs:=hs) (hv:=hv) (hes:=hes) (h0:=h0) (hf:=hf) (hz:=hz) (he:=he)
end
section
variable {P : Program} {T : TypeId → Option TI} {bad : Nat → Prop} {E : Ent} {N : Nat}
theorem De {ops : Array Oper} {i : Nat} {es rs : List (Nat × List Nat)} {s : SA} {Q : SA → Prop} (h : Q s) (hi : Nat.ble ops.size i = true:=by kernel_rfl) (hc : (effPairs (closM ops.toList 0 []) es && wrPairs (closM ops.toList 0 []) rs es) = true:=by kernel_rfl) (hk : keysLt N s.A = true:=by kernel_rfl) : WD P T bad N ops i es rs s Q:=WD_end (hi:=hi) (hc:=hc) (hk:=hk) (h:=h)
theorem wOh {s : SA} (b0 b j : Nat) (B0 : Blk) (v0 v0' : V) (e : TypeId) (wd : Nat) (hg : s.h.get b0 = some B0:=by kernel_rfl) (hv : B0.var = true:=by kernel_rfl) (hes : B0.es = [v0]:=by kernel_rfl) (hj : v0.cells[j]? = some (.ps .nil []):=by kernel_rfl) (hc' : v0'.cells = v0.cells.set j (.sl b s.c 0 0 true):=by kernel_rfl) (hb : s.h.get b = none:=by kernel_rfl) (hc : Nat.ble E.c s.c = true:=by kernel_rfl) : Weak bad E N s ⟨s.A,(b,⟨s.c,e,wd,false,true,[]⟩) :: (b0,{ B0 with es:=[v0'] }) :: s.h.erase b0,s.c + 1⟩:=Weak_ownH (b0:=b0) (b:=b) (j:=j) (B0:=B0) (v0:=v0) (v0':=v0') (e:=e) (wd:=wd) (hg:=hg) (hv:=hv) (hes:=hes) (hj:=hj) (hc':=hc') (hb:=hb) (hc:=hc)
theorem wO {s : SA} (k b : Nat) (e : TypeId) (wd : Nat) (h : lkA s.A k = .ps .nil []:=by kernel_rfl) (hb : s.h.get b = none:=by kernel_rfl) (hk : Nat.blt k N = true:=by kernel_rfl) (hc : Nat.ble E.c s.c = true:=by kernel_rfl) :
  Weak bad E N s ⟨(k,.sl b s.c 0 0 true) :: s.A,(b,⟨s.c,e,wd,false,true,[]⟩) :: s.h,s.c + 1⟩:=Weak_own (k:=k) (b:=b) (e:=e) (wd:=wd) (h:=h) (hb:=hb) (hk:=hk) (hc:=hc)
theorem wF {s : SA} (b st : Nat) (B : Blk) (A' : List (Nat × V)) (h' : Hp) (hA : FzA b st B.es s.A A') (hH : FzH b st B.es (s.h.erase b) h') (hg : s.h.get b = some B:=by kernel_rfl) (hs : B.s = st:=by exact rfl) (hv : B.var = false:=by exact rfl) : Weak bad E N s ⟨A',h',s.c⟩:=Weak_frz (b:=b) (st:=st) (B:=B) (hg:=hg) (hs:=hs) (hv:=hv) (A':=A') (h':=h') (hA:=hA) (hH:=hH)
theorem wL {s : SA} (A' : List (Nat × V)) (h' : Hp) (hA : SLe s.A A') (hH : HLe s.h h') (hk : keysLt N A' = true:=by kernel_rfl) : Weak bad E N s ⟨A',h',s.c⟩:=Weak_leH (A':=A') (h':=h') (hk:=hk) (hA:=hA) (hH:=hH)
end
section
variable {P : Program} {bad : Nat → Prop} {E : Ent} {N : Nat}
theorem Ci {k : Operand} {x y : Code} {s : SA} {Q : Exit → SA → Prop} {β : Type} {X Y r : β} {b : Bool} (h : (bif b then X else Y) = r) (h1 : X = r → WA P bad E N x s Q) (h2 : Y = r → WA P bad E N y s Q) (hk : evA s.A k = .p (.bool b):=by kernel_rfl) : WA P bad E N (.cond k x y) s Q :=
 WA_cond b hk (fun hb=>h1 (ctrue hb h)) fun hb=>h2 (cfalse hb h)
end
abbrev cb (st t e : Nat) (v : V) : Blk:=⟨st,t,e,true,false,[v]⟩
abbrev rb {T : TypeId → Option TI} {α : Type} (st : Nat) (σ : SE T α) (l : List α) : Blk:=⟨st,σ.e,σ.sz,false,true,σ.F l⟩
abbrev po {T : TypeId → Option TI} {α : Type} (σ : SE T α) (l : List α) : V:=.ps .opt (σ.F l)
abbrev vs {T : TypeId → Option TI} {α : Type} (b st : Nat) (σ : SE T α) (l : List α) : V:=.sl b st 0 (σ.F l).length true
abbrev vn : V:=.ps .nil []
abbrev bx (b s : Nat) : V:=.box b s 0 0
abbrev vU : V:=.p Go.undef
end Go.Mx
namespace Go.Mx
set_option linter.unusedVariables false
set_option linter.unusedSimpArgs false
section
variable {P : Program} {T : TypeId → Option TI} {bad : Nat → Prop} {E : Ent} {N : Nat} {α : Type}
def clr (l : List α) (n : Int) (z : α) : List α:=l.take n.toNat ++ List.replicate (l.length - n.toNat) z
theorem clr_length (l : List α) (n : Int) (z : α) : (clr l n z).length = l.length:=by
 unfold clr; simp; omega
end
end Go.Mx
namespace Go.Mx
set_option linter.unusedVariables false
set_option linter.unusedSimpArgs false
section
variable {P : Program} {T : TypeId → Option TI} {bad : Nat → Prop} {E : Ent} {N : Nat} {α : Type}
theorem Eff_peek {o : Oper} {s s' : SA} (hw : Weak bad E N s s') {cl : Call} {g : FuncId} {bor : List Nat} {vs vs' : List V} {r : V} (hop : o.op = .call cl) (htg : evTargetA s'.A cl = some (g,vs)) (hen : Enters P g)
  (ht : mapO (trV s'.h (fun _=>none) bor 5) vs = some vs') (hpu : vs'.all (pur 6) = true) (hsc : scal 4 r = true) (hc : PT P g vs' r) (hd : okD N o.dst = true) : Eff P bad E N o s (fun t=>t = ⟨putA s.A o.dst r,s.h,s.c⟩):=by
 intro a w m hs hl K QQ hK
 obtain ⟨m',hs',_⟩:=hw a w m hs hl
 have htg' : evTarget (mkT N s'.A) cl = some (g,vs):=by
  rw [← htg]; unfold evTarget evTargetA; simp only [evA_eq hs'.1]
  cases cl.callee with
  | value f=>simp only []; cases evalO (mkT N s'.A) f <;> rfl
  | _=>rfl
 obtain ⟨xs,hrun,hlen,hr⟩:=call_run hs'.2.t htg' hen o hop
 have hh:=hs'.2.h
 simp only [SA.st] at hh hr
 obtain ⟨hl',htr⟩:=mapO_spec ht
 let bad' : Nat → Prop:=fun β=>bad β ∨ ∃ b l,b ∉ bor ∧ m' b = some l ∧ l.blk = some β
 have hbad' : ∀ β,bad' β → β < w.heap.size:=fun β hβ=>by
  rcases hβ with h1 | ⟨b,l,_,h1,h2⟩
  ·exact hh.lt β h1
  ·exact hh.blk_lt h1 h2
 have hok : ∀ β,okOf bad w m' β → okOf bad' w noM β:=fun β hβ=>⟨hβ.1,fun h1=>by
  rcases h1 with h1 | ⟨b,l,_,h1,h2⟩
  ·exact hβ.2.1 h1
  ·exact hβ.2.2 b l h1 h2,fun b l h1=>by simp [noM] at h1⟩
 have hargs : ∀ i (h1 : i < vs'.length) (h2 : i < xs.size),RepP w (okOf bad' w noM) vs'[i] xs[i]:=fun i h1 h2=>by
  have:=trV_sound (bad':=bad') (m':=noM) (c':=s'.c) hh hok (κ:=fun _=>none) (bor:=bor) (fun b b' s' h=>by cases h) (fun b hb _ l β h3 h4=>⟨hh.blk_lt h3 h4,fun h5=>by
   rcases h5 with h5 | ⟨b2,l2,h6,h7,h8⟩
   ·exact hh.nb b l β h3 h4 h5
   ·exact h6 (hh.inj b b2 l l2 β h3 h7 h4 h8 ▸ hb),fun b l h1=>by simp [noM] at h1⟩) 5 _ _ _ (hr i (by omega) h2) (htr i (by omega) h1)
  exact rep_noM this (List.all_eq_true.1 hpu _ (List.getElem_mem h1))
 simp only [Oper.wp,hrun,Oper.upon]
 refine (hc bad' w xs hbad' (by omega) hargs).mono ?_
 rintro e w' ⟨x,rfl,hrx,hle⟩
 have hkeep : ∀ β,β < w.heap.size → w'.heap[β]? = w.heap[β]?:=fun β hβ=>hle.keep β hβ fun b l h1=>by simp [noM] at h1
 obtain ⟨le1,hh1⟩:=hs.2.h.world hkeep hle.size hle.os hle.output hle.tape
 exact hK _ _ _ m rfl (hs.put le1 hh1 (.pure (scal_rep 4 hsc hrx)) hd) (hl.trans le1)
theorem WO_pk {ops : Array Oper} {i : Nat} {A : List (Nat × V)} {h0 : Hp} {c0 : Nat} {Q : Exit → SA → Prop} {o : Oper} (s' : SA) (hw : Weak bad E N ⟨A,h0,c0⟩ s') {cl : Call} {g : FuncId} (bor : List Nat) (vs vs' : List V) (r : V) (hen : Enters P g) (hc : PT P g vs' r)
  (hk : WO P bad E N ops (i + 1) ⟨putA A o.dst r,h0,c0⟩ Q) (ho : ops[i]? = some o:=by exact rfl) (hop : o.op = .call cl:=by exact rfl) (hgd : evGuardA A ops o = some true:=by kernel_rfl) (htg : evTargetA s'.A cl = some (g,vs):=by kernel_rfl)
  (ht : mapO (trV s'.h (fun _=>none) bor 5) vs = some vs':=by kernel_rfl) (hpu : vs'.all (pur 6) = true:=by kernel_rfl) (hsc : scal 4 r = true:=by kernel_rfl) (hd : okD N o.dst = true:=by kernel_rfl) : WO P bad E N ops i ⟨A,h0,c0⟩ Q :=
 WO_eff _ ho hgd (Eff_peek hw hop htg hen ht hpu hsc hc hd) fun t e=>by subst e; exact hk
end
end Go.Mx
