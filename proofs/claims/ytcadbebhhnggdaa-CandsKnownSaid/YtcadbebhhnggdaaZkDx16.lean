/-
  The rules of the steps, of states in parts.
-/
import Derived.Test.YtcadbebhhnggdaaZkDx7
import Derived.WalkKit
import Derived.OpenShut
import Derived.ShutString
import Derived.ChangeOld
import Derived.Below
import Derived.SizedLaws
import Derived.KernelRfl
import Derived.Laws.StructEq
namespace Go.Mx
set_option linter.unusedVariables false
set_option linter.unusedSimpArgs false
def gomax (a b : Int) : Int:=if b > a then b else a
def gomin (a b : Int) : Int:=if b < a then b else a
def e_i64 (n : Int) : V:=.p (.int .i64 n)
def e_u8 (n : Int) : V:=.p (.int .u8 n)
def e_s (s : ByteArray) : V:=.p (.string s)
def idxS (s : ByteArray) (n : Int) : Option Int:=bif decide (n < 0) then none else (s[n.toNat]?).map fun b=>(b.toNat : Int)
section
variable {P : Program} {T : TypeId → Option TI} {bad : Nat → Prop} {E : Ent} {N : Nat} {α : Type}
theorem ev_indexS {ρ : Operand → V} {dr : Bool} {h : Hp} {c : Nat} {d : Option Tmp} {t ty : TypeId} {pos : String} {af : Array Edge} {g : Option (Nat × Bool)} {x ix : Operand} (s : ByteArray) (kd : IntKind) (n : Int) {a : Int} {i0 : TI}
  (ha : idxS s n = some a) (hx : ρ x = .p (.string s)) (hi : ρ ix = .p (.int kd n)) (h0 : T t = some i0) (hd : i0.desc = .string) :
  evOperF P T dr ρ ⟨d,.index t x ix,ty,pos,af,g⟩ h c = some (.p (.int .u8 a),h,c):=by
 unfold idxS at ha
 by_cases hn : n < 0
 ·simp [hn] at ha
 ·simp only [hn,decide_false,cond_false,Option.map_eq_some_iff] at ha
  obtain ⟨b,hb,rfl⟩:=ha
  obtain ⟨sz,bt,ds,z⟩:=i0
  simp only at hd
  subst hd
  simp [evOperF,evIndex,h0,hx,hi,asI,hn,hb]
theorem PT_args {g : FuncId} {us vs : List V} {r : V} (h : PT P g vs r) (hv : VLes us vs) : PT P g us r:=by
 obtain ⟨h1,h2⟩:=hv.get
 intro bad w xs hbad hl hr
 exact h bad w xs hbad (by omega) fun i a b=>h2 i (by omega) a w _ _ (hr i (by omega) b)
theorem SE.set {T : TypeId → Option TI} {α : Type} (σ : SE T α) (l : List α) (n : Nat) (a : α) : (σ.F l).set n (σ.f a) = σ.F (l.set n a):=by
 rw [σ.hF,σ.hF,List.map_set]
theorem ev_append (σ : SE T α) {ρ : Operand → V} {dr : Bool} {h : Hp} {c : Nat} {d : Nat} {ty : TypeId} {pos : String} {af : Array Edge} {g : Option (Nat × Bool)} {x y : Operand} (b st : Nat) (nl : Bool) (l l2 : List α)
  (hx : ρ x = .sl b st 0 (σ.F l).length true) (hg : h.get b = some ⟨st,σ.e,σ.sz,false,nl,σ.F l⟩) (hy : elems h (ρ y) = some (σ.F l2)) (hne : l2 ≠ []) (hroom : room σ.i1.bytes l.length l2.length = true) :
  evOperF P T dr ρ ⟨some d,.call ⟨.builtin .append,#[x,y],#[σ.t,σ.t]⟩,ty,pos,af,g⟩ h c = some (.sl d c 0 (σ.F (l ++ l2)).length true,(h.erase b).set d ⟨c,σ.e,σ.sz,false,false,σ.F (l ++ l2)⟩,c + 1):=by
 obtain ⟨sz,bt,z,hrow⟩:=σ.row
 have hemp : (σ.F l2).isEmpty = false:=by
  cases l2 with
  | nil=>exact absurd rfl hne
  | cons a r=>simp [σ.hF]
 have hr2 : (l.length + l2.length) * σ.i1.bytes ≤ roomB:=by
  have:=of_decide_eq_true hroom
  simpa [roomB] using this
 have hs1:=σ.all l2
 have hz:=σ.hz
 have hp:=σ.hp
 simp only [evOperF,if_true,evAppend,hrow,σ.he,hy,hx,hg]
 rw [if_pos ⟨hs1,by omega,σ.hb⟩]
 simp only [hemp,σ.len,hz,← σ.app,List.length_append,true_and,and_self,if_true,Bool.false_eq_true,if_false,and_true,hr2]
theorem ev_bslice (σ : SE T α) {ρ : Operand → V} {o : Oper} {h : Hp} {c : Nat} (d : Nat) (l : List α) (he : evOperF P T false ρ o h c = some (.sl d c 0 (l.map σ.f).length true,h.set d ⟨c,σ.e,σ.sz,false,false,l.map σ.f⟩,c + 1)) :
  evOperF P T false ρ o h c = some (.sl d c 0 (σ.F l).length true,h.set d ⟨c,σ.e,σ.sz,false,false,σ.F l⟩,c + 1):=by rw [σ.hF]; exact he
theorem ev_bsliceD (σ : SE T α) {ρ : Operand → V} {o : Oper} {h : Hp} {c : Nat} (l : List α) (he : evOperF P T true ρ o h c = some (.ps .full (l.map σ.f),h,c)) :
  evOperF P T true ρ o h c = some (.ps .full (σ.F l),h,c):=by rw [σ.hF]; exact he
theorem elems_own (σ : SE T α) {h : Hp} {v : V} (b s : Nat) (tip : Bool) (B : Blk) (l : List α) (hx : v = .sl b s 0 (σ.F l).length tip) (hg : h.get b = some B) (hs : B.s = s) (hv : B.var = false) (he : B.es = σ.F l) : elems h v = some (σ.F l):=by
 subst hx
 simp only [elems,hg,hs,hv,he,Nat.zero_add,Nat.le_refl,and_self,if_true,List.drop_zero,List.take_length]
theorem PT_of_GO {g : FuncId} {vs : List V} {b : Nat} {tip : Bool} {e : TypeId} {w : Nat} {es : List V} (h : GO P g [] vs (.sl b 1 0 es.length tip) [(b,⟨1,e,w,false,true,es⟩)]) : PT P g vs (.ps .opt es):=by
 intro bad w0 xs hbad hl hr
 have hh : HeapRep bad [] w0 noM 1:=⟨fun b B h=>by simp [Hp.get] at h,fun _ _=>rfl,hbad,fun b l β h=>by simp [noM] at h,fun b b' l l' β h=>by simp [noM] at h⟩
 refine (h bad w0 noM xs hh hl fun i a b=>.pure (hr i a b)).mono ?_
 rintro en w' ⟨x,m',rfl,hx,hle,hh'⟩
 have h1:=FzV.sound hh' (b:=b) (s:=1) (B:=⟨1,e,w,false,true,es⟩) (by simp [Hp.get]) rfl rfl (.hit tip) hx
 refine ⟨x,rfl,?_,?_⟩
 ·have h2:=pur_sound 1 (by rfl) h1
  exact h2.mono fun β hβ=>⟨⟨hβ.1,hβ.2.1,fun b l h=>by simp [noM] at h⟩,fun _=>rfl⟩
 ·exact ⟨Nat.le_refl _,fun b l h=>by simp [noM] at h,fun β hβ _=>hle.keep β hβ fun b l h=>by simp [noM] at h,hle.size,hle.os,hle.output,hle.tape,fun b l β h=>by simp [noM] at h⟩
end
end Go.Mx
namespace Go.Mx
set_option linter.unusedVariables false
set_option linter.unusedSimpArgs false
section
variable {P : Program} {T : TypeId → Option TI} {bad : Nat → Prop} {E : Ent} {N : Nat} {α : Type}
theorem WO_ptb {ops : Array Oper} {i : Nat} {s : SA} {Q : Exit → SA → Prop} {o : Oper} (ho : ops[i]? = some o) (hg : evGuardA s.A ops o = some true) {cl : Call} {g : FuncId} (bor : List Nat) (vs vs' : List V) (r : V) (hop : o.op = .call cl) (htg : evTargetA s.A cl = some (g,vs)) (hen : Enters P g)
  (ht : mapO (trV s.h (fun _=>none) bor 5) vs = some vs') (hpu : vs'.all (pur 6) = true) (hs : scal 4 r = true) (hc : PT P g vs' r) (hd : okD N o.dst = true) (hk : WO P bad E N ops (i + 1) ⟨putA s.A o.dst r,s.h,s.c⟩ Q) : WO P bad E N ops i s Q :=
 WO_eff _ ho hg (Eff_callA hop htg hen (by simpa using CallsA_pure (bad:=bad) (c:=s.c) ht hpu hc true fun _=>hs) hd) fun s' e=>by subst e; exact hk
theorem WO_isnil (hT : TabOk P T) (σ : SE T α) {ops : Array Oper} {i : Nat} {s : SA} {Q : Exit → SA → Prop} {o : Oper} (hoi : ops[i]? = some o) (hgd : evGuardA s.A ops o = some true) {d : Option Tmp} {t' ty : TypeId} {pos : String} {af : Array Edge} {g : Option (Nat × Bool)} {x : Operand} (k : SC) (l : List α)
  (ho : o = ⟨d,.binOp .eql σ.t x (.const (.slice none 0 0)) t',ty,pos,af,g⟩) (hx : evA s.A x = .ps k (σ.F l)) (hd : okD N d = true)
  (hk : ∀ b : Bool,(b = true → l = []) → WO P bad E N ops (i + 1) ⟨putA s.A d (.p (.bool b)),s.h,s.c⟩ Q) : WO P bad E N ops i s Q:=by
 subst ho
 refine WO_eff (fun s'=>∃ b : Bool,(b = true → l = []) ∧ s' = ⟨putA s.A d (.p (.bool b)),s.h,s.c⟩) hoi hgd ?_ fun s' ⟨b,h1,h2⟩=>by subst h2; exact hk b h1
 intro a w m hs hl K QQ hK
 obtain ⟨sz,bt,z,hrow⟩:=σ.row
 obtain ⟨info,zz,hi,_,_,hu,_⟩:=hT _ _ hrow
 simp only [] at hu
 have hr:=hs.2.t.eval x (a:=a)
 rw [show evalO (s.st N).t x = evA s.A x from by rw [evA_eq hs.1]; rfl,hx] at hr
 have hl0 : σ.F l = [] → l = []:=fun h=>by
  have:=σ.len l
  rw [h] at this
  exact List.length_eq_zero_iff.1 this.symm
 have key : ∃ (a0 : Option Addr) (len cap : Nat),a.eval x = .slice a0 len cap ∧ (a0.isNone = true → l = []):=by
  revert hr hl0
  generalize a.eval x = y
  generalize σ.F l = xs
  intro hr hl0
  cases hr with
  | pure hp =>
   cases hp with
   | psNil hn=>exact ⟨none,0,0,rfl,fun _=>hl0 rfl⟩
   | ps hn hcap hfull hβ hw hc hr=>exact ⟨_,_,_,rfl,fun h=>by simp at h⟩
 obtain ⟨a0,len,cap,he,hnil⟩:=key
 have hrun : (execOp a.eval ⟨d,.binOp .eql σ.t x (.const (.slice none 0 0)) t',ty,pos,af,g⟩).run P w = .ok (.value (.bool a0.isNone)) w:=by
  have hg : eqGuard .eql σ.t x (.const (.slice none 0 0)) (.slice a0 len cap) (.slice none 0 0) = pure ():=rfl
  have h2:=run_eql_slice_nil w σ.t σ.e a0 len cap hu
  have h3 : a.eval (.const (.slice none 0 0)) = .slice none 0 0:=rfl
  simp [execOp,he,h3,hg,h2]
 simp only [Oper.wp,hrun,Oper.upon]
 exact hK _ _ _ _ ⟨a0.isNone,hnil,rfl⟩ (hs.put (Le.refl _ _ _) hs.2.h (.pure (.p _)) hd) hl
def sroom (a b : ByteArray) : Bool:=!decide (((a.size + b.size : Nat) : Int) > IntKind.i64.max)
theorem ev_sadd {ρ : Operand → V} {dr : Bool} {h : Hp} {c : Nat} {d : Option Tmp} {t t' ty : TypeId} {pos : String} {af : Array Edge} {g : Option (Nat × Bool)} {x y : Operand} (a b : ByteArray) (hr : sroom a b = true) (hx : ρ x = .p (.string a)) (hy : ρ y = .p (.string b)) :
  evOperF P T dr ρ ⟨d,.binOp .add t x y t',ty,pos,af,g⟩ h c = some (.p (.string (a ++ b)),h,c):=by
 have h1 : ¬ (((a.size + b.size : Nat) : Int) > IntKind.i64.max):=by
  intro h2
  unfold sroom at hr
  rw [decide_eq_true h2] at hr
  cases hr
 have h3 : still P (do eqGuard .add t x y (.string a) (.string b); binOp .add t (.string a) (.string b) : Sem Value) = some (.string (a ++ b)):=by
  have e1 : eqGuard .add t x y (.string a) (.string b) = pure ():=rfl
  have e2 : binOp .add t (.string a) (.string b) = pure (.string (a ++ b)):=by
   show Op.stringOp .add a b = _
   unfold Op.stringOp
   simp only [if_neg h1]
  rw [e1,e2]; rfl
 simp only [evOperF,evBin,hx,hy,toVal,fastBin,h3,Option.map_some]
def ishl (k : IntKind) (x y : Int) : Option Int:=bif decide (y < 0) then none else some (k.wrap (x * 2 ^ min y.toNat k.bits))
def ishr (k : IntKind) (x y : Int) : Option Int:=bif decide (y < 0) then none else some (x.fdiv (2 ^ min y.toNat k.bits))
theorem ev_shl {ρ : Operand → V} {dr : Bool} {h : Hp} {c : Nat} {d : Option Tmp} {t t' ty : TypeId} {pos : String} {af : Array Edge} {g : Option (Nat × Bool)} {x y : Operand} (k k' : IntKind) (a b : Int) {r : Int} (hr : ishl k a b = some r) (hx : ρ x = .p (.int k a)) (hy : ρ y = .p (.int k' b)) :
  evOperF P T dr ρ ⟨d,.binOp .shl t x y t',ty,pos,af,g⟩ h c = some (.p (.int k r),h,c):=by
 unfold ishl at hr
 by_cases hb : b < 0
 ·simp [hb] at hr
 ·simp only [hb,decide_false,cond_false,Option.some.injEq] at hr
  subst hr
  have h3 : still P (do eqGuard .shl t x y (.int k a) (.int k' b); binOp .shl t (.int k a) (.int k' b) : Sem Value) = some (.int k (k.wrap (a * 2 ^ min b.toNat k.bits))):=by
   have e1 : eqGuard .shl t x y (.int k a) (.int k' b) = pure ():=rfl
   have e2 : binOp .shl t (.int k a) (.int k' b) = pure (.int k (k.wrap (a * 2 ^ min b.toNat k.bits))):=by
    show Op.shift .shl k a k' b = _
    unfold Op.shift
    simp only [if_neg hb]
   rw [e1,e2]; rfl
  simp only [evOperF,evBin,hx,hy,toVal,fastBin,h3,Option.map_some]
theorem ev_shr {ρ : Operand → V} {dr : Bool} {h : Hp} {c : Nat} {d : Option Tmp} {t t' ty : TypeId} {pos : String} {af : Array Edge} {g : Option (Nat × Bool)} {x y : Operand} (k k' : IntKind) (a b : Int) {r : Int} (hr : ishr k a b = some r) (hx : ρ x = .p (.int k a)) (hy : ρ y = .p (.int k' b)) :
  evOperF P T dr ρ ⟨d,.binOp .shr t x y t',ty,pos,af,g⟩ h c = some (.p (.int k r),h,c):=by
 unfold ishr at hr
 by_cases hb : b < 0
 ·simp [hb] at hr
 ·simp only [hb,decide_false,cond_false,Option.some.injEq] at hr
  subst hr
  have h3 : still P (do eqGuard .shr t x y (.int k a) (.int k' b); binOp .shr t (.int k a) (.int k' b) : Sem Value) = some (.int k (a.fdiv (2 ^ min b.toNat k.bits))):=by
   have e1 : eqGuard .shr t x y (.int k a) (.int k' b) = pure ():=rfl
   have e2 : binOp .shr t (.int k a) (.int k' b) = pure (.int k (a.fdiv (2 ^ min b.toNat k.bits))):=by
    show Op.shift .shr k a k' b = _
    unfold Op.shift
    simp only [if_neg hb]
   rw [e1,e2]; rfl
  simp only [evOperF,evBin,hx,hy,toVal,fastBin,h3,Option.map_some]
def b2s (l : List Int) : ByteArray:=⟨(l.map fun n=>UInt8.ofNat n.toNat).toArray⟩
theorem bytesOf_map : ∀ (l : List Int),bytesOf (l.map e_u8) = some (l.map fun n=>UInt8.ofNat n.toNat)
 | []=>rfl
 | n :: r=>by
  show (bytesOf (r.map e_u8)).map (UInt8.ofNat n.toNat :: ·) = _
  rw [bytesOf_map r]; rfl
theorem ev_b2s (σ : SE T Int) {ρ : Operand → V} {dr : Bool} {h : Hp} {c : Nat} {d : Option Tmp} {t' ty : TypeId} {pos : String} {af : Array Edge} {g : Option (Nat × Bool)} {x : Operand} {i2 : TI} (l : List Int) (hf : σ.f = e_u8) (hx : elems h (ρ x) = some (σ.F l))
  (h1 : σ.i1.desc = .int .u8) (h1s : σ.i1.size = 1) (h2 : T t' = some i2) (h2d : i2.desc = .string) :
  evOperF P T dr ρ ⟨d,.convert σ.t t' x,ty,pos,af,g⟩ h c = some (.p (.string (b2s l)),h,c):=by
 obtain ⟨sz,bt,z,hrow⟩:=σ.row
 have he:=σ.he
 revert h1 h1s he
 generalize σ.i1 = i1
 intro h1 h1s he
 obtain ⟨s1,b1,d1,z1⟩:=i1
 obtain ⟨s2,b2,d2,z2⟩:=i2
 simp only at h1 h1s h2d
 subst h1 h1s h2d
 have hb : bytesOf (σ.F l) = some (l.map fun n=>UInt8.ofNat n.toNat):=by rw [σ.hF,hf,bytesOf_map]
 have hnp : ∀ y,ρ x ≠ .p y:=fun y hy=>by rw [hy] at hx; simp [elems] at hx
 simp only [evOperF,evConvert]
 generalize ρ x = v at hx hnp
 cases v with
 | p y=>exact absurd rfl (hnp y)
 | _=>simp only [hrow,h2,he,hx,hb,Option.map_some,b2s]
def ssub (s : ByteArray) (a b : Int) : Option ByteArray:=bif decide (0 ≤ a) && decide (a ≤ b) && decide (b ≤ s.size) then some (exS s a.toNat b.toNat) else none
theorem ev_ssub {ρ : Operand → V} {dr : Bool} {h : Hp} {c : Nat} {d : Option Tmp} {t ty : TypeId} {pos : String} {af : Array Edge} {g : Option (Nat × Bool)} {x : Operand} {lo hi : Option Operand} {i0 : TI} (s : ByteArray) (a b : Int) {r : ByteArray} (hr : ssub s a b = some r) (hx : ρ x = .p (.string s)) (hlo : intOr 0 (lo.map ρ) = some a) (hhi : intOr s.size (hi.map ρ) = some b)
  (h0 : T t = some i0) (hd : i0.desc = .string) : evOperF P T dr ρ ⟨d,.slice t x lo hi none,ty,pos,af,g⟩ h c = some (.p (.string r),h,c):=by
 unfold ssub at hr
 cases hc : decide (0 ≤ a) && decide (a ≤ b) && decide (b ≤ s.size) with
 | false=>rw [hc] at hr; cases hr
 | true =>
  rw [hc] at hr
  simp only [cond_true,Option.some.injEq] at hr
  subst hr
  simp only [Bool.and_eq_true,decide_eq_true_eq] at hc
  obtain ⟨sz,bt,ds,z⟩:=i0
  simp only at hd
  subst hd
  simp only [evOperF,Option.isSome_none,Bool.false_and,Bool.false_eq_true,if_false,evSlice,h0,hx,Option.map_none,hlo,hhi]
  rw [if_pos ⟨hc.1.1,hc.1.2,hc.2⟩]
  rfl
theorem VLf.tip {b s off n : Nat} {tip : Bool} : VLf (.sl b s off n tip) (.sl b s off n false):=fun bad w m c x hx=>by
 cases hx with
 | pure hp=>cases hp
 | sl hs hx h =>
  refine .sl hs hx fun l hl hls=>?_
  rcases h l hl hls with h1 | ⟨β,cap,h1,h2,h3,h4,h5,_⟩
  ·exact .inl h1
  ·exact .inr ⟨β,cap,h1,h2,h3,h4,h5,fun h=>by cases h⟩
theorem WO_clip (hT : TabOk P T) (σ : SE T α) {ops : Array Oper} {i : Nat} {s : SA} {Q : Exit → SA → Prop} {o : Oper} (hoi : ops[i]? = some o) (hgd : evGuardA s.A ops o = some true) {d : Option Tmp} {ty : TypeId} {pos : String} {af : Array Edge} {g : Option (Nat × Bool)} {x : Operand} {hi mx : Operand} (b st n : Nat) (tip : Bool) (B : Blk)
  (ho : o = ⟨d,.slice σ.t x none (some hi) (some mx),ty,pos,af,g⟩) (hx : evA s.A x = .sl b st 0 n tip) (hg : s.h.get b = some B) (hs : B.s = st) (hh : evA s.A hi = .p (.int .i64 n)) (hm : evA s.A mx = .p (.int .i64 n)) (hd : okD N d = true)
  (hk : WO P bad E N ops (i + 1) ⟨putA s.A d (.sl b st 0 n false),s.h,s.c⟩ Q) : WO P bad E N ops i s Q:=by
 subst ho
 refine WO_eff (fun s'=>s' = ⟨putA s.A d (.sl b st 0 n false),s.h,s.c⟩) hoi hgd ?_ fun s' h2=>by subst h2; exact hk
 intro a w m hsr hl K QQ hK
 obtain ⟨sz,bt,z,hrow⟩:=σ.row
 obtain ⟨info,zz,hi',_,_,hu,_⟩:=hT _ _ hrow
 obtain ⟨info1,z1,hi1,hz1,_⟩:=hT _ _ σ.he
 simp only [] at hu
 have ev : ∀ q,Rep bad w m s.c (evA s.A q) (a.eval q):=fun q=>by
  have:=hsr.2.t.eval q (a:=a)
  rw [show evalO (s.st N).t q = evA s.A q from by rw [evA_eq hsr.1]; rfl] at this
  exact this
 have h1:=ev x
 have h2:=rep_p (by have:=ev hi; rw [hh] at this; exact this)
 have h3:=rep_p (by have:=ev mx; rw [hm] at this; exact this)
 rw [hx] at h1
 obtain ⟨l,hml,hls,_⟩:=hsr.2.h.get b B hg
 have key : ∃ (a0 : Option Addr) (cap : Nat),a.eval x = .slice a0 n cap ∧ n ≤ cap ∧ Rep bad w m s.c (.sl b st 0 n false) (.slice a0 n n):=by
  generalize a.eval x = y at h1
  cases h1 with
  | pure hp=>cases hp
  | sl hs' hx' hb =>
   rcases hb l hml (hls.trans hs) with ⟨k1,_,k3,rfl⟩ | ⟨β,cap,k1,rfl,k3,k4,k5,_⟩
   ·subst k3
    refine ⟨none,0,rfl,Nat.le_refl _,.sl hs' rfl fun l2 hl2 _=>?_⟩
    rw [hml] at hl2; cases hl2
    exact .inl ⟨k1,rfl,rfl,rfl⟩
   ·refine ⟨_,cap,rfl,k3,.sl hs' rfl fun l2 hl2 _=>?_⟩
    rw [hml] at hl2; cases hl2
    exact .inr ⟨β,n,k1,rfl,Nat.le_refl _,Nat.le_trans (Nat.mul_le_mul_right _ (by omega)) k4,by omega,fun h=>by cases h⟩
 obtain ⟨a0,cap,he,hcap,hrep⟩:=key
 have hb:=sliceBounds_ok (P:=P) (bad:=bad) (w:=w) (m:=m) (c:=s.c) (lo:=none) (hi:=some (.p (.int .i64 n))) (mx:=some (.p (.int .i64 n))) (lx:=none) (hx:=some (.int .i64 n)) (mxx:=some (.int .i64 n)) (len:=n) (cap:=cap) (l:=0) (hh:=n) (q:=some (n : Int)) true trivial
  (.pure (.p _)) (.pure (.p _)) rfl rfl rfl (by omega) (by omega) (by omega) hcap (by intro r hr; cases hr; rfl) (by simp)
 have hrun : (execOp a.eval ⟨d,.slice σ.t x none (some hi) (some mx),ty,pos,af,g⟩).run P w = .ok (.value (.slice a0 n n)) w:=by
  simp [execOp,he,h2,h3,Instr.sliceAt,run_underlying hu,Instr.slice,hb,sizeOf_run hi1]
  cases a0 with
  | none=>simp
  | some ad=>simp [Addr.add]
 simp only [Oper.wp,hrun,Oper.upon]
 exact hK _ _ _ _ rfl (hsr.put (Le.refl _ _ _) hsr.2.h hrep hd) hl
theorem GO_frz {g : FuncId} {hA hr : Hp} {vs : List V} (b : Nat) (B : Blk) {tip : Bool} (h : GO P g hA vs (.sl b 1 0 B.es.length tip) hr) (hg : hr.get b = some B) (hs : B.s = 1) (hv : B.var = false) : GO P g hA vs (.ps .opt B.es) (hr.erase b):=by
 intro bad w m xs hh hl hrep
 refine (h bad w m xs hh hl hrep).mono ?_
 rintro e w' ⟨x,m',rfl,hx,hle,hh'⟩
 have h1:=FzV.sound hh' hg hs hv (.hit tip) hx
 obtain ⟨k1,k2⟩:=hh'.erase b
 exact ⟨x,_,rfl,h1,hle.trans k1,k2⟩
theorem ev_storeRow (σ : SE T α) {dr : Bool} {ρ : Operand → V} {h : Hp} {c : Nat} {d : Option Tmp} {t ty : TypeId} {pos : String} {af : Array Edge} {g : Option (Nat × Bool)} {x y : Operand}
  (b st : Nat) (B : Blk) (l : List α) (n off : Nat) (a a' : α) (ha : l[n]? = some a) (hx : ρ x = .box b st n off) (hg : h.get b = some B) (hs : B.s = st) (hv : B.var = false) (hes : B.es = σ.F l)
  {i0 : TI} (h0 : T t = some i0) (hf : frz 4 h (ρ y) = some (ρ y,h)) (hz : (Nat.blt 0 i0.size && Nat.beq (optV (ρ y)).cells.length i0.size && Nat.ble (off + i0.size) (σ.f a).cells.length && (optV (ρ y)).cells.all V.one) = true)
  (he : (if off = 0 ∧ (σ.f a).isAgg = true ∧ (optV (ρ y)).isAgg = true ∧ (σ.f a).cells.length = i0.size then optV (ρ y) else if (σ.f a).isAgg = true then .agg ((σ.f a).cells.take off ++ (optV (ρ y)).cells ++ (σ.f a).cells.drop (off + i0.size)) else ((optV (ρ y)).cells.headD .undef)) = σ.f a') :
  evOperF P T dr ρ ⟨d,.store t x y,ty,pos,af,g⟩ h c = some (.p Go.undef,h.set b { B with es:=σ.F (l.set n a') },c):=by
 simp only [Bool.and_eq_true] at hz
 obtain ⟨⟨⟨h2,h3⟩,h4⟩,h5⟩:=hz
 have h2' : 0 < i0.size:=by simpa using h2
 have h3' : (optV (ρ y)).cells.length = i0.size:=by simpa using h3
 have h4' : off + i0.size ≤ (σ.f a).cells.length:=by simpa using h4
 have hl : (σ.F l)[n]? = some (σ.f a):=by rw [σ.hF,List.getElem?_map,ha]; rfl
 simp only [evOperF,hx,evStore,h0,hg,hv,Bool.false_eq_true,if_false,hf,Option.map_some,hes,hl,hs,h2',h3',h4',h5,and_self,if_true,Option.map_some,Option.some.injEq,Prod.mk.injEq,and_true,true_and]
 rw [he,σ.set]
theorem ev_appendF (σ : SE T α) {ρ : Operand → V} {dr : Bool} {h : Hp} {c : Nat} {d : Nat} {ty : TypeId} {pos : String} {af : Array Edge} {g : Option (Nat × Bool)} {x y : Operand} (k : SC) (l l2 : List α) (hk0 : k = .full ∨ k = .fopt)
  (hx : ρ x = .ps k (σ.F l)) (hy : elems h (ρ y) = some (σ.F l2)) (hne : l2 ≠ []) (hroom : room σ.i1.bytes l.length l2.length = true) :
  evOperF P T dr ρ ⟨some d,.call ⟨.builtin .append,#[x,y],#[σ.t,σ.t]⟩,ty,pos,af,g⟩ h c = some (.sl d c 0 (σ.F (l ++ l2)).length true,h.set d ⟨c,σ.e,σ.sz,false,false,σ.F (l ++ l2)⟩,c + 1):=by
 obtain ⟨sz,bt,z,hrow⟩:=σ.row
 have hemp : (σ.F l2).isEmpty = false:=by
  cases l2 with
  | nil=>exact absurd rfl hne
  | cons a r=>simp [σ.hF]
 have hr2 : (l.length + l2.length) * σ.i1.bytes ≤ roomB:=by
  have:=of_decide_eq_true hroom
  simpa [roomB] using this
 have hall : (σ.F l).all (fun v=>v.cells.length == σ.sz) = true:=by
  rw [σ.hF,List.all_eq_true]
  intro v hv
  obtain ⟨a,_,rfl⟩:=List.mem_map.1 hv
  simp [σ.hs]
 have hz:=σ.hz
 have hp:=σ.hp
 have hs1:=σ.all l2
 simp only [evOperF,if_true,evAppend,hrow,σ.he,hy,hx]
 rw [if_pos ⟨hs1,by omega,σ.hb⟩]
 rcases hk0 with rfl | rfl <;>
  simp only [hall,hemp,σ.len,hz,← σ.app,List.length_append,reduceCtorEq,or_false,false_or,or_true,true_or,and_self,if_true,Bool.false_eq_true,if_false,hr2]
end
end Go.Mx
namespace Go.Mx
open Go.ChangeShapes Go.WideShapes Go.RowKit
set_option linter.unusedVariables false
theorem Le.below {w w' : World} {c c' : Nat} {m' : MM} (h : Le w noM c w' m' c') : Below w.heap.size w w' :=
 ⟨h.os,h.tape,h.output,h.size,fun k hk=>h.keep k hk fun b l hb=>by simp [noM] at hb⟩
def inW (W : World) (β : Nat) : Prop:=β < W.heap.size
section
variable {P : Program} {W : World} {t e : TypeId} {α : Type} {f : α → V} {good : α → Prop}
end
theorem calls_of_PT {P : Program} {g : FuncId} {vs : List V} {b : Bool} (h : PT P g vs (.p (.bool b))) (w : World) (xs : Array Value) (hl : vs.length = xs.size) (hr : ∀ i (h1 : i < vs.length) (h2 : i < xs.size),RepP w (inW w) vs[i] xs[i]) :
  Calls P g xs w fun e w'=>e = .returned (.bool b) ∧ Below w.heap.size w w':=by
 refine (h (fun _=>False) w xs (fun β h=>h.elim) hl (fun i h1 h2=>(hr i h1 h2).mono fun β hβ=>⟨⟨hβ,fun h=>h,fun b l hb=>by simp [noM] at hb⟩,fun _=>rfl⟩)).mono ?_
 rintro e w' ⟨x,rfl,hx,hle⟩
 exact ⟨by rw [repP_p hx],hle.below⟩
end Go.Mx
namespace Go.Mx
set_option linter.unusedVariables false
abbrev vi (x : Int) : V:=.p (.int .i64 x)
abbrev vu (x : Int) : V:=.p (.int .u8 x)
abbrev vb (x : Bool) : V:=.p (.bool x)
abbrev vw (x : ByteArray) : V:=.p (.string x)
abbrev vz (x : Cx) : V:=.p (.complex .f64 x.re x.im)
abbrev c0 : Cx:=⟨0,0⟩
abbrev b0 : ByteArray:=ByteArray.empty
abbrev wr (x : Int) : Int:=IntKind.i64.wrap x
abbrev ln {α : Type} (l : List α) : Int:=(l.length : Int)
section
variable {P : Program} {T : TypeId → Option TI} {bad : Nat → Prop} {E : Ent} {N : Nat} {α : Type}
theorem Sg (hT : TabOk P T) {ops : Array Oper} {i : Nat} {s : SA} {Q : Exit → SA → Prop} (n : Nat) (ks : List Nat) (s' : SA) (h : WO P bad E N ops (i + n) s' Q) (hr : runK P T N ops i n ks s = some s':=by kernel_rfl) (hk : ks.all (Nat.blt · N) = true:=by kernel_rfl) : WO P bad E N ops i s Q :=
 WO_seg hT n ks s' hr hk h
theorem Sz (hT : TabOk P T) {ops : Array Oper} {i : Nat} {s : SA} {Q : Exit → SA → Prop} (n : Nat) (ks : List Nat) (s' : SA) (h : Q .normal s') (hr : runK P T N ops i n ks s = some s':=by kernel_rfl) (hk : ks.all (Nat.blt · N) = true:=by kernel_rfl) (hi : Nat.ble ops.size (i + n) = true:=by kernel_rfl) : WO P bad E N ops i s Q :=
 WO_seg hT n ks s' hr hk (WO_end hi h)
theorem Rg (hT : TabOk P T) {id : Nat} {ops : Array Oper} {s : SA} {Q : Exit → SA → Prop} (n : Nat) (ks : List Nat) (s' : SA) (h : WO P bad E N ops (0 + n) s' Q) (hr : runK P T N ops 0 n ks s = some s':=by kernel_rfl) (hk : ks.all (Nat.blt · N) = true:=by kernel_rfl) : WA P bad E N (.region id ops false) s Q :=
 WA_region (WO_seg hT n ks s' hr hk h)
theorem Rz (hT : TabOk P T) {id : Nat} {ops : Array Oper} {s : SA} {Q : Exit → SA → Prop} (n : Nat) (ks : List Nat) (s' : SA) (h : Q .normal s') (hr : runK P T N ops 0 n ks s = some s':=by kernel_rfl) (hk : ks.all (Nat.blt · N) = true:=by kernel_rfl) (hi : Nat.ble ops.size (0 + n) = true:=by kernel_rfl) : WA P bad E N (.region id ops false) s Q :=
 WA_region (WO_seg hT n ks s' hr hk (WO_end hi h))
theorem Qg (hT : TabOk P T) {id : Nat} {ops : Array Oper} {y : Code} {s : SA} {Q : Exit → SA → Prop} (n : Nat) (ks : List Nat) (s' : SA) (h : WO P bad E N ops (0 + n) s' (thenA (fun s'=>WA P bad E N y s' Q) Q)) (hr : runK P T N ops 0 n ks s = some s':=by kernel_rfl) (hk : ks.all (Nat.blt · N) = true:=by kernel_rfl) : WA P bad E N (.seq (.region id ops false) y) s Q :=
 WA_seq (Rg hT n ks s' h hr hk)
theorem Qz (hT : TabOk P T) {id : Nat} {ops : Array Oper} {y : Code} {s : SA} {Q : Exit → SA → Prop} (n : Nat) (ks : List Nat) (s' : SA) (h : WA P bad E N y s' Q) (hr : runK P T N ops 0 n ks s = some s':=by kernel_rfl) (hk : ks.all (Nat.blt · N) = true:=by kernel_rfl) (hi : Nat.ble ops.size (0 + n) = true:=by kernel_rfl) : WA P bad E N (.seq (.region id ops false) y) s Q :=
 WA_seq (Rz hT n ks s' h hr hk hi)
theorem weakKR {s s' : SA} (ks : List Nat) (L : List (Nat × Nat × Nat)) (hk : ks.all (Nat.blt · N) = true) (hA : trA s.h (lookE L) (keepA ks s.A) = some s'.A) (hB : moveH s.h (lookE L) [] L = some s'.h) (hc : renOk s.h E.c s'.c L = true) : Weak bad E N s s' :=
 (Weak_keepE ks _ rfl hk).trans (Weak_ren (s:=⟨keepA ks s.A,s.h,s.c⟩) L s' hA hB hc)
theorem oK {ops : Array Oper} {i : Nat} {s s' : SA} {Q : Exit → SA → Prop} (ks : List Nat) (L : List (Nat × Nat × Nat)) (h : Q .normal s') (hi : Nat.ble ops.size i = true:=by kernel_rfl) (hk : ks.all (Nat.blt · N) = true:=by kernel_rfl)
  (hA : trA s.h (lookE L) (keepA ks s.A) = some s'.A:=by kernel_rfl) (hB : moveH s.h (lookE L) [] L = some s'.h:=by kernel_rfl) (hc : renOk s.h E.c s'.c L = true:=by kernel_rfl) : WO P bad E N ops i s Q :=
 WO_weak (weakKR ks L hk hA hB hc) (WO_end hi h)
theorem sK {s s' : SA} {Q : Exit → SA → Prop} (ks : List Nat) (L : List (Nat × Nat × Nat)) (h : Q .normal s') (hk : ks.all (Nat.blt · N) = true:=by kernel_rfl)
  (hA : trA s.h (lookE L) (keepA ks s.A) = some s'.A:=by kernel_rfl) (hB : moveH s.h (lookE L) [] L = some s'.h:=by kernel_rfl) (hc : renOk s.h E.c s'.c L = true:=by kernel_rfl) : WA P bad E N .skip s Q :=
 WA_weak (weakKR ks L hk hA hB hc) (WA_skip h)
theorem eK {id : Nat} {s s' : SA} {Q : Exit → SA → Prop} (ks : List Nat) (L : List (Nat × Nat × Nat)) (h : Q (.exit id) s') (hk : ks.all (Nat.blt · N) = true:=by kernel_rfl)
  (hA : trA s.h (lookE L) (keepA ks s.A) = some s'.A:=by kernel_rfl) (hB : moveH s.h (lookE L) [] L = some s'.h:=by kernel_rfl) (hc : renOk s.h E.c s'.c L = true:=by kernel_rfl) : WA P bad E N (.exit id) s Q :=
 WA_weak (weakKR ks L hk hA hB hc) (WA_exit h)
theorem rK {s : SA} {Q : Exit → SA → Prop} (ks : List Nat) (L : List (Nat × Nat × Nat)) (s' : SA) (h : Q .ret s') (hk : ks.all (Nat.blt · N) = true:=by kernel_rfl)
  (hA : trA s.h (lookE L) (keepA ks s.A) = some s'.A:=by kernel_rfl) (hB : moveH s.h (lookE L) [] L = some s'.h:=by kernel_rfl) (hc : renOk s.h E.c s'.c L = true:=by kernel_rfl) : WA P bad E N .ret s Q :=
 WA_weak (weakKR ks L hk hA hB hc) (WA_ret h)
theorem wK {s s' : SA} {Q : SA → Prop} (ks : List Nat) (L : List (Nat × Nat × Nat)) (h : Q s') (hk : ks.all (Nat.blt · N) = true:=by kernel_rfl)
  (hA : trA s.h (lookE L) (keepA ks s.A) = some s'.A:=by kernel_rfl) (hB : moveH s.h (lookE L) [] L = some s'.h:=by kernel_rfl) (hc : renOk s.h E.c s'.c L = true:=by kernel_rfl) : Wk bad E N s Q :=
 Wk_step (weakKR ks L hk hA hB hc) (Wk_done h)
theorem lK {x : Code} {s s' : SA} {Q : Exit → SA → Prop} (ks : List Nat) (L : List (Nat × Nat × Nat)) (I : Nat → SA → Prop) (n : Nat) (h0 : I n s') (hz : ∀ s',I 0 s' → False) (h : ∀ k s',I (k + 1) s' → WA P bad E N x s' (thenA (I k) Q)) (hk : ks.all (Nat.blt · N) = true:=by kernel_rfl)
  (hA : trA s.h (lookE L) (keepA ks s.A) = some s'.A:=by kernel_rfl) (hB : moveH s.h (lookE L) [] L = some s'.h:=by kernel_rfl) (hc : renOk s.h E.c s'.c L = true:=by kernel_rfl) : WA P bad E N (.loop x) s Q :=
 WA_weak (weakKR ks L hk hA hB hc) (WA_loop I n h0 hz h)
theorem oR {ops : Array Oper} {i : Nat} {s s' : SA} {Q : Exit → SA → Prop} (L : List (Nat × Nat × Nat)) (h : Q .normal s') (hi : Nat.ble ops.size i = true:=by kernel_rfl)
  (hA : trA s.h (lookE L) s.A = some s'.A:=by kernel_rfl) (hB : moveH s.h (lookE L) [] L = some s'.h:=by kernel_rfl) (hc : renOk s.h E.c s'.c L = true:=by kernel_rfl) : WO P bad E N ops i s Q :=
 WO_weak (Weak_ren L s' hA hB hc) (WO_end hi h)
theorem sR {s s' : SA} {Q : Exit → SA → Prop} (L : List (Nat × Nat × Nat)) (h : Q .normal s')
  (hA : trA s.h (lookE L) s.A = some s'.A:=by kernel_rfl) (hB : moveH s.h (lookE L) [] L = some s'.h:=by kernel_rfl) (hc : renOk s.h E.c s'.c L = true:=by kernel_rfl) : WA P bad E N .skip s Q :=
 WA_weak (Weak_ren L s' hA hB hc) (WA_skip h)
theorem rR {s : SA} {Q : Exit → SA → Prop} (L : List (Nat × Nat × Nat)) (s' : SA) (h : Q .ret s')
  (hA : trA s.h (lookE L) s.A = some s'.A:=by kernel_rfl) (hB : moveH s.h (lookE L) [] L = some s'.h:=by kernel_rfl) (hc : renOk s.h E.c s'.c L = true:=by kernel_rfl) : WA P bad E N .ret s Q :=
 WA_weak (Weak_ren L s' hA hB hc) (WA_ret h)
theorem wR {s s' : SA} {Q : SA → Prop} (L : List (Nat × Nat × Nat)) (h : Q s')
  (hA : trA s.h (lookE L) s.A = some s'.A:=by kernel_rfl) (hB : moveH s.h (lookE L) [] L = some s'.h:=by kernel_rfl) (hc : renOk s.h E.c s'.c L = true:=by kernel_rfl) : Wk bad E N s Q :=
 Wk_step (Weak_ren L s' hA hB hc) (Wk_done h)
theorem lR {x : Code} {s s' : SA} {Q : Exit → SA → Prop} (L : List (Nat × Nat × Nat)) (I : Nat → SA → Prop) (n : Nat) (h0 : I n s') (hz : ∀ s',I 0 s' → False) (h : ∀ k s',I (k + 1) s' → WA P bad E N x s' (thenA (I k) Q))
  (hA : trA s.h (lookE L) s.A = some s'.A:=by kernel_rfl) (hB : moveH s.h (lookE L) [] L = some s'.h:=by kernel_rfl) (hc : renOk s.h E.c s'.c L = true:=by kernel_rfl) : WA P bad E N (.loop x) s Q :=
 WA_weak (Weak_ren L s' hA hB hc) (WA_loop I n h0 hz h)
theorem oW {ops : Array Oper} {i : Nat} {s : SA} {Q : Exit → SA → Prop} (ks : List Nat) (s' : SA) (h : WO P bad E N ops i s' Q) (he : (⟨keepA ks s.A,s.h,s.c⟩ : SA) = s':=by kernel_rfl) (hk : ks.all (Nat.blt · N) = true:=by kernel_rfl) : WO P bad E N ops i s Q:=WO_weak (Weak_keepE ks s' he hk) h
theorem aW {code : Code} {s : SA} {Q : Exit → SA → Prop} (ks : List Nat) (s' : SA) (h : WA P bad E N code s' Q) (he : (⟨keepA ks s.A,s.h,s.c⟩ : SA) = s':=by kernel_rfl) (hk : ks.all (Nat.blt · N) = true:=by kernel_rfl) : WA P bad E N code s Q:=WA_weak (Weak_keepE ks s' he hk) h
theorem kW {s : SA} {Q : SA → Prop} (ks : List Nat) (s' : SA) (h : Wk bad E N s' Q) (he : (⟨keepA ks s.A,s.h,s.c⟩ : SA) = s':=by kernel_rfl) (hk : ks.all (Nat.blt · N) = true:=by kernel_rfl) : Wk bad E N s Q:=Wk_step (Weak_keepE ks s' he hk) h
theorem Pt {ops : Array Oper} {i : Nat} {s : SA} {Q : Exit → SA → Prop} {o : Oper} {cl : Call} {g : FuncId} {vs : List V} {r : V} (hen : Enters P g) (hc : PT P g vs r) (hk : WO P bad E N ops (i + 1) ⟨putA s.A o.dst r,s.h,s.c⟩ Q)
  (ho : ops[i]? = some o:=by rfl) (hop : o.op = .call cl:=by rfl) (hg : evGuardA s.A ops o = some true:=by kernel_rfl) (htg : evTargetA s.A cl = some (g,vs):=by kernel_rfl) (hpu : vs.all (pur 6) = true:=by kernel_rfl)
  (hd : okD N o.dst = true:=by kernel_rfl) : WO P bad E N ops i s Q :=
 WO_pt ho hg vs r hop htg hen hpu hc hd hk
theorem One (hT : TabOk P T) {ops : Array Oper} {i : Nat} {s : SA} {Q : Exit → SA → Prop} {o : Oper} (ho : ops[i]? = some o) {v : V} {h' : Hp} {c' : Nat} (he : evOperF P T false (evA s.A) o s.h s.c = some (v,h',c')) (hk : WO P bad E N ops (i + 1) ⟨putA s.A o.dst v,h',c'⟩ Q)
  (hg : evGuardA s.A ops o = some true:=by kernel_rfl) (hd : okD N o.dst = true:=by kernel_rfl) : WO P bad E N ops i s Q :=
 WO_one hT ho hg he hd hk
end
end Go.Mx
namespace Go.Mx
set_option linter.unusedVariables false
def cadd (a b : Cx) : Option Cx:=(FloatKind.f64.format.add a.re b.re).bind fun r=>(FloatKind.f64.format.add a.im b.im).bind fun i=>some ⟨r,i⟩
def cmul (a b : Cx) : Option Cx :=
 (FloatKind.f64.format.mul a.re b.re).bind fun p=>(FloatKind.f64.format.mul a.im b.im).bind fun q=>(FloatKind.f64.format.sub p q).bind fun r =>
 (FloatKind.f64.format.mul a.re b.im).bind fun s=>(FloatKind.f64.format.mul a.im b.re).bind fun t=>(FloatKind.f64.format.add s t).bind fun i=>some ⟨r,i⟩
theorem GO_leH {P : Program} {g : FuncId} {hA hA' hb : Hp} {vs : List V} {r : V} (hH : HLe hA' hA) (h : GO P g hA vs r hb) : GO P g hA' vs r hb :=
 fun bad w m xs hh hl hr=>h bad w m xs (hH.rep hh) hl hr
section
variable {P : Program} {T : TypeId → Option TI}
theorem ev_cadd {ρ : Operand → V} {dr : Bool} {h : Hp} {c : Nat} {d : Option Tmp} {t t' ty : TypeId} {pos : String} {af : Array Edge} {g : Option (Nat × Bool)} {x y : Operand} (a b : Cx) {r : Cx} (hr : cadd a b = some r) (hx : ρ x = vz a) (hy : ρ y = vz b) :
  evOperF P T dr ρ ⟨d,.binOp .add t x y t',ty,pos,af,g⟩ h c = some (vz r,h,c):=by
 unfold cadd at hr
 simp only [Option.bind_eq_some_iff] at hr
 obtain ⟨r1,h1,r2,h2,h3⟩:=hr
 cases h3
 have h4 : still P (do eqGuard .add t x y (.complex .f64 a.re a.im) (.complex .f64 b.re b.im); binOp .add t (.complex .f64 a.re a.im) (.complex .f64 b.re b.im) : Sem Value) = some (.complex .f64 r1 r2):=by
  have e1 : eqGuard .add t x y (.complex .f64 a.re a.im) (.complex .f64 b.re b.im) = pure ():=rfl
  have e2 : binOp .add t (.complex .f64 a.re a.im) (.complex .f64 b.re b.im) = pure (.complex .f64 r1 r2):=by
   show Op.complexOp .add .f64 a.re a.im b.re b.im = _
   simp [Op.complexOp,Op.Complex.arith,Op.floatArith,h1,h2]
  rw [e1,e2]; rfl
 simp only [evOperF,evBin,hx,hy,toVal,fastBin,h4,Option.map_some]
theorem ev_cmul {ρ : Operand → V} {dr : Bool} {h : Hp} {c : Nat} {d : Option Tmp} {t t' ty : TypeId} {pos : String} {af : Array Edge} {g : Option (Nat × Bool)} {x y : Operand} (a b : Cx) {r : Cx} (hr : cmul a b = some r) (hx : ρ x = vz a) (hy : ρ y = vz b) :
  evOperF P T dr ρ ⟨d,.binOp .mul t x y t',ty,pos,af,g⟩ h c = some (vz r,h,c):=by
 unfold cmul at hr
 simp only [Option.bind_eq_some_iff] at hr
 obtain ⟨p,h1,q,h2,r1,h3,s,h4,u,h5,i,h6,h7⟩:=hr
 cases h7
 have h8 : still P (do eqGuard .mul t x y (.complex .f64 a.re a.im) (.complex .f64 b.re b.im); binOp .mul t (.complex .f64 a.re a.im) (.complex .f64 b.re b.im) : Sem Value) = some (.complex .f64 r1 i):=by
  have e1 : eqGuard .mul t x y (.complex .f64 a.re a.im) (.complex .f64 b.re b.im) = pure ():=rfl
  have e2 : binOp .mul t (.complex .f64 a.re a.im) (.complex .f64 b.re b.im) = pure (.complex .f64 r1 i):=by
   show Op.complexOp .mul .f64 a.re a.im b.re b.im = _
   simp [Op.complexOp,Op.Complex.conv,Op.Complex.product,Op.Complex.mul,Op.Complex.sub,Op.Complex.add,Op.Complex.arith,Op.floatArith,h1,h2,h3,h4,h5,h6]
  rw [e1,e2]; rfl
 simp only [evOperF,evBin,hx,hy,toVal,fastBin,h8,Option.map_some]
end
end Go.Mx
namespace Go.Mx
set_option linter.unusedVariables false
def lov {α : Type} (es : List α) (off : Nat) (xs : List α) : List α:=es.take off ++ xs ++ es.drop (off + xs.length)
def lcopy {α : Type} (l xs : List α) : List α:=lov l 0 (xs.take (min xs.length l.length))
def rcopy {α : Type} (l : List α) (n : Nat) : List α:=lov l n ((l.take n).take (min n (l.length - n)))
theorem lov_length {α : Type} {es xs : List α} {off : Nat} (h : off + xs.length ≤ es.length) : (lov es off xs).length = es.length:=by unfold lov; simp; omega
theorem lcopy_length {α : Type} (l xs : List α) : (lcopy l xs).length = l.length:=lov_length (by simp; omega)
theorem rcopy_length {α : Type} (l : List α) (n : Nat) : (rcopy l n).length = l.length:=by
 unfold rcopy
 rcases Nat.lt_or_ge l.length n with h | h
 ·unfold lov; simp; omega
 ·exact lov_length (by simp; omega)
section
variable {P : Program} {T : TypeId → Option TI} {α : Type}
theorem SE.lov (σ : SE T α) (l : List α) (off : Nat) (xs : List α) : over (σ.F l) off (σ.F xs) = σ.F (lov l off xs):=by
 simp only [over,Go.Mx.lov,σ.hF,List.map_append,List.map_take,List.map_drop,List.length_map]
end
end Go.Mx
namespace Go.Mx
set_option linter.unusedVariables false
set_option linter.unusedSimpArgs false
inductive EC where
 | int (k : IntKind) (a b : Int)
 | bool (a b : Bool)
 | str (a b : ByteArray)
def EC.x : EC → Value
 | .int k a _=>.int k a
 | .bool a _=>.bool a
 | .str a _=>.string a
def EC.y : EC → Value
 | .int k _ b=>.int k b
 | .bool _ b=>.bool b
 | .str _ b=>.string b
def EC.b : EC → Bool
 | .int _ a b=>a == b
 | .bool a b=>a == b
 | .str a b=>bytesEq a b
def EC.fits : EC → TypeDesc → Bool
 | .int _ _ _,.int _=>true
 | .bool _ _,.bool=>true
 | .str _ _,.string=>true
 | _,_=>false
theorem still_bind {α β : Type} (P : Program) (s : Sem α) (k : α → Sem β) : still P (s >>= k) = (still P s).bind fun a=>still P (k a):=by
 show still P (Sem.bind s k) = _
 induction s with
 | pure a=>rfl
 | program f ih=>exact ih P
 | _=>rfl
theorem still_pure {α : Type} (P : Program) (a : α) : still P (pure a : Sem α) = some a:=rfl
theorem still_underlying {P : Program} {t : TypeId} {D : TypeDesc} (h : P.underlying t = some D) : still P (underlying t) = some D:=by
 simp only [underlying,still_bind]
 simp [program,still,h]
 rfl
section
variable {P : Program} {T : TypeId → Option TI}
theorem EC.eq (c : EC) {e : TypeId} {D : TypeDesc} (hu : P.underlying e = some D) (hf : c.fits D = true) (d : Nat) : still P (Op.equalIn (d + 1) e c.x c.y) = some c.b:=by
 cases c <;> cases D <;> simp [EC.fits] at hf <;> simp only [Op.equalIn,still_bind,still_underlying hu,Option.bind_some,EC.x,EC.y,EC.b,if_true,still_pure]
 rw [bytesEq_eq,beq_toListBytes]
variable {ρ : Operand → V} {dr : Bool} {h : Hp} {c : Nat} {d : Option Tmp} {t t' ty : TypeId} {pos : String} {af : Array Edge} {g : Option (Nat × Bool)} {x y : Operand}
end
end Go.Mx
namespace Go.Mx
set_option linter.unusedVariables false
section
variable {P : Program} {T : TypeId → Option TI} {bad : Nat → Prop} {E : Ent} {N : Nat}
variable {ops : Array Oper} {i : Nat} {A : List (Nat × V)} {h : Hp} {c : Nat}
theorem Sgd (hT : TabOk P T) {Q : Exit → SA → Prop} (n : Nat) (ks : List Nat) (dA : List (Nat × V)) (hq : WO P bad E N ops (i + n) ⟨keepA ks (dA ++ A),h,c⟩ Q)
  (hr : runK P T N ops i n ks ⟨A,h,c⟩ = some ⟨keepA ks (dA ++ A),h,c⟩:=by kernel_rfl) (hk : ks.all (Nat.blt · N) = true:=by kernel_rfl) : WO P bad E N ops i ⟨A,h,c⟩ Q:=WO_seg hT n ks _ hr hk hq
theorem Szd (hT : TabOk P T) {Q : Exit → SA → Prop} (n : Nat) (ks : List Nat) (dA : List (Nat × V)) (hq : Q .normal ⟨keepA ks (dA ++ A),h,c⟩)
  (hr : runK P T N ops i n ks ⟨A,h,c⟩ = some ⟨keepA ks (dA ++ A),h,c⟩:=by kernel_rfl) (hk : ks.all (Nat.blt · N) = true:=by kernel_rfl) (hi : Nat.ble ops.size (i + n) = true:=by kernel_rfl) : WO P bad E N ops i ⟨A,h,c⟩ Q:=Sz hT n ks _ hq hr hk hi
theorem Rgd (hT : TabOk P T) {id : Nat} {Q : Exit → SA → Prop} (n : Nat) (ks : List Nat) (dA : List (Nat × V)) (hq : WO P bad E N ops (0 + n) ⟨keepA ks (dA ++ A),h,c⟩ Q)
  (hr : runK P T N ops 0 n ks ⟨A,h,c⟩ = some ⟨keepA ks (dA ++ A),h,c⟩:=by kernel_rfl) (hk : ks.all (Nat.blt · N) = true:=by kernel_rfl) : WA P bad E N (.region id ops false) ⟨A,h,c⟩ Q:=Rg hT n ks _ hq hr hk
theorem Rzd (hT : TabOk P T) {id : Nat} {Q : Exit → SA → Prop} (n : Nat) (ks : List Nat) (dA : List (Nat × V)) (hq : Q .normal ⟨keepA ks (dA ++ A),h,c⟩)
  (hr : runK P T N ops 0 n ks ⟨A,h,c⟩ = some ⟨keepA ks (dA ++ A),h,c⟩:=by kernel_rfl) (hk : ks.all (Nat.blt · N) = true:=by kernel_rfl) (hi : Nat.ble ops.size (0 + n) = true:=by kernel_rfl) : WA P bad E N (.region id ops false) ⟨A,h,c⟩ Q:=Rz hT n ks _ hq hr hk hi
theorem Qgd (hT : TabOk P T) {id : Nat} {y : Code} {Q : Exit → SA → Prop} (n : Nat) (ks : List Nat) (dA : List (Nat × V)) (hq : WO P bad E N ops (0 + n) ⟨keepA ks (dA ++ A),h,c⟩ (thenA (fun s'=>WA P bad E N y s' Q) Q))
  (hr : runK P T N ops 0 n ks ⟨A,h,c⟩ = some ⟨keepA ks (dA ++ A),h,c⟩:=by kernel_rfl) (hk : ks.all (Nat.blt · N) = true:=by kernel_rfl) : WA P bad E N (.seq (.region id ops false) y) ⟨A,h,c⟩ Q:=Qg hT n ks _ hq hr hk
theorem Qzd (hT : TabOk P T) {id : Nat} {y : Code} {Q : Exit → SA → Prop} (n : Nat) (ks : List Nat) (dA : List (Nat × V)) (hq : WA P bad E N y ⟨keepA ks (dA ++ A),h,c⟩ Q)
  (hr : runK P T N ops 0 n ks ⟨A,h,c⟩ = some ⟨keepA ks (dA ++ A),h,c⟩:=by kernel_rfl) (hk : ks.all (Nat.blt · N) = true:=by kernel_rfl) (hi : Nat.ble ops.size (0 + n) = true:=by kernel_rfl) : WA P bad E N (.seq (.region id ops false) y) ⟨A,h,c⟩ Q:=Qz hT n ks _ hq hr hk hi
theorem Sgh (hT : TabOk P T) {Q : Exit → SA → Prop} (n : Nat) (ks : List Nat) (dA : List (Nat × V)) (h' : Hp) (c' : Nat) (hq : WO P bad E N ops (i + n) ⟨keepA ks (dA ++ A),h',c'⟩ Q)
  (hr : runK P T N ops i n ks ⟨A,h,c⟩ = some ⟨keepA ks (dA ++ A),h',c'⟩:=by kernel_rfl) (hk : ks.all (Nat.blt · N) = true:=by kernel_rfl) : WO P bad E N ops i ⟨A,h,c⟩ Q:=WO_seg hT n ks _ hr hk hq
theorem Szh (hT : TabOk P T) {Q : Exit → SA → Prop} (n : Nat) (ks : List Nat) (dA : List (Nat × V)) (h' : Hp) (c' : Nat) (hq : Q .normal ⟨keepA ks (dA ++ A),h',c'⟩)
  (hr : runK P T N ops i n ks ⟨A,h,c⟩ = some ⟨keepA ks (dA ++ A),h',c'⟩:=by kernel_rfl) (hk : ks.all (Nat.blt · N) = true:=by kernel_rfl) (hi : Nat.ble ops.size (i + n) = true:=by kernel_rfl) : WO P bad E N ops i ⟨A,h,c⟩ Q:=Sz hT n ks _ hq hr hk hi
theorem Rgh (hT : TabOk P T) {id : Nat} {Q : Exit → SA → Prop} (n : Nat) (ks : List Nat) (dA : List (Nat × V)) (h' : Hp) (c' : Nat) (hq : WO P bad E N ops (0 + n) ⟨keepA ks (dA ++ A),h',c'⟩ Q)
  (hr : runK P T N ops 0 n ks ⟨A,h,c⟩ = some ⟨keepA ks (dA ++ A),h',c'⟩:=by kernel_rfl) (hk : ks.all (Nat.blt · N) = true:=by kernel_rfl) : WA P bad E N (.region id ops false) ⟨A,h,c⟩ Q:=Rg hT n ks _ hq hr hk
theorem Qgh (hT : TabOk P T) {id : Nat} {y : Code} {Q : Exit → SA → Prop} (n : Nat) (ks : List Nat) (dA : List (Nat × V)) (h' : Hp) (c' : Nat) (hq : WO P bad E N ops (0 + n) ⟨keepA ks (dA ++ A),h',c'⟩ (thenA (fun s'=>WA P bad E N y s' Q) Q))
  (hr : runK P T N ops 0 n ks ⟨A,h,c⟩ = some ⟨keepA ks (dA ++ A),h',c'⟩:=by kernel_rfl) (hk : ks.all (Nat.blt · N) = true:=by kernel_rfl) : WA P bad E N (.seq (.region id ops false) y) ⟨A,h,c⟩ Q:=Qg hT n ks _ hq hr hk
theorem Qzh (hT : TabOk P T) {id : Nat} {y : Code} {Q : Exit → SA → Prop} (n : Nat) (ks : List Nat) (dA : List (Nat × V)) (h' : Hp) (c' : Nat) (hq : WA P bad E N y ⟨keepA ks (dA ++ A),h',c'⟩ Q)
  (hr : runK P T N ops 0 n ks ⟨A,h,c⟩ = some ⟨keepA ks (dA ++ A),h',c'⟩:=by kernel_rfl) (hk : ks.all (Nat.blt · N) = true:=by kernel_rfl) (hi : Nat.ble ops.size (0 + n) = true:=by kernel_rfl) : WA P bad E N (.seq (.region id ops false) y) ⟨A,h,c⟩ Q:=Qz hT n ks _ hq hr hk hi
variable {es rs : List (Nat × List Nat)} {Q : SA → Prop}
theorem Ds (n : Nat) (dA : List (Nat × V)) (dE dR : List (Nat × List Nat)) (hq : WD P T bad N ops (i + n) (es ++ dE) (rs ++ dR) ⟨dA ++ A,h,c⟩ Q) (hs : keysLt N A = true:=by kernel_rfl)
  (hr : runD P T N ops n i (ops.toList.drop i) ⟨A,h,c⟩ es rs = some (⟨dA ++ A,h,c⟩,es ++ dE,rs ++ dR):=by kernel_rfl) : WD P T bad N ops i es rs ⟨A,h,c⟩ Q:=WD_seg n _ _ _ hs hr hq
theorem Dh (n : Nat) (dA : List (Nat × V)) (h' : Hp) (c' : Nat) (dE dR : List (Nat × List Nat)) (hq : WD P T bad N ops (i + n) (es ++ dE) (rs ++ dR) ⟨dA ++ A,h',c'⟩ Q) (hs : keysLt N A = true:=by kernel_rfl)
  (hr : runD P T N ops n i (ops.toList.drop i) ⟨A,h,c⟩ es rs = some (⟨dA ++ A,h',c'⟩,es ++ dE,rs ++ dR):=by kernel_rfl) : WD P T bad N ops i es rs ⟨A,h,c⟩ Q:=WD_seg n _ _ _ hs hr hq
theorem Dt {d : Option Tmp} {v : V} (v' : V) (hq : WD P T bad N ops i es rs ⟨putA A d v',h,c⟩ Q) (hv : v = v':=by kernel_rfl) : WD P T bad N ops i es rs ⟨putA A d v,h,c⟩ Q:=by
 subst hv; exact hq
end
end Go.Mx
namespace Go.Mx
set_option linter.unusedVariables false
section
variable {P : Program} {T : TypeId → Option TI} {bad : Nat → Prop} {E : Ent} {N : Nat} {α : Type}
theorem WO_go' {ops : Array Oper} {i : Nat} {A : List (Nat × V)} {h0 : Hp} {c0 : Nat} {Q : Exit → SA → Prop} {o : Oper} (ho : ops[i]? = some o) (hgd : evGuardA A ops o = some true) {cl : Call} {g : FuncId} (hA hr : Hp) (vs vs' : List V) (E1 E2 : List (Nat × Nat × Nat)) (hB : Hp) (r r' : V) (c2 : Nat)
  (hop : o.op = .call cl) (htg : evTargetA A cl = some (g,vs)) (hen : Enters P g) (hvs : mapO (trV h0 (lookE E1) [] 5) vs = some vs') (hA' : moveH h0 (lookE E1) [] E1 = some hA)
  (hc1 : (E1.all (fun x=>Nat.beq x.2.2 0) && nodupB (E1.map (·.1)) && nodupB (E1.map fun x=>x.2.1) && nodupB (E2.map (·.1)) && nodupB (E2.map fun x=>x.2.1) && Nat.ble c0 c2) = true)
  (hg : GO P g hA vs' r hr) (hr' : trV hr (lookE E2) [] 5 r = some r') (hB' : moveH hr (lookE E2) [] E2 = some hB) (hE2 : E2.all (okE2 h0 hr E1 c0 c2) = true) (hd : okD N o.dst = true)
  (hk : WO P bad E N ops (i + 1) ⟨putA A o.dst r',hB ++ eraseAll h0 (E1.map (·.1)),c2⟩ Q) : WO P bad E N ops i ⟨A,h0,c0⟩ Q :=
 WO_go (s:=⟨A,h0,c0⟩) (ho:=ho) (hgd:=hgd) (hA:=hA) (hr:=hr) (vs:=vs) (vs':=vs') (E1:=E1) (E2:=E2) (hB:=hB) (r:=r) (r':=r') (c2:=c2) (hop:=hop) (htg:=htg) (hen:=hen) (hvs:=hvs) (hA':=hA') (hc1:=hc1) (hg:=hg) (hr':=hr') (hB':=hB') (hE2:=hE2) (hd:=hd) (hk:=hk)
theorem WO_append' (hT : TabOk P T) (σ : SE T α) {ops : Array Oper} {i : Nat} {A : List (Nat × V)} {h0 : Hp} {c0 : Nat} {Q : Exit → SA → Prop} {o : Oper} (hoi : ops[i]? = some o) (hgd : evGuardA A ops o = some true) {d : Nat} {ty : TypeId} {pos : String} {af : Array Edge} {g : Option (Nat × Bool)} {x y : Operand} (b st : Nat) (nl : Bool) (l l2 : List α)
  (ho : o = ⟨some d,.call ⟨.builtin .append,#[x,y],#[σ.t,σ.t]⟩,ty,pos,af,g⟩) (hx : evA A x = .sl b st 0 (σ.F l).length true) (hg : h0.get b = some ⟨st,σ.e,σ.sz,false,nl,σ.F l⟩) (hy : elems h0 (evA A y) = some (σ.F l2))
  (hroom : room σ.i1.bytes l.length l2.length = true) (hd : Nat.blt d N = true)
  (hk : WO P bad E N ops (i + 1) ⟨(d,.sl d c0 0 (σ.F (l ++ l2)).length true) :: A,(h0.erase b).set d ⟨c0,σ.e,σ.sz,false,true,σ.F (l ++ l2)⟩,c0 + 1⟩ Q) : WO P bad E N ops i ⟨A,h0,c0⟩ Q :=
 WO_append (s:=⟨A,h0,c0⟩) (hT:=hT) (σ:=σ) (hoi:=hoi) (hgd:=hgd) (b:=b) (st:=st) (nl:=nl) (l:=l) (l2:=l2) (ho:=ho) (hx:=hx) (hg:=hg) (hy:=hy) (hroom:=hroom) (hd:=hd) (hk:=hk)
theorem WO_clip' (hT : TabOk P T) (σ : SE T α) {ops : Array Oper} {i : Nat} {A : List (Nat × V)} {h0 : Hp} {c0 : Nat} {Q : Exit → SA → Prop} {o : Oper} (hoi : ops[i]? = some o) (hgd : evGuardA A ops o = some true) {d : Option Tmp} {ty : TypeId} {pos : String} {af : Array Edge} {g : Option (Nat × Bool)} {x : Operand} {hi mx : Operand} (b st n : Nat) (tip : Bool) (B : Blk)
  (ho : o = ⟨d,.slice σ.t x none (some hi) (some mx),ty,pos,af,g⟩) (hx : evA A x = .sl b st 0 n tip) (hg : h0.get b = some B) (hs : B.s = st) (hh : evA A hi = .p (.int .i64 n)) (hm : evA A mx = .p (.int .i64 n)) (hd : okD N d = true)
  (hk : WO P bad E N ops (i + 1) ⟨putA A d (.sl b st 0 n false),h0,c0⟩ Q) : WO P bad E N ops i ⟨A,h0,c0⟩ Q :=
 WO_clip (s:=⟨A,h0,c0⟩) (hT:=hT) (σ:=σ) (hoi:=hoi) (hgd:=hgd) (b:=b) (st:=st) (n:=n) (tip:=tip) (B:=B) (ho:=ho) (hx:=hx) (hg:=hg) (hs:=hs) (hh:=hh) (hm:=hm) (hd:=hd) (hk:=hk)
theorem WO_isnil' (hT : TabOk P T) (σ : SE T α) {ops : Array Oper} {i : Nat} {A : List (Nat × V)} {h0 : Hp} {c0 : Nat} {Q : Exit → SA → Prop} {o : Oper} (hoi : ops[i]? = some o) (hgd : evGuardA A ops o = some true) {d : Option Tmp} {t' ty : TypeId} {pos : String} {af : Array Edge} {g : Option (Nat × Bool)} {x : Operand} (k : SC) (l : List α)
  (ho : o = ⟨d,.binOp .eql σ.t x (.const (.slice none 0 0)) t',ty,pos,af,g⟩) (hx : evA A x = .ps k (σ.F l)) (hd : okD N d = true)
  (hk : ∀ b : Bool,(b = true → l = []) → WO P bad E N ops (i + 1) ⟨putA A d (.p (.bool b)),h0,c0⟩ Q) : WO P bad E N ops i ⟨A,h0,c0⟩ Q :=
 WO_isnil (s:=⟨A,h0,c0⟩) (hT:=hT) (σ:=σ) (hoi:=hoi) (hgd:=hgd) (k:=k) (l:=l) (ho:=ho) (hx:=hx) (hd:=hd) (hk:=hk)
theorem WO_ptb' {ops : Array Oper} {i : Nat} {A : List (Nat × V)} {h0 : Hp} {c0 : Nat} {Q : Exit → SA → Prop} {o : Oper} (ho : ops[i]? = some o) (hg : evGuardA A ops o = some true) {cl : Call} {g : FuncId} (bor : List Nat) (vs vs' : List V) (r : V) (hop : o.op = .call cl) (htg : evTargetA A cl = some (g,vs)) (hen : Enters P g)
  (ht : mapO (trV h0 (fun _=>none) bor 5) vs = some vs') (hpu : vs'.all (pur 6) = true) (hs : scal 4 r = true) (hc : PT P g vs' r) (hd : okD N o.dst = true) (hk : WO P bad E N ops (i + 1) ⟨putA A o.dst r,h0,c0⟩ Q) : WO P bad E N ops i ⟨A,h0,c0⟩ Q :=
 WO_ptb (s:=⟨A,h0,c0⟩) (ho:=ho) (hg:=hg) (bor:=bor) (vs:=vs) (vs':=vs') (r:=r) (hop:=hop) (htg:=htg) (hen:=hen) (ht:=ht) (hpu:=hpu) (hs:=hs) (hc:=hc) (hd:=hd) (hk:=hk)
theorem One' (hT : TabOk P T) {ops : Array Oper} {i : Nat} {A : List (Nat × V)} {h0 : Hp} {c0 : Nat} {Q : Exit → SA → Prop} {o : Oper} (ho : ops[i]? = some o) {v : V} {h' : Hp} {c' : Nat} (he : evOperF P T false (evA A) o h0 c0 = some (v,h',c')) (hk : WO P bad E N ops (i + 1) ⟨putA A o.dst v,h',c'⟩ Q)
  (hg : evGuardA A ops o = some true:=by kernel_rfl) (hd : okD N o.dst = true:=by kernel_rfl) : WO P bad E N ops i ⟨A,h0,c0⟩ Q :=
 One (s:=⟨A,h0,c0⟩) (hT:=hT) (ho:=ho) (he:=he) (hk:=hk) (hg:=hg) (hd:=hd)
theorem Pt' {ops : Array Oper} {i : Nat} {A : List (Nat × V)} {h0 : Hp} {c0 : Nat} {Q : Exit → SA → Prop} {o : Oper} {cl : Call} {g : FuncId} {vs : List V} {r : V} (hen : Enters P g) (hc : PT P g vs r) (hk : WO P bad E N ops (i + 1) ⟨putA A o.dst r,h0,c0⟩ Q)
  (ho : ops[i]? = some o:=by rfl) (hop : o.op = .call cl:=by rfl) (hg : evGuardA A ops o = some true:=by kernel_rfl) (htg : evTargetA A cl = some (g,vs):=by kernel_rfl) (hpu : vs.all (pur 6) = true:=by kernel_rfl)
  (hd : okD N o.dst = true:=by kernel_rfl) : WO P bad E N ops i ⟨A,h0,c0⟩ Q :=
 Pt (s:=⟨A,h0,c0⟩) (hen:=hen) (hc:=hc) (hk:=hk) (ho:=ho) (hop:=hop) (hg:=hg) (htg:=htg) (hpu:=hpu) (hd:=hd)
theorem WD_loc' {ops : Array Oper} {i : Nat} {es rs : List (Nat × List Nat)} {A : List (Nat × V)} {h0 : Hp} {c0 : Nat} {Q : SA → Prop} {o : Oper} (ho : ops[i]? = some o) (hs : keysLt N A = true) (hg : evGuardA A ops o = some true) (hl : localOp o.op = true) {v : V} {h' : Hp} {c' : Nat}
  (he : evOperF P T true (evA A) o h0 c0 = some (v,h',c')) (hd : okD N o.dst = true) (hk : WD P T bad N ops (i + 1) es (rs ++ entryL i (rdA A o.op)) ⟨putA A o.dst v,h0,c0⟩ Q) : WD P T bad N ops i es rs ⟨A,h0,c0⟩ Q :=
 WD_loc (s:=⟨A,h0,c0⟩) (ho:=ho) (hs:=hs) (hg:=hg) (hl:=hl) (he:=he) (hd:=hd) (hk:=hk)
theorem WD_wr' {ops : Array Oper} {i : Nat} {es rs : List (Nat × List Nat)} {A : List (Nat × V)} {h0 : Hp} {c0 : Nat} {Q : SA → Prop} {o : Oper} (ho : ops[i]? = some o) (hs : keysLt N A = true) (hg : evGuardA A ops o = some true) (hl : writesOp o.op = true) {v : V} {h' : Hp} {c' : Nat}
  (he : evOperF P T true (evA A) o h0 c0 = some (v,h',c')) (hd : okD N o.dst = true) (hk : WD P T bad N ops (i + 1) (es ++ [(i,wrA A o h0 h')]) rs ⟨putA A o.dst v,h',c'⟩ Q) : WD P T bad N ops i es rs ⟨A,h0,c0⟩ Q :=
 WD_wr (s:=⟨A,h0,c0⟩) (ho:=ho) (hs:=hs) (hg:=hg) (hl:=hl) (he:=he) (hd:=hd) (hk:=hk)
theorem WD_pt' {ops : Array Oper} {i : Nat} {es rs : List (Nat × List Nat)} {A : List (Nat × V)} {h0 : Hp} {c0 : Nat} {Q : SA → Prop} {o : Oper} (ho : ops[i]? = some o) (hs : keysLt N A = true) (hg : evGuardA A ops o = some true) {cl : Call} {g : FuncId} (vs : List V) (r : V) (hop : o.op = .call cl) (htg : evTargetA A cl = some (g,vs)) (hen : Enters P g)
  (hpu : vs.all (pur 6) = true) (hc : PT P g vs r) (hd : okD N o.dst = true) (hk : WD P T bad N ops (i + 1) es rs ⟨putA A o.dst r,h0,c0⟩ Q) : WD P T bad N ops i es rs ⟨A,h0,c0⟩ Q :=
 WD_pt (s:=⟨A,h0,c0⟩) (ho:=ho) (hs:=hs) (hg:=hg) (vs:=vs) (r:=r) (hop:=hop) (htg:=htg) (hen:=hen) (hpu:=hpu) (hc:=hc) (hd:=hd) (hk:=hk)
theorem WD_go' {ops : Array Oper} {i : Nat} {es rs : List (Nat × List Nat)} {A : List (Nat × V)} {h0 : Hp} {c0 : Nat} {Q : SA → Prop} {o : Oper} (ho : ops[i]? = some o) (hs : keysLt N A = true) (hgd : evGuardA A ops o = some true) {cl : Call} {g : FuncId} (hA hr : Hp) (vs vs' : List V) (E1 E2 : List (Nat × Nat × Nat)) (hB : Hp) (r r' : V) (c2 : Nat)
  (hop : o.op = .call cl) (htg : evTargetA A cl = some (g,vs)) (hen : Enters P g) (hvs : mapO (trV h0 (lookE E1) [] 5) vs = some vs') (hA' : moveH h0 (lookE E1) [] E1 = some hA)
  (hc1 : (E1.all (fun x=>Nat.beq x.2.2 0) && nodupB (E1.map (·.1)) && nodupB (E1.map fun x=>x.2.1) && nodupB (E2.map (·.1)) && nodupB (E2.map fun x=>x.2.1) && Nat.ble c0 c2) = true)
  (hg : GO P g hA vs' r hr) (hr' : trV hr (lookE E2) [] 5 r = some r') (hB' : moveH hr (lookE E2) [] E2 = some hB) (hE2 : E2.all (okE2 h0 hr E1 c0 c2) = true) (hd : okD N o.dst = true)
  (hk : WD P T bad N ops (i + 1) (es ++ [(i,(E2.map fun x=>x.2.1) ++ E1.map (·.1))]) rs ⟨putA A o.dst r',hB ++ eraseAll h0 (E1.map (·.1)),c2⟩ Q) : WD P T bad N ops i es rs ⟨A,h0,c0⟩ Q :=
 WD_go (s:=⟨A,h0,c0⟩) (ho:=ho) (hs:=hs) (hgd:=hgd) (hA:=hA) (hr:=hr) (vs:=vs) (vs':=vs') (E1:=E1) (E2:=E2) (hB:=hB) (r:=r) (r':=r') (c2:=c2) (hop:=hop) (htg:=htg) (hen:=hen) (hvs:=hvs) (hA':=hA') (hc1:=hc1) (hg:=hg) (hr':=hr') (hB':=hB') (hE2:=hE2) (hd:=hd) (hk:=hk)
end
end Go.Mx
