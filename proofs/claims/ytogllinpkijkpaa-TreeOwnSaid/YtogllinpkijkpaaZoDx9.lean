/-
  Borrowed variables; a slice held against nil; rounds one by one; strings, floats, shifts.
-/
import Derived.Test.YtogllinpkijkpaaZoDx3
import Derived.KernelRfl
namespace Go.Mx
set_option linter.unusedVariables false
set_option linter.unusedSimpArgs false
def enumA : Nat → List V → List (Nat × V)
 | _,[]=>[]
 | k,v :: r=>(k,v) :: enumA (k + 1) r
theorem enumA_get : ∀ (vs : List V) (j k : Nat),lkA (enumA j vs) k = if j ≤ k then vs.getD (k - j) .undef else .undef
 | [],j,k=>by simp [enumA,lkA]
 | v :: r,j,k=>by
  rw [enumA,lkA_cons,enumA_get r]
  by_cases h1 : j = k
  ·subst h1; simp
  ·rw [if_neg h1]
   by_cases h2 : j ≤ k
   ·rw [if_pos h2,if_pos (by omega),show k - j = k - (j + 1) + 1 by omega]; simp
   ·rw [if_neg h2,if_neg (by omega)]
theorem enumA_lt : ∀ (vs : List V) (j N : Nat),j + vs.length ≤ N → keysLt N (enumA j vs) = true
 | [],_,_,_=>rfl
 | v :: r,j,N,h=>by
  simp only [List.length_cons] at h
  simp only [enumA,keysLt,Bool.and_eq_true]
  exact ⟨by rw [Nat.blt_eq]; omega,enumA_lt r (j + 1) N (by omega)⟩
def EndsA (Q : SA → Prop) : Exit → SA → Prop
 | .normal,s=>Q s
 | .ret,s=>Q s
 | _,_=>False
section
variable {P : Program} {T : TypeId → Option TI} {bad : Nat → Prop} {E : Ent} {N : Nat}
theorem calls_bodyA {g : FuncId} {fn : Func} {code : Code} (hf : P.funcs[g]? = some fn) (hb : fn.body = some code) {w : World} {m : MM} {c : Nat} {h : Hp} {vs : List V} {xs : Array Value} (hh : HeapRep bad h w m c) (hl : vs.length = xs.size)
  (hr : ∀ i (h1 : i < vs.length) (h2 : i < xs.size),Rep bad w m c vs[i] xs[i]) (hn : Nat.ble vs.length fn.ntmps = true) {Q : SA → Prop} (hc : WA P bad ⟨w,m,c⟩ fn.ntmps code ⟨enumA 0 vs,h,c⟩ (EndsA Q)) {R : Ending → World → Prop}
  (hR : ∀ s a' w' m',Q s → SRA bad fn.ntmps s a' w' m' → Le w m c w' m' s.c → ∃ x,(results fn a'.tmps).run P w' = .ok x w' ∧ R (.returned x) w') : Calls P g xs w R:=by
 replace hn : vs.length ≤ fn.ntmps:=Nat.le_of_ble_eq_true hn
 have hk:=enumA_lt vs 0 fn.ntmps (by omega)
 refine calls_of_wp hf hb (wp_mono (hc _ w m ⟨hk,⟨⟨?_,fun i=>?_⟩,hh,rfl⟩⟩ (Le.refl _ _ _)) ?_)
 ·simp [SA.st,mkT_length]; omega
 ·have:=(start_rep (w:=w) (m:=m) (c:=c) hl hr fn.ntmps).2 i
  simp only [SA.st]
  rw [mkT_getD hk,enumA_get]
  simp only [Nat.zero_le,if_true,Nat.sub_zero]
  rw [List.getD_eq_getElem?_getD]
  by_cases h1 : i < vs.length
  ·rw [List.getD_eq_getElem?_getD,List.getElem?_append_left h1] at this
   exact this
  ·rw [List.getElem?_eq_none (by omega)]
   exact .pure (.undef _)
 ·rintro e a' w' ⟨s',m',h1,h2,h3⟩
  cases e <;> simp only [EndsA] at h1
  ·obtain ⟨x,h4,h5⟩:=hR s' a' w' m' h1 h2 h3
   exact ⟨h2.2.d,x,h4,h5⟩
  ·obtain ⟨x,h4,h5⟩:=hR s' a' w' m' h1 h2 h3
   exact ⟨h2.2.d,x,h4,h5⟩
theorem PT_bodyA (hT : TabOk P T) {g : FuncId} {fn : Func} {code : Code} (hf : P.funcs[g]? = some fn) (hb : fn.body = some code) {vs : List V} {r : V} (hn : Nat.ble vs.length fn.ntmps = true)
  (hc : ∀ bad w,WA P bad ⟨w,noM,0⟩ fn.ntmps code ⟨enumA 0 vs,[],0⟩ (EndsA fun s=>evResults T (s.st fn.ntmps) fn.results.toList = some r ∧ pur 6 r = true)) : PT P g vs r:=by
 intro bad w xs hbad hl hr
 refine calls_bodyA hf hb (heap_nil hbad) hl (fun i h1 h2=>.pure (hr i h1 h2)) hn (hc bad w) ?_
 rintro s a' w' m' ⟨h1,h2⟩ hs hle
 obtain ⟨x,h3,h4⟩:=evResults_sound hT hs.2 h1
 refine ⟨x,h3,x,rfl,(pur_sound 6 h2 h4).mono fun β hβ=>⟨⟨hβ.1,hβ.2.1,fun b l h=>by simp [noM] at h⟩,fun _=>rfl⟩,?_⟩
 exact ⟨Nat.le_refl _,fun b l h=>by simp [noM] at h,fun β hβ _=>hle.keep β hβ fun b l h=>by simp [noM] at h,hle.size,hle.os,hle.output,hle.tape,fun b l β h=>by simp [noM] at h⟩
def GO (P : Program) (g : FuncId) (hA : Hp) (vs : List V) (r : V) (hr : Hp) : Prop:=∀ bad,CallsA P bad hA 1 g vs r hr 2
theorem GO_bodyA (hT : TabOk P T) {g : FuncId} {fn : Func} {code : Code} (hf : P.funcs[g]? = some fn) (hb : fn.body = some code) {hA hr : Hp} {vs : List V} {r : V} (ds : List Nat) (hn : Nat.ble vs.length fn.ntmps = true)
  (hc : ∀ bad w m,WA P bad ⟨w,m,1⟩ fn.ntmps code ⟨enumA 0 vs,hA,1⟩ (EndsA fun s=>evResults T (s.st fn.ntmps) fn.results.toList = some r ∧ eraseAll s.h ds = hr ∧ s.c = 2)) : GO P g hA vs r hr:=by
 intro bad w m xs hh hl hrep
 refine calls_bodyA hf hb hh hl hrep hn (hc bad w m) ?_
 rintro s a' w' m' ⟨h1,h5,h6⟩ hs hle
 obtain ⟨x,h3,h4⟩:=evResults_sound hT hs.2 h1
 have h7:=hs.2.h
 simp only [SA.st] at h4 h7
 rw [h6] at h4 h7 hle
 obtain ⟨k1,k2⟩:=eraseAll_sound ds h7
 rw [h5] at k2
 exact ⟨x,h3,x,_,rfl,h4.mono k1,hle.trans k1,k2⟩
end
structure TE (α : Type) where
 f : α → V
 F : List α → List V
 hF : ∀ l,F l = l.map f
 sz : Nat
 hs : ∀ a,(f a).cells.length = sz
 h1 : ∀ a,(f a).cells.all V.one = true
structure SE (T : TypeId → Option TI) (α : Type) extends TE α where
 t : TypeId
 e : TypeId
 i0 : TI
 i1 : TI
 ht : T t = some i0
 hd : i0.desc = .slice e
 he : T e = some i1
 hz : i1.size = sz
 hp : 0 < sz
 hb : 0 < i1.bytes
theorem SE.row {T : TypeId → Option TI} {α : Type} (σ : SE T α) : ∃ sz bt z,T σ.t = some ⟨sz,bt,.slice σ.e,z⟩:=by
 have h1:=σ.ht
 have h2:=σ.hd
 revert h1 h2
 generalize σ.i0 = i
 intro h1 h2
 obtain ⟨sz,bt,ds,z⟩:=i
 simp only at h2
 subst h2
 exact ⟨sz,bt,z,h1⟩
theorem TE.len {α : Type} (τ : TE α) (l : List α) : (τ.F l).length = l.length:=by rw [τ.hF,List.length_map]
def idx {α : Type} (l : List α) (n : Int) : Option α:=bif decide (n < 0) then none else l[n.toNat]?
theorem idx_some {α : Type} {l : List α} {n : Int} {a : α} (h : idx l n = some a) : 0 ≤ n ∧ l[n.toNat]? = some a:=by
 unfold idx at h
 by_cases hn : n < 0
 ·simp [hn] at h
 ·simp only [hn,decide_false,cond_false] at h
  exact ⟨by omega,h⟩
def sub {α : Type} (l : List α) (a b : Int) : Option (List α):=bif decide (0 ≤ a) && decide (a ≤ b) && decide (b ≤ l.length) then some ((l.drop a.toNat).take (b.toNat - a.toNat)) else none
theorem sub_some {α : Type} {l l' : List α} {a b : Int} (h : sub l a b = some l') : 0 ≤ a ∧ a ≤ b ∧ b ≤ l.length ∧ l' = (l.drop a.toNat).take (b.toNat - a.toNat):=by
 unfold sub at h
 cases hc : decide (0 ≤ a) && decide (a ≤ b) && decide (b ≤ l.length) with
 | false=>rw [hc] at h; cases h
 | true =>
  rw [hc] at h
  simp only [Bool.and_eq_true,decide_eq_true_eq] at hc
  simp only [cond_true,Option.some.injEq] at h
  exact ⟨hc.1.1,hc.1.2,hc.2,h.symm⟩
section
variable {P : Program} {T : TypeId → Option TI} {bad : Nat → Prop} {E : Ent} {N : Nat} {α : Type}
theorem ev_len (σ : SE T α) {ρ : Operand → V} {dr : Bool} {h : Hp} {c : Nat} {d : Option Tmp} {ty : TypeId} {pos : String} {af : Array Edge} {g : Option (Nat × Bool)} {x : Operand} (k : SC) (l : List α) (hx : ρ x = .ps k (σ.F l)) :
  evOperF P T dr ρ ⟨d,.call ⟨.builtin .len,#[x],#[σ.t]⟩,ty,pos,af,g⟩ h c = some (.p (.int .i64 l.length),h,c):=by
 obtain ⟨sz,bt,z,h1⟩:=σ.row
 simp [evOperF,evLen,h1,hx,lenV,σ.len,goInt]
theorem ev_len_own (σ : SE T α) {ρ : Operand → V} {dr : Bool} {h : Hp} {c : Nat} {d : Option Tmp} {ty : TypeId} {pos : String} {af : Array Edge} {g : Option (Nat × Bool)} {x : Operand} (b s : Nat) (tip : Bool) (B : Blk) (l : List α)
  (hx : ρ x = .sl b s 0 (σ.F l).length tip) (hg : h.get b = some B) (hs : B.s = s) :
  evOperF P T dr ρ ⟨d,.call ⟨.builtin .len,#[x],#[σ.t]⟩,ty,pos,af,g⟩ h c = some (.p (.int .i64 l.length),h,c):=by
 obtain ⟨sz,bt,z,h1⟩:=σ.row
 simp [evOperF,evLen,h1,hx,lenV,σ.len,goInt,hg,hs]
theorem ev_index (σ : SE T α) {ρ : Operand → V} {dr : Bool} {h : Hp} {c : Nat} {d : Option Tmp} {ty : TypeId} {pos : String} {af : Array Edge} {g : Option (Nat × Bool)} {x ix : Operand} (k : SC) (l : List α) (kd : IntKind) (n : Int) {a : α}
  (ha : idx l n = some a) (hk : k ≠ .nil) (hx : ρ x = .ps k (σ.F l)) (hi : ρ ix = .p (.int kd n)) :
  evOperF P T dr ρ ⟨d,.indexAddr σ.t x ix,ty,pos,af,g⟩ h c = some (.ref (σ.f a) 0,h,c):=by
 obtain ⟨hn,ha'⟩:=idx_some ha
 obtain ⟨sz,bt,z,h1⟩:=σ.row
 have h3 : (σ.F l)[n.toNat]? = some (σ.f a):=by rw [σ.hF,List.getElem?_map,ha']; rfl
 simp [evOperF,evIndexAddr,h1,hx,hi,asI,show ¬ n < 0 by omega,σ.he,h3,σ.hs,σ.hz,σ.hp,hk]
theorem ev_index_own (σ : SE T α) {ρ : Operand → V} {dr : Bool} {h : Hp} {c : Nat} {d : Option Tmp} {ty : TypeId} {pos : String} {af : Array Edge} {g : Option (Nat × Bool)} {x ix : Operand} (b s : Nat) (tip : Bool) (B : Blk) (l : List α) (kd : IntKind) (n : Int) {a : α}
  (ha : idx l n = some a) (hx : ρ x = .sl b s 0 (σ.F l).length tip) (hi : ρ ix = .p (.int kd n)) (hg : h.get b = some B) (hs : B.s = s) (hw : B.w = σ.sz) :
  evOperF P T dr ρ ⟨d,.indexAddr σ.t x ix,ty,pos,af,g⟩ h c = some (.box b s n.toNat 0,h,c):=by
 obtain ⟨hn,ha'⟩:=idx_some ha
 obtain ⟨sz,bt,z,h1⟩:=σ.row
 have h3 : n.toNat < l.length:=(List.getElem?_eq_some_iff.1 ha').1
 simp [evOperF,evIndexAddr,h1,hx,hi,asI,show ¬ n < 0 by omega,σ.he,σ.hz,hg,hs,hw,σ.len,h3]
theorem evLoad_row (σ : SE T α) {h : Hp} {t : TypeId} (b s : Nat) (B : Blk) (l : List α) (n : Nat) (a : α) (ha : l[n]? = some a) (off : Nat) (hg : h.get b = some B) (hs : B.s = s) (hes : B.es = σ.F l) :
  evLoad T h t (.box b s n off) = evLoad T h t (.ref (σ.f a) off):=by
 have h3 : (σ.F l)[n]? = some (σ.f a):=by rw [σ.hF,List.getElem?_map,ha]; rfl
 simp only [evLoad,elemAt,hg,hs,hes,h3,if_true,Option.map_some]
theorem ev_load_row (σ : SE T α) {ρ : Operand → V} {dr : Bool} {h : Hp} {c : Nat} {d : Option Tmp} {t ty : TypeId} {pos : String} {af : Array Edge} {g : Option (Nat × Bool)} {x : Operand} (b s : Nat) (B : Blk) (l : List α) (n off : Nat) (a : α) (v : V)
  (ha : l[n]? = some a) (hx : ρ x = .box b s n off) (hg : h.get b = some B) (hs : B.s = s) (hes : B.es = σ.F l) (hv : evLoad T [] t (.ref (σ.f a) off) = some v) :
  evOperF P T dr ρ ⟨d,.load t x,ty,pos,af,g⟩ h c = some (v,h,c):=by
 have : evLoad T h t (.ref (σ.f a) off) = evLoad T [] t (.ref (σ.f a) off):=by simp only [evLoad,elemAt]
 simp only [evOperF,hx,evLoad_row σ b s B l n a ha off hg hs hes,this,hv,Option.map_some]
theorem ev_slice (σ : SE T α) {ρ : Operand → V} {dr : Bool} {h : Hp} {c : Nat} {d : Option Tmp} {ty : TypeId} {pos : String} {af : Array Edge} {g : Option (Nat × Bool)} {x : Operand} {lo hi mx : Option Operand} (k : SC) (l : List α) (a b : Int) (q : Option Int) (l' : List α) (k' : SC)
  (hl' : sub l a b = some l') (hx : ρ x = .ps k (σ.F l)) (hlo : intOr 0 (lo.map ρ) = some a) (hhi : intOr l.length (hi.map ρ) = some b) (hmx : intOpt (mx.map ρ) = some q) (hq : ∀ y ∈ q,y = b) (hmh : (mx.isSome && hi.isNone) = false)
  (hk : (match k with | .nil=>(.nil : SC) | .opt | .fopt=>if mx.isSome then .fopt else .opt | _=>if mx.isSome then .full else .any) = k') (hk0 : k ≠ .nil) :
  evOperF P T dr ρ ⟨d,.slice σ.t x lo hi mx,ty,pos,af,g⟩ h c = some (.ps k' (σ.F l'),h,c):=by
 obtain ⟨h1,h2,h3,rfl⟩:=sub_some hl'
 obtain ⟨sz,bt,z,e1⟩:=σ.row
 have e3 : (σ.F l).all (fun v=>v.cells.length == σ.i1.size) = true:=by
  rw [σ.hF,List.all_eq_true]
  intro v hv
  obtain ⟨a,_,rfl⟩:=List.mem_map.1 hv
  simp [σ.hs,σ.hz]
 have e4 : ((σ.F l).drop a.toNat).take (b.toNat - a.toNat) = σ.F ((l.drop a.toNat).take (b.toNat - a.toNat)):=by
  rw [σ.hF,σ.hF,List.map_take,List.map_drop]
 have e6 : q.isSome = mx.isSome:=by
  cases mx with
  | none =>
   simp only [Option.map_none,intOpt,Option.some.injEq] at hmx
   subst hmx; rfl
  | some y =>
   simp only [Option.map_some,intOpt,Option.map_eq_some_iff] at hmx
   obtain ⟨_,_,rfl⟩:=hmx; rfl
 simp only [evOperF,hmh,Bool.false_eq_true,if_false,evSlice,e1,σ.he,hx,lenV,σ.len,hlo,hhi,hmx]
 rw [if_pos ⟨h1,h2,h3,hq⟩]
 simp only [e3,if_true,e4,e6]
 subst hk
 cases k <;> first | exact absurd rfl hk0 | (cases hm : mx.isSome <;> simp)
theorem ev_indexA {ρ : Operand → V} {dr : Bool} {h : Hp} {c : Nat} {d : Option Tmp} {t ty : TypeId} {pos : String} {af : Array Edge} {g : Option (Nat × Bool)} {x ix : Operand} (f : α → V) (l : List α) (kd : IntKind) (n : Int) {a : α} (i0 i1 : TI) (e : TypeId)
  (ha : idx l n = some a) (hx : ρ x = .agg (l.map f)) (hi : ρ ix = .p (.int kd n)) (h0 : T t = some i0) (hd : i0.desc = .array l.length e) (he : T e = some i1) (hz : i1.size = 1) (hag : isAggD i1.desc = false) :
  evOperF P T dr ρ ⟨d,.index t x ix,ty,pos,af,g⟩ h c = some (f a,h,c):=by
 obtain ⟨hn,ha'⟩:=idx_some ha
 obtain ⟨sz,bt,ds,z⟩:=i0
 simp only at hd
 subst hd
 have h3 : n.toNat < l.length:=(List.getElem?_eq_some_iff.1 ha').1
 simp [evOperF,evIndex,h0,hx,hi,asI,show ¬ n < 0 by omega,he,hz,partV,hag,h3,ha']
 rw [List.getElem?_eq_getElem h3] at ha'
 have : l[n.toNat] = a:=by simpa using ha'
 rw [this]
theorem ev_rem {ρ : Operand → V} {dr : Bool} {h : Hp} {c : Nat} {d : Option Tmp} {t t' ty : TypeId} {pos : String} {af : Array Edge} {g : Option (Nat × Bool)} {x y : Operand} (k : IntKind) (a b : Int) (hb : (b == 0) = false) (hx : ρ x = .p (.int k a)) (hy : ρ y = .p (.int k b)) :
  evOperF P T dr ρ ⟨d,.binOp .rem t x y t',ty,pos,af,g⟩ h c = some (.p (.int k (a.tmod b)),h,c):=by
 have : b ≠ 0:=by simpa using hb
 simp [evOperF,evBin,hx,hy,toVal,fastBin,this]
theorem WO_one (hT : TabOk P T) {ops : Array Oper} {i : Nat} {s : SA} {Q : Exit → SA → Prop} {o : Oper} (ho : ops[i]? = some o) (hg : evGuardA s.A ops o = some true) {v : V} {h' : Hp} {c' : Nat} (he : evOperF P T false (evA s.A) o s.h s.c = some (v,h',c')) (hd : okD N o.dst = true)
  (hk : WO P bad E N ops (i + 1) ⟨putA s.A o.dst v,h',c'⟩ Q) : WO P bad E N ops i s Q :=
 WO_eff _ ho hg (Eff_op hT he hd) fun s' e=>by subst e; exact hk
theorem WO_pt {ops : Array Oper} {i : Nat} {s : SA} {Q : Exit → SA → Prop} {o : Oper} (ho : ops[i]? = some o) (hg : evGuardA s.A ops o = some true) {cl : Call} {g : FuncId} (vs : List V) (r : V) (hop : o.op = .call cl) (htg : evTargetA s.A cl = some (g,vs)) (hen : Enters P g) (hpu : vs.all (pur 6) = true)
  (hc : PT P g vs r) (hd : okD N o.dst = true) (hk : WO P bad E N ops (i + 1) ⟨putA s.A o.dst r,s.h,s.c⟩ Q) : WO P bad E N ops i s Q :=
 WO_eff _ ho hg (Eff_pt hop htg hen hpu hc hd) fun s' e=>by subst e; exact hk
end
end Go.Mx
namespace Go.Mx
set_option linter.unusedVariables false
set_option linter.unusedSimpArgs false
section
variable {P : Program} {T : TypeId → Option TI} {bad : Nat → Prop} {E : Ent} {N : Nat} {α : Type} {w : World} {m : MM} {c : Nat}
theorem HeapRep.newNil {h : Hp} (hh : HeapRep bad h w m c) (b : Nat) (e : TypeId) (wd : Nat) :
  Le w m c w (upd m b (some ⟨c,e,wd,0,none⟩)) (c + 1) ∧ HeapRep bad (h.set b ⟨c,e,wd,false,true,[]⟩) w (upd m b (some ⟨c,e,wd,0,none⟩)) (c + 1):=by
 have hle : Le w m c w (upd m b (some ⟨c,e,wd,0,none⟩)) (c + 1):=by
  refine ⟨by omega,fun j l hj hlt=>?_,fun _ _ _=>rfl,Nat.le_refl _,rfl,rfl,rfl,fun j l β hj hβ=>?_⟩
  ·unfold upd at hj; split at hj
   ·cases hj; exact absurd hlt (Nat.lt_irrefl _)
   ·exact hj
  ·unfold upd at hj; split at hj
   ·cases hj; cases hβ
   ·exact .inr ⟨j,l,hj,hβ⟩
 refine ⟨hle,fun j B hj=>?_,fun j hj=>?_,hh.lt,fun j l β hj hβ=>?_,fun j j' l l' β hj hj' hβ hβ'=>?_⟩
 ·rw [Hp.get_set] at hj
  split at hj
  ·rename_i e'; subst e'; cases hj
   exact ⟨⟨c,e,wd,0,none⟩,by simp only [upd,if_true],rfl,rfl,rfl,Nat.lt_succ_self _,.inl ⟨rfl,rfl,rfl⟩⟩
  ·rename_i hne
   obtain ⟨l,h1,h2⟩:=hh.get j B hj
   exact ⟨l,by simp only [upd,if_neg (Ne.symm hne)]; exact h1,h2.mono hle fun _ _=>rfl⟩
 ·rw [Hp.get_set] at hj
  split at hj
  ·cases hj
  ·rename_i hne; simp only [upd,if_neg (Ne.symm hne)]; exact hh.non j hj
 ·unfold upd at hj; split at hj
  ·cases hj; cases hβ
  ·exact hh.nb j l β hj hβ
 ·unfold upd at hj hj'
  split at hj
  ·cases hj; cases hβ
  ·split at hj'
   ·cases hj'; cases hβ'
   ·exact hh.inj j j' l l' β hj hj' hβ hβ'
theorem HeapRep.may {h : Hp} (d : Nat) {s : Nat} {e : TypeId} {wd : Nat} {var nl : Bool} {es : List V} (hh : HeapRep bad (h.set d ⟨s,e,wd,var,nl,es⟩) w m c) : HeapRep bad (h.set d ⟨s,e,wd,var,true,es⟩) w m c:=by
 refine ⟨fun b B hb=>?_,fun b hb=>hh.non b ?_,hh.lt,hh.nb,hh.inj⟩
 ·rw [Hp.get_set] at hb
  split at hb
  ·rename_i e'; subst e'; cases hb
   obtain ⟨l,h1,h2,h3,h4,h5,h6⟩:=hh.get d ⟨s,e,wd,var,nl,es⟩ (by rw [Hp.get_set,if_pos rfl])
   refine ⟨l,h1,h2,h3,h4,h5,?_⟩
   rcases h6 with ⟨_,h7,h8⟩ | h6
   ·exact .inl ⟨rfl,h7,h8⟩
   ·exact .inr h6
  ·rename_i hne
   exact hh.get b B (by rw [Hp.get_set,if_neg hne]; exact hb)
 ·rw [Hp.get_set] at hb ⊢
  split at hb
  ·cases hb
  ·rename_i hne; rw [if_neg hne]; exact hb
theorem row_anew {h : Hp} (hh : HeapRep bad h w m c) {b s n : Nat} {B : Blk} (hg : h.get b = some B) (hs : B.s = s) (hv : B.var = false) (hn : n = B.es.length) {x : Value} (hr : Rep bad w m c (.sl b s 0 n true) x) (d : Nat) :
  ∃ m',Le w m c w m' (c + 1) ∧ HeapRep bad ((h.erase b).set d ⟨c,B.T,B.w,false,true,B.es⟩) w m' (c + 1) ∧ Rep bad w m' (c + 1) (.sl d c 0 n true) x:=by
 obtain ⟨l,hm,hls,hw,hT',_,hd⟩:=hh.get b B hg
 rcases hd with ⟨_,hblk,hes⟩ | ⟨_,β,cs,hblk,hcs,hsz,hle,hwd,hall⟩
 ·have hx : n = 0 ∧ x = .slice none 0 0:=by
   cases hr with
   | pure hp=>cases hp
   | sl _ _ hb =>
    rcases hb l hm (hls.trans hs) with ⟨_,_,h3,h4⟩ | ⟨β,_,h1,_⟩
    ·exact ⟨h3,h4⟩
    ·rw [hblk] at h1; cases h1
  obtain ⟨rfl,rfl⟩:=hx
  obtain ⟨l1,h1⟩:=hh.erase b
  obtain ⟨l2,h2⟩:=h1.newNil d B.T B.w
  rw [hes]
  refine ⟨_,l1.trans l2,h2,.sl (Nat.lt_succ_self _) rfl fun l hl1 hl2=>?_⟩
  simp only [upd,if_true,Option.some.injEq] at hl1
  subst hl1
  exact .inl ⟨rfl,rfl,rfl,rfl⟩
 ·cases hr with
  | pure hp=>cases hp
  | sl _ _ hb =>
   rcases hb l hm (hls.trans hs) with ⟨h1,_⟩ | ⟨β',cap,h1,rfl,h2,h3,h4,h5⟩
   ·rw [hblk] at h1; cases h1
   ·rw [hblk] at h1; cases h1
    have key:=hh.take hm hblk d (w':=w) (fun _ _ _=>rfl) (Nat.le_refl _) rfl rfl rfl (e:=B.T) (wd:=B.w) (es:=B.es) (cs:=cs) hcs (by rw [hsz]; exact hle) hwd fun i hi j hj=>by
     obtain ⟨y,hy,hr'⟩:=hall i hi j hj
     exact ⟨y,hy,by simpa [RepC,hv] using hr'⟩
    refine ⟨_,key.1,key.2.may d,?_⟩
    have:=(h5 rfl).2
    rw [Nat.zero_mul]
    exact rep_slNew h2 (by rw [← hw,this,hsz]) h4
theorem SE.all {T : TypeId → Option TI} {α : Type} (σ : SE T α) (l : List α) : (σ.F l).all (fun v=>v.cells.length == σ.i1.size && v.cells.all V.one) = true:=by
 rw [σ.hF,List.all_eq_true]
 intro v hv
 obtain ⟨a,_,rfl⟩:=List.mem_map.1 hv
 simp only [σ.hs,σ.hz,σ.h1,beq_self_eq_true,Bool.and_self]
theorem TE.app (τ : TE α) (l l2 : List α) : τ.F l ++ τ.F l2 = τ.F (l ++ l2):=by simp only [τ.hF,List.map_append]
def room (bt a b : Nat) : Bool:=decide ((a + b) * bt ≤ 140737488355328)
theorem Eff_append (hT : TabOk P T) (σ : SE T α) {o : Oper} {s : SA} (d : Nat) {ty : TypeId} {pos : String} {af : Array Edge} {g : Option (Nat × Bool)} {x y : Operand} (b st : Nat) (nl : Bool) (l l2 : List α)
  (ho : o = ⟨some d,.call ⟨.builtin .append,#[x,y],#[σ.t,σ.t]⟩,ty,pos,af,g⟩) (hx : evA s.A x = .sl b st 0 (σ.F l).length true) (hg : s.h.get b = some ⟨st,σ.e,σ.sz,false,nl,σ.F l⟩) (hy : elems s.h (evA s.A y) = some (σ.F l2))
  (hroom : room σ.i1.bytes l.length l2.length = true) (hd : Nat.blt d N = true) :
  Eff P bad E N o s (fun s'=>s' = ⟨(d,.sl d s.c 0 (σ.F (l ++ l2)).length true) :: s.A,(s.h.erase b).set d ⟨s.c,σ.e,σ.sz,false,true,σ.F (l ++ l2)⟩,s.c + 1⟩):=by
 subst ho
 obtain ⟨sz,bt,z,hrow⟩:=σ.row
 cases l2 with
 | cons a0 r0 =>
  have hne : (σ.F (a0 :: r0)).isEmpty = false:=by simp [σ.hF]
  have he : evOperF P T false (evA s.A) ⟨some d,.call ⟨.builtin .append,#[x,y],#[σ.t,σ.t]⟩,ty,pos,af,g⟩ s.h s.c = some (.sl d s.c 0 (σ.F (l ++ a0 :: r0)).length true,(s.h.erase b).set d ⟨s.c,σ.e,σ.sz,false,false,σ.F (l ++ a0 :: r0)⟩,s.c + 1):=by
   have hr2 : (l.length + (r0.length + 1)) * σ.i1.bytes ≤ roomB:=by
    have:=of_decide_eq_true hroom
    simpa [roomB] using this
   simp only [evOperF,if_true,evAppend,evAppend0,hrow,σ.he,hy,hx,hg]
   have hs1:=σ.all (a0 :: r0)
   have hz:=σ.hz
   have hp:=σ.hp
   have hb:=σ.hb
   rw [if_pos ⟨hs1,by omega,hb⟩]
   simp only [hne,σ.len,hz,← σ.app,List.length_append,List.length_cons,true_and,and_self,if_true,Bool.false_eq_true,if_false,or_true,and_true,hr2]
  intro a w m hs hl K QQ hK
  exact Eff_op hT he hd a w m hs hl K QQ fun s' a' w' m' h1 h2 h3=>by
   subst h1
   exact hK _ a' w' m' rfl ⟨h2.1,h2.2.t,h2.2.h.may d,h2.2.d⟩ h3
 | nil =>
  have hem : (σ.F ([] : List α)).isEmpty = true:=by simp [σ.hF]
  have he : evOperF P T false (evA s.A) ⟨some d,.call ⟨.builtin .append,#[x,y],#[σ.t,σ.t]⟩,ty,pos,af,g⟩ s.h s.c = some (.sl b st 0 (σ.F l).length true,s.h,s.c):=by
   simp only [evOperF,if_true,evAppend,evAppend0,hrow,σ.he,hy,hx,hg]
   have hs1:=σ.all ([] : List α)
   have hz:=σ.hz
   have hp:=σ.hp
   have hb:=σ.hb
   rw [if_pos ⟨hs1,by omega,hb⟩]
   simp only [hem,and_self,if_true]
  intro a w m hs hl K QQ hK
  refine Eff_op hT he hd a w m hs hl K QQ ?_
  rintro s' a' w' m' rfl hs' hl'
  replace hs' : SRA bad N ⟨(d,.sl b st 0 (σ.F l).length true) :: s.A,s.h,s.c⟩ a' w' m':=hs'
  have hh:=hs'.2.h
  have hd' : d < N:=by simpa using hd
  have hx':=hs'.2.t.2 d
  simp only [SA.st] at hx' hh
  rw [mkT_getD hs'.1,lkA_cons,if_pos rfl] at hx'
  obtain ⟨m2,k1,k2,k3⟩:=row_anew hh hg rfl rfl rfl hx' d
  refine hK _ a' w' m2 rfl ?_ (hl'.trans k1)
  have hkk : keysLt N ((d,V.sl d s.c 0 (σ.F (l ++ [])).length true) :: s.A) = true:=by
   have:=hs'.1
   simpa only [keysLt] using this
  refine ⟨hkk,⟨⟨by simpa [SA.st,mkT_length] using hs'.2.t.1,fun i=>?_⟩,?_,hs'.2.d⟩⟩
  ·simp only [SA.st]
   rw [mkT_getD hkk,lkA_cons]
   split
   ·rename_i e; subst e
    simpa using k3
   ·rename_i hne
    have h3:=hs'.2.t.2 i
    simp only [SA.st] at h3
    rw [mkT_getD hs'.1,lkA_cons,if_neg hne] at h3
    exact h3.mono k1
  ·simpa [SA.st] using k2
theorem Eff_lend {o : Oper} {s : SA} {cl : Call} {g : FuncId} {vs vs' : List V} {E1 E2 : List (Nat × Nat × Nat)} {hA hr hB : Hp} {r r' : V} {cr c2 : Nat} (hop : o.op = .call cl) (htg : evTargetA s.A cl = some (g,vs)) (hen : Enters P g)
  (hvs : mapO (trV s.h (lookE E1) [] 5) vs = some vs') (hA' : moveH s.h (lookE E1) [] E1 = some hA) (hc1 : (E1.all (fun x=>Nat.beq x.2.2 0) && nodupB (E1.map (·.1)) && nodupB (E1.map fun x=>x.2.1) && nodupB (E2.map (·.1)) && nodupB (E2.map fun x=>x.2.1) && Nat.ble s.c c2) = true)
  (hg : ∀ bad,CallsA P bad hA 1 g vs' r hr cr) (hr' : trV hr (lookE E2) [] 5 r = some r') (hB' : moveH hr (lookE E2) [] E2 = some hB) (hE2 : E2.all (okE2 s.h hr E1 s.c c2) = true) (hd : okD N o.dst = true) :
  Eff P bad E N o s (fun s'=>s' = ⟨putA s.A o.dst r',hB ++ eraseAll s.h (E1.map (·.1)),c2⟩):=by
 simp only [Bool.and_eq_true] at hc1
 obtain ⟨⟨⟨⟨⟨k1,k2⟩,k3⟩,k4⟩,k5⟩,k6⟩:=hc1
 have key:=CallsA_lend (bad:=bad) (bor:=[]) hvs hA' (fun x hx=>by simpa using List.all_eq_true.1 k1 x hx) (nodupB_ok k2) (nodupB_ok k3) hg hr' hB' (nodupB_ok k4) (nodupB_ok k5) (Nat.le_of_ble_eq_true k6) fun x hx=>by
  have:=List.all_eq_true.1 hE2 x hx
  simp only [okE2,Bool.or_eq_true,Bool.and_eq_true,decide_eq_true_eq] at this
  rcases this with h5 | ⟨⟨h5,h6⟩,h7⟩
  ·exact .inl h5
  ·refine .inr ⟨?_,by simpa using h6,?_⟩
   ·split at h5
    ·rename_i B hB; exact ⟨B,hB,by simpa using h5⟩
    ·cases h5
   ·split at h7
    ·rename_i B hB; exact ⟨B,hB,by simpa using h7⟩
    ·cases h7
 simp only [List.append_nil] at key
 exact Eff_callA hop htg hen key hd
theorem WO_go {ops : Array Oper} {i : Nat} {s : SA} {Q : Exit → SA → Prop} {o : Oper} (ho : ops[i]? = some o) (hgd : evGuardA s.A ops o = some true) {cl : Call} {g : FuncId} (hA hr : Hp) (vs vs' : List V) (E1 E2 : List (Nat × Nat × Nat)) (hB : Hp) (r r' : V) (c2 : Nat)
  (hop : o.op = .call cl) (htg : evTargetA s.A cl = some (g,vs)) (hen : Enters P g) (hvs : mapO (trV s.h (lookE E1) [] 5) vs = some vs') (hA' : moveH s.h (lookE E1) [] E1 = some hA)
  (hc1 : (E1.all (fun x=>Nat.beq x.2.2 0) && nodupB (E1.map (·.1)) && nodupB (E1.map fun x=>x.2.1) && nodupB (E2.map (·.1)) && nodupB (E2.map fun x=>x.2.1) && Nat.ble s.c c2) = true)
  (hg : GO P g hA vs' r hr) (hr' : trV hr (lookE E2) [] 5 r = some r') (hB' : moveH hr (lookE E2) [] E2 = some hB) (hE2 : E2.all (okE2 s.h hr E1 s.c c2) = true) (hd : okD N o.dst = true)
  (hk : WO P bad E N ops (i + 1) ⟨putA s.A o.dst r',hB ++ eraseAll s.h (E1.map (·.1)),c2⟩ Q) : WO P bad E N ops i s Q :=
 WO_eff _ ho hgd (Eff_lend hop htg hen hvs hA' hc1 hg hr' hB' hE2 hd) fun s' e=>by subst e; exact hk
theorem WO_append (hT : TabOk P T) (σ : SE T α) {ops : Array Oper} {i : Nat} {s : SA} {Q : Exit → SA → Prop} {o : Oper} (hoi : ops[i]? = some o) (hgd : evGuardA s.A ops o = some true) {d : Nat} {ty : TypeId} {pos : String} {af : Array Edge} {g : Option (Nat × Bool)} {x y : Operand} (b st : Nat) (nl : Bool) (l l2 : List α)
  (ho : o = ⟨some d,.call ⟨.builtin .append,#[x,y],#[σ.t,σ.t]⟩,ty,pos,af,g⟩) (hx : evA s.A x = .sl b st 0 (σ.F l).length true) (hg : s.h.get b = some ⟨st,σ.e,σ.sz,false,nl,σ.F l⟩) (hy : elems s.h (evA s.A y) = some (σ.F l2))
  (hroom : room σ.i1.bytes l.length l2.length = true) (hd : Nat.blt d N = true)
  (hk : WO P bad E N ops (i + 1) ⟨(d,.sl d s.c 0 (σ.F (l ++ l2)).length true) :: s.A,(s.h.erase b).set d ⟨s.c,σ.e,σ.sz,false,true,σ.F (l ++ l2)⟩,s.c + 1⟩ Q) : WO P bad E N ops i s Q :=
 WO_eff _ hoi hgd (Eff_append hT σ d b st nl l l2 ho hx hg hy hroom hd) fun s' e=>by subst e; exact hk
end
end Go.Mx
namespace Go.Mx
set_option linter.unusedVariables false
set_option linter.unusedSimpArgs false
def rdA (A : List (Nat × V)) (o : Op) : List Nat:=if consults o then o.operands.toList.flatMap fun x=>topIds (evA A x) else []
def entryL (i : Nat) : List Nat → List (Nat × List Nat)
 | []=>[]
 | x :: y=>[(i,x :: y)]
def wrA (A : List (Nat × V)) (o : Oper) (h h' : Hp) : List Nat:=match o.op with
 | .store _ a _=>topIds (evA A a) ++ goneOf h h'
 | .call cl=>o.dst.toList ++ cl.args.toList.flatMap fun x=>topIds (evA A x)
 | _=>o.dst.toList
section
variable {P : Program} {T : TypeId → Option TI} {bad : Nat → Prop} {E : Ent} {N : Nat}
def WD (P : Program) (T : TypeId → Option TI) (bad : Nat → Prop) (N : Nat) (ops : Array Oper) (i : Nat) (es rs : List (Nat × List Nat)) (s : SA) (Q : SA → Prop) : Prop :=
 ∃ (tr : List Stp) (fin : SA),tr.map (·.o) = ops.toList.drop i ∧ (∀ x ∈ tr,x.Good P T bad ops) ∧ Chain (fin.st N) tr (mkT N s.A) s.h s.c ∧ keysLt N fin.A = true ∧
  (effPairs (closM ops.toList 0 []) (es ++ effList tr i) && wrPairs (closM ops.toList 0 []) (rs ++ rdList tr i) (es ++ effList tr i)) = true ∧ Q fin
theorem WA_draw (hT : TabOk P T) (hm : P.follows .mixedOrders = true) {id : Nat} {ops : Array Oper} {s : SA} {Q : Exit → SA → Prop} (hn : namesOk ops = true) (h : WD P T bad N ops 0 [] [] s (Q .normal)) : WA P bad E N (.region id ops true) s Q:=by
 intro a w m hs hl
 obtain ⟨tr,fin,h1,h2,h3,h4,h5,h6⟩:=h
 simp only [List.drop_zero] at h1
 simp only [List.nil_append] at h5
 have hed : edgesOk ops = true:=by simp only [namesOk,Bool.and_eq_true] at hn; exact hn.1
 have hw:=WC_draw (id:=id) (st:=s.st N) (fin:=fin.st N) (bad:=bad) hT hm h1 h2 (by simpa [SA.st] using h3) hed (pairsOk_of h1 hn h5) (Q:=fun e st=>e = .normal ∧ st = fin.st N) ⟨rfl,rfl⟩ a w m hs.2
 refine wp_mono hw ?_
 rintro e a' w' ⟨st',m',⟨rfl,rfl⟩,h7,h8⟩
 exact ⟨fin,m',h6,⟨h4,h7⟩,hl.trans h8⟩
theorem WD_end {ops : Array Oper} {i : Nat} {es rs : List (Nat × List Nat)} {s : SA} {Q : SA → Prop} (hi : Nat.ble ops.size i = true) (hc : (effPairs (closM ops.toList 0 []) es && wrPairs (closM ops.toList 0 []) rs es) = true) (hk : keysLt N s.A = true) (h : Q s) : WD P T bad N ops i es rs s Q:=by
 have : ops.toList.drop i = []:=List.drop_eq_nil_iff.2 (by simpa using hi)
 exact ⟨[],s,(by rw [this]; rfl),(fun x hx=>by cases hx),⟨rfl,rfl,rfl⟩,hk,by simpa [effList,rdList] using hc,h⟩
theorem drop_of {ops : Array Oper} {i : Nat} {o : Oper} (ho : ops[i]? = some o) : ops.toList.drop i = o :: ops.toList.drop (i + 1):=by
 obtain ⟨hi,he⟩:=Array.getElem?_eq_some_iff.1 ho
 rw [List.drop_eq_getElem_cons (by simpa using hi)]
 simp [he]
theorem WD_cons {ops : Array Oper} {i : Nat} {es rs : List (Nat × List Nat)} {s : SA} {Q : SA → Prop} {o : Oper} (ho : ops[i]? = some o) (x : Stp) (hx : x.o = o) (ht : x.t = mkT N s.A) (hh : x.h = s.h) (hc : x.c = s.c) (hg : x.Good P T bad ops) (hd : okD N o.dst = true)
  (hk : WD P T bad N ops (i + 1) (es ++ (if x.eff then [(i,x.wr)] else [])) (rs ++ entryL i x.rd) ⟨putA s.A o.dst x.v,x.h',x.c'⟩ Q) : WD P T bad N ops i es rs s Q:=by
 obtain ⟨tr,fin,h1,h2,h3,h4,h5,h6⟩:=hk
 refine ⟨x :: tr,fin,?_,?_,⟨ht,hh,hc,?_⟩,h4,?_,h6⟩
 ·rw [List.map_cons,h1,hx,drop_of ho]
 ·intro y hy
  rcases List.mem_cons.1 hy with rfl | hy
  ·exact hg
  ·exact h2 y hy
 ·rw [hx,putA_eq hd]
  exact h3
 ·have e1 : es ++ effList (x :: tr) i = (es ++ if x.eff then [(i,x.wr)] else []) ++ effList tr (i + 1):=by
   cases hxe : x.eff <;> simp [effList,hxe]
  have e2 : rs ++ rdList (x :: tr) i = (rs ++ entryL i x.rd) ++ rdList tr (i + 1):=by
   simp only [rdList]
   cases x.rd <;> simp [entryL]
  rw [e1,e2]; exact h5
theorem rdA_eq {A : List (Nat × V)} (h : keysLt N A = true) (o : Op) : rdOf (mkT N A) o = rdA A o:=by
 unfold rdOf rdA; rw [evA_eq h]
theorem wrA_eq {A : List (Nat × V)} (h : keysLt N A = true) (o : Oper) (h1 h2 : Hp) : wrOp (mkT N A) o h1 h2 = wrA A o h1 h2:=by
 unfold wrOp wrA; rw [evA_eq h]
 cases o.op <;> rfl
theorem WD_skip {ops : Array Oper} {i : Nat} {es rs : List (Nat × List Nat)} {s : SA} {Q : SA → Prop} {o : Oper} (ho : ops[i]? = some o) (hs : keysLt N s.A = true) (hg : evGuardA s.A ops o = some false) (hd : okD N o.dst = true)
  (hk : WD P T bad N ops (i + 1) es rs ⟨putA s.A o.dst (.p Go.undef),s.h,s.c⟩ Q) : WD P T bad N ops i es rs s Q:=by
 refine WD_cons ho ⟨o,mkT N s.A,s.h,s.c,false,false,.p Go.undef,s.h,s.c,[],[]⟩ rfl rfl rfl rfl ⟨(evGuardA_eq hs ops o).trans hg,fun _=>⟨rfl,rfl⟩,fun _=>⟨rfl,rfl⟩,fun h=>by simp at h,fun h=>by simp at h⟩ hd ?_
 simpa [entryL] using hk
theorem WD_loc {ops : Array Oper} {i : Nat} {es rs : List (Nat × List Nat)} {s : SA} {Q : SA → Prop} {o : Oper} (ho : ops[i]? = some o) (hs : keysLt N s.A = true) (hg : evGuardA s.A ops o = some true) (hl : localOp o.op = true) {v : V} {h' : Hp} {c' : Nat}
  (he : evOperF P T true (evA s.A) o s.h s.c = some (v,h',c')) (hd : okD N o.dst = true) (hk : WD P T bad N ops (i + 1) es (rs ++ entryL i (rdA s.A o.op)) ⟨putA s.A o.dst v,s.h,s.c⟩ Q) (hcc : c' = s.c:=by rfl) : WD P T bad N ops i es rs s Q:=by
 rw [evA_eq hs] at he
 have he' : evOper P T true (mkT N s.A) o s.h s.c = some (v,h',c'):=he
 obtain ⟨e1,e2,_⟩:=evOper_local (h2:=s.h) (c2:=s.c) hl he' hcc (fun _ _=>rfl) (fun _ _=>rfl)
 subst e1 e2
 refine WD_cons ho ⟨o,mkT N s.A,s.h,s.c,true,false,v,s.h,s.c,[],rdA s.A o.op⟩ rfl rfl rfl rfl ⟨(evGuardA_eq hs ops o).trans hg,fun _=>⟨rfl,rfl⟩,fun h=>by simp at h,fun h=>by simp at h,fun _=>.inl ⟨rfl,hl,he',(rdA_eq hs _).symm⟩⟩ hd ?_
 simpa using hk
theorem WD_wr {ops : Array Oper} {i : Nat} {es rs : List (Nat × List Nat)} {s : SA} {Q : SA → Prop} {o : Oper} (ho : ops[i]? = some o) (hs : keysLt N s.A = true) (hg : evGuardA s.A ops o = some true) (hl : writesOp o.op = true) {v : V} {h' : Hp} {c' : Nat}
  (he : evOperF P T true (evA s.A) o s.h s.c = some (v,h',c')) (hd : okD N o.dst = true) (hk : WD P T bad N ops (i + 1) (es ++ [(i,wrA s.A o s.h h')]) rs ⟨putA s.A o.dst v,h',c'⟩ Q) : WD P T bad N ops i es rs s Q:=by
 rw [evA_eq hs] at he
 have he' : evOper P T true (mkT N s.A) o s.h s.c = some (v,h',c'):=he
 refine WD_cons ho ⟨o,mkT N s.A,s.h,s.c,true,true,v,h',c',wrA s.A o s.h h',[]⟩ rfl rfl rfl rfl ⟨(evGuardA_eq hs ops o).trans hg,fun h=>by simp at h,fun h=>by simp at h,fun _=>?_,fun _=>.inr (.inr ⟨rfl,.inl ⟨hl,he'⟩⟩)⟩ hd ?_
 ·simp only []
  rw [← wrA_eq hs]
  exact wrOp_spec hl he'
 ·simpa [entryL] using hk
theorem evTargetA_eq {A : List (Nat × V)} (h : keysLt N A = true) (cl : Call) : evTarget (mkT N A) cl = evTargetA A cl:=by
 unfold evTarget evTargetA; rw [evA_eq h]
 cases cl.callee with
 | value f=>simp only []; cases evalO (mkT N A) f <;> rfl
 | _=>rfl
theorem WD_pt {ops : Array Oper} {i : Nat} {es rs : List (Nat × List Nat)} {s : SA} {Q : SA → Prop} {o : Oper} (ho : ops[i]? = some o) (hs : keysLt N s.A = true) (hg : evGuardA s.A ops o = some true) {cl : Call} {g : FuncId} (vs : List V) (r : V) (hop : o.op = .call cl) (htg : evTargetA s.A cl = some (g,vs)) (hen : Enters P g)
  (hpu : vs.all (pur 6) = true) (hc : PT P g vs r) (hd : okD N o.dst = true) (hk : WD P T bad N ops (i + 1) es rs ⟨putA s.A o.dst r,s.h,s.c⟩ Q) : WD P T bad N ops i es rs s Q:=by
 refine WD_cons ho ⟨o,mkT N s.A,s.h,s.c,true,false,r,s.h,s.c,[],[]⟩ rfl rfl rfl rfl ⟨(evGuardA_eq hs ops o).trans hg,fun _=>⟨rfl,rfl⟩,fun h=>by simp at h,fun h=>by simp at h,
  fun _=>.inr (.inl ⟨rfl,cl,g,vs,hop,(evTargetA_eq hs cl).trans htg,hen,fun h c=>CallsA_of_PT hpu hc h c⟩)⟩ hd ?_
 simpa [entryL] using hk
theorem WD_go {ops : Array Oper} {i : Nat} {es rs : List (Nat × List Nat)} {s : SA} {Q : SA → Prop} {o : Oper} (ho : ops[i]? = some o) (hs : keysLt N s.A = true) (hgd : evGuardA s.A ops o = some true) {cl : Call} {g : FuncId} (hA hr : Hp) (vs vs' : List V) (E1 E2 : List (Nat × Nat × Nat)) (hB : Hp) (r r' : V) (c2 : Nat)
  (hop : o.op = .call cl) (htg : evTargetA s.A cl = some (g,vs)) (hen : Enters P g) (hvs : mapO (trV s.h (lookE E1) [] 5) vs = some vs') (hA' : moveH s.h (lookE E1) [] E1 = some hA)
  (hc1 : (E1.all (fun x=>Nat.beq x.2.2 0) && nodupB (E1.map (·.1)) && nodupB (E1.map fun x=>x.2.1) && nodupB (E2.map (·.1)) && nodupB (E2.map fun x=>x.2.1) && Nat.ble s.c c2) = true)
  (hg : GO P g hA vs' r hr) (hr' : trV hr (lookE E2) [] 5 r = some r') (hB' : moveH hr (lookE E2) [] E2 = some hB) (hE2 : E2.all (okE2 s.h hr E1 s.c c2) = true) (hd : okD N o.dst = true)
  (hk : WD P T bad N ops (i + 1) (es ++ [(i,(E2.map fun x=>x.2.1) ++ E1.map (·.1))]) rs ⟨putA s.A o.dst r',hB ++ eraseAll s.h (E1.map (·.1)),c2⟩ Q) : WD P T bad N ops i es rs s Q:=by
 simp only [Bool.and_eq_true] at hc1
 obtain ⟨⟨⟨⟨⟨k1,k2⟩,k3⟩,k4⟩,k5⟩,k6⟩:=hc1
 have key:=CallsA_lend (bad:=bad) (bor:=[]) hvs hA' (fun x hx=>by simpa using List.all_eq_true.1 k1 x hx) (nodupB_ok k2) (nodupB_ok k3) hg hr' hB' (nodupB_ok k4) (nodupB_ok k5) (Nat.le_of_ble_eq_true k6) fun x hx=>by
  have:=List.all_eq_true.1 hE2 x hx
  simp only [okE2,Bool.or_eq_true,Bool.and_eq_true,decide_eq_true_eq] at this
  rcases this with h5 | ⟨⟨h5,h6⟩,h7⟩
  ·exact .inl h5
  ·refine .inr ⟨?_,by simpa using h6,?_⟩
   ·split at h5
    ·rename_i B hB; exact ⟨B,hB,by simpa using h5⟩
    ·cases h5
   ·split at h7
    ·rename_i B hB; exact ⟨B,hB,by simpa using h7⟩
    ·cases h7
 simp only [List.append_nil] at key
 refine WD_cons ho ⟨o,mkT N s.A,s.h,s.c,true,true,r',hB ++ eraseAll s.h (E1.map (·.1)),c2,(E2.map fun x=>x.2.1) ++ E1.map (·.1),[]⟩ rfl rfl rfl rfl ⟨(evGuardA_eq hs ops o).trans hgd,fun h=>by simp at h,fun h=>by simp at h,fun _ b hb=>?_,
  fun _=>.inr (.inr ⟨rfl,.inr ⟨cl,g,vs,hop,(evTargetA_eq hs cl).trans htg,hen,key⟩⟩)⟩ hd ?_
 ·simp only [List.mem_append,not_or] at hb
  simp only []
  rw [Hp.get_append,(moveH_get hB' b).1 (revE_none hb.1),Option.none_or,eraseAll_ne _ hb.2]
 ·simpa [entryL] using hk
end
def runD (P : Program) (T : TypeId → Option TI) (N : Nat) (ops : Array Oper) : Nat → Nat → List Oper → SA → List (Nat × List Nat) → List (Nat × List Nat) → Option (SA × List (Nat × List Nat) × List (Nat × List Nat))
 | 0,_,_,s,es,rs=>some (s,es,rs)
 | n + 1,i,[],s,es,rs=>none
 | n + 1,i,o :: r,s,es,rs=>match evGuardA s.A ops o with
  | some true=>match evOperF P T true (evA s.A) o s.h s.c with
   | some (v,h',c')=>bif okD N o.dst then (bif (localOp o.op && Nat.beq c' s.c) then runD P T N ops n (i + 1) r ⟨putA s.A o.dst v,s.h,s.c⟩ es (rs ++ entryL i (rdA s.A o.op)) else bif writesOp o.op then runD P T N ops n (i + 1) r ⟨putA s.A o.dst v,h',c'⟩ (es ++ [(i,wrA s.A o s.h h')]) rs else none) else none
   | none=>none
  | some false=>bif okD N o.dst then runD P T N ops n (i + 1) r ⟨putA s.A o.dst (.p Go.undef),s.h,s.c⟩ es rs else none
  | none=>none
section
variable {P : Program} {T : TypeId → Option TI} {bad : Nat → Prop} {E : Ent} {N : Nat}
theorem WD_runD {ops : Array Oper} {Q : SA → Prop} : ∀ (n i : Nat) (r : List Oper) (s s' : SA) (es rs es' rs' : List (Nat × List Nat)),keysLt N s.A = true → ops.toList.drop i = r → runD P T N ops n i r s es rs = some (s',es',rs') → WD P T bad N ops (i + n) es' rs' s' Q → WD P T bad N ops i es rs s Q
 | 0,i,r,s,s',es,rs,es',rs',hs,hd,hr,h=>by
  simp only [runD,Option.some.injEq,Prod.mk.injEq] at hr
  obtain ⟨rfl,rfl,rfl⟩:=hr; exact h
 | n + 1,i,[],s,s',es,rs,es',rs',hs,hd,hr,h=>by simp [runD] at hr
 | n + 1,i,o :: r,s,s',es,rs,es',rs',hs,hd,hr,h=>by
  have ho : ops[i]? = some o:=by
   have : ops.toList[i]? = some o:=by
    have:=congrArg (fun l=>l[0]?) hd
    simpa using this
   simpa using this
  have hd' : ops.toList.drop (i + 1) = r:=by
   have:=congrArg (List.drop 1) hd
   simpa [List.drop_drop] using this
  have h' : WD P T bad N ops (i + 1 + n) es' rs' s' Q:=by rwa [show i + 1 + n = i + (n + 1) by omega]
  simp only [runD] at hr
  split at hr
  ·rename_i hg
   split at hr
   ·rename_i v h1 c1 hev
    cases hdd : okD N o.dst with
    | false=>rw [hdd] at hr; cases hr
    | true =>
     rw [hdd,cond_true] at hr
     cases hl : (localOp o.op && Nat.beq c1 s.c) with
     | true =>
      rw [hl,cond_true] at hr
      simp only [Bool.and_eq_true] at hl
      exact WD_loc ho hs hg hl.1 hev hdd (WD_runD n (i + 1) r _ s' _ _ es' rs' (putA_lt hdd hs) hd' hr h') (Nat.eq_of_beq_eq_true hl.2)
     | false =>
      rw [hl,cond_false] at hr
      cases hw : writesOp o.op with
      | false=>rw [hw] at hr; cases hr
      | true =>
       rw [hw,cond_true] at hr
       exact WD_wr ho hs hg hw hev hdd (WD_runD n (i + 1) r _ s' _ _ es' rs' (putA_lt hdd hs) hd' hr h')
   ·cases hr
  ·rename_i hg
   cases hdd : okD N o.dst with
   | false=>rw [hdd] at hr; cases hr
   | true =>
    rw [hdd,cond_true] at hr
    exact WD_skip ho hs hg hdd (WD_runD n (i + 1) r _ s' _ _ es' rs' (putA_lt hdd hs) hd' hr h')
  ·cases hr
theorem WD_seg {ops : Array Oper} {i : Nat} {es rs : List (Nat × List Nat)} {s : SA} {Q : SA → Prop} (n : Nat) (s' : SA) (es' rs' : List (Nat × List Nat)) (hs : keysLt N s.A = true) (hr : runD P T N ops n i (ops.toList.drop i) s es rs = some (s',es',rs')) (h : WD P T bad N ops (i + n) es' rs' s' Q) : WD P T bad N ops i es rs s Q :=
 WD_runD n i _ s s' es rs es' rs' hs rfl hr h
end
end Go.Mx
namespace Go.Mx
set_option linter.unusedVariables false
set_option linter.unusedSimpArgs false
def CLe (v v' : V) : Prop:=v.cells.length = v'.cells.length ∧ ∀ j (h1 : j < v.cells.length) (h2 : j < v'.cells.length),VLf v.cells[j] v'.cells[j]
theorem VLf.slen {b s n n' : Nat} {tip : Bool} (h : n = n') : VLf (.sl b s 0 n tip) (.sl b s 0 n' tip):=h ▸ VLf.refl _
theorem CLe.refl (v : V) : CLe v v:=⟨rfl,fun j h1 h2=>VLf.refl _⟩
theorem CLe.agg {l m : List V} (h : VLfs l m) : CLe (.agg l) (.agg m):=⟨h.get.1,h.get.2⟩
theorem CLe.one {v v' : V} (h : VLf v v') (h1 : v.cells = [v]) (h2 : v'.cells = [v']) : CLe v v':=by
 refine ⟨by rw [h1,h2]; rfl,fun j a b=>?_⟩
 have hj : j = 0:=by rw [h1] at a; simpa using a
 subst hj
 have e1 : v.cells[0] = v:=by simp [h1]
 have e2 : v'.cells[0] = v':=by simp [h2]
 rw [e1,e2]; exact h
theorem CLe.of (l : List V) {v : V} (h : VLfs v.cells l) : CLe v (.agg l):=⟨h.get.1,h.get.2⟩
def CLes : List V → List V → Prop
 | [],[]=>True
 | a :: r,b :: q=>CLe a b ∧ CLes r q
 | _,_=>False
theorem CLes.get : ∀ {l m : List V},CLes l m → l.length = m.length ∧ ∀ i (h1 : i < l.length) (h2 : i < m.length),CLe l[i] m[i]
 | [],[],_=>⟨rfl,fun i h=>by simp at h⟩
 | a :: r,b :: q,⟨h,k⟩=>by
  obtain ⟨h1,h2⟩:=k.get
  refine ⟨by simp [h1],fun i a b=>?_⟩
  cases i with
  | zero=>exact h
  | succ i=>simpa using h2 i (by simpa using a) (by simpa using b)
 | [],_ :: _,h=>h.elim
 | _ :: _,[],h=>h.elim
def HLe : Hp → Hp → Prop
 | [],[]=>True
 | (k,B) :: r,(k',B') :: r'=>k = k' ∧ (B = B' ∨ (B.var = true ∧ B' = { B with es:=B'.es } ∧ CLes B.es B'.es) ∨ B' = { B with nl:=true }) ∧ HLe r r'
 | _,_=>False
theorem HLe.refl : ∀ (h : Hp),HLe h h
 | []=>trivial
 | (k,B) :: r=>⟨rfl,.inl rfl,HLe.refl r⟩
theorem HLe.get : ∀ {h h' : Hp},HLe h h' → ∀ k,(h.get k = none ∧ h'.get k = none) ∨ ∃ B B',h.get k = some B ∧ h'.get k = some B' ∧ (B = B' ∨ (B.var = true ∧ B' = { B with es:=B'.es } ∧ CLes B.es B'.es) ∨ B' = { B with nl:=true })
 | [],[],_,k=>.inl ⟨rfl,rfl⟩
 | (j,B) :: r,(j',B') :: r',⟨h1,h2,h3⟩,k=>by
  subst h1
  simp only [Hp.get]
  by_cases e : j = k
  ·simp only [e,if_true]; exact .inr ⟨B,B',rfl,rfl,h2⟩
  ·simp only [if_neg e]; exact h3.get k
 | [],_ :: _,h,_=>h.elim
 | _ :: _,[],h,_=>h.elim
section
variable {P : Program} {T : TypeId → Option TI} {bad : Nat → Prop} {E : Ent} {N : Nat}
theorem HLe.rep {h h' : Hp} (hH : HLe h h') {w : World} {m : MM} {c : Nat} (hh : HeapRep bad h w m c) : HeapRep bad h' w m c:=by
 refine ⟨fun k B1 hk=>?_,fun k hk=>?_,hh.lt,hh.nb,hh.inj⟩
 ·rcases hH.get k with ⟨_,e2⟩ | ⟨B0,B0',e1,e2,e3⟩
  ·rw [e2] at hk; cases hk
  ·rw [e2] at hk; cases hk
   rcases e3 with rfl | ⟨e4,e5,e6⟩ | e7
   ·exact hh.get k B0 e1
   rotate_left
   ·obtain ⟨l,p1,p2,p3,p4,p5,p6⟩:=hh.get k B0 e1
    refine ⟨l,p1,?_⟩
    rw [e7]
    refine ⟨p2,p3,p4,p5,?_⟩
    rcases p6 with ⟨_,h7,h8⟩ | h6
    ·exact .inl ⟨rfl,h7,h8⟩
    ·exact .inr h6
   ·obtain ⟨l,p1,p2,p3,p4,p5,p6⟩:=hh.get k B0 e1
    obtain ⟨q1,q2⟩:=e6.get
    refine ⟨l,p1,?_⟩
    rw [e5]
    refine ⟨p2,p3,p4,p5,?_⟩
    rcases p6 with ⟨r1,r2,r3⟩ | ⟨r1,β,cs,r2,r3,r4,r5,r6,r7⟩
    ·exact .inl ⟨r1,r2,by rw [r3] at q1; exact List.length_eq_zero_iff.1 q1.symm⟩
    ·refine .inr ⟨trivial,β,cs,r2,r3,r4,by simp only; rw [← q1]; exact r5,fun i hi=>?_,fun i hi j hj=>?_⟩
     ·simp only at hi
      rw [← (q2 i (by omega) hi).1]; exact r6 i (by omega)
     ·simp only at hi hj
      obtain ⟨c1,c2⟩:=q2 i (by omega) hi
      obtain ⟨x,hx,hr⟩:=r7 i (by omega) j (by rw [c1]; exact hj)
      refine ⟨x,hx,?_⟩
      simp only [e4,RepC,if_true] at hr ⊢
      exact c2 j (by rw [c1]; exact hj) hj _ _ _ _ _ hr
 ·rcases hH.get k with ⟨e1,_⟩ | ⟨B0,B0',e1,e2,e3⟩
  ·exact hh.non k e1
  ·rw [e2] at hk; cases hk
theorem Weak_leH {s : SA} (A' : List (Nat × V)) (h' : Hp) (hk : keysLt N A' = true) (hA : SLe s.A A') (hH : HLe s.h h') : Weak bad E N s ⟨A',h',s.c⟩ :=
 fun a w m hs hl=>by
  have h1:=hs.slots hk fun k x hr=>hA.get k _ _ _ _ _ hr
  exact ⟨m,⟨h1.1,⟨h1.2.t,hH.rep h1.2.h,h1.2.d⟩⟩,hl⟩
theorem Weak_keepE {s : SA} (ks : List Nat) (s' : SA) (he : (⟨keepA ks s.A,s.h,s.c⟩ : SA) = s') (hk : ks.all (Nat.blt · N) = true) : Weak bad E N s s':=he ▸ Weak_keep ks hk
theorem Weak_ownH {s : SA} (b0 b j : Nat) (B0 : Blk) (v0 v0' : V) (e : TypeId) (wd : Nat) (hg : s.h.get b0 = some B0) (hv : B0.var = true) (hes : B0.es = [v0]) (hj : v0.cells[j]? = some (.ps .nil [])) (hc' : v0'.cells = v0.cells.set j (.sl b s.c 0 0 true))
  (hb : s.h.get b = none) (hc : Nat.ble E.c s.c = true) : Weak bad E N s ⟨s.A,(b,⟨s.c,e,wd,false,true,[]⟩) :: (b0,{ B0 with es:=[v0'] }) :: s.h.erase b0,s.c + 1⟩:=by
 intro a w m hs hl
 have hh:=hs.2.h
 simp only [SA.st] at hh
 have hne : b0 ≠ b:=by intro e; subst e; rw [hg] at hb; cases hb
 obtain ⟨hle,hnew⟩:=hh.newNil b e wd
 refine ⟨_,⟨hs.1,⟨hs.2.t.mono hle,?_,hs.2.d⟩⟩,hl.trans hle⟩
 simp only [SA.st]
 have get' : ∀ k,Hp.get ((b,⟨s.c,e,wd,false,true,[]⟩) :: (b0,{ B0 with es:=[v0'] }) :: s.h.erase b0) k = if k = b0 then some { B0 with es:=[v0'] } else (s.h.set b ⟨s.c,e,wd,false,true,[]⟩).get k:=fun k=>by
  simp only [Hp.get,Hp.get_erase,Hp.get_set]
  by_cases h1 : b = k
  ·subst h1; simp [Ne.symm hne]
  ·by_cases h2 : b0 = k
   ·subst h2; simp [h1]
   ·simp [h1,h2,Ne.symm h2]
 refine ⟨fun k B hk=>?_,fun k hk=>hnew.non k ?_,hnew.lt,hnew.nb,hnew.inj⟩
 ·rw [get'] at hk
  by_cases hkb : k = b0
  ·subst hkb
   rw [if_pos rfl] at hk; cases hk
   have h3:=hnew.get k B0 (by rw [Hp.get_set,if_neg (Ne.symm hne)]; exact hg)
   obtain ⟨l,p1,p2,p3,p4,p5,p6⟩:=h3
   refine ⟨l,p1,p2,p3,p4,p5,?_⟩
   rcases p6 with ⟨r1,r2,r3⟩ | ⟨r1,β,cs,r2,r3,r4,r5,r6,r7⟩
   ·rw [hes] at r3; cases r3
   ·have hlen : v0'.cells.length = v0.cells.length:=by rw [hc']; simp
    refine .inr ⟨trivial,β,cs,r2,r3,r4,by rw [hes] at r5; exact r5,fun i hi=>?_,fun i hi q hq=>?_⟩
    ·have : i = 0:=by simpa using hi
     subst this
     have:=r6 0 (by rw [hes]; simp)
     simp only [hes,List.getElem_cons_zero] at this ⊢
     omega
    ·have : i = 0:=by simpa using hi
     subst this
     simp only [List.getElem_cons_zero] at hq ⊢
     have hq' : q < v0.cells.length:=by omega
     obtain ⟨x,hx,hr⟩:=r7 0 (by rw [hes]; simp) q (by simp only [hes,List.getElem_cons_zero]; exact hq')
     refine ⟨x,hx,?_⟩
     simp only [hv,RepC,if_true,hes,List.getElem_cons_zero] at hr ⊢
     have e1 : v0'.cells[q] = (v0.cells.set j (.sl b s.c 0 0 true))[q]'(by simpa using hq'):=by simp [hc']
     rw [e1,List.getElem_set]
     split
     ·rename_i hjq
      subst hjq
      have e2 : v0.cells[j] = .ps .nil []:=by
       rw [List.getElem?_eq_getElem hq'] at hj; simpa using hj
      rw [e2] at hr
      have hx0 : x = .slice none 0 0:=by
       cases hr with
       | pure hp=>cases hp with
        | psNil=>rfl
        | ps hn=>exact absurd rfl hn
      rw [hx0]
      refine .sl (Nat.lt_succ_self _) rfl fun l1 hl1 _=>?_
      simp only [upd,if_true,Option.some.injEq] at hl1
      subst hl1
      exact .inl ⟨rfl,rfl,rfl,rfl⟩
     ·exact hr
  ·rw [if_neg hkb] at hk
   exact hnew.get k B hk
 ·rw [get'] at hk
  by_cases hkb : k = b0
  ·rw [if_pos hkb] at hk; cases hk
  ·rw [if_neg hkb] at hk; exact hk
def Wk (bad : Nat → Prop) (E : Ent) (N : Nat) (s : SA) (Q : SA → Prop) : Prop:=∃ s',Weak bad E N s s' ∧ Q s'
theorem Wk_step {s s' : SA} {Q : SA → Prop} (hw : Weak bad E N s s') (h : Wk bad E N s' Q) : Wk bad E N s Q:=by
 obtain ⟨t,h1,h2⟩:=h
 exact ⟨t,hw.trans h1,h2⟩
theorem Wk_done {s : SA} {Q : SA → Prop} (h : Q s) : Wk bad E N s Q:=⟨s,Weak.refl s,h⟩
theorem WA_drawW (hT : TabOk P T) (hm : P.follows .mixedOrders = true) {id : Nat} {ops : Array Oper} {s : SA} {Q : Exit → SA → Prop} (hn : namesOk ops = true) (h : WD P T bad N ops 0 [] [] s fun s'=>Wk bad E N s' (Q .normal)) : WA P bad E N (.region id ops true) s Q:=by
 intro a w m hs hl
 refine wp_mono (WA_draw (E:=E) (bad:=bad) hT hm hn (Q:=fun e s'=>e = .normal ∧ Wk bad E N s' (Q .normal)) ?_ a w m hs hl) ?_
 ·obtain ⟨tr,fin,h1,h2,h3,h4,h5,h6⟩:=h
  exact ⟨tr,fin,h1,h2,h3,h4,h5,rfl,h6⟩
 ·rintro e a' w' ⟨s',m',⟨rfl,s2,k1,k2⟩,h7,h8⟩
  obtain ⟨m2,h9,h10⟩:=k1 a' w' m' h7 h8
  exact ⟨s2,m2,k2,h9,h10⟩
theorem WA_join {x : Code} {s : SA} {Q : Exit → SA → Prop} (J : SA → Prop) (h : WA P bad E N x s (thenA J Q)) (hj : ∀ s',J s' → Q .normal s') : WA P bad E N x s Q :=
 WA_mono h fun e s' hq=>by cases e <;> first | exact hj s' hq | exact hq
end
def tabRow (P : Program) (t : TypeId) : Option TI :=
 match P.info? t,P.underlying t with
 | some info,some d=>match info.zero with
  | some z=>if z.cells.size = info.size ∧ t < P.types.size then some ⟨info.size,info.bytes,d,ofC z⟩ else none
  | none=>none
 | _,_=>none
def lookT : List (Nat × TI) → Nat → Option TI
 | [],_=>none
 | (k,i) :: r,t=>bif Nat.beq k t then some i else lookT r t
theorem lookT_mem : ∀ {l : List (Nat × TI)} {t : Nat} {i : TI},lookT l t = some i → (t,i) ∈ l
 | [],_,_,h=>by cases h
 | (k,j) :: r,t,i,h=>by
  simp only [lookT] at h
  cases hb : Nat.beq k t with
  | true =>
   rw [hb] at h
   simp only [cond_true,Option.some.injEq] at h
   subst h
   rw [Nat.eq_of_beq_eq_true hb]; exact List.mem_cons_self ..
  | false =>
   rw [hb] at h
   exact List.mem_cons_of_mem _ (lookT_mem h)
def rowsOk (P : Program) : List (Nat × TI) → Prop
 | []=>True
 | (k,i) :: r=>tabRow P k = some i ∧ rowsOk P r
theorem rowsOk_mem {P : Program} : ∀ {l : List (Nat × TI)},rowsOk P l → ∀ x ∈ l,tabRow P x.1 = some x.2
 | [],_,x,hx=>by cases hx
 | (k,i) :: r,⟨h1,h2⟩,x,hx=>by
  rcases List.mem_cons.1 hx with rfl | hx
  ·exact h1
  ·exact rowsOk_mem h2 x hx
def tabClosed (l : List (Nat × TI)) : Bool:=l.all fun x=>match x.2.desc with
 | .struct fs=>fs.toList.all fun f=>(lookT l f.type).isSome
 | _=>true
theorem tab_ok {P : Program} {l : List (Nat × TI)} (h : rowsOk P l) (hc : tabClosed l = true) : TabOk P (lookT l):=by
 intro t i ht
 have hm:=lookT_mem ht
 have h1:=rowsOk_mem h _ hm
 simp only at h1
 unfold tabRow at h1
 split at h1
 ·rename_i info d hi hu
  split at h1
  ·rename_i z hz
   split at h1
   ·rename_i hsz
    simp only [Option.some.injEq] at h1
    subst h1
    refine ⟨info,z,hi,rfl,rfl,hu,hz,rfl,hsz.1,fun fs hfs f hf=>?_⟩
    have:=List.all_eq_true.1 hc _ hm
    simp only at hfs
    subst hfs
    simp only at this
    exact List.all_eq_true.1 this f hf
   ·cases h1
  ·cases h1
 ·cases h1
theorem bsome {α β : Type} {o : Option α} {f : α → Option β} {r : β} (h : o.bind f = some r) : ∃ x,o = some x ∧ f x = some r:=Option.bind_eq_some_iff.1 h
theorem ctrue {α : Type} {b : Bool} {x y r : α} (hb : b = true) (h : (bif b then x else y) = r) : x = r:=by rw [hb] at h; exact h
theorem cfalse {α : Type} {b : Bool} {x y r : α} (hb : b = false) (h : (bif b then x else y) = r) : y = r:=by rw [hb] at h; exact h
theorem gsome {α : Type} {b : Bool} {x : Option α} {r : α} (h : (bif b then x else none) = some r) : b = true ∧ x = some r:=by
 cases b with
 | true=>exact ⟨rfl,h⟩
 | false=>cases h
theorem g0some {α : Type} {b : Bool} {x : Option α} {r : α} (h : (bif b then none else x) = some r) : b = false ∧ x = some r:=by
 cases b with
 | false=>exact ⟨rfl,h⟩
 | true=>cases h
def jn {α β : Type} (k : α) (f : α → β) : β:=f k
theorem jsome {α β : Type} {k : α} {f : α → β} {r : β} (h : jn k f = r) : ∃ J,J = k ∧ f J = r:=⟨k,rfl,h⟩
structure Cx where
 re : Nat
 im : Nat
theorem enters {P : Program} {g : FuncId} (fn : Func) (h1 : P.funcs[g]? = some fn) (h2 : fn.body.isSome = true) (h3 : (fn.name == "runtime.NumGoroutine") = false) : Enters P g:=⟨fn,h1,h2,h3⟩
end Go.Mx
namespace Go.Mx
set_option linter.unusedVariables false
set_option linter.unusedSimpArgs false
def e_i64 (n : Int) : V:=.p (.int .i64 n)
def e_s (s : ByteArray) : V:=.p (.string s)
section
variable {P : Program} {T : TypeId → Option TI} {bad : Nat → Prop} {E : Ent} {N : Nat} {α : Type}
theorem PT_args {g : FuncId} {us vs : List V} {r : V} (h : PT P g vs r) (hv : VLes us vs) : PT P g us r:=by
 obtain ⟨h1,h2⟩:=hv.get
 intro bad w xs hbad hl hr
 exact h bad w xs hbad (by omega) fun i a b=>h2 i (by omega) a w _ _ (hr i (by omega) b)
theorem GO_args {g : FuncId} {hA hb : Hp} {us vs : List V} {r : V} (h : GO P g hA vs r hb) (hv : VLfs us vs) : GO P g hA us r hb:=by
 obtain ⟨h1,h2⟩:=hv.get
 intro bad w m xs hh hl hr
 exact h bad w m xs hh (by omega) fun i a b=>h2 i (by omega) a _ _ _ _ _ (hr i (by omega) b)
theorem SE.set {T : TypeId → Option TI} {α : Type} (σ : SE T α) (l : List α) (n : Nat) (a : α) : (σ.F l).set n (σ.f a) = σ.F (l.set n a):=by
 rw [σ.hF,σ.hF,List.map_set]
theorem ev_append (σ : SE T α) {ρ : Operand → V} {dr : Bool} {h : Hp} {c : Nat} {d : Nat} {ty : TypeId} {pos : String} {af : Array Edge} {g : Option (Nat × Bool)} {x y : Operand} (b st : Nat) (nl : Bool) (l l2 : List α)
  (hx : ρ x = .sl b st 0 (σ.F l).length true) (hg : h.get b = some ⟨st,σ.e,σ.sz,false,nl,σ.F l⟩) (hy : elems h (ρ y) = some (σ.F l2)) (hne : l2 ≠ []) (hroom : room σ.i1.bytes l.length l2.length = true) :
  evOperF P T dr ρ ⟨some d,.call ⟨.builtin .append,#[x,y],#[σ.t,σ.t]⟩,ty,pos,af,g⟩ h c = some (.sl d c 0 (σ.F (l ++ l2)).length true,(h.erase b).set d ⟨c,σ.e,σ.sz,false,false,σ.F (l ++ l2)⟩,c + 1):=by
 obtain ⟨sz,bt,z,hrow⟩:=σ.row
 have hemp : (σ.F l2).isEmpty = false:=by
  cases l2 with
  | nil=>exact absurd rfl hne
  | cons a r=>simp [σ.hF]
 have hr2 : (l.length + l2.length) * σ.i1.bytes ≤ roomB:=by
  have:=of_decide_eq_true hroom
  simpa [roomB] using this
 have hs1:=σ.all l2
 have hz:=σ.hz
 have hp:=σ.hp
 simp only [evOperF,if_true,evAppend,evAppend0,hrow,σ.he,hy,hx,hg]
 rw [if_pos ⟨hs1,by omega,σ.hb⟩]
 simp only [hemp,σ.len,hz,← σ.app,List.length_append,true_and,and_self,if_true,Bool.false_eq_true,if_false,and_true,hr2]
theorem ev_bslice (σ : SE T α) {ρ : Operand → V} {o : Oper} {h : Hp} {c : Nat} (d : Nat) (l : List α) (he : evOperF P T false ρ o h c = some (.sl d c 0 (l.map σ.f).length true,h.set d ⟨c,σ.e,σ.sz,false,false,l.map σ.f⟩,c + 1)) :
  evOperF P T false ρ o h c = some (.sl d c 0 (σ.F l).length true,h.set d ⟨c,σ.e,σ.sz,false,false,σ.F l⟩,c + 1):=by rw [σ.hF]; exact he
theorem ev_bsliceD (σ : SE T α) {ρ : Operand → V} {o : Oper} {h : Hp} {c : Nat} (l : List α) (he : evOperF P T true ρ o h c = some (.ps .full (l.map σ.f),h,c)) :
  evOperF P T true ρ o h c = some (.ps .full (σ.F l),h,c):=by rw [σ.hF]; exact he
theorem elems_own (σ : SE T α) {h : Hp} {v : V} (b s : Nat) (tip : Bool) (B : Blk) (l : List α) (hx : v = .sl b s 0 (σ.F l).length tip) (hg : h.get b = some B) (hs : B.s = s) (hv : B.var = false) (he : B.es = σ.F l) : elems h v = some (σ.F l):=by
 subst hx
 simp only [elems,hg,hs,hv,he,Nat.zero_add,Nat.le_refl,and_self,if_true,List.drop_zero,List.take_length]
theorem PT_of_GO {g : FuncId} {vs : List V} {b : Nat} {tip : Bool} {e : TypeId} {w : Nat} {es : List V} (h : GO P g [] vs (.sl b 1 0 es.length tip) [(b,⟨1,e,w,false,true,es⟩)]) : PT P g vs (.ps .opt es):=by
 intro bad w0 xs hbad hl hr
 have hh : HeapRep bad [] w0 noM 1:=⟨fun b B h=>by simp [Hp.get] at h,fun _ _=>rfl,hbad,fun b l β h=>by simp [noM] at h,fun b b' l l' β h=>by simp [noM] at h⟩
 refine (h bad w0 noM xs hh hl fun i a b=>.pure (hr i a b)).mono ?_
 rintro en w' ⟨x,m',rfl,hx,hle,hh'⟩
 have h1:=FzV.sound hh' (b:=b) (s:=1) (B:=⟨1,e,w,false,true,es⟩) (by simp [Hp.get]) rfl rfl (.hit tip) hx
 refine ⟨x,rfl,?_,?_⟩
 ·have h2:=pur_sound 1 (by rfl) h1
  exact h2.mono fun β hβ=>⟨⟨hβ.1,hβ.2.1,fun b l h=>by simp [noM] at h⟩,fun _=>rfl⟩
 ·exact ⟨Nat.le_refl _,fun b l h=>by simp [noM] at h,fun β hβ _=>hle.keep β hβ fun b l h=>by simp [noM] at h,hle.size,hle.os,hle.output,hle.tape,fun b l β h=>by simp [noM] at h⟩
end
end Go.Mx
namespace Go.Mx
set_option linter.unusedVariables false
set_option linter.unusedSimpArgs false
section
variable {P : Program} {T : TypeId → Option TI} {bad : Nat → Prop} {E : Ent} {N : Nat} {α : Type}
theorem WO_isnil (hT : TabOk P T) (σ : SE T α) {ops : Array Oper} {i : Nat} {s : SA} {Q : Exit → SA → Prop} {o : Oper} (hoi : ops[i]? = some o) (hgd : evGuardA s.A ops o = some true) {d : Option Tmp} {t' ty : TypeId} {pos : String} {af : Array Edge} {g : Option (Nat × Bool)} {x : Operand} (k : SC) (l : List α)
  (ho : o = ⟨d,.binOp .eql σ.t x (.const (.slice none 0 0)) t',ty,pos,af,g⟩) (hx : evA s.A x = .ps k (σ.F l)) (hd : okD N d = true)
  (hk : ∀ b : Bool,(b = true → l = []) → WO P bad E N ops (i + 1) ⟨putA s.A d (.p (.bool b)),s.h,s.c⟩ Q) : WO P bad E N ops i s Q:=by
 subst ho
 refine WO_eff (fun s'=>∃ b : Bool,(b = true → l = []) ∧ s' = ⟨putA s.A d (.p (.bool b)),s.h,s.c⟩) hoi hgd ?_ fun s' ⟨b,h1,h2⟩=>by subst h2; exact hk b h1
 intro a w m hs hl K QQ hK
 obtain ⟨sz,bt,z,hrow⟩:=σ.row
 obtain ⟨info,zz,hi,_,_,hu,_⟩:=hT _ _ hrow
 simp only [] at hu
 have hr:=hs.2.t.eval x (a:=a)
 rw [show evalO (s.st N).t x = evA s.A x from by rw [evA_eq hs.1]; rfl,hx] at hr
 have hl0 : σ.F l = [] → l = []:=fun h=>by
  have:=σ.len l
  rw [h] at this
  exact List.length_eq_zero_iff.1 this.symm
 have key : ∃ (a0 : Option Addr) (len cap : Nat),a.eval x = .slice a0 len cap ∧ (a0.isNone = true → l = []):=by
  revert hr hl0
  generalize a.eval x = y
  generalize σ.F l = xs
  intro hr hl0
  cases hr with
  | pure hp =>
   cases hp with
   | psNil hn=>exact ⟨none,0,0,rfl,fun _=>hl0 rfl⟩
   | ps hn hcap hfull hβ hw hc hr=>exact ⟨_,_,_,rfl,fun h=>by simp at h⟩
 obtain ⟨a0,len,cap,he,hnil⟩:=key
 have hrun : (execOp a.eval ⟨d,.binOp .eql σ.t x (.const (.slice none 0 0)) t',ty,pos,af,g⟩).run P w = .ok (.value (.bool a0.isNone)) w:=by
  have hg : eqGuard .eql σ.t x (.const (.slice none 0 0)) (.slice a0 len cap) (.slice none 0 0) = pure ():=rfl
  have h2:=run_eql_slice_nil w σ.t σ.e a0 len cap hu
  have h3 : a.eval (.const (.slice none 0 0)) = .slice none 0 0:=rfl
  simp [execOp,he,h3,hg,h2]
 simp only [Oper.wp,hrun,Oper.upon]
 exact hK _ _ _ _ ⟨a0.isNone,hnil,rfl⟩ (hs.put (Le.refl _ _ _) hs.2.h (.pure (.p _)) hd) hl
theorem VLf.tip {b s off n : Nat} {tip : Bool} : VLf (.sl b s off n tip) (.sl b s off n false):=fun bad w m c x hx=>by
 cases hx with
 | pure hp=>cases hp
 | sl hs hx h =>
  refine .sl hs hx fun l hl hls=>?_
  rcases h l hl hls with h1 | ⟨β,cap,h1,h2,h3,h4,h5,_⟩
  ·exact .inl h1
  ·exact .inr ⟨β,cap,h1,h2,h3,h4,h5,fun h=>by cases h⟩
theorem WO_clip (hT : TabOk P T) (σ : SE T α) {ops : Array Oper} {i : Nat} {s : SA} {Q : Exit → SA → Prop} {o : Oper} (hoi : ops[i]? = some o) (hgd : evGuardA s.A ops o = some true) {d : Option Tmp} {ty : TypeId} {pos : String} {af : Array Edge} {g : Option (Nat × Bool)} {x : Operand} {hi mx : Operand} (b st n : Nat) (tip : Bool) (B : Blk)
  (ho : o = ⟨d,.slice σ.t x none (some hi) (some mx),ty,pos,af,g⟩) (hx : evA s.A x = .sl b st 0 n tip) (hg : s.h.get b = some B) (hs : B.s = st) (hh : evA s.A hi = .p (.int .i64 n)) (hm : evA s.A mx = .p (.int .i64 n)) (hd : okD N d = true)
  (hk : WO P bad E N ops (i + 1) ⟨putA s.A d (.sl b st 0 n false),s.h,s.c⟩ Q) : WO P bad E N ops i s Q:=by
 subst ho
 refine WO_eff (fun s'=>s' = ⟨putA s.A d (.sl b st 0 n false),s.h,s.c⟩) hoi hgd ?_ fun s' h2=>by subst h2; exact hk
 intro a w m hsr hl K QQ hK
 obtain ⟨sz,bt,z,hrow⟩:=σ.row
 obtain ⟨info,zz,hi',_,_,hu,_⟩:=hT _ _ hrow
 obtain ⟨info1,z1,hi1,hz1,_⟩:=hT _ _ σ.he
 simp only [] at hu
 have ev : ∀ q,Rep bad w m s.c (evA s.A q) (a.eval q):=fun q=>by
  have:=hsr.2.t.eval q (a:=a)
  rw [show evalO (s.st N).t q = evA s.A q from by rw [evA_eq hsr.1]; rfl] at this
  exact this
 have h1:=ev x
 have h2:=rep_p (by have:=ev hi; rw [hh] at this; exact this)
 have h3:=rep_p (by have:=ev mx; rw [hm] at this; exact this)
 rw [hx] at h1
 obtain ⟨l,hml,hls,_⟩:=hsr.2.h.get b B hg
 have key : ∃ (a0 : Option Addr) (cap : Nat),a.eval x = .slice a0 n cap ∧ n ≤ cap ∧ Rep bad w m s.c (.sl b st 0 n false) (.slice a0 n n):=by
  generalize a.eval x = y at h1
  cases h1 with
  | pure hp=>cases hp
  | sl hs' hx' hb =>
   rcases hb l hml (hls.trans hs) with ⟨k1,_,k3,rfl⟩ | ⟨β,cap,k1,rfl,k3,k4,k5,_⟩
   ·subst k3
    refine ⟨none,0,rfl,Nat.le_refl _,.sl hs' rfl fun l2 hl2 _=>?_⟩
    rw [hml] at hl2; cases hl2
    exact .inl ⟨k1,rfl,rfl,rfl⟩
   ·refine ⟨_,cap,rfl,k3,.sl hs' rfl fun l2 hl2 _=>?_⟩
    rw [hml] at hl2; cases hl2
    exact .inr ⟨β,n,k1,rfl,Nat.le_refl _,Nat.le_trans (Nat.mul_le_mul_right _ (by omega)) k4,by omega,fun h=>by cases h⟩
 obtain ⟨a0,cap,he,hcap,hrep⟩:=key
 have hb:=sliceBounds_ok (P:=P) (bad:=bad) (w:=w) (m:=m) (c:=s.c) (lo:=none) (hi:=some (.p (.int .i64 n))) (mx:=some (.p (.int .i64 n))) (lx:=none) (hx:=some (.int .i64 n)) (mxx:=some (.int .i64 n)) (len:=n) (cap:=cap) (l:=0) (hh:=n) (q:=some (n : Int)) true trivial
  (.pure (.p _)) (.pure (.p _)) rfl rfl rfl (by omega) (by omega) (by omega) hcap (by intro r hr; cases hr; rfl) (by simp)
 have hrun : (execOp a.eval ⟨d,.slice σ.t x none (some hi) (some mx),ty,pos,af,g⟩).run P w = .ok (.value (.slice a0 n n)) w:=by
  simp [execOp,he,h2,h3,Instr.sliceAt,run_underlying hu,Instr.slice,hb,sizeOf_run hi1]
  cases a0 with
  | none=>simp
  | some ad=>simp [Addr.add]
 simp only [Oper.wp,hrun,Oper.upon]
 exact hK _ _ _ _ rfl (hsr.put (Le.refl _ _ _) hsr.2.h hrep hd) hl
theorem ev_storeRow (σ : SE T α) {dr : Bool} {ρ : Operand → V} {h : Hp} {c : Nat} {d : Option Tmp} {t ty : TypeId} {pos : String} {af : Array Edge} {g : Option (Nat × Bool)} {x y : Operand}
  (b st : Nat) (B : Blk) (l : List α) (n off : Nat) (a a' : α) (ha : l[n]? = some a) (hx : ρ x = .box b st n off) (hg : h.get b = some B) (hs : B.s = st) (hv : B.var = false) (hes : B.es = σ.F l)
  {i0 : TI} (h0 : T t = some i0) (hf : frz 4 h (ρ y) = some (ρ y,h)) (hz : (Nat.blt 0 i0.size && Nat.beq (optV (ρ y)).cells.length i0.size && Nat.ble (off + i0.size) (σ.f a).cells.length && (optV (ρ y)).cells.all V.one) = true)
  (he : (if off = 0 ∧ (σ.f a).isAgg = true ∧ (optV (ρ y)).isAgg = true ∧ (σ.f a).cells.length = i0.size then optV (ρ y) else if (σ.f a).isAgg = true then .agg ((σ.f a).cells.take off ++ (optV (ρ y)).cells ++ (σ.f a).cells.drop (off + i0.size)) else ((optV (ρ y)).cells.headD .undef)) = σ.f a') :
  evOperF P T dr ρ ⟨d,.store t x y,ty,pos,af,g⟩ h c = some (.p Go.undef,h.set b { B with es:=σ.F (l.set n a') },c):=by
 simp only [Bool.and_eq_true] at hz
 obtain ⟨⟨⟨h2,h3⟩,h4⟩,h5⟩:=hz
 have h2' : 0 < i0.size:=by simpa using h2
 have h3' : (optV (ρ y)).cells.length = i0.size:=by simpa using h3
 have h4' : off + i0.size ≤ (σ.f a).cells.length:=by simpa using h4
 have hl : (σ.F l)[n]? = some (σ.f a):=by rw [σ.hF,List.getElem?_map,ha]; rfl
 simp only [evOperF,hx,evStore,h0,hg,hv,Bool.false_eq_true,if_false,hf,Option.map_some,hes,hl,hs,h2',h3',h4',h5,and_self,if_true,Option.map_some,Option.some.injEq,Prod.mk.injEq,and_true,true_and]
 rw [he,σ.set]
theorem ev_appendF (σ : SE T α) {ρ : Operand → V} {dr : Bool} {h : Hp} {c : Nat} {d : Nat} {ty : TypeId} {pos : String} {af : Array Edge} {g : Option (Nat × Bool)} {x y : Operand} (k : SC) (l l2 : List α) (hk0 : k = .full ∨ k = .fopt)
  (hx : ρ x = .ps k (σ.F l)) (hy : elems h (ρ y) = some (σ.F l2)) (hne : l2 ≠ []) (hroom : room σ.i1.bytes l.length l2.length = true) :
  evOperF P T dr ρ ⟨some d,.call ⟨.builtin .append,#[x,y],#[σ.t,σ.t]⟩,ty,pos,af,g⟩ h c = some (.sl d c 0 (σ.F (l ++ l2)).length true,h.set d ⟨c,σ.e,σ.sz,false,false,σ.F (l ++ l2)⟩,c + 1):=by
 obtain ⟨sz,bt,z,hrow⟩:=σ.row
 have hemp : (σ.F l2).isEmpty = false:=by
  cases l2 with
  | nil=>exact absurd rfl hne
  | cons a r=>simp [σ.hF]
 have hr2 : (l.length + l2.length) * σ.i1.bytes ≤ roomB:=by
  have:=of_decide_eq_true hroom
  simpa [roomB] using this
 have hall : (σ.F l).all (fun v=>v.cells.length == σ.sz) = true:=by
  rw [σ.hF,List.all_eq_true]
  intro v hv
  obtain ⟨a,_,rfl⟩:=List.mem_map.1 hv
  simp [σ.hs]
 have hz:=σ.hz
 have hp:=σ.hp
 have hs1:=σ.all l2
 simp only [evOperF,if_true,evAppend,evAppend0,hrow,σ.he,hy,hx]
 rw [if_pos ⟨hs1,by omega,σ.hb⟩]
 rcases hk0 with rfl | rfl <;>
  simp only [hall,hemp,σ.len,hz,← σ.app,List.length_append,reduceCtorEq,or_false,false_or,or_true,true_or,and_self,if_true,Bool.false_eq_true,if_false,hr2]
end
end Go.Mx
