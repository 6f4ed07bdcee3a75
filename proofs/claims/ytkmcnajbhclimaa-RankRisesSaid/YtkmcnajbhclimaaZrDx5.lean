/-
  Appends; calls that hand rows over.
-/
import Derived.Test.YtkmcnajbhclimaaZrMx18
namespace Go.Mx
set_option linter.unusedVariables false
set_option linter.unusedSimpArgs false
section
variable {P : Program} {T : TypeId → Option TI} {bad : Nat → Prop}
end
def okE2 (h hr : Hp) (E1 : List (Nat × Nat × Nat)) (c c2 : Nat) (x : Nat × Nat × Nat) : Bool :=
 (decide (c ≤ x.2.2) && decide (x.2.2 < c2)) ||
 ((match hr.get x.1 with | some B=>B.s == 0 | none=>false) && E1.contains (x.2.1,x.1,0) && (match h.get x.2.1 with | some B=>B.s == x.2.2 | none=>false))
section
variable {P : Program} {T : TypeId → Option TI} {F : FuncId → Option Func} {mode : FuncId → Nat}
theorem eraseAll_ne : ∀ (bs : List Nat) {h : Hp} {b : Nat},b ∉ bs → (eraseAll h bs).get b = h.get b
 | [],h,b,_=>rfl
 | x :: r,h,b,hb=>by
  simp only [List.mem_cons,not_or] at hb
  simp only [eraseAll]
  rw [eraseAll_ne r hb.2,Hp.get_erase,if_neg (Ne.symm hb.1)]
theorem revE_none : ∀ {E : List (Nat × Nat × Nat)} {k : Nat},k ∉ E.map (fun x=>x.2.1) → revE E k = none
 | [],k,_=>rfl
 | (a,b,s) :: r,k,hk=>by
  simp only [List.map_cons,List.mem_cons,not_or] at hk
  simp only [revE]
  rw [if_neg (Ne.symm hk.1)]
  exact revE_none hk.2
theorem CallsA_of_PT {bad : Nat → Prop} {g : FuncId} {vs : List V} {r : V} (hpu : vs.all (pur 6) = true) (hp : PT P g vs r) (h : Hp) (c : Nat) : CallsA P bad h c g vs r h c:=by
 intro w m xs hh hl hr
 let bad' : Nat → Prop:=fun β=>bad β ∨ ∃ b l,m b = some l ∧ l.blk = some β
 have hbad' : ∀ β,bad' β → β < w.heap.size:=fun β hβ=>by
  rcases hβ with h1 | ⟨b,l,h1,h2⟩
  ·exact hh.lt β h1
  ·exact hh.blk_lt h1 h2
 have hargs : ∀ i (h1 : i < vs.length) (h2 : i < xs.size),RepP w (okOf bad' w noM) vs[i] xs[i]:=fun i h1 h2 =>
  (pur_sound 6 (List.all_eq_true.1 hpu _ (List.getElem_mem h1)) (hr i h1 h2)).mono fun β hβ=>⟨⟨hβ.1,fun h3=>by
   rcases h3 with h3 | ⟨b,l,h3,h4⟩
   ·exact hβ.2.1 h3
   ·exact hβ.2.2 b l h3 h4,fun b l h3=>by simp [noM] at h3⟩,fun _=>rfl⟩
 refine (hp bad' w xs hbad' hl hargs).mono ?_
 rintro e w' ⟨x,rfl,hrx,hle⟩
 have hkeep : ∀ β,β < w.heap.size → w'.heap[β]? = w.heap[β]?:=fun β hβ=>hle.keep β hβ fun b l h1=>by simp [noM] at h1
 obtain ⟨le1,hh1⟩:=hh.world hkeep hle.size hle.os hle.output hle.tape
 exact ⟨x,m,rfl,.pure (hrx.mono fun β hβ=>⟨⟨hβ.1,fun h1=>hβ.2.1 (.inl h1),fun b l h1 h2=>hβ.2.1 (.inr ⟨b,l,h1,h2⟩)⟩,fun _=>rfl⟩),le1,hh1⟩
end
end Go.Mx
namespace Go.Mx
set_option linter.unusedVariables false
set_option linter.unusedSimpArgs false
structure SA where
 A : List (Nat × V)
 h : Hp
 c : Nat
def lkA : List (Nat × V) → Nat → V
 | [],_=>.undef
 | (k,v) :: r,i=>bif Nat.beq k i then v else lkA r i
def mkT (N : Nat) (A : List (Nat × V)) : List V:=(List.range N).map (lkA A)
def SA.st (N : Nat) (s : SA) : St:=⟨mkT N s.A,s.h,s.c⟩
def keysLt (N : Nat) : List (Nat × V) → Bool
 | []=>true
 | (k,_) :: r=>Nat.blt k N && keysLt N r
theorem mkT_length (N : Nat) (A : List (Nat × V)) : (mkT N A).length = N:=by simp [mkT]
theorem lkA_ge {N : Nat} : ∀ {A : List (Nat × V)} {k : Nat},keysLt N A = true → N ≤ k → lkA A k = .undef
 | [],k,_,_=>rfl
 | (j,v) :: r,k,h,hk=>by
  simp only [keysLt,Bool.and_eq_true,Nat.blt_eq] at h
  have : Nat.beq j k = false:=by
   cases hb : Nat.beq j k with
   | false=>rfl
   | true=>have:=Nat.eq_of_beq_eq_true hb; omega
  simp only [lkA,this,cond_false]
  exact lkA_ge h.2 hk
theorem mkT_getD {N : Nat} {A : List (Nat × V)} (h : keysLt N A = true) (k : Nat) : (mkT N A).getD k .undef = lkA A k:=by
 rw [List.getD_eq_getElem?_getD]
 by_cases hk : k < N
 ·simp [mkT,hk]
 ·rw [lkA_ge h (by omega)]
  simp [mkT,hk]
theorem lkA_cons (A : List (Nat × V)) (d : Nat) (v : V) (k : Nat) : lkA ((d,v) :: A) k = if d = k then v else lkA A k:=by
 simp only [lkA]
 cases hb : Nat.beq d k with
 | true=>simp [Nat.eq_of_beq_eq_true hb]
 | false =>
  have : d ≠ k:=fun e=>by subst e; simp at hb
  simp [this]
theorem mkT_put {N : Nat} {A : List (Nat × V)} {d : Nat} {v : V} (hd : d < N) : (mkT N A).set d v = mkT N ((d,v) :: A):=by
 apply List.ext_getElem
 ·simp [mkT]
 ·intro k h1 h2
  simp only [List.getElem_set,mkT,List.getElem_map,List.getElem_range,lkA_cons]
def evA (A : List (Nat × V)) : Operand → V
 | .tmp k=>lkA A k
 | .const v=>ofC v
 | .func f=>.fn f [] []
 | .global _=>.undef
theorem evA_eq {N : Nat} {A : List (Nat × V)} (h : keysLt N A = true) : evA A = evalO (mkT N A):=by
 funext o
 cases o with
 | tmp k=>exact (mkT_getD h k).symm
 | const v=>rfl
 | func f=>rfl
 | global g=>rfl
def putA (A : List (Nat × V)) (d : Option Tmp) (v : V) : List (Nat × V) :=
 match d with
 | some k=>(k,v) :: A
 | none=>A
def okD (N : Nat) (d : Option Tmp) : Bool :=
 match d with
 | some k=>Nat.blt k N
 | none=>true
theorem putA_eq {N : Nat} {A : List (Nat × V)} {d : Option Tmp} {v : V} (hd : okD N d = true) : putT (mkT N A) d v = mkT N (putA A d v):=by
 cases d with
 | none=>rfl
 | some k=>exact mkT_put (by simpa [okD] using hd)
theorem putA_lt {N : Nat} {A : List (Nat × V)} {d : Option Tmp} {v : V} (hd : okD N d = true) (h : keysLt N A = true) : keysLt N (putA A d v) = true:=by
 cases d with
 | none=>exact h
 | some k=>simp only [putA,keysLt,h,Bool.and_true]; exact hd
def SRA (bad : Nat → Prop) (N : Nat) (s : SA) (a : Act) (w : World) (m : MM) : Prop:=keysLt N s.A = true ∧ SR bad (s.st N) a w m
structure Ent where
 w : World
 m : MM
 c : Nat
def Ent.le (E : Ent) (w : World) (m : MM) (c : Nat) : Prop:=Le E.w E.m E.c w m c
section
variable {P : Program} {T : TypeId → Option TI} {bad : Nat → Prop} {E : Ent} {N : Nat}
def WA (P : Program) (bad : Nat → Prop) (E : Ent) (N : Nat) (code : Code) (s : SA) (Q : Exit → SA → Prop) : Prop :=
 ∀ a w m,SRA bad N s a w m → E.le w m s.c → code.wp P (fun e a' w'=>∃ s' m',Q e s' ∧ SRA bad N s' a' w' m' ∧ E.le w' m' s'.c) a w
def thenA (next : SA → Prop) (Q : Exit → SA → Prop) : Exit → SA → Prop
 | .normal,s=>next s
 | e,s=>Q e s
def blockA (id : Nat) (Q : Exit → SA → Prop) : Exit → SA → Prop
 | .exit id',s=>bif Nat.beq id' id then Q .normal s else Q (.exit id') s
 | e,s=>Q e s
def Weak (bad : Nat → Prop) (E : Ent) (N : Nat) (s s' : SA) : Prop :=
 ∀ a w m,SRA bad N s a w m → E.le w m s.c → ∃ m',SRA bad N s' a w m' ∧ E.le w m' s'.c
theorem WA_weak {code : Code} {s s' : SA} {Q : Exit → SA → Prop} (hw : Weak bad E N s s') (h : WA P bad E N code s' Q) : WA P bad E N code s Q:=by
 intro a w m hs hl
 obtain ⟨m',h1,h2⟩:=hw a w m hs hl
 exact h a w m' h1 h2
theorem WA_mono {code : Code} {s : SA} {Q Q' : Exit → SA → Prop} (h : WA P bad E N code s Q) (hq : ∀ e s',Q e s' → Q' e s') : WA P bad E N code s Q' :=
 fun a w m hs hl=>wp_mono (h a w m hs hl) fun e a' w' ⟨s',m',h1,h2⟩=>⟨s',m',hq e s' h1,h2⟩
theorem WA_skip {s : SA} {Q : Exit → SA → Prop} (h : Q .normal s) : WA P bad E N .skip s Q:=fun a w m hs hl=>wp_skip ⟨s,m,h,hs,hl⟩
theorem WA_exit {id : Nat} {s : SA} {Q : Exit → SA → Prop} (h : Q (.exit id) s) : WA P bad E N (.exit id) s Q:=fun a w m hs hl=>wp_exit ⟨s,m,h,hs,hl⟩
theorem WA_ret {s : SA} {Q : Exit → SA → Prop} (h : Q .ret s) : WA P bad E N .ret s Q:=fun a w m hs hl=>wp_ret ⟨s,m,h,hs,hl⟩
theorem WA_seq {x y : Code} {s : SA} {Q : Exit → SA → Prop} (h : WA P bad E N x s (thenA (fun s'=>WA P bad E N y s' Q) Q)) : WA P bad E N (.seq x y) s Q:=by
 intro a w m hs hl
 refine wp_seq (wp_mono (h a w m hs hl) ?_)
 rintro e a' w' ⟨s',m',h1,h2,h3⟩
 cases e with
 | normal=>exact h1 a' w' m' h2 h3
 | exit id=>exact ⟨s',m',h1,h2,h3⟩
 | goto l=>exact ⟨s',m',h1,h2,h3⟩
 | ret=>exact ⟨s',m',h1,h2,h3⟩
 | panic ch=>exact ⟨s',m',h1,h2,h3⟩
 | outgrown=>exact ⟨s',m',h1,h2,h3⟩
theorem WA_cond {k : Operand} {x y : Code} {s : SA} {Q : Exit → SA → Prop} (b : Bool) (hk : evA s.A k = .p (.bool b)) (h1 : b = true → WA P bad E N x s Q) (h2 : b = false → WA P bad E N y s Q) : WA P bad E N (.cond k x y) s Q:=by
 intro a w m hs hl
 have:=hs.2.t.eval k
 rw [SA.st,← evA_eq hs.1,hk] at this
 cases b with
 | true=>exact wp_cond (rep_p this) (by simpa using h1 rfl a w m hs hl)
 | false=>exact wp_cond (rep_p this) (by simpa using h2 rfl a w m hs hl)
theorem WA_block {id : Nat} {x : Code} {s : SA} {Q : Exit → SA → Prop} (h : WA P bad E N x s (blockA id Q)) : WA P bad E N (.block id x) s Q:=by
 intro a w m hs hl
 refine wp_block (wp_mono (h a w m hs hl) ?_)
 rintro e a' w' ⟨st',m',h1,h2,h3⟩
 cases e with
 | exit id' =>
  simp only [blockA] at h1
  simp only [Exit.inBlock]
  cases hb : Nat.beq id' id with
  | true =>
   rw [hb] at h1
   rw [if_pos (Nat.eq_of_beq_eq_true hb)]; exact ⟨st',m',h1,h2,h3⟩
  | false =>
   rw [hb] at h1
   rw [if_neg (fun e=>by subst e; simp at hb)]; exact ⟨st',m',h1,h2,h3⟩
 | normal=>exact ⟨st',m',h1,h2,h3⟩
 | goto l=>exact ⟨st',m',h1,h2,h3⟩
 | ret=>exact ⟨st',m',h1,h2,h3⟩
 | panic ch=>exact ⟨st',m',h1,h2,h3⟩
 | outgrown=>exact ⟨st',m',h1,h2,h3⟩
theorem WA_loop {x : Code} {s : SA} {Q : Exit → SA → Prop} (I : Nat → SA → Prop) (n : Nat) (h0 : I n s) (hz : ∀ s',I 0 s' → False) (h : ∀ k s',I (k + 1) s' → WA P bad E N x s' (thenA (I k) Q)) : WA P bad E N (.loop x) s Q:=by
 intro a w m hs hl
 refine wp_loop_rounds n ?_
 have key : ∀ n s a w m,I n s → SRA bad N s a w m → E.le w m s.c → Code.rounds P x (fun e a' w'=>∃ s' m',Q e s' ∧ SRA bad N s' a' w' m' ∧ E.le w' m' s'.c) n a w:=by
  intro n
  induction n with
  | zero=>intro s a w m h; exact (hz s h).elim
  | succ n ih =>
   intro s a w m hi hs hl
   refine wp_mono (h n s hi a w m hs hl) ?_
   rintro e a' w' ⟨s',m',h1,h2,h3⟩
   cases e with
   | normal=>exact ih s' a' w' m' h1 h2 h3
   | exit id=>exact ⟨s',m',h1,h2,h3⟩
   | goto l=>exact ⟨s',m',h1,h2,h3⟩
   | ret=>exact ⟨s',m',h1,h2,h3⟩
   | panic ch=>exact ⟨s',m',h1,h2,h3⟩
   | outgrown=>exact ⟨s',m',h1,h2,h3⟩
 exact key n s a w m h0 hs hl
def WO (P : Program) (bad : Nat → Prop) (E : Ent) (N : Nat) (ops : Array Oper) (i : Nat) (s : SA) (Q : Exit → SA → Prop) : Prop :=
 ∀ a w m,SRA bad N s a w m → E.le w m s.c → wpOps P ops (fun e a' w'=>∃ s' m',Q e s' ∧ SRA bad N s' a' w' m' ∧ E.le w' m' s'.c) (List.range' i (ops.size - i)) a w
theorem WA_region {id : Nat} {ops : Array Oper} {s : SA} {Q : Exit → SA → Prop} (h : WO P bad E N ops 0 s Q) : WA P bad E N (.region id ops false) s Q:=by
 intro a w m hs hl
 have:=h a w m hs hl
 rw [Nat.sub_zero,← List.range_eq_range'] at this
 exact wp_region this
theorem WO_weak {ops : Array Oper} {i : Nat} {s s' : SA} {Q : Exit → SA → Prop} (hw : Weak bad E N s s') (h : WO P bad E N ops i s' Q) : WO P bad E N ops i s Q:=by
 intro a w m hs hl
 obtain ⟨m',h1,h2⟩:=hw a w m hs hl
 exact h a w m' h1 h2
theorem WO_end {ops : Array Oper} {i : Nat} {s : SA} {Q : Exit → SA → Prop} (hi : Nat.ble ops.size i = true) (h : Q .normal s) : WO P bad E N ops i s Q:=by
 intro a w m hs hl
 have : ops.size - i = 0:=by have:=Nat.le_of_ble_eq_true hi; omega
 rw [this]
 exact ⟨s,m,h,hs,hl⟩
def Eff (P : Program) (bad : Nat → Prop) (E : Ent) (N : Nat) (o : Oper) (s : SA) (R : SA → Prop) : Prop :=
 ∀ a w m,SRA bad N s a w m → E.le w m s.c → ∀ (K : Act → World → Prop) (QQ : Exit → Act → World → Prop),(∀ s' a' w' m',R s' → SRA bad N s' a' w' m' → E.le w' m' s'.c → K a' w') → o.wp P a w K QQ
def evGuardA (A : List (Nat × V)) (ops : Array Oper) (o : Oper) : Option Bool :=
 match o.guard with
 | none=>some true
 | some (j,want)=>match (ops[j]?).bind (·.dst) with
  | none=>some false
  | some d=>match lkA A d with
   | .p (.bool b)=>some (b == want)
   | .p _=>some false
   | _=>none
theorem evGuardA_eq {N : Nat} {A : List (Nat × V)} (h : keysLt N A = true) (ops : Array Oper) (o : Oper) : evGuard (mkT N A) ops o = evGuardA A ops o:=by
 unfold evGuard evGuardA
 cases o.guard with
 | none=>rfl
 | some x =>
  obtain ⟨j,want⟩:=x
  simp only []
  cases (ops[j]?).bind (·.dst) with
  | none=>rfl
  | some d =>
   simp only []
   have : (mkT N A)[d]? = if d < N then some (lkA A d) else none:=by
    by_cases hd : d < N <;> simp [mkT,hd]
   rw [this]
   by_cases hd : d < N
   ·rw [if_pos hd]
    cases lkA A d with
    | p x=>cases x <;> rfl
    | _=>rfl
   ·rw [if_neg hd,lkA_ge (N:=N) (k:=d) h (Nat.le_of_not_lt hd)]
theorem WO_eff {ops : Array Oper} {i : Nat} {s : SA} {Q : Exit → SA → Prop} {o : Oper} (R : SA → Prop) (ho : ops[i]? = some o) (hg : evGuardA s.A ops o = some true) (he : Eff P bad E N o s R)
  (hk : ∀ s',R s' → WO P bad E N ops (i + 1) s' Q) : WO P bad E N ops i s Q:=by
 intro a w m hs hl
 have hi : i < ops.size:=(Array.getElem?_eq_some_iff.1 ho).1
 rw [show ops.size - i = ops.size - (i + 1) + 1 by omega,List.range'_succ]
 have hw:=evGuard_sound hs.2.t ((evGuardA_eq hs.1 ops o).trans hg)
 simp only [wpOps,ho,hw,if_true]
 exact .inl (he a w m hs hl _ _ fun s' a' w' m' h1 h2 h3=>hk s' h1 a' w' m' h2 h3)
theorem WO_skip {ops : Array Oper} {i : Nat} {s : SA} {Q : Exit → SA → Prop} {o : Oper} (ho : ops[i]? = some o) (hg : evGuardA s.A ops o = some false) (hd : okD N o.dst = true)
  (hk : WO P bad E N ops (i + 1) ⟨putA s.A o.dst (.p Go.undef),s.h,s.c⟩ Q) : WO P bad E N ops i s Q:=by
 intro a w m hs hl
 have hi : i < ops.size:=(Array.getElem?_eq_some_iff.1 ho).1
 rw [show ops.size - i = ops.size - (i + 1) + 1 by omega,List.range'_succ]
 have hw:=evGuard_sound hs.2.t ((evGuardA_eq hs.1 ops o).trans hg)
 simp only [wpOps,ho,hw,Bool.false_eq_true,if_false]
 refine hk _ w m ⟨putA_lt hd hs.1,?_⟩ hl
 have:=hs.2.put (Le.refl _ _ _) hs.2.h (.pure (.p _)) o.dst (v:=.p Go.undef) (x:=Go.undef)
 simpa only [SA.st,putA_eq hd] using this
theorem SRA.put {s : SA} {a : Act} {w w' : World} {m m' : MM} (hs : SRA bad N s a w m) {h' : Hp} {c' : Nat} (hle : Le w m s.c w' m' c') (hh : HeapRep bad h' w' m' c') {v : V} {x : Value} (hv : Rep bad w' m' c' v x) {d : Option Tmp} (hd : okD N d = true) :
  SRA bad N ⟨putA s.A d v,h',c'⟩ (a.put d x) w' m':=by
 refine ⟨putA_lt hd hs.1,?_⟩
 have:=hs.2.put hle hh hv d
 simpa only [SA.st,putA_eq hd] using this
theorem Eff_op (hT : TabOk P T) {o : Oper} {s : SA} {v : V} {h' : Hp} {c' : Nat} (he : evOperF P T false (evA s.A) o s.h s.c = some (v,h',c')) (hd : okD N o.dst = true) :
  Eff P bad E N o s (fun s'=>s' = ⟨putA s.A o.dst v,h',c'⟩):=by
 intro a w m hs hl K QQ hK
 rw [evA_eq hs.1] at he
 obtain ⟨r,w',m',hrun,hr,hle,hh⟩:=evOper_sound hT hs.2.h hs.2.t (o:=o) (draw:=false) he
 rcases hr with ⟨x,rfl,hv⟩ | ⟨rfl,rfl⟩
 ·simp only [Oper.wp,hrun,Oper.upon]
  exact hK _ _ _ _ rfl (hs.put hle hh hv hd) (hl.trans hle)
 ·simp only [Oper.wp,hrun,Oper.upon]
  exact hK _ _ _ _ rfl (hs.put hle hh (.pure (.p _)) hd) (hl.trans hle)
def evTargetA (A : List (Nat × V)) (cl : Call) : Option (FuncId × List V) :=
 match cl.callee with
 | .value f=>match evA A f with
  | .fn g first cap=>some (g,first ++ cl.args.toList.map (evA A) ++ cap)
  | _=>none
 | _=>none
theorem Eff_callA {o : Oper} {s : SA} {cl : Call} {g : FuncId} {vs : List V} {r : V} {h' : Hp} {c' : Nat} (hop : o.op = .call cl) (htg : evTargetA s.A cl = some (g,vs)) (hen : Enters P g)
  (hc : CallsA P bad s.h s.c g vs r h' c') (hd : okD N o.dst = true) : Eff P bad E N o s (fun s'=>s' = ⟨putA s.A o.dst r,h',c'⟩):=by
 intro a w m hs hl K QQ hK
 have htg' : evTarget (mkT N s.A) cl = some (g,vs):=by
  rw [← htg]; unfold evTarget evTargetA; simp only [evA_eq hs.1]
  cases cl.callee with
  | value f=>simp only []; cases evalO (mkT N s.A) f <;> rfl
  | _=>rfl
 obtain ⟨xs,hrun,hlen,hr⟩:=call_run hs.2.t htg' hen o hop
 simp only [Oper.wp,hrun,Oper.upon]
 refine (hc w m xs hs.2.h hlen hr).mono ?_
 rintro e w' ⟨x,m',rfl,hv,hle,hh⟩
 exact hK _ _ _ _ rfl (hs.put hle hh hv hd) (hl.trans hle)
theorem Eff_pt {o : Oper} {s : SA} {cl : Call} {g : FuncId} {vs : List V} {r : V} (hop : o.op = .call cl) (htg : evTargetA s.A cl = some (g,vs)) (hen : Enters P g) (hpu : vs.all (pur 6) = true)
  (hc : PT P g vs r) (hd : okD N o.dst = true) : Eff P bad E N o s (fun s'=>s' = ⟨putA s.A o.dst r,s.h,s.c⟩):=by
 intro a w m hs hl K QQ hK
 exact Eff_callA hop htg hen (CallsA_of_PT hpu hc _ _) hd a w m hs hl K QQ hK
end
def runO (P : Program) (T : TypeId → Option TI) (N : Nat) (ops : Array Oper) : Nat → List Oper → SA → Option SA
 | 0,_,s=>some s
 | n + 1,[],s=>none
 | n + 1,o :: r,s=>match evGuardA s.A ops o with
  | some true=>match evOperF P T false (evA s.A) o s.h s.c with
   | some (v,h',c')=>bif okD N o.dst then runO P T N ops n r ⟨putA s.A o.dst v,h',c'⟩ else none
   | none=>none
  | some false=>bif okD N o.dst then runO P T N ops n r ⟨putA s.A o.dst (.p Go.undef),s.h,s.c⟩ else none
  | none=>none
def keepA (ks : List Nat) (A : List (Nat × V)) : List (Nat × V):=ks.map fun k=>(k,lkA A k)
def runK (P : Program) (T : TypeId → Option TI) (N : Nat) (ops : Array Oper) (i n : Nat) (ks : List Nat) (s : SA) : Option SA :=
 match runO P T N ops n (ops.toList.drop i) s with
 | some s'=>some ⟨keepA ks s'.A,s'.h,s'.c⟩
 | none=>none
theorem lkA_keep (A : List (Nat × V)) : ∀ (ks : List Nat) (k : Nat),lkA (keepA ks A) k = lkA A k ∨ lkA (keepA ks A) k = .undef
 | [],k=>.inr rfl
 | j :: r,k=>by
  simp only [keepA,List.map_cons,lkA_cons]
  split
  ·rename_i e; subst e; exact .inl rfl
  ·exact lkA_keep A r k
theorem keysLt_keep {N : Nat} {A : List (Nat × V)} : ∀ (ks : List Nat),ks.all (Nat.blt · N) = true → keysLt N (keepA ks A) = true
 | [],_=>rfl
 | j :: r,h=>by
  simp only [List.all_cons,Bool.and_eq_true] at h
  simp only [keepA,List.map_cons,keysLt,h.1,Bool.true_and]
  exact keysLt_keep r h.2
section
variable {P : Program} {T : TypeId → Option TI} {bad : Nat → Prop} {E : Ent} {N : Nat}
theorem SRA.slots {s : SA} {a : Act} {w : World} {m : MM} (hs : SRA bad N s a w m) {A' : List (Nat × V)} (hk : keysLt N A' = true) (hv : ∀ k x,Rep bad w m s.c (lkA s.A k) x → Rep bad w m s.c (lkA A' k) x) : SRA bad N ⟨A',s.h,s.c⟩ a w m:=by
 refine ⟨hk,⟨⟨by simpa [SA.st,mkT_length] using hs.2.t.1,fun i=>?_⟩,hs.2.h,hs.2.d⟩⟩
 have h1:=hs.2.t.2 i
 simp only [SA.st] at h1 ⊢
 rw [mkT_getD hs.1] at h1
 rw [mkT_getD hk]
 exact hv i _ h1
theorem Weak_keep {s : SA} (ks : List Nat) (hk : ks.all (Nat.blt · N) = true) : Weak bad E N s ⟨keepA ks s.A,s.h,s.c⟩:=by
 intro a w m hs hl
 refine ⟨m,hs.slots (keysLt_keep ks hk) fun k x hr=>?_,hl⟩
 rcases lkA_keep s.A ks k with h | h
 ·rw [h]; exact hr
 ·rw [h]; exact .pure (.undef _)
theorem WO_runO (hT : TabOk P T) {ops : Array Oper} {Q : Exit → SA → Prop} : ∀ (n i : Nat) (r : List Oper) (s s' : SA),ops.toList.drop i = r → runO P T N ops n r s = some s' → WO P bad E N ops (i + n) s' Q → WO P bad E N ops i s Q
 | 0,i,r,s,s',hd,hr,h=>by
  simp only [runO,Option.some.injEq] at hr
  subst hr; exact h
 | n + 1,i,[],s,s',hd,hr,h=>by simp [runO] at hr
 | n + 1,i,o :: r,s,s',hd,hr,h=>by
  have ho : ops[i]? = some o:=by
   have : ops.toList[i]? = some o:=by
    have:=congrArg (fun l=>l[0]?) hd
    simpa using this
   simpa using this
  have hd' : ops.toList.drop (i + 1) = r:=by
   have:=congrArg (List.drop 1) hd
   simpa [List.drop_drop] using this
  simp only [runO] at hr
  split at hr
  ·rename_i hg
   split at hr
   ·rename_i v h' c' hev
    cases hdd : okD N o.dst with
    | false=>rw [hdd] at hr; cases hr
    | true =>
     rw [hdd] at hr
     refine WO_eff _ ho hg (Eff_op hT hev hdd) ?_
     rintro _ rfl
     exact WO_runO hT n (i + 1) r _ s' hd' hr (by rwa [show i + 1 + n = i + (n + 1) by omega])
   ·cases hr
  ·rename_i hg
   cases hdd : okD N o.dst with
   | false=>rw [hdd] at hr; cases hr
   | true =>
    rw [hdd] at hr
    exact WO_skip ho hg hdd (WO_runO hT n (i + 1) r _ s' hd' hr (by rwa [show i + 1 + n = i + (n + 1) by omega]))
  ·cases hr
theorem WO_seg (hT : TabOk P T) {ops : Array Oper} {i : Nat} {s : SA} {Q : Exit → SA → Prop} (n : Nat) (ks : List Nat) (s' : SA) (hr : runK P T N ops i n ks s = some s') (hk : ks.all (Nat.blt · N) = true) (h : WO P bad E N ops (i + n) s' Q) : WO P bad E N ops i s Q:=by
 unfold runK at hr
 split at hr
 ·rename_i s1 h1
  simp only [Option.some.injEq] at hr
  subst hr
  exact WO_runO hT n i _ s s1 rfl h1 (WO_weak (Weak_keep ks hk) h)
 ·cases hr
end
end Go.Mx
namespace Go.Mx
set_option linter.unusedVariables false
set_option linter.unusedSimpArgs false
def VLe (v v' : V) : Prop:=∀ (w : World) (ok : Nat → Prop) (x : Value),RepP w ok v x → RepP w ok v' x
theorem VLe.refl (v : V) : VLe v v:=fun _ _ _ h=>h
theorem VLe.undef (v : V) : VLe v .undef:=fun _ _ x _=>.undef x
theorem VLe.trans {a b d : V} (h : VLe a b) (k : VLe b d) : VLe a d:=fun w ok x hx=>k w ok x (h w ok x hx)
theorem VLe.nil_opt : VLe (.ps .nil []) (.ps .opt []):=fun w ok x h=>by
 cases h with
 | psNil=>exact .psNil (by simp)
 | ps hn=>exact absurd rfl hn
theorem VLe.nil_fopt : VLe (.ps .nil []) (.ps .fopt []):=fun w ok x h=>by
 cases h with
 | psNil=>exact .psNil (by simp)
 | ps hn=>exact absurd rfl hn
theorem VLe.any_opt {xs : List V} : VLe (.ps .any xs) (.ps .opt xs):=fun w ok x h=>by
 cases h with
 | psNil h=>simp at h
 | ps hn a b c d e f g=>exact .ps (by simp) a (by simp) c d e f g
theorem VLe.full_fopt {xs : List V} : VLe (.ps .full xs) (.ps .fopt xs):=fun w ok x h=>by
 cases h with
 | psNil h=>simp at h
 | ps hn a b c d e f g=>exact .ps (by simp) a (fun _=>b (.inl rfl)) c d e f g
theorem VLe.fopt_opt {xs : List V} : VLe (.ps .fopt xs) (.ps .opt xs):=fun w ok x h=>by
 cases h with
 | psNil h=>exact .psNil (by simp)
 | ps hn a b c d e f g=>exact .ps (by simp) a (by simp) c d e f g
theorem VLe.full_opt {xs : List V} : VLe (.ps .full xs) (.ps .opt xs):=VLe.full_fopt.trans VLe.fopt_opt
def VLes : List V → List V → Prop
 | [],[]=>True
 | a :: r,b :: q=>VLe a b ∧ VLes r q
 | _,_=>False
theorem VLes.get : ∀ {l m : List V},VLes l m → l.length = m.length ∧ ∀ i (h1 : i < l.length) (h2 : i < m.length),VLe l[i] m[i]
 | [],[],_=>⟨rfl,fun i h=>by simp at h⟩
 | a :: r,b :: q,⟨h,k⟩=>by
  obtain ⟨h1,h2⟩:=k.get
  refine ⟨by simp [h1],fun i a b=>?_⟩
  cases i with
  | zero=>exact h
  | succ i=>simpa using h2 i (by simpa using a) (by simpa using b)
 | [],_ :: _,h=>h.elim
 | _ :: _,[],h=>h.elim
theorem VLe.agg {l m : List V} (h : VLes l m) : VLe (.agg l) (.agg m):=fun w ok x hx=>by
 obtain ⟨h1,h2⟩:=h.get
 cases hx with
 | agg hl hr=>exact .agg (by omega) fun i a b=>h2 i (by omega) a w ok _ (hr i (by omega) b)
theorem VLe.tup {l m : List V} (h : VLes l m) : VLe (.tup l) (.tup m):=fun w ok x hx=>by
 obtain ⟨h1,h2⟩:=h.get
 cases hx with
 | tup hl hr=>exact .tup (by omega) fun i a b=>h2 i (by omega) a w ok _ (hr i (by omega) b)
def VLf (v v' : V) : Prop:=∀ (bad : Nat → Prop) (w : World) (m : MM) (c : Nat) (x : Value),Rep bad w m c v x → Rep bad w m c v' x
theorem VLe.f {v v' : V} (h : VLe v v') (hp : pur 6 v = true) : VLf v v':=fun bad w m c x hx=>.pure (h w _ x (pur_sound 6 hp hx))
theorem VLf.refl (v : V) : VLf v v:=fun _ _ _ _ _ h=>h
theorem VLf.undef (v : V) : VLf v .undef:=fun _ _ _ _ x _=>.pure (.undef x)
def VLfs : List V → List V → Prop
 | [],[]=>True
 | a :: r,b :: q=>VLf a b ∧ VLfs r q
 | _,_=>False
theorem VLfs.get : ∀ {l m : List V},VLfs l m → l.length = m.length ∧ ∀ i (h1 : i < l.length) (h2 : i < m.length),VLf l[i] m[i]
 | [],[],_=>⟨rfl,fun i h=>by simp at h⟩
 | a :: r,b :: q,⟨h,k⟩=>by
  obtain ⟨h1,h2⟩:=k.get
  refine ⟨by simp [h1],fun i a b=>?_⟩
  cases i with
  | zero=>exact h
  | succ i=>simpa using h2 i (by simpa using a) (by simpa using b)
 | [],_ :: _,h=>h.elim
 | _ :: _,[],h=>h.elim
theorem VLf.agg {l m : List V} (h : VLfs l m) : VLf (.agg l) (.agg m):=fun bad w m c x hx=>by
 obtain ⟨h1,h2⟩:=h.get
 obtain ⟨cs,rfl,hsz,hr⟩:=rep_agg hx
 exact .agg (by omega) fun i a b=>h2 i (by omega) a _ _ _ _ _ (hr i (by omega) b)
section
variable {P : Program} {T : TypeId → Option TI} {bad : Nat → Prop} {E : Ent} {N : Nat}
theorem Weak.refl (s : SA) : Weak bad E N s s:=fun a w m hs hl=>⟨m,hs,hl⟩
theorem Weak.trans {s t u : SA} (h : Weak bad E N s t) (k : Weak bad E N t u) : Weak bad E N s u:=fun a w m hs hl=>by
 obtain ⟨m',h1,h2⟩:=h a w m hs hl
 exact k a w m' h1 h2
def SLe : List (Nat × V) → List (Nat × V) → Prop
 | _,[]=>True
 | A,(k,v') :: r=>VLf (lkA A k) v' ∧ SLe A r
theorem SLe.get {A : List (Nat × V)} : ∀ {B : List (Nat × V)},SLe A B → ∀ k,VLf (lkA A k) (lkA B k)
 | [],_,k=>VLf.undef _
 | (j,v') :: r,⟨h,h'⟩,k=>by
  rw [lkA_cons]
  split
  ·rename_i e; subst e; exact h
  ·exact h'.get k
theorem Weak_own {s : SA} (k b : Nat) (e : TypeId) (wd : Nat) (h : lkA s.A k = .ps .nil []) (hb : s.h.get b = none) (hk : Nat.blt k N = true) (hc : Nat.ble E.c s.c = true) :
  Weak bad E N s ⟨(k,.sl b s.c 0 0 true) :: s.A,(b,⟨s.c,e,wd,false,true,[]⟩) :: s.h,s.c + 1⟩:=by
 intro a w m hs hl
 have hc' : E.c ≤ s.c:=Nat.le_of_ble_eq_true hc
 have hmb : m b = none:=hs.2.h.non b hb
 have hle : Le w m s.c w (upd m b (some ⟨s.c,e,wd,0,none⟩)) (s.c + 1):=by
  refine ⟨by omega,fun j l hj hlt=>?_,fun _ _ _=>rfl,Nat.le_refl _,rfl,rfl,rfl,fun j l β hj hβ=>?_⟩
  ·unfold upd at hj; split at hj
   ·cases hj; exact absurd hlt (Nat.lt_irrefl _)
   ·exact hj
  ·unfold upd at hj; split at hj
   ·cases hj; cases hβ
   ·exact .inr ⟨j,l,hj,hβ⟩
 refine ⟨upd m b (some ⟨s.c,e,wd,0,none⟩),?_,hl.trans hle⟩
 have hx:=hs.2.t.2 k
 simp only [SA.st] at hx
 rw [mkT_getD hs.1,h] at hx
 have hx' : a.tmps.getD k Go.undef = .slice none 0 0:=by
  cases hx with
  | pure hp =>
   generalize a.tmps.getD k Go.undef = y at hp
   cases hp with
   | psNil=>rfl
   | ps hn=>exact absurd rfl hn
 refine ⟨by simp only [keysLt,hk,hs.1,Bool.true_and],⟨⟨by simpa [SA.st,mkT_length] using hs.2.t.1,fun i=>?_⟩,?_,hs.2.d⟩⟩
 ·have h1:=hs.2.t.2 i
  simp only [SA.st] at h1 ⊢
  rw [mkT_getD hs.1] at h1
  rw [mkT_getD (by simp only [keysLt,hk,hs.1,Bool.true_and]),lkA_cons]
  split
  ·rename_i hki; subst hki
   rw [hx']
   refine .sl (Nat.lt_succ_self _) rfl fun l hl1 hl2=>?_
   simp only [upd,if_true,Option.some.injEq] at hl1
   subst hl1
   exact .inl ⟨rfl,rfl,rfl,rfl⟩
  ·exact h1.mono hle
 ·refine ⟨fun j B hj=>?_,fun j hj=>?_,hs.2.h.lt,fun j l β hj hβ=>?_,fun j j' l l' β hj hj' hβ hβ'=>?_⟩
  ·simp only [SA.st,Hp.get] at hj
   split at hj
   ·rename_i e; subst e; cases hj
    exact ⟨⟨s.c,e,wd,0,none⟩,by simp only [upd,if_true],rfl,rfl,rfl,Nat.lt_succ_self _,.inl ⟨rfl,rfl,rfl⟩⟩
   ·rename_i hne
    obtain ⟨l,h1,h2⟩:=hs.2.h.get j B hj
    exact ⟨l,by simp only [upd,if_neg (Ne.symm hne)]; exact h1,h2.mono hle fun _ _=>rfl⟩
  ·simp only [SA.st,Hp.get] at hj
   split at hj
   ·cases hj
   ·rename_i hne; simp only [upd,if_neg (Ne.symm hne)]; exact hs.2.h.non j hj
  ·unfold upd at hj; split at hj
   ·cases hj; cases hβ
   ·exact hs.2.h.nb j l β hj hβ
  ·unfold upd at hj hj'
   split at hj
   ·cases hj; cases hβ
   ·split at hj'
    ·cases hj'; cases hβ'
    ·exact hs.2.h.inj j j' l l' β hj hj' hβ hβ'
def trA (h : Hp) (κ : Nat → Option (Nat × Nat)) : List (Nat × V) → Option (List (Nat × V))
 | []=>some []
 | (k,v) :: r=>match trV h κ [] 5 v,trA h κ r with
  | some v',some r'=>some ((k,v') :: r')
  | _,_=>none
theorem trA_get {h : Hp} {κ : Nat → Option (Nat × Nat)} : ∀ {A A' : List (Nat × V)},trA h κ A = some A' → ∀ k,trV h κ [] 5 (lkA A k) = some (lkA A' k)
 | [],A',ha,k=>by
  simp only [trA,Option.some.injEq] at ha
  subst ha; rfl
 | (j,v) :: r,A',ha,k=>by
  simp only [trA] at ha
  split at ha
  ·rename_i v' r' h1 h2
   cases ha
   rw [lkA_cons,lkA_cons]
   split
   ·exact h1
   ·exact trA_get h2 k
  ·cases ha
theorem trA_keys {h : Hp} {κ : Nat → Option (Nat × Nat)} : ∀ {A A' : List (Nat × V)},trA h κ A = some A' → keysLt N A = true → keysLt N A' = true
 | [],A',ha,_=>by
  simp only [trA,Option.some.injEq] at ha
  subst ha; rfl
 | (j,v) :: r,A',ha,hk=>by
  simp only [trA] at ha
  split at ha
  ·rename_i v' r' h1 h2
   cases ha
   simp only [keysLt,Bool.and_eq_true] at hk ⊢
   exact ⟨hk.1,trA_keys h2 hk.2⟩
  ·cases ha
def nodupB : List Nat → Bool
 | []=>true
 | x :: r=>!(r.any (Nat.beq x)) && nodupB r
theorem nodupB_ok : ∀ {l : List Nat},nodupB l = true → l.Nodup
 | [],_=>List.nodup_nil
 | x :: r,h=>by
  simp only [nodupB,Bool.and_eq_true,Bool.not_eq_true',List.any_eq_false] at h
  refine List.nodup_cons.2 ⟨fun hm=>?_,nodupB_ok h.2⟩
  exact h.1 x hm (Nat.beq_refl x)
def renOk (h : Hp) (c0 c' : Nat) (L : List (Nat × Nat × Nat)) : Bool :=
 Nat.ble c0 c' && nodupB (L.map (·.1)) && nodupB (L.map fun x=>x.2.1) && L.all fun x=>Nat.blt x.2.2 c' && (Nat.ble c0 x.2.2 || (Nat.beq x.1 x.2.1 && match h.get x.1 with
  | some B=>Nat.beq B.s x.2.2
  | none=>false))
theorem Weak_ren {s : SA} (L : List (Nat × Nat × Nat)) (s' : SA) (hA : trA s.h (lookE L) s.A = some s'.A) (hB : moveH s.h (lookE L) [] L = some s'.h) (hc : renOk s.h E.c s'.c L = true) : Weak bad E N s s':=by
 obtain ⟨A',h',c'⟩:=s'
 simp only at hA hB hc
 intro a w m hs hl
 simp only [renOk,Bool.and_eq_true,List.all_eq_true,Bool.or_eq_true] at hc
 obtain ⟨⟨⟨hc0,hd1⟩,hd2⟩,hall⟩:=hc
 replace hc0 : E.c ≤ c':=Nat.le_of_ble_eq_true hc0
 replace hd1:=nodupB_ok hd1
 replace hd2:=nodupB_ok hd2
 have hst : ∀ {x y z},(x,y,z) ∈ L → z < c':=fun hm=>by
  have:=(hall _ hm).1
  simpa using this
 have hh:=hs.2.h
 simp only [SA.st] at hh
 let m' : MM:=moveM m L
 have m'_of : ∀ k l,m' k = some l → ∃ b l0 z,(b,k,z) ∈ L ∧ m b = some l0 ∧ l = { l0 with s:=z }:=fun k l hk=>by
  simp only [m',moveM] at hk
  split at hk
  ·rename_i b z hv
   simp only [Option.map_eq_some_iff] at hk
   obtain ⟨l0,h1,rfl⟩:=hk
   exact ⟨b,l0,z,revE_mem hv,h1,rfl⟩
  ·cases hk
 have key_inj : ∀ {b k k' z z'},(b,k,z) ∈ L → (b,k',z') ∈ L → k = k':=fun {b k k' z z'} h1 h2=>by
  have : ∀ (G : List (Nat × Nat × Nat)),(G.map (·.1)).Nodup → (b,k,z) ∈ G → (b,k',z') ∈ G → k = k':=by
   intro G
   induction G with
   | nil=>intro _ h; cases h
   | cons x t ih =>
    intro hn h1 h2
    simp only [List.map_cons,List.nodup_cons] at hn
    rcases List.mem_cons.1 h1 with h1 | h1 <;> rcases List.mem_cons.1 h2 with h2 | h2
    ·rw [← h1] at h2; cases h2; rfl
    ·exact absurd (List.mem_map.2 ⟨_,h2,by rw [← h1]⟩) hn.1
    ·exact absurd (List.mem_map.2 ⟨_,h1,by rw [← h2]⟩) hn.1
    ·exact ih hn.2 h1 h2
  exact this L hd1 h1 h2
 have hok : ∀ β,okOf bad w m β → okOf bad w m' β:=fun β hβ=>⟨hβ.1,hβ.2.1,fun k l h1 h2=>by
  obtain ⟨b,l0,z,_,h3,rfl⟩:=m'_of k l h1
  exact hβ.2.2 b l0 h3 h2⟩
 have hκ : ∀ b b' z,lookE L b = some (b',z) → z < c' ∧ ∀ l,m b = some l → m' b' = some { l with s:=z }:=fun b b' z hk=>by
  have hmem:=lookE_mem hk
  refine ⟨hst hmem,fun l hl=>?_⟩
  simp only [m',moveM,revE_of hd2 hmem,hl,Option.map_some]
 have hbor : ∀ b ∈ ([] : List Nat),lookE L b = none → ∀ l β,m b = some l → l.blk = some β → okOf bad w m' β:=fun b hb=>by cases hb
 have hle : E.le w m' c':=by
  refine ⟨hc0,fun k l h1 h2=>?_,fun β hβ hno=>hl.keep β hβ hno,hl.size,hl.os,hl.output,hl.tape,fun k l β h1 h2=>?_⟩
  ·obtain ⟨b,l0,z,h3,h4,rfl⟩:=m'_of k l h1
   rcases (hall _ h3).2 with h5 | h5
   ·have:=Nat.le_of_ble_eq_true h5
    simp only at this h2
    omega
   ·obtain ⟨h5,h6⟩:=h5
    split at h6
    ·rename_i B hB'
     have e1 : b = k:=Nat.eq_of_beq_eq_true h5
     have e2 : B.s = z:=Nat.eq_of_beq_eq_true h6
     subst e1
     obtain ⟨l1,h7,h8,_⟩:=hh.get b B hB'
     rw [h4] at h7; cases h7
     have e3 : ({ l0 with s:=z } : Loc) = l0:=by rw [← e2,← h8]
     rw [e3] at h2 ⊢
     exact hl.hm b l0 h4 h2
    ·cases h6
  ·obtain ⟨b,l0,z,h3,h4,rfl⟩:=m'_of k l h1
   exact hl.range b l0 β h4 h2
 refine ⟨m',⟨trA_keys hA hs.1,⟨⟨by simpa [SA.st,mkT_length] using hs.2.t.1,fun i=>?_⟩,?_,hs.2.d⟩⟩,hle⟩
 ·have h1:=hs.2.t.2 i
  simp only [SA.st] at h1 ⊢
  rw [mkT_getD hs.1] at h1
  rw [mkT_getD (trA_keys hA hs.1)]
  exact trV_sound hh hok hκ hbor 5 _ _ _ h1 (trA_get hA i)
 ·simp only [SA.st]
  refine ⟨fun k B hk=>?_,fun k hk=>?_,hh.lt,fun k l β h1 h2 h3=>?_,fun k k' l l' β h1 h2 h3 h4=>?_⟩
  ·obtain ⟨g1,g2⟩:=moveH_get hB k
   cases hv : revE L k with
   | none=>rw [g1 hv] at hk; cases hk
   | some y =>
    obtain ⟨b,z⟩:=y
    obtain ⟨B0,es,g3,g4,g5⟩:=g2 b z hv
    rw [g5] at hk; cases hk
    obtain ⟨l,hm,_⟩:=hh.get b B0 g3
    exact ⟨{ l with s:=z },by simp [m',moveM,hv,hm],move_content hh hok hκ hbor g3 g4 (hst (revE_mem hv)) hm⟩
  ·obtain ⟨g1,g2⟩:=moveH_get hB k
   cases hv : revE L k with
   | none=>simp [m',moveM,hv]
   | some y =>
    obtain ⟨b,z⟩:=y
    obtain ⟨B0,es,g3,g4,g5⟩:=g2 b z hv
    rw [g5] at hk; cases hk
  ·obtain ⟨b,l0,z,_,h6,rfl⟩:=m'_of k l h1
   exact hh.nb b l0 β h6 h2 h3
  ·obtain ⟨b,l0,z,h5,h6,rfl⟩:=m'_of k l h1
   obtain ⟨b',l0',z',h5',h6',rfl⟩:=m'_of k' l' h2
   have : b = b':=hh.inj b b' l0 l0' β h6 h6' h3 h4
   subst this
   exact key_inj h5 h5'
inductive FzV (b s : Nat) (es : List V) : V → V → Prop
 | hit (tip : Bool) : FzV b s es (.sl b s 0 es.length tip) (.ps .opt es)
 | keep (v : V) : FzV b s es v v
 | agg {vs vs' : List V} (h : vs.length = vs'.length) (hv : ∀ i (h1 : i < vs.length) (h2 : i < vs'.length),FzV b s es vs[i] vs'[i]) : FzV b s es (.agg vs) (.agg vs')
 | tup {vs vs' : List V} (h : vs.length = vs'.length) (hv : ∀ i (h1 : i < vs.length) (h2 : i < vs'.length),FzV b s es vs[i] vs'[i]) : FzV b s es (.tup vs) (.tup vs')
def Fzs (b s : Nat) (es : List V) : List V → List V → Prop
 | [],[]=>True
 | a :: r,d :: q=>FzV b s es a d ∧ Fzs b s es r q
 | _,_=>False
theorem Fzs.get {b s : Nat} {es : List V} : ∀ {l m : List V},Fzs b s es l m → l.length = m.length ∧ ∀ i (h1 : i < l.length) (h2 : i < m.length),FzV b s es l[i] m[i]
 | [],[],_=>⟨rfl,fun i h=>by simp at h⟩
 | a :: r,d :: q,⟨h,k⟩=>by
  obtain ⟨h1,h2⟩:=k.get
  refine ⟨by simp [h1],fun i a b=>?_⟩
  cases i with
  | zero=>exact h
  | succ i=>simpa using h2 i (by simpa using a) (by simpa using b)
 | [],_ :: _,h=>h.elim
 | _ :: _,[],h=>h.elim
theorem FzV.aggs {b s : Nat} {es l m : List V} (h : Fzs b s es l m) : FzV b s es (.agg l) (.agg m):=.agg h.get.1 h.get.2
def FzA (b s : Nat) (es : List V) : List (Nat × V) → List (Nat × V) → Prop
 | [],[]=>True
 | (k,v) :: r,(k',v') :: r'=>k = k' ∧ FzV b s es v v' ∧ FzA b s es r r'
 | _,_=>False
theorem FzA.get {b s : Nat} {es : List V} : ∀ {A A' : List (Nat × V)},FzA b s es A A' → ∀ k,FzV b s es (lkA A k) (lkA A' k)
 | [],[],_,k=>.keep _
 | (j,v) :: r,(j',v') :: r',⟨h1,h2,h3⟩,k=>by
  subst h1
  rw [lkA_cons,lkA_cons]
  split
  ·exact h2
  ·exact h3.get k
 | [],_ :: _,h,_=>h.elim
 | _ :: _,[],h,_=>h.elim
theorem FzA.keys {b s : Nat} {es : List V} : ∀ {A A' : List (Nat × V)},FzA b s es A A' → keysLt N A = true → keysLt N A' = true
 | [],[],_,_=>rfl
 | (j,v) :: r,(j',v') :: r',⟨h1,h2,h3⟩,hk=>by
  subst h1
  simp only [keysLt,Bool.and_eq_true] at hk ⊢
  exact ⟨hk.1,h3.keys hk.2⟩
 | [],_ :: _,h,_=>h.elim
 | _ :: _,[],h,_=>h.elim
theorem FzV.sound {w : World} {m : MM} {c : Nat} {h : Hp} (hh : HeapRep bad h w m c) {b s : Nat} {B : Blk} (hg : h.get b = some B) (hs : B.s = s) (hv : B.var = false) {v v' : V} (hf : FzV b s B.es v v') :
  ∀ {x : Value},Rep bad w m c v x → Rep bad w (upd m b none) c v' x:=by
 induction hf with
 | hit tip =>
  intro x hx
  obtain ⟨l,hm,hls,_,_,_,hd⟩:=hh.get b B hg
  rcases hd with ⟨_,hblk,hes⟩ | ⟨_,β1,cs1,hblk,_⟩
  ·cases hx with
   | pure hp=>cases hp
   | sl _ _ hb =>
    rcases hb l hm (hls.trans hs) with ⟨_,_,h3,rfl⟩ | ⟨β,_,h1,_⟩
    ·rw [hes]; exact .pure (.psNil (by simp))
    ·rw [hblk] at h1; cases h1
  ·have:=frz_rowX hh hg hs hv (fun l1 hl1 _=>by rw [hm] at hl1; cases hl1; rw [hblk]; simp) (by omega) hx
   simp only [List.drop_zero,List.take_length] at this
   exact .pure (VLe.any_opt _ _ _ this)
 | keep v=>intro x hx; exact hx.mono (hh.erase b).1
 | agg hl hvs ih =>
  intro x hx
  obtain ⟨cs,rfl,hsz,hr⟩:=rep_agg hx
  exact .agg (by omega) fun i a b=>ih i (by omega) a (hr i (by omega) b)
 | tup hl hvs ih =>
  intro x hx
  cases hx with
  | pure hp=>cases hp with
   | tup hl' hr=>exact .tup (by omega) fun i a b=>ih i (by omega) a (.pure (hr i (by omega) b))
  | tup hl' hr=>exact .tup (by omega) fun i a b=>ih i (by omega) a (hr i (by omega) b)
theorem FzV.cells {b s : Nat} {es : List V} {v v' : V} (h : FzV b s es v v') : v.cells.length = v'.cells.length ∧ ∀ j (h1 : j < v.cells.length) (h2 : j < v'.cells.length),FzV b s es v.cells[j] v'.cells[j]:=by
 cases h with
 | hit tip=>exact ⟨rfl,fun j h1 h2=>by
   have : j = 0:=by simpa [V.cells] using h1
   subst this; exact .hit tip⟩
 | keep v=>exact ⟨rfl,fun j h1 h2=>.keep _⟩
 | agg hl hv=>exact ⟨hl,hv⟩
 | tup hl hv=>exact ⟨rfl,fun j h1 h2=>by
   have : j = 0:=by simpa [V.cells] using h1
   subst this; exact .tup hl hv⟩
def FzH (b s : Nat) (es : List V) : Hp → Hp → Prop
 | [],[]=>True
 | (k,B) :: r,(k',B') :: r'=>k = k' ∧ (B = B' ∨ (B.var = true ∧ B' = { B with es:=B'.es } ∧ Fzs b s es B.es B'.es)) ∧ FzH b s es r r'
 | _,_=>False
theorem FzH.get {b s : Nat} {es : List V} : ∀ {h h' : Hp},FzH b s es h h' → ∀ k,(h.get k = none ∧ h'.get k = none) ∨ ∃ B B',h.get k = some B ∧ h'.get k = some B' ∧ (B = B' ∨ (B.var = true ∧ B' = { B with es:=B'.es } ∧ Fzs b s es B.es B'.es))
 | [],[],_,k=>.inl ⟨rfl,rfl⟩
 | (j,B) :: r,(j',B') :: r',⟨h1,h2,h3⟩,k=>by
  subst h1
  simp only [Hp.get]
  by_cases e : j = k
  ·simp only [e,if_true]; exact .inr ⟨B,B',rfl,rfl,h2⟩
  ·simp only [if_neg e]; exact h3.get k
 | [],_ :: _,h,_=>h.elim
 | _ :: _,[],h,_=>h.elim
theorem Weak_frz {s : SA} (b st : Nat) (B : Blk) (hg : s.h.get b = some B) (hs : B.s = st) (hv : B.var = false) (A' : List (Nat × V)) (h' : Hp) (hA : FzA b st B.es s.A A') (hH : FzH b st B.es (s.h.erase b) h') : Weak bad E N s ⟨A',h',s.c⟩:=by
 intro a w m hsr hl
 have hh:=hsr.2.h
 simp only [SA.st] at hh
 obtain ⟨h1,h2⟩:=hh.erase b
 refine ⟨upd m b none,⟨hA.keys hsr.1,⟨⟨by simpa [SA.st,mkT_length] using hsr.2.t.1,fun i=>?_⟩,?_,hsr.2.d⟩⟩,hl.trans h1⟩
 ·have h3:=hsr.2.t.2 i
  simp only [SA.st] at h3 ⊢
  rw [mkT_getD hsr.1] at h3
  rw [mkT_getD (hA.keys hsr.1)]
  exact FzV.sound hh hg hs hv (hA.get i) h3
 ·simp only [SA.st]
  refine ⟨fun k B1 hk=>?_,fun k hk=>?_,h2.lt,h2.nb,h2.inj⟩
  ·rcases hH.get k with ⟨_,e2⟩ | ⟨B0,B0',e1,e2,e3⟩
   ·rw [e2] at hk; cases hk
   ·rw [e2] at hk; cases hk
    rcases e3 with rfl | ⟨e4,e5,e6⟩
    ·exact h2.get k B0 e1
    ·have hne : b ≠ k:=by
      intro e; subst e
      rw [Hp.get_erase,if_pos rfl] at e1; cases e1
     rw [Hp.get_erase,if_neg hne] at e1
     obtain ⟨l,p1,p2,p3,p4,p5,p6⟩:=hh.get k B0 e1
     obtain ⟨q1,q2⟩:=e6.get
     refine ⟨l,by simp [upd,Ne.symm hne,p1],?_⟩
     rw [e5]
     refine ⟨p2,p3,p4,p5,?_⟩
     rcases p6 with ⟨r1,r2,r3⟩ | ⟨r1,β,cs,r2,r3,r4,r5,r6,r7⟩
     ·exact .inl ⟨r1,r2,by rw [r3] at q1; exact List.length_eq_zero_iff.1 q1.symm⟩
     ·refine .inr ⟨trivial,β,cs,r2,r3,r4,by simp only; rw [← q1]; exact r5,fun i hi=>?_,fun i hi j hj=>?_⟩
      ·simp only at hi
       rw [← (q2 i (by omega) hi).cells.1]; exact r6 i (by omega)
      ·simp only at hi hj
       obtain ⟨c1,c2⟩:=(q2 i (by omega) hi).cells
       obtain ⟨x,hx,hr⟩:=r7 i (by omega) j (by rw [c1]; exact hj)
       refine ⟨x,hx,?_⟩
       simp only [e4,RepC,if_true] at hr ⊢
       exact FzV.sound hh hg hs hv (c2 j (by rw [c1]; exact hj) hj) hr
  ·rcases hH.get k with ⟨e1,_⟩ | ⟨B0,B0',e1,e2,e3⟩
   ·exact h2.non k e1
   ·rw [e2] at hk; cases hk
end
end Go.Mx
namespace Go.Mx
set_option linter.unusedVariables false
set_option linter.unusedSimpArgs false
def enumA : Nat → List V → List (Nat × V)
 | _,[]=>[]
 | k,v :: r=>(k,v) :: enumA (k + 1) r
theorem enumA_get : ∀ (vs : List V) (j k : Nat),lkA (enumA j vs) k = if j ≤ k then vs.getD (k - j) .undef else .undef
 | [],j,k=>by simp [enumA,lkA]
 | v :: r,j,k=>by
  rw [enumA,lkA_cons,enumA_get r]
  by_cases h1 : j = k
  ·subst h1; simp
  ·rw [if_neg h1]
   by_cases h2 : j ≤ k
   ·rw [if_pos h2,if_pos (by omega),show k - j = k - (j + 1) + 1 by omega]; simp
   ·rw [if_neg h2,if_neg (by omega)]
theorem enumA_lt : ∀ (vs : List V) (j N : Nat),j + vs.length ≤ N → keysLt N (enumA j vs) = true
 | [],_,_,_=>rfl
 | v :: r,j,N,h=>by
  simp only [List.length_cons] at h
  simp only [enumA,keysLt,Bool.and_eq_true]
  exact ⟨by rw [Nat.blt_eq]; omega,enumA_lt r (j + 1) N (by omega)⟩
def EndsA (Q : SA → Prop) : Exit → SA → Prop
 | .normal,s=>Q s
 | .ret,s=>Q s
 | _,_=>False
section
variable {P : Program} {T : TypeId → Option TI} {bad : Nat → Prop} {E : Ent} {N : Nat}
theorem calls_bodyA {g : FuncId} {fn : Func} {code : Code} (hf : P.funcs[g]? = some fn) (hb : fn.body = some code) {w : World} {m : MM} {c : Nat} {h : Hp} {vs : List V} {xs : Array Value} (hh : HeapRep bad h w m c) (hl : vs.length = xs.size)
  (hr : ∀ i (h1 : i < vs.length) (h2 : i < xs.size),Rep bad w m c vs[i] xs[i]) (hn : Nat.ble vs.length fn.ntmps = true) {Q : SA → Prop} (hc : WA P bad ⟨w,m,c⟩ fn.ntmps code ⟨enumA 0 vs,h,c⟩ (EndsA Q)) {R : Ending → World → Prop}
  (hR : ∀ s a' w' m',Q s → SRA bad fn.ntmps s a' w' m' → Le w m c w' m' s.c → ∃ x,(results fn a'.tmps).run P w' = .ok x w' ∧ R (.returned x) w') : Calls P g xs w R:=by
 replace hn : vs.length ≤ fn.ntmps:=Nat.le_of_ble_eq_true hn
 have hk:=enumA_lt vs 0 fn.ntmps (by omega)
 refine calls_of_wp hf hb (wp_mono (hc _ w m ⟨hk,⟨⟨?_,fun i=>?_⟩,hh,rfl⟩⟩ (Le.refl _ _ _)) ?_)
 ·simp [SA.st,mkT_length]; omega
 ·have:=(start_rep (w:=w) (m:=m) (c:=c) hl hr fn.ntmps).2 i
  simp only [SA.st]
  rw [mkT_getD hk,enumA_get]
  simp only [Nat.zero_le,if_true,Nat.sub_zero]
  rw [List.getD_eq_getElem?_getD]
  by_cases h1 : i < vs.length
  ·rw [List.getD_eq_getElem?_getD,List.getElem?_append_left h1] at this
   exact this
  ·rw [List.getElem?_eq_none (by omega)]
   exact .pure (.undef _)
 ·rintro e a' w' ⟨s',m',h1,h2,h3⟩
  cases e <;> simp only [EndsA] at h1
  ·obtain ⟨x,h4,h5⟩:=hR s' a' w' m' h1 h2 h3
   exact ⟨h2.2.d,x,h4,h5⟩
  ·obtain ⟨x,h4,h5⟩:=hR s' a' w' m' h1 h2 h3
   exact ⟨h2.2.d,x,h4,h5⟩
theorem PT_bodyA (hT : TabOk P T) {g : FuncId} {fn : Func} {code : Code} (hf : P.funcs[g]? = some fn) (hb : fn.body = some code) {vs : List V} {r : V} (hn : Nat.ble vs.length fn.ntmps = true)
  (hc : ∀ bad w,WA P bad ⟨w,noM,0⟩ fn.ntmps code ⟨enumA 0 vs,[],0⟩ (EndsA fun s=>evResults T (s.st fn.ntmps) fn.results.toList = some r ∧ pur 6 r = true)) : PT P g vs r:=by
 intro bad w xs hbad hl hr
 refine calls_bodyA hf hb (heap_nil hbad) hl (fun i h1 h2=>.pure (hr i h1 h2)) hn (hc bad w) ?_
 rintro s a' w' m' ⟨h1,h2⟩ hs hle
 obtain ⟨x,h3,h4⟩:=evResults_sound hT hs.2 h1
 refine ⟨x,h3,x,rfl,(pur_sound 6 h2 h4).mono fun β hβ=>⟨⟨hβ.1,hβ.2.1,fun b l h=>by simp [noM] at h⟩,fun _=>rfl⟩,?_⟩
 exact ⟨Nat.le_refl _,fun b l h=>by simp [noM] at h,fun β hβ _=>hle.keep β hβ fun b l h=>by simp [noM] at h,hle.size,hle.os,hle.output,hle.tape,fun b l β h=>by simp [noM] at h⟩
def GO (P : Program) (g : FuncId) (hA : Hp) (vs : List V) (r : V) (hr : Hp) : Prop:=∀ bad,CallsA P bad hA 1 g vs r hr 2
theorem GO_bodyA (hT : TabOk P T) {g : FuncId} {fn : Func} {code : Code} (hf : P.funcs[g]? = some fn) (hb : fn.body = some code) {hA hr : Hp} {vs : List V} {r : V} (ds : List Nat) (hn : Nat.ble vs.length fn.ntmps = true)
  (hc : ∀ bad w m,WA P bad ⟨w,m,1⟩ fn.ntmps code ⟨enumA 0 vs,hA,1⟩ (EndsA fun s=>evResults T (s.st fn.ntmps) fn.results.toList = some r ∧ eraseAll s.h ds = hr ∧ s.c = 2)) : GO P g hA vs r hr:=by
 intro bad w m xs hh hl hrep
 refine calls_bodyA hf hb hh hl hrep hn (hc bad w m) ?_
 rintro s a' w' m' ⟨h1,h5,h6⟩ hs hle
 obtain ⟨x,h3,h4⟩:=evResults_sound hT hs.2 h1
 have h7:=hs.2.h
 simp only [SA.st] at h4 h7
 rw [h6] at h4 h7 hle
 obtain ⟨k1,k2⟩:=eraseAll_sound ds h7
 rw [h5] at k2
 exact ⟨x,h3,x,_,rfl,h4.mono k1,hle.trans k1,k2⟩
end
structure TE (α : Type) where
 f : α → V
 F : List α → List V
 hF : ∀ l,F l = l.map f
 sz : Nat
 hs : ∀ a,(f a).cells.length = sz
 h1 : ∀ a,(f a).cells.all V.one = true
structure SE (T : TypeId → Option TI) (α : Type) extends TE α where
 t : TypeId
 e : TypeId
 i0 : TI
 i1 : TI
 ht : T t = some i0
 hd : i0.desc = .slice e
 he : T e = some i1
 hz : i1.size = sz
 hp : 0 < sz
 hb : 0 < i1.bytes
theorem SE.row {T : TypeId → Option TI} {α : Type} (σ : SE T α) : ∃ sz bt z,T σ.t = some ⟨sz,bt,.slice σ.e,z⟩:=by
 have h1:=σ.ht
 have h2:=σ.hd
 revert h1 h2
 generalize σ.i0 = i
 intro h1 h2
 obtain ⟨sz,bt,ds,z⟩:=i
 simp only at h2
 subst h2
 exact ⟨sz,bt,z,h1⟩
theorem TE.len {α : Type} (τ : TE α) (l : List α) : (τ.F l).length = l.length:=by rw [τ.hF,List.length_map]
def idx {α : Type} (l : List α) (n : Int) : Option α:=bif decide (n < 0) then none else l[n.toNat]?
theorem idx_some {α : Type} {l : List α} {n : Int} {a : α} (h : idx l n = some a) : 0 ≤ n ∧ l[n.toNat]? = some a:=by
 unfold idx at h
 by_cases hn : n < 0
 ·simp [hn] at h
 ·simp only [hn,decide_false,cond_false] at h
  exact ⟨by omega,h⟩
def sub {α : Type} (l : List α) (a b : Int) : Option (List α):=bif decide (0 ≤ a) && decide (a ≤ b) && decide (b ≤ l.length) then some ((l.drop a.toNat).take (b.toNat - a.toNat)) else none
theorem sub_some {α : Type} {l l' : List α} {a b : Int} (h : sub l a b = some l') : 0 ≤ a ∧ a ≤ b ∧ b ≤ l.length ∧ l' = (l.drop a.toNat).take (b.toNat - a.toNat):=by
 unfold sub at h
 cases hc : decide (0 ≤ a) && decide (a ≤ b) && decide (b ≤ l.length) with
 | false=>rw [hc] at h; cases h
 | true =>
  rw [hc] at h
  simp only [Bool.and_eq_true,decide_eq_true_eq] at hc
  simp only [cond_true,Option.some.injEq] at h
  exact ⟨hc.1.1,hc.1.2,hc.2,h.symm⟩
section
variable {P : Program} {T : TypeId → Option TI} {bad : Nat → Prop} {E : Ent} {N : Nat} {α : Type}
theorem ev_len (σ : SE T α) {ρ : Operand → V} {dr : Bool} {h : Hp} {c : Nat} {d : Option Tmp} {ty : TypeId} {pos : String} {af : Array Edge} {g : Option (Nat × Bool)} {x : Operand} (k : SC) (l : List α) (hx : ρ x = .ps k (σ.F l)) :
  evOperF P T dr ρ ⟨d,.call ⟨.builtin .len,#[x],#[σ.t]⟩,ty,pos,af,g⟩ h c = some (.p (.int .i64 l.length),h,c):=by
 obtain ⟨sz,bt,z,h1⟩:=σ.row
 simp [evOperF,evLen,h1,hx,lenV,σ.len,goInt]
theorem ev_len_own (σ : SE T α) {ρ : Operand → V} {dr : Bool} {h : Hp} {c : Nat} {d : Option Tmp} {ty : TypeId} {pos : String} {af : Array Edge} {g : Option (Nat × Bool)} {x : Operand} (b s : Nat) (tip : Bool) (B : Blk) (l : List α)
  (hx : ρ x = .sl b s 0 (σ.F l).length tip) (hg : h.get b = some B) (hs : B.s = s) :
  evOperF P T dr ρ ⟨d,.call ⟨.builtin .len,#[x],#[σ.t]⟩,ty,pos,af,g⟩ h c = some (.p (.int .i64 l.length),h,c):=by
 obtain ⟨sz,bt,z,h1⟩:=σ.row
 simp [evOperF,evLen,h1,hx,lenV,σ.len,goInt,hg,hs]
theorem ev_index (σ : SE T α) {ρ : Operand → V} {dr : Bool} {h : Hp} {c : Nat} {d : Option Tmp} {ty : TypeId} {pos : String} {af : Array Edge} {g : Option (Nat × Bool)} {x ix : Operand} (k : SC) (l : List α) (kd : IntKind) (n : Int) {a : α}
  (ha : idx l n = some a) (hk : k ≠ .nil) (hx : ρ x = .ps k (σ.F l)) (hi : ρ ix = .p (.int kd n)) :
  evOperF P T dr ρ ⟨d,.indexAddr σ.t x ix,ty,pos,af,g⟩ h c = some (.ref (σ.f a) 0,h,c):=by
 obtain ⟨hn,ha'⟩:=idx_some ha
 obtain ⟨sz,bt,z,h1⟩:=σ.row
 have h3 : (σ.F l)[n.toNat]? = some (σ.f a):=by rw [σ.hF,List.getElem?_map,ha']; rfl
 simp [evOperF,evIndexAddr,h1,hx,hi,asI,show ¬ n < 0 by omega,σ.he,h3,σ.hs,σ.hz,σ.hp,hk]
theorem ev_index_own (σ : SE T α) {ρ : Operand → V} {dr : Bool} {h : Hp} {c : Nat} {d : Option Tmp} {ty : TypeId} {pos : String} {af : Array Edge} {g : Option (Nat × Bool)} {x ix : Operand} (b s : Nat) (tip : Bool) (B : Blk) (l : List α) (kd : IntKind) (n : Int) {a : α}
  (ha : idx l n = some a) (hx : ρ x = .sl b s 0 (σ.F l).length tip) (hi : ρ ix = .p (.int kd n)) (hg : h.get b = some B) (hs : B.s = s) (hw : B.w = σ.sz) :
  evOperF P T dr ρ ⟨d,.indexAddr σ.t x ix,ty,pos,af,g⟩ h c = some (.box b s n.toNat 0,h,c):=by
 obtain ⟨hn,ha'⟩:=idx_some ha
 obtain ⟨sz,bt,z,h1⟩:=σ.row
 have h3 : n.toNat < l.length:=(List.getElem?_eq_some_iff.1 ha').1
 simp [evOperF,evIndexAddr,h1,hx,hi,asI,show ¬ n < 0 by omega,σ.he,σ.hz,hg,hs,hw,σ.len,h3]
theorem evLoad_row (σ : SE T α) {h : Hp} {t : TypeId} (b s : Nat) (B : Blk) (l : List α) (n : Nat) (a : α) (ha : l[n]? = some a) (off : Nat) (hg : h.get b = some B) (hs : B.s = s) (hes : B.es = σ.F l) :
  evLoad T h t (.box b s n off) = evLoad T h t (.ref (σ.f a) off):=by
 have h3 : (σ.F l)[n]? = some (σ.f a):=by rw [σ.hF,List.getElem?_map,ha]; rfl
 simp only [evLoad,elemAt,hg,hs,hes,h3,if_true,Option.map_some]
theorem ev_load_row (σ : SE T α) {ρ : Operand → V} {dr : Bool} {h : Hp} {c : Nat} {d : Option Tmp} {t ty : TypeId} {pos : String} {af : Array Edge} {g : Option (Nat × Bool)} {x : Operand} (b s : Nat) (B : Blk) (l : List α) (n off : Nat) (a : α) (v : V)
  (ha : l[n]? = some a) (hx : ρ x = .box b s n off) (hg : h.get b = some B) (hs : B.s = s) (hes : B.es = σ.F l) (hv : evLoad T [] t (.ref (σ.f a) off) = some v) :
  evOperF P T dr ρ ⟨d,.load t x,ty,pos,af,g⟩ h c = some (v,h,c):=by
 have : evLoad T h t (.ref (σ.f a) off) = evLoad T [] t (.ref (σ.f a) off):=by simp only [evLoad,elemAt]
 simp only [evOperF,hx,evLoad_row σ b s B l n a ha off hg hs hes,this,hv,Option.map_some]
theorem ev_slice (σ : SE T α) {ρ : Operand → V} {dr : Bool} {h : Hp} {c : Nat} {d : Option Tmp} {ty : TypeId} {pos : String} {af : Array Edge} {g : Option (Nat × Bool)} {x : Operand} {lo hi mx : Option Operand} (k : SC) (l : List α) (a b : Int) (q : Option Int) (l' : List α) (k' : SC)
  (hl' : sub l a b = some l') (hx : ρ x = .ps k (σ.F l)) (hlo : intOr 0 (lo.map ρ) = some a) (hhi : intOr l.length (hi.map ρ) = some b) (hmx : intOpt (mx.map ρ) = some q) (hq : ∀ y ∈ q,y = b) (hmh : (mx.isSome && hi.isNone) = false)
  (hk : (match k with | .nil=>(.nil : SC) | .opt | .fopt=>if mx.isSome then .fopt else .opt | _=>if mx.isSome then .full else .any) = k') (hk0 : k ≠ .nil) :
  evOperF P T dr ρ ⟨d,.slice σ.t x lo hi mx,ty,pos,af,g⟩ h c = some (.ps k' (σ.F l'),h,c):=by
 obtain ⟨h1,h2,h3,rfl⟩:=sub_some hl'
 obtain ⟨sz,bt,z,e1⟩:=σ.row
 have e3 : (σ.F l).all (fun v=>v.cells.length == σ.i1.size) = true:=by
  rw [σ.hF,List.all_eq_true]
  intro v hv
  obtain ⟨a,_,rfl⟩:=List.mem_map.1 hv
  simp [σ.hs,σ.hz]
 have e4 : ((σ.F l).drop a.toNat).take (b.toNat - a.toNat) = σ.F ((l.drop a.toNat).take (b.toNat - a.toNat)):=by
  rw [σ.hF,σ.hF,List.map_take,List.map_drop]
 have e6 : q.isSome = mx.isSome:=by
  cases mx with
  | none =>
   simp only [Option.map_none,intOpt,Option.some.injEq] at hmx
   subst hmx; rfl
  | some y =>
   simp only [Option.map_some,intOpt,Option.map_eq_some_iff] at hmx
   obtain ⟨_,_,rfl⟩:=hmx; rfl
 simp only [evOperF,hmh,Bool.false_eq_true,if_false,evSlice,e1,σ.he,hx,lenV,σ.len,hlo,hhi,hmx]
 rw [if_pos ⟨h1,h2,h3,hq⟩]
 simp only [e3,if_true,e4,e6]
 subst hk
 cases k <;> first | exact absurd rfl hk0 | (cases hm : mx.isSome <;> simp)
theorem ev_indexA {ρ : Operand → V} {dr : Bool} {h : Hp} {c : Nat} {d : Option Tmp} {t ty : TypeId} {pos : String} {af : Array Edge} {g : Option (Nat × Bool)} {x ix : Operand} (f : α → V) (l : List α) (kd : IntKind) (n : Int) {a : α} (i0 i1 : TI) (e : TypeId)
  (ha : idx l n = some a) (hx : ρ x = .agg (l.map f)) (hi : ρ ix = .p (.int kd n)) (h0 : T t = some i0) (hd : i0.desc = .array l.length e) (he : T e = some i1) (hz : i1.size = 1) (hag : isAggD i1.desc = false) :
  evOperF P T dr ρ ⟨d,.index t x ix,ty,pos,af,g⟩ h c = some (f a,h,c):=by
 obtain ⟨hn,ha'⟩:=idx_some ha
 obtain ⟨sz,bt,ds,z⟩:=i0
 simp only at hd
 subst hd
 have h3 : n.toNat < l.length:=(List.getElem?_eq_some_iff.1 ha').1
 simp [evOperF,evIndex,h0,hx,hi,asI,show ¬ n < 0 by omega,he,hz,partV,hag,h3,ha']
 rw [List.getElem?_eq_getElem h3] at ha'
 have : l[n.toNat] = a:=by simpa using ha'
 rw [this]
theorem ev_rem {ρ : Operand → V} {dr : Bool} {h : Hp} {c : Nat} {d : Option Tmp} {t t' ty : TypeId} {pos : String} {af : Array Edge} {g : Option (Nat × Bool)} {x y : Operand} (k : IntKind) (a b : Int) (hb : (b == 0) = false) (hx : ρ x = .p (.int k a)) (hy : ρ y = .p (.int k b)) :
  evOperF P T dr ρ ⟨d,.binOp .rem t x y t',ty,pos,af,g⟩ h c = some (.p (.int k (a.tmod b)),h,c):=by
 have : b ≠ 0:=by simpa using hb
 simp [evOperF,evBin,hx,hy,toVal,fastBin,this]
theorem WO_one (hT : TabOk P T) {ops : Array Oper} {i : Nat} {s : SA} {Q : Exit → SA → Prop} {o : Oper} (ho : ops[i]? = some o) (hg : evGuardA s.A ops o = some true) {v : V} {h' : Hp} {c' : Nat} (he : evOperF P T false (evA s.A) o s.h s.c = some (v,h',c')) (hd : okD N o.dst = true)
  (hk : WO P bad E N ops (i + 1) ⟨putA s.A o.dst v,h',c'⟩ Q) : WO P bad E N ops i s Q :=
 WO_eff _ ho hg (Eff_op hT he hd) fun s' e=>by subst e; exact hk
theorem WO_pt {ops : Array Oper} {i : Nat} {s : SA} {Q : Exit → SA → Prop} {o : Oper} (ho : ops[i]? = some o) (hg : evGuardA s.A ops o = some true) {cl : Call} {g : FuncId} (vs : List V) (r : V) (hop : o.op = .call cl) (htg : evTargetA s.A cl = some (g,vs)) (hen : Enters P g) (hpu : vs.all (pur 6) = true)
  (hc : PT P g vs r) (hd : okD N o.dst = true) (hk : WO P bad E N ops (i + 1) ⟨putA s.A o.dst r,s.h,s.c⟩ Q) : WO P bad E N ops i s Q :=
 WO_eff _ ho hg (Eff_pt hop htg hen hpu hc hd) fun s' e=>by subst e; exact hk
end
end Go.Mx
namespace Go.Mx
set_option linter.unusedVariables false
set_option linter.unusedSimpArgs false
section
variable {P : Program} {T : TypeId → Option TI} {bad : Nat → Prop} {E : Ent} {N : Nat} {α : Type} {w : World} {m : MM} {c : Nat}
theorem HeapRep.newNil {h : Hp} (hh : HeapRep bad h w m c) (b : Nat) (e : TypeId) (wd : Nat) :
  Le w m c w (upd m b (some ⟨c,e,wd,0,none⟩)) (c + 1) ∧ HeapRep bad (h.set b ⟨c,e,wd,false,true,[]⟩) w (upd m b (some ⟨c,e,wd,0,none⟩)) (c + 1):=by
 have hle : Le w m c w (upd m b (some ⟨c,e,wd,0,none⟩)) (c + 1):=by
  refine ⟨by omega,fun j l hj hlt=>?_,fun _ _ _=>rfl,Nat.le_refl _,rfl,rfl,rfl,fun j l β hj hβ=>?_⟩
  ·unfold upd at hj; split at hj
   ·cases hj; exact absurd hlt (Nat.lt_irrefl _)
   ·exact hj
  ·unfold upd at hj; split at hj
   ·cases hj; cases hβ
   ·exact .inr ⟨j,l,hj,hβ⟩
 refine ⟨hle,fun j B hj=>?_,fun j hj=>?_,hh.lt,fun j l β hj hβ=>?_,fun j j' l l' β hj hj' hβ hβ'=>?_⟩
 ·rw [Hp.get_set] at hj
  split at hj
  ·rename_i e'; subst e'; cases hj
   exact ⟨⟨c,e,wd,0,none⟩,by simp only [upd,if_true],rfl,rfl,rfl,Nat.lt_succ_self _,.inl ⟨rfl,rfl,rfl⟩⟩
  ·rename_i hne
   obtain ⟨l,h1,h2⟩:=hh.get j B hj
   exact ⟨l,by simp only [upd,if_neg (Ne.symm hne)]; exact h1,h2.mono hle fun _ _=>rfl⟩
 ·rw [Hp.get_set] at hj
  split at hj
  ·cases hj
  ·rename_i hne; simp only [upd,if_neg (Ne.symm hne)]; exact hh.non j hj
 ·unfold upd at hj; split at hj
  ·cases hj; cases hβ
  ·exact hh.nb j l β hj hβ
 ·unfold upd at hj hj'
  split at hj
  ·cases hj; cases hβ
  ·split at hj'
   ·cases hj'; cases hβ'
   ·exact hh.inj j j' l l' β hj hj' hβ hβ'
theorem HeapRep.may {h : Hp} (d : Nat) {s : Nat} {e : TypeId} {wd : Nat} {var nl : Bool} {es : List V} (hh : HeapRep bad (h.set d ⟨s,e,wd,var,nl,es⟩) w m c) : HeapRep bad (h.set d ⟨s,e,wd,var,true,es⟩) w m c:=by
 refine ⟨fun b B hb=>?_,fun b hb=>hh.non b ?_,hh.lt,hh.nb,hh.inj⟩
 ·rw [Hp.get_set] at hb
  split at hb
  ·rename_i e'; subst e'; cases hb
   obtain ⟨l,h1,h2,h3,h4,h5,h6⟩:=hh.get d ⟨s,e,wd,var,nl,es⟩ (by rw [Hp.get_set,if_pos rfl])
   refine ⟨l,h1,h2,h3,h4,h5,?_⟩
   rcases h6 with ⟨_,h7,h8⟩ | h6
   ·exact .inl ⟨rfl,h7,h8⟩
   ·exact .inr h6
  ·rename_i hne
   exact hh.get b B (by rw [Hp.get_set,if_neg hne]; exact hb)
 ·rw [Hp.get_set] at hb ⊢
  split at hb
  ·cases hb
  ·rename_i hne; rw [if_neg hne]; exact hb
theorem row_anew {h : Hp} (hh : HeapRep bad h w m c) {b s n : Nat} {B : Blk} (hg : h.get b = some B) (hs : B.s = s) (hv : B.var = false) (hn : n = B.es.length) {x : Value} (hr : Rep bad w m c (.sl b s 0 n true) x) (d : Nat) :
  ∃ m',Le w m c w m' (c + 1) ∧ HeapRep bad ((h.erase b).set d ⟨c,B.T,B.w,false,true,B.es⟩) w m' (c + 1) ∧ Rep bad w m' (c + 1) (.sl d c 0 n true) x:=by
 obtain ⟨l,hm,hls,hw,hT',_,hd⟩:=hh.get b B hg
 rcases hd with ⟨_,hblk,hes⟩ | ⟨_,β,cs,hblk,hcs,hsz,hle,hwd,hall⟩
 ·have hx : n = 0 ∧ x = .slice none 0 0:=by
   cases hr with
   | pure hp=>cases hp
   | sl _ _ hb =>
    rcases hb l hm (hls.trans hs) with ⟨_,_,h3,h4⟩ | ⟨β,_,h1,_⟩
    ·exact ⟨h3,h4⟩
    ·rw [hblk] at h1; cases h1
  obtain ⟨rfl,rfl⟩:=hx
  obtain ⟨l1,h1⟩:=hh.erase b
  obtain ⟨l2,h2⟩:=h1.newNil d B.T B.w
  rw [hes]
  refine ⟨_,l1.trans l2,h2,.sl (Nat.lt_succ_self _) rfl fun l hl1 hl2=>?_⟩
  simp only [upd,if_true,Option.some.injEq] at hl1
  subst hl1
  exact .inl ⟨rfl,rfl,rfl,rfl⟩
 ·cases hr with
  | pure hp=>cases hp
  | sl _ _ hb =>
   rcases hb l hm (hls.trans hs) with ⟨h1,_⟩ | ⟨β',cap,h1,rfl,h2,h3,h4,h5⟩
   ·rw [hblk] at h1; cases h1
   ·rw [hblk] at h1; cases h1
    have key:=hh.take hm hblk d (w':=w) (fun _ _ _=>rfl) (Nat.le_refl _) rfl rfl rfl (e:=B.T) (wd:=B.w) (es:=B.es) (cs:=cs) hcs (by rw [hsz]; exact hle) hwd fun i hi j hj=>by
     obtain ⟨y,hy,hr'⟩:=hall i hi j hj
     exact ⟨y,hy,by simpa [RepC,hv] using hr'⟩
    refine ⟨_,key.1,key.2.may d,?_⟩
    have:=(h5 rfl).2
    rw [Nat.zero_mul]
    exact rep_slNew h2 (by rw [← hw,this,hsz]) h4
theorem SE.all {T : TypeId → Option TI} {α : Type} (σ : SE T α) (l : List α) : (σ.F l).all (fun v=>v.cells.length == σ.i1.size && v.cells.all V.one) = true:=by
 rw [σ.hF,List.all_eq_true]
 intro v hv
 obtain ⟨a,_,rfl⟩:=List.mem_map.1 hv
 simp only [σ.hs,σ.hz,σ.h1,beq_self_eq_true,Bool.and_self]
theorem TE.app (τ : TE α) (l l2 : List α) : τ.F l ++ τ.F l2 = τ.F (l ++ l2):=by simp only [τ.hF,List.map_append]
def room (bt a b : Nat) : Bool:=decide ((a + b) * bt ≤ 140737488355328)
theorem Eff_append (hT : TabOk P T) (σ : SE T α) {o : Oper} {s : SA} (d : Nat) {ty : TypeId} {pos : String} {af : Array Edge} {g : Option (Nat × Bool)} {x y : Operand} (b st : Nat) (nl : Bool) (l l2 : List α)
  (ho : o = ⟨some d,.call ⟨.builtin .append,#[x,y],#[σ.t,σ.t]⟩,ty,pos,af,g⟩) (hx : evA s.A x = .sl b st 0 (σ.F l).length true) (hg : s.h.get b = some ⟨st,σ.e,σ.sz,false,nl,σ.F l⟩) (hy : elems s.h (evA s.A y) = some (σ.F l2))
  (hroom : room σ.i1.bytes l.length l2.length = true) (hd : Nat.blt d N = true) :
  Eff P bad E N o s (fun s'=>s' = ⟨(d,.sl d s.c 0 (σ.F (l ++ l2)).length true) :: s.A,(s.h.erase b).set d ⟨s.c,σ.e,σ.sz,false,true,σ.F (l ++ l2)⟩,s.c + 1⟩):=by
 subst ho
 obtain ⟨sz,bt,z,hrow⟩:=σ.row
 cases l2 with
 | cons a0 r0 =>
  have hne : (σ.F (a0 :: r0)).isEmpty = false:=by simp [σ.hF]
  have he : evOperF P T false (evA s.A) ⟨some d,.call ⟨.builtin .append,#[x,y],#[σ.t,σ.t]⟩,ty,pos,af,g⟩ s.h s.c = some (.sl d s.c 0 (σ.F (l ++ a0 :: r0)).length true,(s.h.erase b).set d ⟨s.c,σ.e,σ.sz,false,false,σ.F (l ++ a0 :: r0)⟩,s.c + 1):=by
   have hr2 : (l.length + (r0.length + 1)) * σ.i1.bytes ≤ roomB:=by
    have:=of_decide_eq_true hroom
    simpa [roomB] using this
   simp only [evOperF,if_true,evAppend,hrow,σ.he,hy,hx,hg]
   have hs1:=σ.all (a0 :: r0)
   have hz:=σ.hz
   have hp:=σ.hp
   have hb:=σ.hb
   rw [if_pos ⟨hs1,by omega,hb⟩]
   simp only [hne,σ.len,hz,← σ.app,List.length_append,List.length_cons,true_and,and_self,if_true,Bool.false_eq_true,if_false,or_true,and_true,hr2]
  intro a w m hs hl K QQ hK
  exact Eff_op hT he hd a w m hs hl K QQ fun s' a' w' m' h1 h2 h3=>by
   subst h1
   exact hK _ a' w' m' rfl ⟨h2.1,h2.2.t,h2.2.h.may d,h2.2.d⟩ h3
 | nil =>
  have hem : (σ.F ([] : List α)).isEmpty = true:=by simp [σ.hF]
  have he : evOperF P T false (evA s.A) ⟨some d,.call ⟨.builtin .append,#[x,y],#[σ.t,σ.t]⟩,ty,pos,af,g⟩ s.h s.c = some (.sl b st 0 (σ.F l).length true,s.h,s.c):=by
   simp only [evOperF,if_true,evAppend,hrow,σ.he,hy,hx,hg]
   have hs1:=σ.all ([] : List α)
   have hz:=σ.hz
   have hp:=σ.hp
   have hb:=σ.hb
   rw [if_pos ⟨hs1,by omega,hb⟩]
   simp only [hem,and_self,if_true]
  intro a w m hs hl K QQ hK
  refine Eff_op hT he hd a w m hs hl K QQ ?_
  rintro s' a' w' m' rfl hs' hl'
  replace hs' : SRA bad N ⟨(d,.sl b st 0 (σ.F l).length true) :: s.A,s.h,s.c⟩ a' w' m':=hs'
  have hh:=hs'.2.h
  have hd' : d < N:=by simpa using hd
  have hx':=hs'.2.t.2 d
  simp only [SA.st] at hx' hh
  rw [mkT_getD hs'.1,lkA_cons,if_pos rfl] at hx'
  obtain ⟨m2,k1,k2,k3⟩:=row_anew hh hg rfl rfl rfl hx' d
  refine hK _ a' w' m2 rfl ?_ (hl'.trans k1)
  have hkk : keysLt N ((d,V.sl d s.c 0 (σ.F (l ++ [])).length true) :: s.A) = true:=by
   have:=hs'.1
   simpa only [keysLt] using this
  refine ⟨hkk,⟨⟨by simpa [SA.st,mkT_length] using hs'.2.t.1,fun i=>?_⟩,?_,hs'.2.d⟩⟩
  ·simp only [SA.st]
   rw [mkT_getD hkk,lkA_cons]
   split
   ·rename_i e; subst e
    simpa using k3
   ·rename_i hne
    have h3:=hs'.2.t.2 i
    simp only [SA.st] at h3
    rw [mkT_getD hs'.1,lkA_cons,if_neg hne] at h3
    exact h3.mono k1
  ·simpa [SA.st] using k2
theorem Eff_lend {o : Oper} {s : SA} {cl : Call} {g : FuncId} {vs vs' : List V} {E1 E2 : List (Nat × Nat × Nat)} {hA hr hB : Hp} {r r' : V} {cr c2 : Nat} (hop : o.op = .call cl) (htg : evTargetA s.A cl = some (g,vs)) (hen : Enters P g)
  (hvs : mapO (trV s.h (lookE E1) [] 5) vs = some vs') (hA' : moveH s.h (lookE E1) [] E1 = some hA) (hc1 : (E1.all (fun x=>Nat.beq x.2.2 0) && nodupB (E1.map (·.1)) && nodupB (E1.map fun x=>x.2.1) && nodupB (E2.map (·.1)) && nodupB (E2.map fun x=>x.2.1) && Nat.ble s.c c2) = true)
  (hg : ∀ bad,CallsA P bad hA 1 g vs' r hr cr) (hr' : trV hr (lookE E2) [] 5 r = some r') (hB' : moveH hr (lookE E2) [] E2 = some hB) (hE2 : E2.all (okE2 s.h hr E1 s.c c2) = true) (hd : okD N o.dst = true) :
  Eff P bad E N o s (fun s'=>s' = ⟨putA s.A o.dst r',hB ++ eraseAll s.h (E1.map (·.1)),c2⟩):=by
 simp only [Bool.and_eq_true] at hc1
 obtain ⟨⟨⟨⟨⟨k1,k2⟩,k3⟩,k4⟩,k5⟩,k6⟩:=hc1
 have key:=CallsA_lend (bad:=bad) (bor:=[]) hvs hA' (fun x hx=>by simpa using List.all_eq_true.1 k1 x hx) (nodupB_ok k2) (nodupB_ok k3) hg hr' hB' (nodupB_ok k4) (nodupB_ok k5) (Nat.le_of_ble_eq_true k6) fun x hx=>by
  have:=List.all_eq_true.1 hE2 x hx
  simp only [okE2,Bool.or_eq_true,Bool.and_eq_true,decide_eq_true_eq] at this
  rcases this with h5 | ⟨⟨h5,h6⟩,h7⟩
  ·exact .inl h5
  ·refine .inr ⟨?_,by simpa using h6,?_⟩
   ·split at h5
    ·rename_i B hB; exact ⟨B,hB,by simpa using h5⟩
    ·cases h5
   ·split at h7
    ·rename_i B hB; exact ⟨B,hB,by simpa using h7⟩
    ·cases h7
 simp only [List.append_nil] at key
 exact Eff_callA hop htg hen key hd
theorem WO_go {ops : Array Oper} {i : Nat} {s : SA} {Q : Exit → SA → Prop} {o : Oper} (ho : ops[i]? = some o) (hgd : evGuardA s.A ops o = some true) {cl : Call} {g : FuncId} (hA hr : Hp) (vs vs' : List V) (E1 E2 : List (Nat × Nat × Nat)) (hB : Hp) (r r' : V) (c2 : Nat)
  (hop : o.op = .call cl) (htg : evTargetA s.A cl = some (g,vs)) (hen : Enters P g) (hvs : mapO (trV s.h (lookE E1) [] 5) vs = some vs') (hA' : moveH s.h (lookE E1) [] E1 = some hA)
  (hc1 : (E1.all (fun x=>Nat.beq x.2.2 0) && nodupB (E1.map (·.1)) && nodupB (E1.map fun x=>x.2.1) && nodupB (E2.map (·.1)) && nodupB (E2.map fun x=>x.2.1) && Nat.ble s.c c2) = true)
  (hg : GO P g hA vs' r hr) (hr' : trV hr (lookE E2) [] 5 r = some r') (hB' : moveH hr (lookE E2) [] E2 = some hB) (hE2 : E2.all (okE2 s.h hr E1 s.c c2) = true) (hd : okD N o.dst = true)
  (hk : WO P bad E N ops (i + 1) ⟨putA s.A o.dst r',hB ++ eraseAll s.h (E1.map (·.1)),c2⟩ Q) : WO P bad E N ops i s Q :=
 WO_eff _ ho hgd (Eff_lend hop htg hen hvs hA' hc1 hg hr' hB' hE2 hd) fun s' e=>by subst e; exact hk
theorem WO_append (hT : TabOk P T) (σ : SE T α) {ops : Array Oper} {i : Nat} {s : SA} {Q : Exit → SA → Prop} {o : Oper} (hoi : ops[i]? = some o) (hgd : evGuardA s.A ops o = some true) {d : Nat} {ty : TypeId} {pos : String} {af : Array Edge} {g : Option (Nat × Bool)} {x y : Operand} (b st : Nat) (nl : Bool) (l l2 : List α)
  (ho : o = ⟨some d,.call ⟨.builtin .append,#[x,y],#[σ.t,σ.t]⟩,ty,pos,af,g⟩) (hx : evA s.A x = .sl b st 0 (σ.F l).length true) (hg : s.h.get b = some ⟨st,σ.e,σ.sz,false,nl,σ.F l⟩) (hy : elems s.h (evA s.A y) = some (σ.F l2))
  (hroom : room σ.i1.bytes l.length l2.length = true) (hd : Nat.blt d N = true)
  (hk : WO P bad E N ops (i + 1) ⟨(d,.sl d s.c 0 (σ.F (l ++ l2)).length true) :: s.A,(s.h.erase b).set d ⟨s.c,σ.e,σ.sz,false,true,σ.F (l ++ l2)⟩,s.c + 1⟩ Q) : WO P bad E N ops i s Q :=
 WO_eff _ hoi hgd (Eff_append hT σ d b st nl l l2 ho hx hg hy hroom hd) fun s' e=>by subst e; exact hk
end
end Go.Mx
