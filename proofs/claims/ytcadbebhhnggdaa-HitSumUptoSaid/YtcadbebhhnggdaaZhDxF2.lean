/-
  Floats of natural numbers: their order, and back to whole numbers.
-/
import Derived.Test.YtcadbebhhnggdaaZhMx21
import Derived.Below
import Derived.Test.YtcadbebhhnggdaaChecked
import Derived.WalkKit
import Derived.KernelRfl
import Derived.Test.YtcadbebhhnggdaaZhDx9
section
open Go.RowKit
namespace Go.Mx
set_option linter.unusedVariables false
set_option linter.unusedSimpArgs false
def tabRowM (P : Program) (t : TypeId) : Option TI :=
 match P.info? t,P.underlying t with
 | some info,some d=>match info.zero with
  | some z=>if z.cells.size = info.size ∧ t < P.types.size then some ⟨info.size,info.bytes,d,ofC z⟩ else none
  | none=>none
 | _,_=>none
def fieldsOkM (P : Program) (t : TypeId) : Bool :=
 match tabRowM P t with
 | some ⟨_,_,.struct fs,_⟩=>fs.toList.all fun f=>(tabRowM P f.type).isSome
 | _=>true
def tabAll (P : Program) : Bool:=(List.range P.types.size).all (fieldsOkM P)
theorem tabRowM_ok {P : Program} (hall : tabAll P = true) : TabOk P (tabRowM P):=by
 intro t i ht
 have ht0:=ht
 unfold tabRowM at ht
 split at ht
 ·rename_i info d hi hu
  split at ht
  ·rename_i z hz
   split at ht
   ·rename_i hsz
    simp only [Option.some.injEq] at ht
    subst ht
    refine ⟨info,z,hi,rfl,rfl,hu,hz,rfl,hsz.1,fun fs hfs f hf=>?_⟩
    have hlt : t < P.types.size:=hsz.2
    have:=List.all_eq_true.1 hall t (List.mem_range.2 hlt)
    unfold fieldsOkM at this
    rw [ht0] at this
    simp only at hfs
    subst hfs
    exact List.all_eq_true.1 this f hf
   ·cases ht
  ·cases ht
 ·cases ht
def funOf (P : Program) (g : FuncId) : Option Func :=
 match P.funcs[g]? with
 | some fn=>if fn.name == "runtime.NumGoroutine" then none else some fn
 | none=>none
theorem funOf_ok (P : Program) : FOk P (funOf P):=by
 intro g fn h
 unfold funOf at h
 split at h
 ·rename_i f hf
  split at h
  ·cases h
  ·rename_i hn
   simp only [Option.some.injEq] at h
   subst h
   exact ⟨hf,by simpa using hn⟩
 ·cases h
end Go.Mx
end
section
open Go.RowKit
namespace Go.Mx
set_option linter.unusedVariables false
set_option linter.unusedSimpArgs false
def eqInt : Int → Int → Bool
 | .ofNat a,.ofNat b=>Nat.beq a b
 | .negSucc a,.negSucc b=>Nat.beq a b
 | _,_=>false
theorem eqInt_ok : ∀ {a b : Int},eqInt a b = true → a = b
 | .ofNat a,.ofNat b,h=>by rw [Nat.eq_of_beq_eq_true (show Nat.beq a b = true from h)]
 | .negSucc a,.negSucc b,h=>by rw [Nat.eq_of_beq_eq_true (show Nat.beq a b = true from h)]
 | .ofNat _,.negSucc _,h=>by cases h
 | .negSucc _,.ofNat _,h=>by cases h
def eqVal : Value → Value → Bool
 | .int k a,.int k' b=>decide (k = k') && eqInt a b
 | .bool a,.bool b=>a == b
 | .string a,.string b=>bytesEq a b
 | .complex k a b,.complex k' c d=>decide (k = k') && Nat.beq a c && Nat.beq b d
 | .nilFunc,.nilFunc=>true
 | .pointer none,.pointer none=>true
 | .nilIface,.nilIface=>true
 | .slice none 0 0,.slice none 0 0=>true
 | _,_=>false
theorem eqVal_ok {a b : Value} (h : eqVal a b = true) : a = b:=by
 unfold eqVal at h
 split at h
 ·simp only [Bool.and_eq_true,decide_eq_true_eq] at h
  rw [h.1,eqInt_ok h.2]
 ·simp only [beq_iff_eq] at h; rw [h]
 ·rename_i a b
  rw [bytesEq,u8Eqs_eq] at h
  have : a = b:=ByteArray.ext (Array.ext' (by simpa using h))
  rw [this]
 ·simp only [Bool.and_eq_true,decide_eq_true_eq] at h
  rw [h.1.1,Nat.eq_of_beq_eq_true h.1.2,Nat.eq_of_beq_eq_true h.2]
 all_goals first | rfl | cases h
def eqVs (f : V → V → Bool) : List V → List V → Bool
 | [],[]=>true
 | a :: r,b :: q=>f a b && eqVs f r q
 | _,_=>false
theorem eqVs_ok {f : V → V → Bool} (hf : ∀ a b,f a b = true → a = b) : ∀ {l m : List V},eqVs f l m = true → l = m
 | [],[],_=>rfl
 | a :: r,b :: q,h=>by
  simp only [eqVs,Bool.and_eq_true] at h
  rw [hf a b h.1,eqVs_ok hf h.2]
 | [],_ :: _,h=>by cases h
 | _ :: _,[],h=>by cases h
def eqV : Nat → V → V → Bool
 | 0,_,_=>false
 | n + 1,a,b=>match a,b with
  | .p x,.p y=>eqVal x y
  | .agg l,.agg m=>eqVs (eqV n) l m
  | .tup l,.tup m=>eqVs (eqV n) l m
  | .ps c l,.ps d m=>decide (c = d) && eqVs (eqV n) l m
  | .undef,.undef=>true
  | _,_=>false
theorem eqV_ok : ∀ (n : Nat) (a b : V),eqV n a b = true → a = b
 | 0,_,_,h=>by cases h
 | n + 1,a,b,h=>by
  cases a <;> cases b <;> simp only [eqV] at h <;> try (cases h; done)
  ·rw [eqVal_ok h]
  ·rw [eqVs_ok (eqV_ok n) h]
  ·rw [eqVs_ok (eqV_ok n) h]
  ·simp only [Bool.and_eq_true,decide_eq_true_eq] at h
   rw [h.1,eqVs_ok (eqV_ok n) h.2]
  ·rfl
abbrev Memo:=List (FuncId × List V × V)
def lookMemo : Memo → FuncId → List V → Option V
 | [],_,_=>none
 | (f,us,r) :: m,g,vs=>bif Nat.beq f g && eqVs (eqV 30) us vs then some r else lookMemo m g vs
def MemoOk (P : Program) (m : Memo) : Prop:=∀ x ∈ m,Enters P x.1 ∧ x.2.1.all (pur 6) = true ∧ PT P x.1 x.2.1 x.2.2
theorem lookMemo_ok {P : Program} : ∀ {m : Memo},MemoOk P m → ∀ {g vs r},lookMemo m g vs = some r → Enters P g ∧ vs.all (pur 6) = true ∧ PT P g vs r
 | [],_,_,_,_,h=>by cases h
 | (f,us,r0) :: m,hm,g,vs,r,h=>by
  simp only [lookMemo] at h
  cases hc : (Nat.beq f g && eqVs (eqV 30) us vs) with
  | false=>rw [hc] at h; exact lookMemo_ok (fun x hx=>hm x (List.mem_cons_of_mem _ hx)) h
  | true =>
   rw [hc] at h
   simp only [cond_true,Option.some.injEq] at h
   subst h
   simp only [Bool.and_eq_true] at hc
   obtain rfl:=Nat.eq_of_beq_eq_true hc.1
   obtain rfl:=eqVs_ok (eqV_ok 30) hc.2
   exact hm _ (List.mem_cons_self ..)
def zFn (P : Program) (T : TypeId → Option TI) (F : FuncId → Option Func) (mode : FuncId → Nat) (memo : Memo) (fuel : Nat) : Nat → FuncId → List V → Hp → Nat → Option (V × Hp × Nat)
 | 0,_,_,_,_=>none
 | n + 1,g,vs,h,c=>match lookMemo memo g vs with
  | some r=>some (r,h,c)
  | none=>match F g with
   | some fn=>match fn.body with
    | some code=>forceCh (chunks (Nat.succ (Nat.div (start fn vs h c).t.length 16)) (start fn vs h c).t) fun t0=>endY T fn (yCode P T (xPureCall (zFn P T F mode memo fuel n) mode) (xCall (zFn P T F mode memo fuel n) mode) fuel code ⟨t0,h,c⟩)
    | none=>none
   | none=>none
section
variable {P : Program} {T : TypeId → Option TI} {F : FuncId → Option Func} {mode : FuncId → Nat}
theorem zFn_sound (hT : TabOk P T) {memo : Memo} (hmemo : MemoOk P memo) (hF : FOk P F) (hm : P.follows .mixedOrders = true) (fuel : Nat) : ∀ n,RecOk P (zFn P T F mode memo fuel n):=by
 intro n
 induction n with
 | zero=>intro g vs h c r h' c' he; simp [zFn] at he
 | succ n ih =>
  intro g vs h c r h' c' he
  simp only [zFn,forceCh_eq] at he
  split at he
  ·rename_i r0 hmm
   simp only [Option.some.injEq,Prod.mk.injEq] at he
   obtain ⟨rfl,rfl,rfl⟩:=he
   obtain ⟨k1,k2,k3⟩:=lookMemo_ok hmemo hmm
   exact ⟨k1,fun bad=>CallsA_of_PT k2 k3 _ _⟩
  split at he
  ·rename_i fn hfn
   obtain ⟨hf,hname⟩:=hF g fn hfn
   split at he
   ·rename_i code hb
    refine ⟨⟨fn,hf,by rw [hb]; rfl,hname⟩,fun bad w m xs hh hl hr=>?_⟩
    have hR0 : Rel ⟨chunks (Nat.succ (Nat.div (start fn vs h c).t.length 16)) (start fn vs h c).t,h,c⟩ (start fn vs h c):=by
     refine ⟨RelC_chunks ?_,rfl,rfl⟩
     have e : Nat.div (start fn vs h c).t.length 16 = (start fn vs h c).t.length / 16:=rfl
     rw [e,Nat.succ_eq_add_one]
     omega
    have key : ∀ e s,yCode P T (xPureCall (zFn P T F mode memo fuel n) mode) (xCall (zFn P T F mode memo fuel n) mode) fuel code ⟨chunks (Nat.succ (Nat.div (start fn vs h c).t.length 16)) (start fn vs h c).t,h,c⟩ = some (e,s) → (e = .normal ∨ e = .ret) → evResultsY T s fn.results.toList = some r → s.h = h' → s.c = c' →
      Calls P g xs w fun e w'=>∃ x m',e = .returned x ∧ Rep bad w' m' c' r x ∧ Le w m c w' m' c' ∧ HeapRep bad h' w' m' c':=by
     intro e s hx hee hres h1 h2
     subst h1 h2
     refine calls_body hT hf hb hh hl hr (Q:=fun st=>Rel s st) (WC_mono (yCode_sound hT (xPureCall_sound ih) (xCall_sound ih) hm fuel code _ _ _ _ hR0 hx) ?_) ?_
     ·rintro e' q ⟨rfl,hq⟩
      rcases hee with rfl | rfl <;> exact hq
     ·rintro st a' w' m' hq hs hle
      rw [evResultsY_eq T hq] at hres
      obtain ⟨x,h3,h4⟩:=evResults_sound hT hs hres
      obtain ⟨q1,q2,q3⟩:=hq
      exact ⟨x,h3,x,m',rfl,q3 ▸ h4,q3 ▸ hle,q2 ▸ q3 ▸ hs.h⟩
    unfold endY at he
    split at he
    ·rename_i s hx
     split at he
     ·rename_i r' h1
      simp only [Option.some.injEq,Prod.mk.injEq] at he
      obtain ⟨rfl,h2,h3⟩:=he
      exact key _ _ hx (.inl rfl) h1 h2 h3
     ·cases he
    ·rename_i s hx
     split at he
     ·rename_i r' h1
      simp only [Option.some.injEq,Prod.mk.injEq] at he
      obtain ⟨rfl,h2,h3⟩:=he
      exact key _ _ hx (.inr rfl) h1 h2 h3
     ·cases he
    ·cases he
   ·cases he
  ·cases he
end
def saysV (r : V) : Option (V × Hp × Nat) → Bool
 | some (r0,h1,_)=>match frz 6 h1 r0 with
  | some (r',_)=>eqV 30 r r'
  | none=>false
 | none=>false
theorem memo_cons {P : Program} (hall : tabAll P = true) (hm : P.follows .mixedOrders = true) {mode : FuncId → Nat} {memo : Memo} (hmemo : MemoOk P memo) {fuel n : Nat} {g : FuncId} {vs : List V} {r : V}
  (h : (saysV r (zFn P (tabRowM P) (funOf P) mode memo fuel n g vs [] 0) && vs.all (pur 6)) = true) : MemoOk P ((g,vs,r) :: memo):=by
 intro x hx
 refine (List.mem_cons.1 hx).elim (fun e=>?_) fun h'=>hmemo x h'
 subst e
 rw [Bool.and_eq_true] at h
 obtain ⟨h,hp⟩:=h
 unfold saysV at h
 split at h
 ·rename_i r0 h1 c1 hrun
  split at h
  ·rename_i r' h2 hf
   obtain rfl:=eqV_ok 30 _ _ h
   obtain ⟨k1,k2⟩:=zFn_sound (tabRowM_ok hall) hmemo (funOf_ok P) hm fuel n _ _ _ _ _ _ _ hrun
   exact ⟨k1,hp,PT_of k2 hf⟩
  ·cases h
 ·cases h
theorem memo_nil {P : Program} : MemoOk P []:=fun x hx=>by cases hx
end Go.Mx
end
namespace Go.Su.Ytcadbebhhnggdaa
open Go.Mx Go.Proofs
theorem tabs24 : tabAll Try.prog = true:=by kernel_rfl
set_option maxRecDepth 100000 in
theorem memo24 : MemoOk Try.prog [(23,[],.p (.bool true))] :=
 memo_cons tabs24 (Checked.mixed Try.checked) memo_nil (mode:=fun g=>bif Nat.testBit 1427247698023034123475024237485294545809702912 g then 1 else bif Nat.testBit 1329227995787333724543040725266202624 g then 3 else bif Nat.testBit 0 g then 2 else 0) (fuel:=300) (n:=40) (by kernel_rfl)
theorem known24_pt : PT Try.prog 23 [] (.p (.bool true)):=(memo24 _ (List.mem_cons_self ..)).2.2
end Go.Su.Ytcadbebhhnggdaa
namespace Go.Su.Ytcadbebhhnggdaa
open Go.Mx Go.Proofs
set_option maxRecDepth 100000
set_option maxHeartbeats 20000000
set_option linter.unusedVariables false
set_option linter.unusedSimpArgs false
structure Cand where
 Guard : Bool
 Names : List Int
 Cost : Cx
def eCand (x : Cand) : V:=.agg [.p (.bool x.Guard),.ps .opt (List.map e_i64 x.Names),.p (.complex .f64 x.Cost.re x.Cost.im)]
def tbl : List (Nat × TI):=[(3,⟨1,8,.int .i64,.p (.int .i64 0)⟩),
 (4,⟨1,1,.bool,.p (.bool false)⟩),
 (31,⟨1,24,.slice 3,.ps .nil []⟩),
 (43,⟨1,16,.complex .f64,.p (.complex .f64 0 0)⟩),
 (48,⟨1,24,.slice 53,.ps .nil []⟩),
 (53,⟨3,48,.struct #[⟨"Guard",4,0,false, "", "",0⟩,⟨"Names",31,1,false, "", "",8⟩,⟨"Cost",43,2,false, "", "",32⟩],.agg [.p (.bool false),.ps .nil [],.p (.complex .f64 0 0)]⟩)]
def tb : TypeId → Option TI:=lookT tbl
theorem rows : rowsOk Try.prog tbl:=⟨by kernel_rfl,by kernel_rfl,by kernel_rfl,by kernel_rfl,by kernel_rfl,by kernel_rfl,trivial⟩
theorem hT : TabOk Try.prog tb:=tab_ok rows (by kernel_rfl)
theorem hM : Try.prog.follows .mixedOrders = true:=Checked.mixed Try.checked
def el_int (l : List Int) : V:=.ps .opt (List.map e_i64 l)
def s_int : SE tb Int:={ f:=e_i64,F:=List.map e_i64,hF:=fun _=>rfl,sz:=1,hs:=fun _=>rfl,h1:=fun _=>rfl,t:=31,e:=3,i0:=⟨1,24,.slice 3,.ps .nil []⟩,i1:=⟨1,8,.int .i64,.p (.int .i64 0)⟩,ht:=by kernel_rfl,hd:=rfl,he:=by kernel_rfl,hz:=rfl,hp:=by decide,hb:=by decide }
def s_Cand : SE tb Cand:={ f:=eCand,F:=List.map eCand,hF:=fun _=>rfl,sz:=3,hs:=fun _=>rfl,h1:=fun _=>rfl,t:=48,e:=53,i0:=⟨1,24,.slice 53,.ps .nil []⟩,i1:=⟨3,48,.struct #[⟨"Guard",4,0,false, "", "",0⟩,⟨"Names",31,1,false, "", "",8⟩,⟨"Cost",43,2,false, "", "",32⟩],.agg [.p (.bool false),.ps .nil [],.p (.complex .f64 0 0)]⟩,ht:=by kernel_rfl,hd:=rfl,he:=by kernel_rfl,hz:=rfl,hp:=by decide,hb:=by decide }
theorem en17 : Enters Try.prog 17:=enters Try.f17 Try.func17 rfl (by kernel_rfl)
theorem en22 : Enters Try.prog 22:=enters Try.f22 Try.func22 rfl (by kernel_rfl)
theorem en23 : Enters Try.prog 23:=enters Try.f23 Try.func23 rfl (by kernel_rfl)
theorem en24 : Enters Try.prog 24:=enters Try.f24 Try.func24 rfl (by kernel_rfl)
end Go.Su.Ytcadbebhhnggdaa
namespace Go.Su.Ytcadbebhhnggdaa
open Go.Mx Go.Proofs Go.Proofs.Ytcadbebhhnggdaa
set_option linter.unusedVariables false
def okInts (l : List Int) : Prop:=l.length ≤ maxLen ∧ ∀ a ∈ l,okInt .i64 a
theorem opens_ints (W : World) : Opens Try.prog W 31 el_int okInts :=
 opens_slice (k:=1) Try.underlying31 (by kernel_rfl) (by omega) (fun _=>rfl) (opens_int Try.underlying3)
end Go.Su.Ytcadbebhhnggdaa
namespace Go.Su.Ytcadbebhhnggdaa
open Go.Mx Go.Proofs
set_option maxRecDepth 100000
set_option maxHeartbeats 20000000
set_option linter.unusedVariables false
set_option linter.unusedSimpArgs false
def hand_Pick (n : Nat) (a0 : Int) (a1 : Int) : Option Int :=
 bif (a1 == 0) then none else
 jn (fun (i2 : Int) =>
  some i2) fun J3 =>
  bif decide ((a0.tmod a1) < 0) then
   J3 (wr ((a0.tmod a1) + a1))
  else
   J3 (a0.tmod a1)
mutual
def law24_some_L0 : Nat → (List Int) → (List Cand) → Int → Option (List Cand)
 | 0,_,_,_=>none
 | n + 1,a0,l1,i2 =>
  jn (fun (b3 : Bool) =>
   bif b3 then
    (idx a0 i2).bind fun x5 =>
    (idx a0 i2).bind fun x6 =>
    (hand_Pick n (wr (x6.tdiv 2)) 6).bind fun r7 =>
    law24_some_L1 n a0 l1 i2 b3 x5 x6 r7 ([] : List Int) 0
   else
    some l1) fun J4 =>
   bif decide (i2 < (ln a0)) then
    J4 (decide (i2 < 9))
   else
    J4 false
def law24_some_L1 : Nat → (List Int) → (List Cand) → Int → Bool → Int → Int → Int → (List Int) → Int → Option (List Cand)
 | 0,_,_,_,_,_,_,_,_,_=>none
 | n + 1,a0,l1,i2,b3,x5,x6,r7,l8,i9 =>
  bif decide (i9 < 4) then
   jn (fun (l10 : List Int) =>
    law24_some_L1 n a0 l1 i2 b3 x5 x6 r7 l10 (wr (i9 + 1))) fun J11 =>
    (idx a0 i2).bind fun x12 =>
    (hand_Pick n (wr (x12.tdiv 16)) 16).bind fun r13 =>
    (ishl .i64 1 (IntKind.u64.wrap i9)).bind fun x14 =>
    bif (x14 == 0) then none else
    bif (((wr (r13.tdiv x14)).tmod 2) == 1) then
     bif room s_int.i1.bytes l8.length [wr (2 * i9)].length then
      J11 (l8 ++ [wr (2 * i9)])
     else none
    else
     J11 l8
  else
   bif room s_Cand.i1.bytes l1.length [(Cand.mk ((x5.tmod 2) == 0) l8 (⟨FloatKind.f64.nearest r7,4607182418800017408⟩ : Cx))].length then
    law24_some_L0 n a0 (l1 ++ [(Cand.mk ((x5.tmod 2) == 0) l8 (⟨FloatKind.f64.nearest r7,4607182418800017408⟩ : Cx))]) (wr (i2 + 1))
   else none
end
def law24_some (n : Nat) (a0 : List Int) : Option (List Cand) :=
 law24_some_L0 n a0 ([] : List Cand) 0
def hit_Total_L0 : Nat → (List Cand) → (List Int) → Cx → Int → Option Cx
 | 0,_,_,_,_=>none
 | n + 1,a0,a1,z1,i2 =>
  bif decide (i2 < (ln a1)) then
   jn (fun (z3 : Cx) =>
    hit_Total_L0 n a0 a1 z3 (wr (i2 + 1))) fun J4 =>
    (idx a1 i2).bind fun x5 =>
    jn (fun (b6 : Bool) =>
     bif b6 then
      (idx a0 x5).bind fun x8 =>
      (cadd z1 x8.Cost).bind fun z9 =>
      J4 z9
     else
      J4 z1) fun J7 =>
     bif decide (x5 ≥ 0) then
      J7 (decide (x5 < (ln a0)))
     else
      J7 false
  else
   some z1
def hit_Total (n : Nat) (a0 : List Cand) (a1 : List Int) : Option Cx :=
 hit_Total_L0 n a0 a1 c0 0
mutual
def law24_HitSum_L0 : Nat → (List Int) → (List Int) → (List Int) → (List Cand) → (List Int) → (List Int) → Int → Option Bool
 | 0,_,_,_,_,_,_,_=>none
 | n + 1,a0,a1,a2,r1,l2,l3,i4 =>
  bif decide (i4 < (ln a1)) then
   (idx a1 i4).bind fun x5 =>
   (hand_Pick n x5 10).bind fun r6 =>
   bif room s_int.i1.bytes l2.length [r6].length then
    (hand_Pick n x5 10).bind fun r8 =>
    bif room s_int.i1.bytes l3.length [r8].length then
     law24_HitSum_L0 n a0 a1 a2 r1 (l2 ++ [r6]) (l3 ++ [r8]) (wr (i4 + 1))
    else none
   else none
  else
   law24_HitSum_L1 n a0 a1 a2 r1 l2 l3 i4 ([] : List Int) l3 0
def law24_HitSum_L1 : Nat → (List Int) → (List Int) → (List Int) → (List Cand) → (List Int) → (List Int) → Int → (List Int) → (List Int) → Int → Option Bool
 | 0,_,_,_,_,_,_,_,_,_,_=>none
 | n + 1,a0,a1,a2,r1,l2,l3,i4,l10,l11,i12 =>
  bif decide (i12 < (ln a2)) then
   (idx a2 i12).bind fun x13 =>
   (hand_Pick n x13 10).bind fun r14 =>
   bif room s_int.i1.bytes l10.length [r14].length then
    (hand_Pick n x13 10).bind fun r16 =>
    bif room s_int.i1.bytes [r16].length l11.length then
     law24_HitSum_L1 n a0 a1 a2 r1 l2 l3 i4 (l10 ++ [r14]) ([r16] ++ l11) (wr (i12 + 1))
    else none
   else none
  else
   (hit_Total n r1 l2).bind fun r18 =>
   (hit_Total n r1 l10).bind fun r19 =>
   (cadd r18 r19).bind fun z20 =>
   (hit_Total n r1 l11).bind fun r21 =>
   some ((FloatKind.f64.format.order z20.re r21.re == some .eq) && (FloatKind.f64.format.order z20.im r21.im == some .eq))
end
def law24_HitSum (n : Nat) (a0 : List Int) (a1 : List Int) (a2 : List Int) : Option Bool :=
 (law24_some n a0).bind fun r1 =>
 law24_HitSum_L0 n a0 a1 a2 r1 ([] : List Int) ([] : List Int) 0
end Go.Su.Ytcadbebhhnggdaa
namespace Go.Su.Ytcadbebhhnggdaa
open Go.Mx Go.Proofs
set_option maxRecDepth 100000
set_option maxHeartbeats 20000000
set_option linter.unusedVariables false
set_option linter.unusedSimpArgs false
theorem hand_Pick_ok {n : Nat} {a0 : Int} {a1 : Int} {r : Int} (h : hand_Pick n a0 a1 = some r) : PT Try.prog 17 [vi a0,vi a1] (vi r):=by
 unfold hand_Pick at h
 refine PT_bodyA hT Try.func17 rfl (by kernel_rfl) fun bad w=>?_
 refine Qzd hT 1 [0,1] [] ?_
 refine Qg hT 2 [1,5,6] ⟨[(1,vi a1),(5,vi a0),(6,vi a1)],[],0⟩ ?_
 obtain ⟨g1,h⟩:=g0some h
 refine One' hT rfl (ev_rem .i64 a0 a1 g1 (by kernel_rfl) (by kernel_rfl)) ?_
 refine Sz hT 1 [0,1] ⟨[(0,vi (a0.tmod a1)),(1,vi a1)],[],0⟩ ?_
 refine WA_seq ?_
 refine Qzd hT 2 [0,1,9] [(9,vb (decide ((a0.tmod a1) < 0)))] ?_
 obtain ⟨J3,hJ3,h⟩:=jsome h
 refine WA_join (fun s=>∃ (i2 : Int),J3 i2 = some r ∧ s = ⟨[(0,vi i2)],[],1⟩) ?_ ?_
 ·refine Ci h (fun h=>?_) fun h=>?_
  ·refine Rg hT 4 [0] ⟨[(0,vi (wr ((a0.tmod a1) + a1)))],[],0⟩ ?_
   exact oK [0] [] ⟨wr ((a0.tmod a1) + a1),h,rfl⟩
  exact sK [0] [] ⟨a0.tmod a1,h,rfl⟩
 subst hJ3
 rintro s ⟨i2,h,rfl⟩
 refine Qz hT 2 [4] ⟨[(4,vi i2)],[],1⟩ ?_
 obtain rfl:=Option.some.inj h
 exact rK [4] [] ⟨[(4,vi i2)],[],1⟩ ⟨by kernel_rfl,rfl⟩
theorem law24_some_ok {n : Nat} {a0 : List Int} {r : List Cand} (h : law24_some n a0 = some r) : GO Try.prog 22 [] [po s_int a0] (vs 100 1 s_Cand r) [(100,rb 1 s_Cand r)]:=by
 unfold law24_some at h
 refine GO_bodyA hT Try.func22 rfl [] (by kernel_rfl) fun bad w m=>?_
 refine Qzd hT 1 [0] [] ?_
 refine Qzd hT 1 [0,3] [(3,vn)] ?_
 refine WA_seq ?_
 refine Qzd hT 1 [0,3,4] [(4,vi 0)] ?_
 refine WA_block ?_
 refine aW [0,3,4] ⟨[(0,po s_int a0),(3,vn),(4,vi 0)],[],1⟩ ?_
 refine WA_weak (wO 3 5000 53 3) ?_
 refine lK [0,3,4] [(5000,10003,1)] (fun k s=>∃ q,q ≤ k ∧ q ≤ n ∧ ∃ (l1 : List Cand),∃ (i2 : Int),law24_some_L0 q a0 l1 i2 = some r ∧ s = ⟨[(0,po s_int a0),(3,vs 10003 1 s_Cand l1),(4,vi i2)],[(10003,rb 1 s_Cand l1)],2⟩) n ⟨n,Nat.le_refl _,Nat.le_refl _,([] : List Cand),0,h,rfl⟩ (by rintro s ⟨q,hq,_,l1,i2,h,_⟩; obtain rfl:=Nat.le_zero.1 hq; rw [law24_some_L0] at h; cases h) ?_
 clear h
 rintro k1 s ⟨q1,hk1,hn1,l1,i2,h,rfl⟩
 rcases q1 with _ | q1
 ·rw [law24_some_L0] at h; cases h
 rw [law24_some_L0] at h
 refine WA_seq ?_
 refine WA_seq ?_
 obtain ⟨J4,hJ4,h⟩:=jsome h
 refine WA_join (fun s=>∃ (b3 : Bool),J4 b3 = some r ∧ s = ⟨[(0,po s_int a0),(3,vs 10003 1 s_Cand l1),(4,vi i2),(14,vb b3)],[(10003,rb 1 s_Cand l1)],2⟩) ?_ ?_
 ·refine Rgd hT 2 [0,3,4,7,8] [(7,vi i2),(8,po s_int a0)] ?_
  refine One' hT rfl (v_len s_int .opt a0) ?_
  refine Sgd hT 2 [0,3,4,11] [(11,vb (decide (i2 < (ln a0))))] ?_
  cases hb : (decide (i2 < (ln a0)) : Bool)
  ·replace h:=cfalse hb h
   refine Sgd hT 3 [0,3,4,14] [(14,vb false)] ?_
   exact oK [0,3,4,14] [(10003,10003,1)] ⟨false,h,rfl⟩
  replace h:=ctrue hb h
  refine Sgd hT 3 [0,3,4,14] [(14,vb (decide (i2 < 9)))] ?_
  exact oK [0,3,4,14] [(10003,10003,1)] ⟨decide (i2 < 9),h,rfl⟩
 subst hJ4
 rintro s ⟨b3,h,rfl⟩
 refine Ci h (fun h=>?_) fun h=>?_
 ·refine WA_skip ?_
  refine WA_seq ?_
  refine WA_block ?_
  refine WA_seq ?_
  refine WA_drawW hT hM (by kernel_rfl) ?_
  refine Ds 2 [(18,vi i2),(17,po s_int a0)] [] [] ?_
  obtain ⟨x5,hx5,h⟩:=bsome h
  refine Dl rfl (v_index s_int .opt a0 .i64 i2 hx5) ?_
  refine Dt (.ref (e_i64 x5) 0) ?_
  refine Ds 5 [(24,vi i2),(23,po s_int a0),(22,vb ((x5.tmod 2) == 0)),(21,vi (x5.tmod 2)),(20,vi x5)] [] [] ?_
  obtain ⟨x6,hx6,h⟩:=bsome h
  refine Dl rfl (v_index s_int .opt a0 .i64 i2 hx6) ?_
  refine Dt (.ref (e_i64 x6) 0) ?_
  refine Ds 2 [(27,vi (wr (x6.tdiv 2))),(26,vi x6)] [] [] ?_
  obtain ⟨r7,hr7,h⟩:=bsome h
  refine Dp [vi (wr (x6.tdiv 2)),vi 6] (vi r7) en17 (hand_Pick_ok hr7) ?_
  refine Dh 5 [(5,bx 5 2),(31,.agg [vb ((x5.tmod 2) == 0),vn,vz (⟨FloatKind.f64.nearest r7,4607182418800017408⟩ : Cx)]),(30,vz (⟨FloatKind.f64.nearest r7,4607182418800017408⟩ : Cx)),(29,.p (.float .f64 (FloatKind.f64.nearest r7)))] [(5,cb 2 53 3 (.agg [vb ((x5.tmod 2) == 0),vn,vz (⟨FloatKind.f64.nearest r7,4607182418800017408⟩ : Cx)])),(10003,rb 1 s_Cand l1)] 3 [(15,[5]),(16,[5])] [] ?_
  refine De ?_
  refine Wk_done ?_
  refine WA_seq ?_
  refine Qz hT 1 [0,3,4,5,6] ⟨[(0,po s_int a0),(3,vs 10003 1 s_Cand l1),(4,vi i2),(5,bx 5 2),(6,vi 0)],[(5,cb 2 53 3 (.agg [vb ((x5.tmod 2) == 0),vn,vz (⟨FloatKind.f64.nearest r7,4607182418800017408⟩ : Cx)])),(10003,rb 1 s_Cand l1)],3⟩ ?_
  refine WA_block ?_
  refine aW [0,3,4,5,6] ⟨[(0,po s_int a0),(3,vs 10003 1 s_Cand l1),(4,vi i2),(5,bx 5 2),(6,vi 0)],[(5,cb 2 53 3 (.agg [vb ((x5.tmod 2) == 0),vn,vz (⟨FloatKind.f64.nearest r7,4607182418800017408⟩ : Cx)])),(10003,rb 1 s_Cand l1)],3⟩ ?_
  refine WA_weak (wOh 5 5000 1 (cb 2 53 3 (.agg [vb ((x5.tmod 2) == 0),vn,vz (⟨FloatKind.f64.nearest r7,4607182418800017408⟩ : Cx)])) (.agg [vb ((x5.tmod 2) == 0),vn,vz (⟨FloatKind.f64.nearest r7,4607182418800017408⟩ : Cx)]) (.agg [vb ((x5.tmod 2) == 0),vs 5000 3 s_int ([] : List Int),vz (⟨FloatKind.f64.nearest r7,4607182418800017408⟩ : Cx)]) 3 1) ?_
  refine lR [(5,5,1),(10003,10003,1),(5000,12505,1)] (fun k s=>∃ q,q ≤ k ∧ q ≤ q1 ∧ ∃ (l8 : List Int),∃ (i9 : Int),law24_some_L1 q a0 l1 i2 b3 x5 x6 r7 l8 i9 = some r ∧ s = ⟨[(0,po s_int a0),(3,vs 10003 1 s_Cand l1),(4,vi i2),(5,bx 5 1),(6,vi i9)],[(5,cb 1 53 3 (.agg [vb ((x5.tmod 2) == 0),vs 12505 1 s_int l8,vz (⟨FloatKind.f64.nearest r7,4607182418800017408⟩ : Cx)])),(10003,rb 1 s_Cand l1),(12505,rb 1 s_int l8)],2⟩) q1 ⟨q1,Nat.le_refl _,Nat.le_refl _,([] : List Int),0,h,rfl⟩ (by rintro s ⟨q,hq,_,l8,i9,h,_⟩; obtain rfl:=Nat.le_zero.1 hq; rw [law24_some_L1] at h; cases h) ?_
  clear h
  rintro k2 s ⟨q2,hk2,hn2,l8,i9,h,rfl⟩
  rcases q2 with _ | q2
  ·rw [law24_some_L1] at h; cases h
  rw [law24_some_L1] at h
  refine WA_seq ?_
  refine Qz hT 2 [0,3,4,5,6,33] ⟨[(0,po s_int a0),(3,vs 10003 1 s_Cand l1),(4,vi i2),(5,bx 5 1),(6,vi i9),(33,vb (decide (i9 < 4)))],[(5,cb 1 53 3 (.agg [vb ((x5.tmod 2) == 0),vs 12505 1 s_int l8,vz (⟨FloatKind.f64.nearest r7,4607182418800017408⟩ : Cx)])),(10003,rb 1 s_Cand l1),(12505,rb 1 s_int l8)],2⟩ ?_
  refine Ci h (fun h=>?_) fun h=>?_
  ·refine WA_skip ?_
   refine WA_seq ?_
   obtain ⟨J11,hJ11,h⟩:=jsome h
   refine WA_join (fun s=>∃ (l10 : List Int),J11 l10 = some r ∧ s = ⟨[(0,po s_int a0),(3,vs 10003 1 s_Cand l1),(4,vi i2),(5,bx 5 1),(6,vi i9)],[(5,cb 1 53 3 (.agg [vb ((x5.tmod 2) == 0),vs 12505 1 s_int l10,vz (⟨FloatKind.f64.nearest r7,4607182418800017408⟩ : Cx)])),(10003,rb 1 s_Cand l1),(12505,rb 1 s_int l10)],2⟩) ?_ ?_
   ·refine WA_block ?_
    refine Qg hT 2 [0,3,4,5,6,36,37] ⟨[(0,po s_int a0),(3,vs 10003 1 s_Cand l1),(4,vi i2),(5,bx 5 1),(6,vi i9),(36,po s_int a0),(37,vi i2)],[(5,cb 1 53 3 (.agg [vb ((x5.tmod 2) == 0),vs 12505 1 s_int l8,vz (⟨FloatKind.f64.nearest r7,4607182418800017408⟩ : Cx)])),(10003,rb 1 s_Cand l1),(12505,rb 1 s_int l8)],2⟩ ?_
    obtain ⟨x12,hx12,h⟩:=bsome h
    refine One' hT rfl (v_index s_int .opt a0 .i64 i2 hx12) ?_
    refine Sg hT 2 [0,3,4,5,6,40] ⟨[(0,po s_int a0),(3,vs 10003 1 s_Cand l1),(4,vi i2),(5,bx 5 1),(6,vi i9),(40,vi (wr (x12.tdiv 16)))],[(5,cb 1 53 3 (.agg [vb ((x5.tmod 2) == 0),vs 12505 1 s_int l8,vz (⟨FloatKind.f64.nearest r7,4607182418800017408⟩ : Cx)])),(10003,rb 1 s_Cand l1),(12505,rb 1 s_int l8)],2⟩ ?_
    obtain ⟨r13,hr13,h⟩:=bsome h
    refine Pt' en17 (hand_Pick_ok hr13) ?_
    refine Sg hT 2 [0,3,4,5,6,41,43] ⟨[(0,po s_int a0),(3,vs 10003 1 s_Cand l1),(4,vi i2),(5,bx 5 1),(6,vi i9),(41,vi r13),(43,.p (.int .u64 (IntKind.u64.wrap i9)))],[(5,cb 1 53 3 (.agg [vb ((x5.tmod 2) == 0),vs 12505 1 s_int l8,vz (⟨FloatKind.f64.nearest r7,4607182418800017408⟩ : Cx)])),(10003,rb 1 s_Cand l1),(12505,rb 1 s_int l8)],2⟩ ?_
    obtain ⟨x14,hx14,h⟩:=bsome h
    refine One' hT rfl (ev_shl .i64 .u64 1 (IntKind.u64.wrap i9) hx14 (by kernel_rfl) (by kernel_rfl)) ?_
    refine Sg hT 0 [0,3,4,5,6,41,44] ⟨[(0,po s_int a0),(3,vs 10003 1 s_Cand l1),(4,vi i2),(5,bx 5 1),(6,vi i9),(41,vi r13),(44,vi x14)],[(5,cb 1 53 3 (.agg [vb ((x5.tmod 2) == 0),vs 12505 1 s_int l8,vz (⟨FloatKind.f64.nearest r7,4607182418800017408⟩ : Cx)])),(10003,rb 1 s_Cand l1),(12505,rb 1 s_int l8)],2⟩ ?_
    obtain ⟨g15,h⟩:=g0some h
    refine One' hT rfl (ev_quo .i64 r13 x14 g15 (by kernel_rfl) (by kernel_rfl)) ?_
    refine Sz hT 2 [0,3,4,5,6,47] ⟨[(0,po s_int a0),(3,vs 10003 1 s_Cand l1),(4,vi i2),(5,bx 5 1),(6,vi i9),(47,vb (((wr (r13.tdiv x14)).tmod 2) == 1))],[(5,cb 1 53 3 (.agg [vb ((x5.tmod 2) == 0),vs 12505 1 s_int l8,vz (⟨FloatKind.f64.nearest r7,4607182418800017408⟩ : Cx)])),(10003,rb 1 s_Cand l1),(12505,rb 1 s_int l8)],2⟩ ?_
    refine Ci h (fun h=>?_) fun h=>?_
    ·refine Rg hT 5 [0,3,4,5,6,49,52] ⟨[(0,po s_int a0),(3,vs 10003 1 s_Cand l1),(4,vi i2),(5,bx 5 1),(6,vi i9),(49,vs 12505 1 s_int l8),(52,vs 52 2 s_int [wr (2 * i9)])],[(52,⟨2,3,1,false,false,s_int.F [wr (2 * i9)]⟩),(5,cb 1 53 3 (.agg [vb ((x5.tmod 2) == 0),vs 12505 1 s_int l8,vz (⟨FloatKind.f64.nearest r7,4607182418800017408⟩ : Cx)])),(10003,rb 1 s_Cand l1),(12505,rb 1 s_int l8)],3⟩ ?_
     obtain ⟨g16,h⟩:=gsome h
     refine Oa hT s_int 12505 1 true l8 [wr (2 * i9)] (eO s_int 52 2 true ⟨2,3,1,false,false,s_int.F [wr (2 * i9)]⟩ [wr (2 * i9)]) g16 ?_
     refine Sg hT 2 [0,3,4,5,6] ⟨[(0,po s_int a0),(3,vs 10003 1 s_Cand l1),(4,vi i2),(5,bx 5 1),(6,vi i9)],[(5,cb 1 53 3 (.agg [vb ((x5.tmod 2) == 0),vs 53 3 s_int (l8 ++ [wr (2 * i9)]),vz (⟨FloatKind.f64.nearest r7,4607182418800017408⟩ : Cx)])),(53,rb 3 s_int (l8 ++ [wr (2 * i9)])),(52,⟨2,3,1,false,false,s_int.F [wr (2 * i9)]⟩),(10003,rb 1 s_Cand l1)],4⟩ ?_
     exact oK [0,3,4,5,6] [(5,5,1),(10003,10003,1),(53,12505,1)] ⟨l8 ++ [wr (2 * i9)],h,rfl⟩
    exact sK [0,3,4,5,6] [(5,5,1),(10003,10003,1),(12505,12505,1)] ⟨l8,h,rfl⟩
   subst hJ11
   rintro s ⟨l10,h,rfl⟩
   skip
   refine Rg hT 3 [0,3,4,5,6] ⟨[(0,po s_int a0),(3,vs 10003 1 s_Cand l1),(4,vi i2),(5,bx 5 1),(6,vi (wr (i9 + 1)))],[(5,cb 1 53 3 (.agg [vb ((x5.tmod 2) == 0),vs 12505 1 s_int l10,vz (⟨FloatKind.f64.nearest r7,4607182418800017408⟩ : Cx)])),(10003,rb 1 s_Cand l1),(12505,rb 1 s_int l10)],2⟩ ?_
   exact oK [0,3,4,5,6] [(5,5,1),(10003,10003,1),(12505,12505,1)] ⟨_,by omega,by omega,l10,wr (i9 + 1),h,rfl⟩
  refine WA_exit ?_
  refine Rg hT 2 [0,4,55,56] ⟨[(0,po s_int a0),(4,vi i2),(55,vs 10003 1 s_Cand l1),(56,.agg [vb ((x5.tmod 2) == 0),vs 12505 1 s_int l8,vz (⟨FloatKind.f64.nearest r7,4607182418800017408⟩ : Cx)])],[(5,cb 1 53 3 (.agg [vb ((x5.tmod 2) == 0),vs 12505 1 s_int l8,vz (⟨FloatKind.f64.nearest r7,4607182418800017408⟩ : Cx)])),(10003,rb 1 s_Cand l1),(12505,rb 1 s_int l8)],2⟩ ?_
  refine WO_weak (wF 12505 1 (rb 1 s_int l8) [(0,po s_int a0),(4,vi i2),(55,vs 10003 1 s_Cand l1),(56,.agg [vb ((x5.tmod 2) == 0),po s_int l8,vz (⟨FloatKind.f64.nearest r7,4607182418800017408⟩ : Cx)])] [(5,cb 1 53 3 (.agg [vb ((x5.tmod 2) == 0),po s_int l8,vz (⟨FloatKind.f64.nearest r7,4607182418800017408⟩ : Cx)])),(10003,rb 1 s_Cand l1)] ⟨rfl,.keep _,rfl,.keep _,rfl,.keep _,rfl,.aggs ⟨.keep _,.hit true,.keep _,trivial⟩,trivial⟩ ⟨rfl,.inr ⟨rfl,rfl,.aggs ⟨.keep _,.hit true,.keep _,trivial⟩,trivial⟩,rfl,.inl rfl,trivial⟩) ?_
  refine Sg hT 1 [0,4,55,57] ⟨[(0,po s_int a0),(4,vi i2),(55,vs 10003 1 s_Cand l1),(57,vs 57 2 s_Cand [(Cand.mk ((x5.tmod 2) == 0) l8 (⟨FloatKind.f64.nearest r7,4607182418800017408⟩ : Cx))])],[(57,⟨2,53,3,false,false,s_Cand.F [(Cand.mk ((x5.tmod 2) == 0) l8 (⟨FloatKind.f64.nearest r7,4607182418800017408⟩ : Cx))]⟩),(5,cb 1 53 3 (.agg [vb ((x5.tmod 2) == 0),po s_int l8,vz (⟨FloatKind.f64.nearest r7,4607182418800017408⟩ : Cx)])),(10003,rb 1 s_Cand l1)],3⟩ ?_
  obtain ⟨g17,h⟩:=gsome h
  refine Oa hT s_Cand 10003 1 true l1 [(Cand.mk ((x5.tmod 2) == 0) l8 (⟨FloatKind.f64.nearest r7,4607182418800017408⟩ : Cx))] (eO s_Cand 57 2 true ⟨2,53,3,false,false,s_Cand.F [(Cand.mk ((x5.tmod 2) == 0) l8 (⟨FloatKind.f64.nearest r7,4607182418800017408⟩ : Cx))]⟩ [(Cand.mk ((x5.tmod 2) == 0) l8 (⟨FloatKind.f64.nearest r7,4607182418800017408⟩ : Cx))]) g17 ?_
  refine Sz hT 1 [0,3,4] ⟨[(0,po s_int a0),(3,vs 58 3 s_Cand (l1 ++ [(Cand.mk ((x5.tmod 2) == 0) l8 (⟨FloatKind.f64.nearest r7,4607182418800017408⟩ : Cx))])),(4,vi i2)],[(58,rb 3 s_Cand (l1 ++ [(Cand.mk ((x5.tmod 2) == 0) l8 (⟨FloatKind.f64.nearest r7,4607182418800017408⟩ : Cx))])),(57,⟨2,53,3,false,false,s_Cand.F [(Cand.mk ((x5.tmod 2) == 0) l8 (⟨FloatKind.f64.nearest r7,4607182418800017408⟩ : Cx))]⟩),(5,cb 1 53 3 (.agg [vb ((x5.tmod 2) == 0),po s_int l8,vz (⟨FloatKind.f64.nearest r7,4607182418800017408⟩ : Cx)]))],4⟩ ?_
  refine Rg hT 3 [0,3,4] ⟨[(0,po s_int a0),(3,vs 58 3 s_Cand (l1 ++ [(Cand.mk ((x5.tmod 2) == 0) l8 (⟨FloatKind.f64.nearest r7,4607182418800017408⟩ : Cx))])),(4,vi (wr (i2 + 1)))],[(58,rb 3 s_Cand (l1 ++ [(Cand.mk ((x5.tmod 2) == 0) l8 (⟨FloatKind.f64.nearest r7,4607182418800017408⟩ : Cx))])),(57,⟨2,53,3,false,false,s_Cand.F [(Cand.mk ((x5.tmod 2) == 0) l8 (⟨FloatKind.f64.nearest r7,4607182418800017408⟩ : Cx))]⟩),(5,cb 1 53 3 (.agg [vb ((x5.tmod 2) == 0),po s_int l8,vz (⟨FloatKind.f64.nearest r7,4607182418800017408⟩ : Cx)]))],4⟩ ?_
  exact oK [0,3,4] [(58,10003,1)] ⟨_,by omega,by omega,l1 ++ [(Cand.mk ((x5.tmod 2) == 0) l8 (⟨FloatKind.f64.nearest r7,4607182418800017408⟩ : Cx))],wr (i2 + 1),h,rfl⟩
 refine WA_exit ?_
 refine Qzd hT 2 [2] [(2,vs 10003 1 s_Cand l1)] ?_
 obtain rfl:=Option.some.inj h
 exact rK [2] [(10003,100,1)] ⟨[(2,vs 100 1 s_Cand l1)],[(100,rb 1 s_Cand l1)],2⟩ ⟨by kernel_rfl,by kernel_rfl,rfl⟩
theorem hit_Total_ok {n : Nat} {a0 : List Cand} {a1 : List Int} {r : Cx} (h : hit_Total n a0 a1 = some r) : PT Try.prog 24 [po s_Cand a0,po s_int a1] (vz r):=by
 unfold hit_Total at h
 refine PT_bodyA hT Try.func24 rfl (by kernel_rfl) fun bad w=>?_
 refine Qzd hT 1 [0,1] [] ?_
 refine Qzd hT 1 [0,1,5] [(5,vz c0)] ?_
 refine WA_seq ?_
 refine Qgd hT 1 [0,5,8] [(8,po s_int a1)] ?_
 refine One' hT rfl (v_len s_int .opt a1) ?_
 refine Szd hT 1 [0,5,8,9,10] [(9,vi (ln a1)),(10,vi 0)] ?_
 refine WA_block ?_
 refine lK [0,5,8,9,10] [] (fun k s=>∃ q,q ≤ k ∧ q ≤ n ∧ ∃ (z1 : Cx),∃ (i2 : Int),hit_Total_L0 q a0 a1 z1 i2 = some r ∧ s = ⟨[(0,po s_Cand a0),(5,vz z1),(8,po s_int a1),(9,vi (ln a1)),(10,vi i2)],[],1⟩) n ⟨n,Nat.le_refl _,Nat.le_refl _,c0,0,h,rfl⟩ (by rintro s ⟨q,hq,_,z1,i2,h,_⟩; obtain rfl:=Nat.le_zero.1 hq; rw [hit_Total_L0] at h; cases h) ?_
 clear h
 rintro k1 s ⟨q1,hk1,hn1,z1,i2,h,rfl⟩
 rcases q1 with _ | q1
 ·rw [hit_Total_L0] at h; cases h
 rw [hit_Total_L0] at h
 refine Qzd hT 1 [0,5,8,9,10,11] [(11,vb (decide (i2 < (ln a1))))] ?_
 refine WA_seq ?_
 refine Ci h (fun h=>?_) fun h=>?_
 ·refine WA_skip ?_
  refine WA_seq ?_
  obtain ⟨J4,hJ4,h⟩:=jsome h
  refine WA_join (fun s=>∃ (z3 : Cx),J4 z3 = some r ∧ s = ⟨[(0,po s_Cand a0),(5,vz z3),(8,po s_int a1),(9,vi (ln a1)),(10,vi i2)],[],1⟩) ?_ ?_
  ·refine WA_block ?_
   refine Qgd hT 0 [0,5,8,9,10] [] ?_
   obtain ⟨x5,hx5,h⟩:=bsome h
   refine One' hT rfl (v_index s_int .opt a1 .i64 i2 hx5) ?_
   refine Szd hT 2 [0,5,7,8,9,10] [(7,vi x5)] ?_
   refine WA_seq ?_
   obtain ⟨J7,hJ7,h⟩:=jsome h
   refine WA_join (fun s=>∃ (b6 : Bool),J7 b6 = some r ∧ s = ⟨[(0,po s_Cand a0),(5,vz z1),(7,vi x5),(8,po s_int a1),(9,vi (ln a1)),(10,vi i2),(21,vb b6)],[],1⟩) ?_ ?_
   ·refine Rg hT 3 [0,5,7,8,9,10,16] ⟨[(0,po s_Cand a0),(5,vz z1),(7,vi x5),(8,po s_int a1),(9,vi (ln a1)),(10,vi i2),(16,vb (decide (x5 ≥ 0)))],[],1⟩ ?_
    cases hb : (decide (x5 ≥ 0) : Bool)
    ·replace h:=cfalse hb h
     refine Sgd hT 5 [0,5,7,8,9,10,21] [(21,vb false)] ?_
     exact oK [0,5,7,8,9,10,21] [] ⟨false,h,rfl⟩
    replace h:=ctrue hb h
    refine Sgd hT 2 [0,5,7,8,9,10,16,17,18] [(17,vi x5),(18,po s_Cand a0)] ?_
    refine One' hT rfl (v_len s_Cand .opt a0) ?_
    refine Sgd hT 2 [0,5,7,8,9,10,21] [(21,vb (decide (x5 < (ln a0))))] ?_
    exact oK [0,5,7,8,9,10,21] [] ⟨decide (x5 < (ln a0)),h,rfl⟩
   subst hJ7
   rintro s ⟨b6,h,rfl⟩
   skip
   refine Ci h (fun h=>?_) fun h=>?_
   ·refine Rgd hT 3 [0,8,9,10,22,23,24] [(22,vz z1),(23,po s_Cand a0),(24,vi x5)] ?_
    obtain ⟨x8,hx8,h⟩:=bsome h
    refine One' hT rfl (v_index s_Cand .opt a0 .i64 x5 hx8) ?_
    refine Sgd hT 2 [0,8,9,10,22,27] [(27,vz x8.Cost)] ?_
    obtain ⟨z9,hz9,h⟩:=bsome h
    refine One' hT rfl (ev_cadd z1 x8.Cost hz9 (by kernel_rfl) (by kernel_rfl)) ?_
    refine Sgd hT 1 [0,5,8,9,10] [(5,vz z9)] ?_
    exact oK [0,5,8,9,10] [] ⟨z9,h,rfl⟩
   exact sK [0,5,8,9,10] [] ⟨z1,h,rfl⟩
  subst hJ4
  rintro s ⟨z3,h,rfl⟩
  skip
  refine Rgd hT 2 [0,5,8,9,10] [(10,vi (wr (i2 + 1)))] ?_
  exact oK [0,5,8,9,10] [] ⟨_,by omega,by omega,z3,wr (i2 + 1),h,rfl⟩
 refine WA_exit ?_
 refine Qz hT 2 [4] ⟨[(4,vz z1)],[],1⟩ ?_
 obtain rfl:=Option.some.inj h
 exact rK [4] [] ⟨[(4,vz z1)],[],1⟩ ⟨by kernel_rfl,rfl⟩
theorem law24_HitSum_ok {n : Nat} {a0 : List Int} {a1 : List Int} {a2 : List Int} {r : Bool} (h : law24_HitSum n a0 a1 a2 = some r) : PT Try.prog 7 [po s_int a0,po s_int a1,po s_int a2] (vb r):=by
 unfold law24_HitSum at h
 refine PT_bodyA hT Try.func7 rfl (by kernel_rfl) fun bad w=>?_
 refine Qzd hT 1 [0,1,2] [] ?_
 refine Qgd hT 1 [1,2,15] [(15,po s_int a0)] ?_
 obtain ⟨r1,hr1,h⟩:=bsome h
 refine Og [] [(100,rb 1 s_Cand r1)] [po s_int a0] [po s_int a0] [] [(100,16,0)] [(16,rb 0 s_Cand r1)] (vs 100 1 s_Cand r1) (vs 16 0 s_Cand r1) 1 en22 (law24_some_ok hr1) ?_
 refine Szh hT 1 [1,2,7] [(7,vs 16 0 s_Cand r1)] [(16,rb 0 s_Cand r1)] 1 ?_
 refine Qzd hT 3 [1,2,7,8,9,10] [(8,vn),(9,vn),(10,vn)] ?_
 refine WA_seq ?_
 refine Qgd hT 1 [2,7,8,9,10,17] [(17,po s_int a1)] ?_
 refine One' hT rfl (v_len s_int .opt a1) ?_
 refine Szd hT 1 [2,7,8,9,10,17,18,19] [(18,vi (ln a1)),(19,vi 0)] ?_
 refine WA_block ?_
 refine aW [2,7,8,9,10,17,18,19] ⟨[(2,po s_int a2),(7,vs 16 0 s_Cand r1),(8,vn),(9,vn),(10,vn),(17,po s_int a1),(18,vi (ln a1)),(19,vi 0)],[(16,rb 0 s_Cand r1)],1⟩ ?_
 refine WA_weak (wO 8 5000 3 1) ?_
 refine WA_weak (wO 10 5001 3 1) ?_
 refine lK [2,7,8,9,10,17,18,19] [(16,16,0),(5000,10008,0),(5001,10010,0)] (fun k s=>∃ q,q ≤ k ∧ q ≤ n ∧ ∃ (l2 : List Int),∃ (l3 : List Int),∃ (i4 : Int),law24_HitSum_L0 q a0 a1 a2 r1 l2 l3 i4 = some r ∧ s = ⟨[(2,po s_int a2),(7,vs 16 0 s_Cand r1),(8,vs 10008 0 s_int l2),(9,vn),(10,vs 10010 0 s_int l3),(17,po s_int a1),(18,vi (ln a1)),(19,vi i4)],[(16,rb 0 s_Cand r1),(10008,rb 0 s_int l2),(10010,rb 0 s_int l3)],1⟩) n ⟨n,Nat.le_refl _,Nat.le_refl _,([] : List Int),([] : List Int),0,h,rfl⟩ (by rintro s ⟨q,hq,_,l2,l3,i4,h,_⟩; obtain rfl:=Nat.le_zero.1 hq; rw [law24_HitSum_L0] at h; cases h) ?_
 clear h
 rintro k1 s ⟨q1,hk1,hn1,l2,l3,i4,h,rfl⟩
 rcases q1 with _ | q1
 ·rw [law24_HitSum_L0] at h; cases h
 rw [law24_HitSum_L0] at h
 refine Qz hT 1 [2,7,8,9,10,17,18,19,20] ⟨[(2,po s_int a2),(7,vs 16 0 s_Cand r1),(8,vs 10008 0 s_int l2),(9,vn),(10,vs 10010 0 s_int l3),(17,po s_int a1),(18,vi (ln a1)),(19,vi i4),(20,vb (decide (i4 < (ln a1))))],[(16,rb 0 s_Cand r1),(10008,rb 0 s_int l2),(10010,rb 0 s_int l3)],1⟩ ?_
 refine WA_seq ?_
 refine Ci h (fun h=>?_) fun h=>?_
 ·refine WA_skip ?_
  refine WA_seq ?_
  refine WA_block ?_
  refine Qgd hT 0 [2,7,8,9,10,17,18,19] [] ?_
  obtain ⟨x5,hx5,h⟩:=bsome h
  refine One' hT rfl (v_index s_int .opt a1 .i64 i4 hx5) ?_
  refine Szd hT 2 [2,7,8,9,10,12,17,18,19] [(12,vi x5)] ?_
  refine Qgd hT 2 [2,7,9,10,12,17,18,19,23,24] [(23,vs 10008 0 s_int l2),(24,vi x5)] ?_
  obtain ⟨r6,hr6,h⟩:=bsome h
  refine Pt' en17 (hand_Pick_ok hr6) ?_
  refine Sgh hT 1 [2,7,9,10,12,17,18,19,23,26] [(26,vs 26 1 s_int [r6])] [(26,⟨1,3,1,false,false,s_int.F [r6]⟩),(16,rb 0 s_Cand r1),(10008,rb 0 s_int l2),(10010,rb 0 s_int l3)] 2 ?_
  obtain ⟨g7,h⟩:=gsome h
  refine Oa hT s_int 10008 0 true l2 [r6] (eO s_int 26 1 true ⟨1,3,1,false,false,s_int.F [r6]⟩ [r6]) g7 ?_
  refine Szh hT 1 [2,7,8,9,10,12,17,18,19] [(8,vs 27 2 s_int (l2 ++ [r6]))] [(27,rb 2 s_int (l2 ++ [r6])),(26,⟨1,3,1,false,false,s_int.F [r6]⟩),(16,rb 0 s_Cand r1),(10010,rb 0 s_int l3)] 3 ?_
  refine Rgd hT 2 [2,7,8,9,17,18,19,28,29] [(28,vs 10010 0 s_int l3),(29,vi x5)] ?_
  obtain ⟨r8,hr8,h⟩:=bsome h
  refine Pt' en17 (hand_Pick_ok hr8) ?_
  refine Sgh hT 1 [2,7,8,9,17,18,19,28,31] [(31,vs 31 3 s_int [r8])] [(31,⟨3,3,1,false,false,s_int.F [r8]⟩),(27,rb 2 s_int (l2 ++ [r6])),(26,⟨1,3,1,false,false,s_int.F [r6]⟩),(16,rb 0 s_Cand r1),(10010,rb 0 s_int l3)] 4 ?_
  obtain ⟨g9,h⟩:=gsome h
  refine Oa hT s_int 10010 0 true l3 [r8] (eO s_int 31 3 true ⟨3,3,1,false,false,s_int.F [r8]⟩ [r8]) g9 ?_
  refine Szh hT 1 [2,7,8,9,10,17,18,19] [(10,vs 32 4 s_int (l3 ++ [r8]))] [(32,rb 4 s_int (l3 ++ [r8])),(31,⟨3,3,1,false,false,s_int.F [r8]⟩),(27,rb 2 s_int (l2 ++ [r6])),(26,⟨1,3,1,false,false,s_int.F [r6]⟩),(16,rb 0 s_Cand r1)] 5 ?_
  refine Rg hT 2 [2,7,8,9,10,17,18,19] ⟨[(2,po s_int a2),(7,vs 16 0 s_Cand r1),(8,vs 27 2 s_int (l2 ++ [r6])),(9,vn),(10,vs 32 4 s_int (l3 ++ [r8])),(17,po s_int a1),(18,vi (ln a1)),(19,vi (wr (i4 + 1)))],[(32,rb 4 s_int (l3 ++ [r8])),(31,⟨3,3,1,false,false,s_int.F [r8]⟩),(27,rb 2 s_int (l2 ++ [r6])),(26,⟨1,3,1,false,false,s_int.F [r6]⟩),(16,rb 0 s_Cand r1)],5⟩ ?_
  exact oK [2,7,8,9,10,17,18,19] [(16,16,0),(27,10008,0),(32,10010,0)] ⟨_,by omega,by omega,l2 ++ [r6],l3 ++ [r8],wr (i4 + 1),h,rfl⟩
 refine WA_exit ?_
 refine WA_seq ?_
 refine Qgd hT 1 [7,8,9,10,34] [(34,po s_int a2)] ?_
 refine One' hT rfl (v_len s_int .opt a2) ?_
 refine Szd hT 1 [7,8,9,10,34,35,36] [(35,vi (ln a2)),(36,vi 0)] ?_
 refine WA_block ?_
 refine aW [7,8,9,10,34,35,36] ⟨[(7,vs 16 0 s_Cand r1),(8,vs 10008 0 s_int l2),(9,vn),(10,vs 10010 0 s_int l3),(34,po s_int a2),(35,vi (ln a2)),(36,vi 0)],[(16,rb 0 s_Cand r1),(10008,rb 0 s_int l2),(10010,rb 0 s_int l3)],1⟩ ?_
 refine WA_weak (wO 9 5000 3 1) ?_
 refine lK [7,8,9,10,34,35,36] [(16,16,0),(10008,10008,0),(5000,10009,0),(10010,10010,0)] (fun k s=>∃ q,q ≤ k ∧ q ≤ q1 ∧ ∃ (l10 : List Int),∃ (l11 : List Int),∃ (i12 : Int),law24_HitSum_L1 q a0 a1 a2 r1 l2 l3 i4 l10 l11 i12 = some r ∧ s = ⟨[(7,vs 16 0 s_Cand r1),(8,vs 10008 0 s_int l2),(9,vs 10009 0 s_int l10),(10,vs 10010 0 s_int l11),(34,po s_int a2),(35,vi (ln a2)),(36,vi i12)],[(16,rb 0 s_Cand r1),(10008,rb 0 s_int l2),(10009,rb 0 s_int l10),(10010,rb 0 s_int l11)],1⟩) q1 ⟨q1,Nat.le_refl _,Nat.le_refl _,([] : List Int),l3,0,h,rfl⟩ (by rintro s ⟨q,hq,_,l10,l11,i12,h,_⟩; obtain rfl:=Nat.le_zero.1 hq; rw [law24_HitSum_L1] at h; cases h) ?_
 clear h
 rintro k2 s ⟨q2,hk2,hn2,l10,l11,i12,h,rfl⟩
 rcases q2 with _ | q2
 ·rw [law24_HitSum_L1] at h; cases h
 rw [law24_HitSum_L1] at h
 refine Qzd hT 1 [7,8,9,10,34,35,36,37] [(37,vb (decide (i12 < (ln a2))))] ?_
 refine WA_seq ?_
 refine Ci h (fun h=>?_) fun h=>?_
 ·refine WA_skip ?_
  refine WA_seq ?_
  refine WA_block ?_
  refine Qgd hT 0 [7,8,9,10,34,35,36] [] ?_
  obtain ⟨x13,hx13,h⟩:=bsome h
  refine One' hT rfl (v_index s_int .opt a2 .i64 i12 hx13) ?_
  refine Szd hT 2 [7,8,9,10,14,34,35,36] [(14,vi x13)] ?_
  refine Qgd hT 2 [7,8,10,14,34,35,36,40,41] [(40,vs 10009 0 s_int l10),(41,vi x13)] ?_
  obtain ⟨r14,hr14,h⟩:=bsome h
  refine Pt' en17 (hand_Pick_ok hr14) ?_
  refine Sg hT 1 [7,8,10,14,34,35,36,40,43] ⟨[(7,vs 16 0 s_Cand r1),(8,vs 10008 0 s_int l2),(10,vs 10010 0 s_int l11),(14,vi x13),(34,po s_int a2),(35,vi (ln a2)),(36,vi i12),(40,vs 10009 0 s_int l10),(43,vs 43 1 s_int [r14])],[(43,⟨1,3,1,false,false,s_int.F [r14]⟩),(16,rb 0 s_Cand r1),(10008,rb 0 s_int l2),(10009,rb 0 s_int l10),(10010,rb 0 s_int l11)],2⟩ ?_
  obtain ⟨g15,h⟩:=gsome h
  refine Oa hT s_int 10009 0 true l10 [r14] (eO s_int 43 1 true ⟨1,3,1,false,false,s_int.F [r14]⟩ [r14]) g15 ?_
  refine Szh hT 1 [7,8,9,10,14,34,35,36] [(9,vs 44 2 s_int (l10 ++ [r14]))] [(44,rb 2 s_int (l10 ++ [r14])),(43,⟨1,3,1,false,false,s_int.F [r14]⟩),(16,rb 0 s_Cand r1),(10008,rb 0 s_int l2),(10010,rb 0 s_int l11)] 3 ?_
  refine Rgd hT 1 [7,8,9,10,34,35,36,45] [(45,vi x13)] ?_
  obtain ⟨r16,hr16,h⟩:=bsome h
  refine Pt' en17 (hand_Pick_ok hr16) ?_
  refine Sgh hT 2 [7,8,9,34,35,36,47,48] [(47,vs 47 3 s_int [r16]),(48,vs 10010 0 s_int l11)] [(47,⟨3,3,1,false,false,s_int.F [r16]⟩),(44,rb 2 s_int (l10 ++ [r14])),(43,⟨1,3,1,false,false,s_int.F [r14]⟩),(16,rb 0 s_Cand r1),(10008,rb 0 s_int l2),(10010,rb 0 s_int l11)] 4 ?_
  obtain ⟨g17,h⟩:=gsome h
  refine Oa hT s_int 47 3 false [r16] l11 (eO s_int 10010 0 true (rb 0 s_int l11) l11) g17 ?_
  refine Szh hT 1 [7,8,9,10,34,35,36] [(10,vs 49 4 s_int ([r16] ++ l11))] [(49,rb 4 s_int ([r16] ++ l11)),(44,rb 2 s_int (l10 ++ [r14])),(43,⟨1,3,1,false,false,s_int.F [r14]⟩),(16,rb 0 s_Cand r1),(10008,rb 0 s_int l2),(10010,rb 0 s_int l11)] 5 ?_
  refine Rgd hT 2 [7,8,9,10,34,35,36] [(36,vi (wr (i12 + 1)))] ?_
  exact oK [7,8,9,10,34,35,36] [(16,16,0),(10008,10008,0),(44,10009,0),(49,10010,0)] ⟨_,by omega,by omega,l10 ++ [r14],[r16] ++ l11,wr (i12 + 1),h,rfl⟩
 refine WA_exit ?_
 refine Qgd hT 0 [7,8,9,10] [] ?_
 refine WO_pt rfl (by kernel_rfl) [] (vb true) rfl (by kernel_rfl) en23 (by kernel_rfl) known24_pt (by kernel_rfl) ?_
 refine Sgd hT 3 [7,9,10,52,53,54] [(52,vb true),(53,vs 16 0 s_Cand r1),(54,vs 10008 0 s_int l2)] ?_
 refine WO_weak (wF 16 0 (rb 0 s_Cand r1) [(7,po s_Cand r1),(9,vs 10009 0 s_int l10),(10,vs 10010 0 s_int l11),(52,vb true),(53,po s_Cand r1),(54,vs 10008 0 s_int l2)] [(10008,rb 0 s_int l2),(10009,rb 0 s_int l10),(10010,rb 0 s_int l11)] ⟨rfl,.hit true,rfl,.keep _,rfl,.keep _,rfl,.keep _,rfl,.hit true,rfl,.keep _,trivial⟩ ⟨rfl,.inl rfl,rfl,.inl rfl,rfl,.inl rfl,trivial⟩) ?_
 refine WO_weak (wF 10008 0 (rb 0 s_int l2) [(7,po s_Cand r1),(9,vs 10009 0 s_int l10),(10,vs 10010 0 s_int l11),(52,vb true),(53,po s_Cand r1),(54,po s_int l2)] [(10009,rb 0 s_int l10),(10010,rb 0 s_int l11)] ⟨rfl,.keep _,rfl,.keep _,rfl,.keep _,rfl,.keep _,rfl,.keep _,rfl,.hit true,trivial⟩ ⟨rfl,.inl rfl,rfl,.inl rfl,trivial⟩) ?_
 obtain ⟨r18,hr18,h⟩:=bsome h
 refine Pt' en24 (hit_Total_ok hr18) ?_
 refine Sgd hT 2 [7,10,52,55,56,57] [(55,vz r18),(56,po s_Cand r1),(57,vs 10009 0 s_int l10)] ?_
 refine WO_weak (wF 10009 0 (rb 0 s_int l10) [(7,po s_Cand r1),(10,vs 10010 0 s_int l11),(52,vb true),(55,vz r18),(56,po s_Cand r1),(57,po s_int l10)] [(10010,rb 0 s_int l11)] ⟨rfl,.keep _,rfl,.keep _,rfl,.keep _,rfl,.keep _,rfl,.keep _,rfl,.hit true,trivial⟩ ⟨rfl,.inl rfl,trivial⟩) ?_
 obtain ⟨r19,hr19,h⟩:=bsome h
 refine Pt' en24 (hit_Total_ok hr19) ?_
 refine Sgd hT 0 [7,10,52,55,58] [(58,vz r19)] ?_
 obtain ⟨z20,hz20,h⟩:=bsome h
 refine One' hT rfl (ev_cadd r18 r19 hz20 (by kernel_rfl) (by kernel_rfl)) ?_
 refine Sgd hT 2 [52,59,60,61] [(59,vz z20),(60,po s_Cand r1),(61,vs 10010 0 s_int l11)] ?_
 refine WO_weak (wF 10010 0 (rb 0 s_int l11) [(52,vb true),(59,vz z20),(60,po s_Cand r1),(61,po s_int l11)] [] ⟨rfl,.keep _,rfl,.keep _,rfl,.keep _,rfl,.hit true,trivial⟩ trivial) ?_
 obtain ⟨r21,hr21,h⟩:=bsome h
 refine Pt' en24 (hit_Total_ok hr21) ?_
 refine Sz hT 3 [6] ⟨[(6,vb ((FloatKind.f64.format.order z20.re r21.re == some .eq) && (FloatKind.f64.format.order z20.im r21.im == some .eq)))],[],1⟩ ?_
 obtain rfl:=Option.some.inj h
 exact rK [6] [] ⟨[(6,vb ((FloatKind.f64.format.order z20.re r21.re == some .eq) && (FloatKind.f64.format.order z20.im r21.im == some .eq)))],[],1⟩ ⟨by kernel_rfl,rfl⟩
end Go.Su.Ytcadbebhhnggdaa
namespace Go.Mx
set_option linter.unusedVariables false
def Ev {α : Type} (f : Nat → Option α) (r : α) : Prop:=∃ k,∀ n,k ≤ n → f n = some r
namespace Ev
variable {α β : Type}
theorem get {f : Nat → Option α} {r : α} (h : Ev f r) : ∃ n,f n = some r:=by
 obtain ⟨k,hk⟩:=h
 exact ⟨k,hk k (Nat.le_refl _)⟩
theorem ret (r : α) : Ev (fun _=>some r) r:=⟨0,fun _ _=>rfl⟩
theorem of_eq {f g : Nat → Option α} {r : α} (h : ∀ n,f n = g n) (hg : Ev g r) : Ev f r:=by
 obtain ⟨k,hk⟩:=hg
 exact ⟨k,fun n hn=>(h n).trans (hk n hn)⟩
theorem step {f : Nat → Option α} {r : α} (h : Ev (fun n=>f (n + 1)) r) : Ev f r:=by
 obtain ⟨k,hk⟩:=h
 refine ⟨k + 1,fun n hn=>?_⟩
 obtain ⟨m,rfl⟩ : ∃ m,n = m + 1:=⟨n - 1,by omega⟩
 exact hk m (by omega)
theorem bind {f : Nat → Option α} {g : Nat → α → Option β} {x : α} {r : β} (h : Ev f x) (h' : Ev (fun n=>g n x) r) : Ev (fun n=>(f n).bind (g n)) r:=by
 obtain ⟨k,hk⟩:=h
 obtain ⟨k',hk'⟩:=h'
 refine ⟨max k k',fun n hn=>?_⟩
 show (f n).bind (g n) = some r
 rw [hk n (by omega)]
 exact hk' n (by omega)
theorem opt {o : Option α} {g : Nat → α → Option β} {x : α} {r : β} (h : o = some x) (h' : Ev (fun n=>g n x) r) : Ev (fun n=>o.bind (g n)) r:=by
 subst h; exact h'
theorem no {b : Bool} {f g : Nat → Option α} {r : α} (hb : b = false) (hf : Ev g r) : Ev (fun n=>bif b then f n else g n) r:=by
 subst hb; exact hf
end Ev
theorem wr_of {x : Int} (h : -9223372036854775808 ≤ x ∧ x ≤ 9223372036854775807) : wr x = x:=by
 have e : wr x = (x + 9223372036854775808) % 18446744073709551616 - 9223372036854775808:=by
  simp only [wr,IntKind.wrap,IntKind.bits,IntKind.signed,Bool.true_and]
  by_cases h0 : x % 18446744073709551616 ≥ 9223372036854775808
  ·rw [if_pos (by simpa using h0)]; omega
  ·rw [if_neg (by simpa using h0)]; omega
 rw [e]; omega
theorem room_of {bt a b : Nat} (h : (a + b) * bt ≤ 140737488355328) : room bt a b = true:=by
 unfold room; simpa using h
theorem idx_of {α : Type} {l : List α} {n : Int} {a : α} (h0 : 0 ≤ n) (h : l[n.toNat]? = some a) : idx l n = some a:=by
 unfold idx
 rw [h]
 have : ¬ n < 0:=by omega
 simp [this]
end Go.Mx
namespace Go.Su.Ytcadbebhhnggdaa
open Go.Mx Go.Proofs
set_option linter.unusedVariables false
set_option linter.unusedSimpArgs false
theorem pick_eq (n : Nat) (a k : Int) (hk : 0 < k) (hk2 : k ≤ 1000000) : hand_Pick n a k = some (a % k):=by
 have h1 : (k == 0) = false:=by simp; omega
 have h2 : a.tmod k = if 0 ≤ a then a % k else -((-a) % k):=by
  by_cases h : 0 ≤ a
  ·rw [if_pos h,Int.tmod_eq_emod_of_nonneg h]
  ·rw [if_neg h,← Int.tmod_eq_emod_of_nonneg (by omega : 0 ≤ -a),Int.neg_tmod,Int.neg_neg]
 have h3:=Int.emod_nonneg a (by omega : k ≠ 0)
 have h4:=Int.emod_lt_of_pos a hk
 have h5:=Int.emod_nonneg (-a) (by omega : k ≠ 0)
 have h6:=Int.emod_lt_of_pos (-a) hk
 show (bif (k == 0) then none else bif decide (a.tmod k < 0) then some (wr (a.tmod k + k)) else some (a.tmod k)) = _
 rw [h1,cond_false]
 by_cases h : 0 ≤ a
 ·rw [if_pos h] at h2
  rw [h2,show decide (a % k < 0) = false by simp; omega,cond_false]
 ·rw [if_neg h] at h2
  rw [h2]
  by_cases h7 : (-a) % k = 0
  ·have h8 : a % k = 0:=Int.emod_eq_zero_of_dvd (Int.dvd_neg.1 (Int.dvd_of_emod_eq_zero h7))
   rw [h7,h8]; rfl
  ·have h8 : a % k = k - (-a) % k:=by
    have e1 : a = k * (a / k) + a % k:=(Int.mul_ediv_add_emod a k).symm
    have e2 : -a = k * ((-a) / k) + (-a) % k:=(Int.mul_ediv_add_emod (-a) k).symm
    have e3 : (a % k + (-a) % k) % k = 0:=by rw [← Int.add_emod,show a + -a = 0 by omega,Int.zero_emod]
    have e4 : 0 < a % k + (-a) % k:=by omega
    have e5 : a % k + (-a) % k < 2 * k:=by omega
    obtain ⟨c,hc⟩:=Int.dvd_of_emod_eq_zero e3
    have : c = 1:=by
     have c1 : 0 < c:=by
      by_cases h : 0 < c
      ·exact h
      ·have:=Int.mul_nonneg (by omega : 0 ≤ k) (by omega : 0 ≤ -c); rw [Int.mul_neg] at this; omega
     have c2 : c < 2:=by
      by_cases h : c < 2
      ·exact h
      ·have:=Int.mul_le_mul_of_nonneg_left (by omega : 2 ≤ c) (by omega : 0 ≤ k); omega
     omega
    subst this; omega
   rw [h8,show decide (-((-a) % k) < 0) = true by simp; omega,cond_true,wr_of (by omega)]
   congr 1; omega
section loops
variable {α : Type}
theorem ix_lt (pre : List α) (x : α) (r : List α) : decide ((pre.length : Int) < ln (pre ++ x :: r)) = true:=decide_eq_true (by show (pre.length : Int) < ((pre ++ x :: r).length : Int); simp; omega)
theorem ix_ge (l : List α) : decide ((l.length : Int) < ln l) = false:=decide_eq_false (by show ¬ (l.length : Int) < l.length; omega)
theorem ix_get (pre : List α) (x : α) (r : List α) : idx (pre ++ x :: r) (pre.length : Int) = some x:=idx_of (by omega) (by simp)
theorem ix_wr (pre : List α) (x : α) (h : pre.length + 1 ≤ 9223372036854775807) : wr ((pre.length : Int) + 1) = ((pre ++ [x]).length : Int):=by rw [wr_of (by omega)]; simp
theorem ix_cons (pre : List α) (x : α) (r : List α) : pre ++ x :: r = (pre ++ [x]) ++ r:=by simp
end loops
end Go.Su.Ytcadbebhhnggdaa
namespace Go.Mx
open Ieee
set_option linter.unusedVariables false
set_option maxRecDepth 20000
theorem cut0 (n : Nat) : Toward.even.cut false n 0 = n:=by
 unfold Toward.cut
 simp [Nat.mod_one]
theorem cutE (n d : Nat) (hd : d ≤ (n * 2 ^ d).log2 + 2) : Toward.even.cut false (n * 2 ^ d) d = n:=by
 have hp : 0 < 2 ^ d:=Nat.pow_pos (by omega)
 have e1 : 1 <<< min d ((n * 2 ^ d).log2 + 2) = 2 ^ d:=by rw [Nat.min_eq_left hd,Nat.one_shiftLeft]
 have e2 : n * 2 ^ d / 2 ^ d = n:=Nat.mul_div_cancel _ hp
 have e3 : n * 2 ^ d % 2 ^ d = 0:=Nat.mul_mod_left _ _
 have e4 : decide (2 ^ d < 2 * 0) = false:=by simp
 have e5 : ((2 ^ d == 2 * 0) : Bool) = false:=by simp
 unfold Toward.cut
 simp only [e1,e2,e3,e4,e5,Bool.false_and,Bool.or_false,Bool.toNat_false,Nat.add_zero]
theorem log_mul (N k : Nat) (h0 : 0 < N) : (N * 2 ^ k).log2 = N.log2 + k:=by
 have hp : 0 < 2 ^ k:=Nat.pow_pos (by omega)
 have h1 : N * 2 ^ k ≠ 0:=by
  have:=Nat.mul_pos h0 hp; omega
 rw [Nat.log2_eq_iff h1]
 obtain ⟨l1,l2⟩:=(Nat.log2_eq_iff (n:=N) (k:=N.log2) (by omega)).1 rfl
 constructor
 ·rw [Nat.pow_add]; exact Nat.mul_le_mul_right _ l1
 ·rw [show N.log2 + k + 1 = (N.log2 + 1) + k by omega,Nat.pow_add]
  exact Nat.mul_lt_mul_of_pos_right l2 hp
theorem near_nat (N k : Nat) (h0 : 0 < N) (h : N < 2 ^ 53) (hk : k ≤ 1074) : double.nearest false (N * 2 ^ k) (-(k : Int)) = (N.log2 + 1022) * 2 ^ 52 + N * 2 ^ (52 - N.log2):=by
 obtain ⟨l1,l2⟩:=(Nat.log2_eq_iff (n:=N) (k:=N.log2) (by omega)).1 rfl
 have hL : N.log2 ≤ 52:=by
  apply Classical.byContradiction; intro hc
  have : 2 ^ 53 ≤ 2 ^ N.log2:=Nat.pow_le_pow_right (by omega) (by omega)
  omega
 have hp : 0 < 2 ^ k:=Nat.pow_pos (by omega)
 have hm : N * 2 ^ k ≠ 0:=by
  have:=Nat.mul_pos h0 hp; omega
 have hl:=log_mul N k h0
 have hlp : double.leastPlace = -1074:=by kernel_rfl
 have hfb : (double.fractionBits : Int) = 52:=rfl
 have hbin : double.binade = 2 ^ 52:=rfl
 have hinf : double.infRung = 2047 * 2 ^ 52:=by kernel_rfl
 have hlast : max (-(k : Int) + ((N * 2 ^ k).log2 : Int) - (double.fractionBits : Int)) double.leastPlace = (N.log2 : Int) - 52:=by
  rw [hl,hlp,hfb]; omega
 have hK : N * 2 ^ (52 - N.log2) < 2 ^ 53:=by
  have : N * 2 ^ (52 - N.log2) < 2 ^ (N.log2 + 1) * 2 ^ (52 - N.log2):=Nat.mul_lt_mul_of_pos_right l2 (Nat.pow_pos (by omega))
  rw [← Nat.pow_add,show N.log2 + 1 + (52 - N.log2) = 53 by omega] at this
  exact this
 have hcut : Toward.even.cut false ((N * 2 ^ k) <<< (-(k : Int) - ((N.log2 : Int) - 52)).toNat) ((N.log2 : Int) - 52 - -(k : Int)).toNat = N * 2 ^ (52 - N.log2):=by
  by_cases hc : k + N.log2 ≤ 52
  ·rw [show (-(k : Int) - ((N.log2 : Int) - 52)).toNat = 52 - N.log2 - k by omega,show ((N.log2 : Int) - 52 - -(k : Int)).toNat = 0 by omega,cut0,Nat.shiftLeft_eq,Nat.mul_assoc,← Nat.pow_add,show k + (52 - N.log2 - k) = 52 - N.log2 by omega]
  ·rw [show (-(k : Int) - ((N.log2 : Int) - 52)).toNat = 0 by omega,show ((N.log2 : Int) - 52 - -(k : Int)).toNat = N.log2 + k - 52 by omega,Nat.shiftLeft_zero]
   have e : N * 2 ^ k = (N * 2 ^ (52 - N.log2)) * 2 ^ (N.log2 + k - 52):=by
    rw [Nat.mul_assoc,← Nat.pow_add,show 52 - N.log2 + (N.log2 + k - 52) = k by omega]
   rw [e]
   exact cutE _ _ (by rw [← e,hl]; omega)
 unfold Format.nearest
 rw [if_neg hm]
 simp only [hlast,hcut]
 unfold Format.word
 rw [hlp,hbin,hinf,show ((N.log2 : Int) - 52 - -1074).toNat = N.log2 + 1022 by omega]
 simp only [Bool.false_eq_true,if_false]
 rw [Nat.min_eq_left]
 omega
theorem read_nat (N : Nat) (h : N < 2 ^ 53) : ∃ (m : Nat) (p : Nat),p ≤ 1074 ∧ double.read (double.nearest false N 0) = .number false m (-(p : Int)) ∧ m = N * 2 ^ p ∧ (0 < N → p ≤ 52):=by
 by_cases h0 : N = 0
 ·subst h0
  obtain ⟨p,hp⟩ : ∃ p : Nat,p = 1074:=⟨_,rfl⟩
  exact ⟨0,p,by omega,by rw [hp]; kernel_rfl,(Nat.zero_mul _).symm,fun h=>absurd h (by omega)⟩
 ·have hn:=near_nat N 0 (by omega) h (by omega)
  rw [Nat.pow_zero,Nat.mul_one,show (-((0 : Nat) : Int)) = 0 from rfl] at hn
  obtain ⟨l1,l2⟩:=(Nat.log2_eq_iff (n:=N) (k:=N.log2) (by omega)).1 rfl
  have hL : N.log2 ≤ 52:=by
   apply Classical.byContradiction; intro hc
   have : 2 ^ 53 ≤ 2 ^ N.log2:=Nat.pow_le_pow_right (by omega) (by omega)
   omega
  have hK : N * 2 ^ (52 - N.log2) < 2 ^ 53:=by
   have : N * 2 ^ (52 - N.log2) < 2 ^ (N.log2 + 1) * 2 ^ (52 - N.log2):=Nat.mul_lt_mul_of_pos_right l2 (Nat.pow_pos (by omega))
   rw [← Nat.pow_add,show N.log2 + 1 + (52 - N.log2) = 53 by omega] at this
   exact this
  have hK2 : 2 ^ 52 ≤ N * 2 ^ (52 - N.log2):=by
   have : 2 ^ N.log2 * 2 ^ (52 - N.log2) ≤ N * 2 ^ (52 - N.log2):=Nat.mul_le_mul_right _ l1
   rw [← Nat.pow_add,show N.log2 + (52 - N.log2) = 52 by omega] at this
   exact this
  refine ⟨N * 2 ^ (52 - N.log2),52 - N.log2,by omega,?_,rfl,fun _=>by omega⟩
  have hlp : double.leastPlace = -1074:=by kernel_rfl
  have hbin : double.binade = 2 ^ 52:=rfl
  have hinf : double.infRung = 2047 * 2 ^ 52:=by kernel_rfl
  have hsw : double.signWeight = 2 ^ 63:=rfl
  rw [hn]
  generalize hR : (N.log2 + 1022) * 2 ^ 52 + N * 2 ^ (52 - N.log2) = R
  generalize N * 2 ^ (52 - N.log2) = K at hK hK2 hR ⊢
  unfold Format.read
  simp only [hsw,hbin,hinf,hlp]
  have r1 : R % 2 ^ 63 = R:=Nat.mod_eq_of_lt (by omega)
  have r2 : R / 2 ^ 63 = 0:=Nat.div_eq_of_lt (by omega)
  rw [r1,r2,if_neg (by omega),if_pos (by omega)]
  have hp52 : (2 : Nat) ^ 52 = 4503599627370496:=by kernel_rfl
  have hp53 : (2 : Nat) ^ 53 = 9007199254740992:=by kernel_rfl
  rw [hp52] at hK2 hR ⊢
  rw [hp53] at hK
  have e1 : 4503599627370496 + R % 4503599627370496 = K:=by omega
  have e2 : R / 4503599627370496 = N.log2 + 1023:=by omega
  have e3 : ((-1074 : Int) + ((N.log2 + 1023 - 1 : Nat) : Int)) = -((52 - N.log2 : Nat) : Int):=by omega
  rw [e1,e2,e3]
  rfl
theorem add_nat (a b : Nat) (h : a + b < 2 ^ 53) : FloatKind.f64.format.add (FloatKind.f64.nearest (a : Int)) (FloatKind.f64.nearest (b : Int)) = some (FloatKind.f64.nearest ((a + b : Nat) : Int)):=by
 have e : ∀ n : Nat,FloatKind.f64.nearest (n : Int) = double.nearest false n 0:=by
  intro n
  show double.nearest (decide ((n : Int) < 0)) (n : Int).natAbs 0 = _
  rw [decide_eq_false (by omega),Int.natAbs_natCast]
 rw [e,e,e]
 obtain ⟨m,p,hp,hr,hm,_⟩:=read_nat a (by omega)
 obtain ⟨t,q,hq,hs,ht,_⟩:=read_nat b (by omega)
 show ((double.read _).sum (double.read _)).map double.write = _
 rw [hr,hs]
 obtain ⟨k,hk,hkp,hkq⟩ : ∃ k : Nat,min (-(p : Int)) (-(q : Int)) = -(k : Int) ∧ p ≤ k ∧ q ≤ k ∧ k ≤ 1074:=⟨max p q,by omega,by omega,by omega,by omega⟩
 have s1 : signed false m (-(p : Int) - -(k : Int)).toNat = ((a * 2 ^ k : Nat) : Int):=by
  unfold signed
  simp only [Bool.false_eq_true,if_false]
  rw [show (-(p : Int) - -(k : Int)).toNat = k - p by omega,Nat.shiftLeft_eq,hm,Nat.mul_assoc,← Nat.pow_add,show p + (k - p) = k by omega]
 have s2 : signed false t (-(q : Int) - -(k : Int)).toNat = ((b * 2 ^ k : Nat) : Int):=by
  unfold signed
  simp only [Bool.false_eq_true,if_false]
  rw [show (-(q : Int) - -(k : Int)).toNat = k - q by omega,Nat.shiftLeft_eq,ht,Nat.mul_assoc,← Nat.pow_add,show q + (k - q) = k by omega]
 have s3 : ((a * 2 ^ k : Nat) : Int) + ((b * 2 ^ k : Nat) : Int) = (((a + b) * 2 ^ k : Nat) : Int):=by rw [Nat.add_mul]; omega
 unfold Datum.sum
 simp only [hk,s1,s2,s3,Option.map_some,Bool.and_self]
 congr 1
 unfold Format.write
 simp only [Int.natAbs_natCast]
 have hneg : (if (((a + b) * 2 ^ k : Nat) : Int) = 0 then false else decide ((((a + b) * 2 ^ k : Nat) : Int) < 0)) = false:=by
  split
  ·rfl
  ·exact decide_eq_false (by omega)
 rw [hneg]
 by_cases h0 : a + b = 0
 ·rw [h0,Nat.zero_mul]
  unfold Format.nearest
  rw [if_pos rfl,if_pos rfl]
 ·rw [near_nat (a + b) k (by omega) h hkq.2]
  have:=near_nat (a + b) 0 (by omega) h (by omega)
  rw [Nat.pow_zero,Nat.mul_one,show (-((0 : Nat) : Int)) = 0 from rfl] at this
  rw [this]
theorem near_eq (n : Nat) : FloatKind.f64.nearest (n : Int) = double.nearest false n 0:=by
 show double.nearest (decide ((n : Int) < 0)) (n : Int).natAbs 0 = _
 rw [decide_eq_false (by omega),Int.natAbs_natCast]
end Go.Mx
namespace Go.Mx
open Ieee Go
set_option linter.unusedVariables false
theorem ord_self (r : Nat) (h : r < 2 ^ 53) : (FloatKind.f64.format.order (FloatKind.f64.nearest (r : Int)) (FloatKind.f64.nearest (r : Int)) == some .eq) = true:=by
 rw [near_eq]
 obtain ⟨m,p,hp,hr,_⟩:=read_nat r h
 have : FloatKind.f64.format.order (double.nearest false r 0) (double.nearest false r 0) = some .eq:=by
  show (double.read _).order (double.read _) = _
  rw [hr]
  simp [Datum.order]
 rw [this]; rfl
end Go.Mx
