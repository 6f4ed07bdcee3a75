/-
  Chapter 23's racy variables, of two lists: the machine runs them.
-/
import Derived.Test.YtcadbebhhnggdaaZkDx16
import Derived.Test.YtcadbebhhnggdaaZkDx1
import Derived.Below
import Derived.Test.YtcadbebhhnggdaaChecked
import Derived.WalkKit
import Derived.KernelRfl
namespace Go.Mx
set_option linter.unusedVariables false
section
variable {P : Program} {T : TypeId → Option TI} {bad : Nat → Prop} {E : Ent} {N : Nat} {α : Type}
theorem Og {ops : Array Oper} {i : Nat} {A : List (Nat × V)} {h0 : Hp} {c0 : Nat} {Q : Exit → SA → Prop} {o : Oper} {cl : Call} {g : FuncId} (hA hr : Hp) (vs vs' : List V) (E1 E2 : List (Nat × Nat × Nat)) (hB : Hp) (r r' : V) (c2 : Nat) (hen : Enters P g) (hg : GO P g hA vs' r hr) (hk : WO P bad E N ops (i + 1) ⟨putA A o.dst r',hB ++ eraseAll h0 (E1.map (·.1)),c2⟩ Q) (ho : ops[i]? = some o:=by exact rfl) (hgd : evGuardA A ops o = some true:=by kernel_rfl) (hop : o.op = .call cl:=by exact rfl) (htg : evTargetA A cl = some (g,vs):=by kernel_rfl) (hvs : mapO (trV h0 (lookE E1) [] 5) vs = some vs':=by kernel_rfl) (hA' : moveH h0 (lookE E1) [] E1 = some hA:=by kernel_rfl) (hc1 : (E1.all (fun x=>Nat.beq x.2.2 0) && nodupB (E1.map (·.1)) && nodupB (E1.map fun x=>x.2.1) && nodupB (E2.map (·.1)) && nodupB (E2.map fun x=>x.2.1) && Nat.ble c0 c2) = true:=by kernel_rfl) (hr' : trV hr (lookE E2) [] 5 r = some r':=by kernel_rfl) (hB' : moveH hr (lookE E2) [] E2 = some hB:=by kernel_rfl) (hE2 : E2.all (okE2 h0 hr E1 c0 c2) = true:=by kernel_rfl) (hd : okD N o.dst = true:=by kernel_rfl) : WO P bad E N ops i ⟨A,h0,c0⟩ Q:=WO_go' (ho:=ho) (hgd:=hgd) (hA:=hA) (hr:=hr) (vs:=vs) (vs':=vs') (E1:=E1) (E2:=E2) (hB:=hB) (r:=r) (r':=r') (c2:=c2) (hop:=hop) (htg:=htg) (hen:=hen) (hvs:=hvs) (hA':=hA') (hc1:=hc1) (hg:=hg) (hr':=hr') (hB':=hB') (hE2:=hE2) (hd:=hd) (hk:=hk)
theorem Oa (hT : TabOk P T) (σ : SE T α) {ops : Array Oper} {i : Nat} {A : List (Nat × V)} {h0 : Hp} {c0 : Nat} {Q : Exit → SA → Prop} {o : Oper} {d : Nat} {ty : TypeId} {pos : String} {af : Array Edge} {g : Option (Nat × Bool)} {x y : Operand} (b st : Nat) (nl : Bool) (l l2 : List α) (hy : elems h0 (evA A y) = some (σ.F l2)) (hroom : room σ.i1.bytes l.length l2.length = true) (hk : WO P bad E N ops (i + 1) ⟨(d,.sl d c0 0 (σ.F (l ++ l2)).length true) :: A,(h0.erase b).set d ⟨c0,σ.e,σ.sz,false,true,σ.F (l ++ l2)⟩,c0 + 1⟩ Q) (hoi : ops[i]? = some o:=by exact rfl) (hgd : evGuardA A ops o = some true:=by kernel_rfl) (ho : o = ⟨some d,.call ⟨.builtin .append,#[x,y],#[σ.t,σ.t]⟩,ty,pos,af,g⟩:=by exact rfl) (hx : evA A x = .sl b st 0 (σ.F l).length true:=by kernel_rfl) (hg : h0.get b = some ⟨st,σ.e,σ.sz,false,nl,σ.F l⟩:=by kernel_rfl) (hd : Nat.blt d N = true:=by kernel_rfl) : WO P bad E N ops i ⟨A,h0,c0⟩ Q:=WO_append' (hT:=hT) (σ:=σ) (hoi:=hoi) (hgd:=hgd) (b:=b) (st:=st) (nl:=nl) (l:=l) (l2:=l2) (ho:=ho) (hx:=hx) (hg:=hg) (hy:=hy) (hroom:=hroom) (hd:=hd) (hk:=hk)
theorem Ob {ops : Array Oper} {i : Nat} {A : List (Nat × V)} {h0 : Hp} {c0 : Nat} {Q : Exit → SA → Prop} {o : Oper} {cl : Call} {g : FuncId} (bor : List Nat) (vs vs' : List V) (r : V) (hen : Enters P g) (hc : PT P g vs' r) (hk : WO P bad E N ops (i + 1) ⟨putA A o.dst r,h0,c0⟩ Q) (ho : ops[i]? = some o:=by exact rfl) (hg : evGuardA A ops o = some true:=by kernel_rfl) (hop : o.op = .call cl:=by exact rfl) (htg : evTargetA A cl = some (g,vs):=by kernel_rfl) (ht : mapO (trV h0 (fun _=>none) bor 5) vs = some vs':=by kernel_rfl) (hpu : vs'.all (pur 6) = true:=by kernel_rfl) (hs : scal 4 r = true:=by kernel_rfl) (hd : okD N o.dst = true:=by kernel_rfl) : WO P bad E N ops i ⟨A,h0,c0⟩ Q:=WO_ptb' (ho:=ho) (hg:=hg) (bor:=bor) (vs:=vs) (vs':=vs') (r:=r) (hop:=hop) (htg:=htg) (hen:=hen) (ht:=ht) (hpu:=hpu) (hs:=hs) (hc:=hc) (hd:=hd) (hk:=hk)
theorem Dl {ops : Array Oper} {i : Nat} {es rs : List (Nat × List Nat)} {A : List (Nat × V)} {h0 : Hp} {c0 : Nat} {Q : SA → Prop} {o : Oper} (ho : ops[i]? = some o) {v : V} {h' : Hp} {c' : Nat} (he : evOperF P T true (evA A) o h0 c0 = some (v,h',c')) (hk : WD P T bad N ops (i + 1) es (rs ++ entryL i (rdA A o.op)) ⟨putA A o.dst v,h0,c0⟩ Q) (hs : keysLt N A = true:=by kernel_rfl) (hg : evGuardA A ops o = some true:=by kernel_rfl) (hl : localOp o.op = true:=by kernel_rfl) (hd : okD N o.dst = true:=by kernel_rfl) : WD P T bad N ops i es rs ⟨A,h0,c0⟩ Q:=WD_loc' (ho:=ho) (hs:=hs) (hg:=hg) (hl:=hl) (he:=he) (hd:=hd) (hk:=hk)
theorem Dw {ops : Array Oper} {i : Nat} {es rs : List (Nat × List Nat)} {A : List (Nat × V)} {h0 : Hp} {c0 : Nat} {Q : SA → Prop} {o : Oper} (ho : ops[i]? = some o) {v : V} {h' : Hp} {c' : Nat} (he : evOperF P T true (evA A) o h0 c0 = some (v,h',c')) (hk : WD P T bad N ops (i + 1) (es ++ [(i,wrA A o h0 h')]) rs ⟨putA A o.dst v,h',c'⟩ Q) (hs : keysLt N A = true:=by kernel_rfl) (hg : evGuardA A ops o = some true:=by kernel_rfl) (hl : writesOp o.op = true:=by kernel_rfl) (hd : okD N o.dst = true:=by kernel_rfl) : WD P T bad N ops i es rs ⟨A,h0,c0⟩ Q:=WD_wr' (ho:=ho) (hs:=hs) (hg:=hg) (hl:=hl) (he:=he) (hd:=hd) (hk:=hk)
theorem Dp {ops : Array Oper} {i : Nat} {es rs : List (Nat × List Nat)} {A : List (Nat × V)} {h0 : Hp} {c0 : Nat} {Q : SA → Prop} {o : Oper} {cl : Call} {g : FuncId} (vs : List V) (r : V) (hen : Enters P g) (hc : PT P g vs r) (hk : WD P T bad N ops (i + 1) es rs ⟨putA A o.dst r,h0,c0⟩ Q) (ho : ops[i]? = some o:=by exact rfl) (hs : keysLt N A = true:=by kernel_rfl) (hg : evGuardA A ops o = some true:=by kernel_rfl) (hop : o.op = .call cl:=by exact rfl) (htg : evTargetA A cl = some (g,vs):=by kernel_rfl) (hpu : vs.all (pur 6) = true:=by kernel_rfl) (hd : okD N o.dst = true:=by kernel_rfl) : WD P T bad N ops i es rs ⟨A,h0,c0⟩ Q:=WD_pt' (ho:=ho) (hs:=hs) (hg:=hg) (vs:=vs) (r:=r) (hop:=hop) (htg:=htg) (hen:=hen) (hpu:=hpu) (hc:=hc) (hd:=hd) (hk:=hk)
theorem Dg {ops : Array Oper} {i : Nat} {es rs : List (Nat × List Nat)} {A : List (Nat × V)} {h0 : Hp} {c0 : Nat} {Q : SA → Prop} {o : Oper} {cl : Call} {g : FuncId} (hA hr : Hp) (vs vs' : List V) (E1 E2 : List (Nat × Nat × Nat)) (hB : Hp) (r r' : V) (c2 : Nat) (hen : Enters P g) (hg : GO P g hA vs' r hr) (hk : WD P T bad N ops (i + 1) (es ++ [(i,(E2.map fun x=>x.2.1) ++ E1.map (·.1))]) rs ⟨putA A o.dst r',hB ++ eraseAll h0 (E1.map (·.1)),c2⟩ Q) (ho : ops[i]? = some o:=by exact rfl) (hs : keysLt N A = true:=by kernel_rfl) (hgd : evGuardA A ops o = some true:=by kernel_rfl) (hop : o.op = .call cl:=by exact rfl) (htg : evTargetA A cl = some (g,vs):=by kernel_rfl) (hvs : mapO (trV h0 (lookE E1) [] 5) vs = some vs':=by kernel_rfl) (hA' : moveH h0 (lookE E1) [] E1 = some hA:=by kernel_rfl) (hc1 : (E1.all (fun x=>Nat.beq x.2.2 0) && nodupB (E1.map (·.1)) && nodupB (E1.map fun x=>x.2.1) && nodupB (E2.map (·.1)) && nodupB (E2.map fun x=>x.2.1) && Nat.ble c0 c2) = true:=by kernel_rfl) (hr' : trV hr (lookE E2) [] 5 r = some r':=by kernel_rfl) (hB' : moveH hr (lookE E2) [] E2 = some hB:=by kernel_rfl) (hE2 : E2.all (okE2 h0 hr E1 c0 c2) = true:=by kernel_rfl) (hd : okD N o.dst = true:=by kernel_rfl) : WD P T bad N ops i es rs ⟨A,h0,c0⟩ Q:=WD_go' (ho:=ho) (hs:=hs) (hgd:=hgd) (hA:=hA) (hr:=hr) (vs:=vs) (vs':=vs') (E1:=E1) (E2:=E2) (hB:=hB) (r:=r) (r':=r') (c2:=c2) (hop:=hop) (htg:=htg) (hen:=hen) (hvs:=hvs) (hA':=hA') (hc1:=hc1) (hg:=hg) (hr':=hr') (hB':=hB') (hE2:=hE2) (hd:=hd) (hk:=hk)
theorem eO (σ : SE T α) {h : Hp} {v : V} (b s : Nat) (tip : Bool) (B : Blk) (l : List α) (hx : v = .sl b s 0 (σ.F l).length tip:=by kernel_rfl) (hg : h.get b = some B:=by kernel_rfl) (hs : B.s = s:=by exact rfl) (hv : B.var = false:=by exact rfl) (he : B.es = σ.F l:=by exact rfl) : elems h v = some (σ.F l):=elems_own (σ:=σ) (b:=b) (s:=s) (tip:=tip) (B:=B) (l:=l) (hx:=hx) (hg:=hg) (hs:=hs) (hv:=hv) (he:=he)
theorem v_index (σ : SE T α) {ρ : Operand → V} {dr : Bool} {h : Hp} {c : Nat} {d : Option Tmp} {ty : TypeId} {pos : String} {af : Array Edge} {g : Option (Nat × Bool)} {x ix : Operand} (k : SC) (l : List α) (kd : IntKind) (n : Int) {a : α} (ha : idx l n = some a) (hk : k ≠ .nil:=by decide) (hx : ρ x = .ps k (σ.F l):=by kernel_rfl) (hi : ρ ix = .p (.int kd n):=by kernel_rfl) :
  evOperF P T dr ρ ⟨d,.indexAddr σ.t x ix,ty,pos,af,g⟩ h c = some (.ref (σ.f a) 0,h,c):=ev_index (σ:=σ) (k:=k) (l:=l) (kd:=kd) (n:=n) (ha:=ha) (hk:=hk) (hx:=hx) (hi:=hi)
theorem v_indexA {ρ : Operand → V} {dr : Bool} {h : Hp} {c : Nat} {d : Option Tmp} {t ty : TypeId} {pos : String} {af : Array Edge} {g : Option (Nat × Bool)} {x ix : Operand} (f : α → V) (l : List α) (kd : IntKind) (n : Int) {a : α} (i0 i1 : TI) (e : TypeId) (ha : idx l n = some a) (hx : ρ x = .agg (l.map f):=by kernel_rfl) (hi : ρ ix = .p (.int kd n):=by kernel_rfl) (h0 : T t = some i0:=by exact rfl) (hd : i0.desc = .array l.length e:=by exact rfl) (he : T e = some i1:=by exact rfl) (hz : i1.size = 1:=by exact rfl) (hag : isAggD i1.desc = false:=by exact rfl) :
  evOperF P T dr ρ ⟨d,.index t x ix,ty,pos,af,g⟩ h c = some (f a,h,c):=ev_indexA (f:=f) (l:=l) (kd:=kd) (n:=n) (i0:=i0) (i1:=i1) (e:=e) (ha:=ha) (hx:=hx) (hi:=hi) (h0:=h0) (hd:=hd) (he:=he) (hz:=hz) (hag:=hag)
theorem v_indexS {ρ : Operand → V} {dr : Bool} {h : Hp} {c : Nat} {d : Option Tmp} {t ty : TypeId} {pos : String} {af : Array Edge} {g : Option (Nat × Bool)} {x ix : Operand} (s : ByteArray) (kd : IntKind) (n : Int) {a : Int} {i0 : TI} (ha : idxS s n = some a) (hx : ρ x = .p (.string s):=by kernel_rfl) (hi : ρ ix = .p (.int kd n):=by kernel_rfl) (h0 : T t = some i0:=by exact rfl) (hd : i0.desc = .string:=by exact rfl) :
  evOperF P T dr ρ ⟨d,.index t x ix,ty,pos,af,g⟩ h c = some (.p (.int .u8 a),h,c):=ev_indexS (s:=s) (kd:=kd) (n:=n) (ha:=ha) (hx:=hx) (hi:=hi) (h0:=h0) (hd:=hd)
theorem v_index_own (σ : SE T α) {ρ : Operand → V} {dr : Bool} {h : Hp} {c : Nat} {d : Option Tmp} {ty : TypeId} {pos : String} {af : Array Edge} {g : Option (Nat × Bool)} {x ix : Operand} (b s : Nat) (tip : Bool) (B : Blk) (l : List α) (kd : IntKind) (n : Int) {a : α} (ha : idx l n = some a) (hx : ρ x = .sl b s 0 (σ.F l).length tip:=by kernel_rfl) (hi : ρ ix = .p (.int kd n):=by kernel_rfl) (hg : h.get b = some B:=by exact rfl) (hs : B.s = s:=by exact rfl) (hw : B.w = σ.sz:=by exact rfl) :
  evOperF P T dr ρ ⟨d,.indexAddr σ.t x ix,ty,pos,af,g⟩ h c = some (.box b s n.toNat 0,h,c):=ev_index_own (σ:=σ) (b:=b) (s:=s) (tip:=tip) (B:=B) (l:=l) (kd:=kd) (n:=n) (ha:=ha) (hx:=hx) (hi:=hi) (hg:=hg) (hs:=hs) (hw:=hw)
theorem v_len (σ : SE T α) {ρ : Operand → V} {dr : Bool} {h : Hp} {c : Nat} {d : Option Tmp} {ty : TypeId} {pos : String} {af : Array Edge} {g : Option (Nat × Bool)} {x : Operand} (k : SC) (l : List α) (hx : ρ x = .ps k (σ.F l):=by kernel_rfl) :
  evOperF P T dr ρ ⟨d,.call ⟨.builtin .len,#[x],#[σ.t]⟩,ty,pos,af,g⟩ h c = some (.p (.int .i64 l.length),h,c):=ev_len (σ:=σ) (k:=k) (l:=l) (hx:=hx)
theorem v_len_own (σ : SE T α) {ρ : Operand → V} {dr : Bool} {h : Hp} {c : Nat} {d : Option Tmp} {ty : TypeId} {pos : String} {af : Array Edge} {g : Option (Nat × Bool)} {x : Operand} (b s : Nat) (tip : Bool) (B : Blk) (l : List α) (hx : ρ x = .sl b s 0 (σ.F l).length tip:=by kernel_rfl) (hg : h.get b = some B:=by exact rfl) (hs : B.s = s:=by exact rfl) :
  evOperF P T dr ρ ⟨d,.call ⟨.builtin .len,#[x],#[σ.t]⟩,ty,pos,af,g⟩ h c = some (.p (.int .i64 l.length),h,c):=ev_len_own (σ:=σ) (b:=b) (s:=s) (tip:=tip) (B:=B) (l:=l) (hx:=hx) (hg:=hg) (hs:=hs)
theorem v_load_row (σ : SE T α) {ρ : Operand → V} {dr : Bool} {h : Hp} {c : Nat} {d : Option Tmp} {t ty : TypeId} {pos : String} {af : Array Edge} {g : Option (Nat × Bool)} {x : Operand} (b s : Nat) (B : Blk) (l : List α) (n off : Nat) (a : α) (v : V) (ha : l[n]? = some a) (hx : ρ x = .box b s n off:=by kernel_rfl) (hg : h.get b = some B:=by exact rfl) (hs : B.s = s:=by exact rfl) (hes : B.es = σ.F l:=by exact rfl) (hv : evLoad T [] t (.ref (σ.f a) off) = some v:=by kernel_rfl) :
  evOperF P T dr ρ ⟨d,.load t x,ty,pos,af,g⟩ h c = some (v,h,c):=ev_load_row (σ:=σ) (b:=b) (s:=s) (B:=B) (l:=l) (n:=n) (off:=off) (a:=a) (v:=v) (ha:=ha) (hx:=hx) (hg:=hg) (hs:=hs) (hes:=hes) (hv:=hv)
theorem v_sadd {ρ : Operand → V} {dr : Bool} {h : Hp} {c : Nat} {d : Option Tmp} {t t' ty : TypeId} {pos : String} {af : Array Edge} {g : Option (Nat × Bool)} {x y : Operand} (a b : ByteArray) (hr : sroom a b = true) (hx : ρ x = .p (.string a):=by kernel_rfl) (hy : ρ y = .p (.string b):=by kernel_rfl) :
  evOperF P T dr ρ ⟨d,.binOp .add t x y t',ty,pos,af,g⟩ h c = some (.p (.string (a ++ b)),h,c):=ev_sadd (a:=a) (b:=b) (hr:=hr) (hx:=hx) (hy:=hy)
theorem v_slice (σ : SE T α) {ρ : Operand → V} {dr : Bool} {h : Hp} {c : Nat} {d : Option Tmp} {ty : TypeId} {pos : String} {af : Array Edge} {g : Option (Nat × Bool)} {x : Operand} {lo hi mx : Option Operand} (k : SC) (l : List α) (a b : Int) (q : Option Int) (l' : List α) (k' : SC) (hl' : sub l a b = some l') (hq : ∀ y ∈ q,y = b) (hx : ρ x = .ps k (σ.F l):=by kernel_rfl) (hlo : intOr 0 (lo.map ρ) = some a:=by kernel_rfl) (hhi : intOr l.length (hi.map ρ) = some b:=by kernel_rfl) (hmx : intOpt (mx.map ρ) = some q:=by kernel_rfl) (hmh : (mx.isSome && hi.isNone) = false:=by exact rfl) (hk : (match k with | .nil=>(.nil : SC) | .opt | .fopt=>if mx.isSome then .fopt else .opt | _=>if mx.isSome then .full else .any) = k':=by exact rfl) (hk0 : k ≠ .nil:=by decide) :
  evOperF P T dr ρ ⟨d,.slice σ.t x lo hi mx,ty,pos,af,g⟩ h c = some (.ps k' (σ.F l'),h,c):=ev_slice (σ:=σ) (k:=k) (l:=l) (a:=a) (b:=b) (q:=q) (l':=l') (k':=k') (hl':=hl') (hx:=hx) (hlo:=hlo) (hhi:=hhi) (hmx:=hmx) (hq:=hq) (hmh:=hmh) (hk:=hk) (hk0:=hk0)
theorem v_storeRow (σ : SE T α) {dr : Bool} {ρ : Operand → V} {h : Hp} {c : Nat} {d : Option Tmp} {t ty : TypeId} {pos : String} {af : Array Edge} {g : Option (Nat × Bool)} {x y : Operand} (b st : Nat) (B : Blk) (l : List α) (n off : Nat) (a a' : α) (ha : l[n]? = some a) {i0 : TI} (hx : ρ x = .box b st n off:=by kernel_rfl) (hg : h.get b = some B:=by kernel_rfl) (hs : B.s = st:=by exact rfl) (hv : B.var = false:=by exact rfl) (hes : B.es = σ.F l:=by exact rfl) (h0 : T t = some i0:=by exact rfl) (hf : frz 4 h (ρ y) = some (ρ y,h):=by kernel_rfl) (hz : (Nat.blt 0 i0.size && Nat.beq (optV (ρ y)).cells.length i0.size && Nat.ble (off + i0.size) (σ.f a).cells.length && (optV (ρ y)).cells.all V.one) = true:=by kernel_rfl) (he : (if off = 0 ∧ (σ.f a).isAgg = true ∧ (optV (ρ y)).isAgg = true ∧ (σ.f a).cells.length = i0.size then optV (ρ y) else if (σ.f a).isAgg = true then .agg ((σ.f a).cells.take off ++ (optV (ρ y)).cells ++ (σ.f a).cells.drop (off + i0.size)) else ((optV (ρ y)).cells.headD .undef)) = σ.f a':=by kernel_rfl) :
  evOperF P T dr ρ ⟨d,.store t x y,ty,pos,af,g⟩ h c = some (.p Go.undef,h.set b { B with es:=σ.F (l.set n a') },c):=ev_storeRow (σ:=σ) (b:=b) (st:=st) (B:=B) (l:=l) (n:=n) (off:=off) (a:=a) (a':=a') (ha:=ha) (hx:=hx) (hg:=hg) (hs:=hs) (hv:=hv) (hes:=hes) (h0:=h0) (hf:=hf) (hz:=hz) (he:=he)
end
section
variable {P : Program} {T : TypeId → Option TI} {bad : Nat → Prop} {E : Ent} {N : Nat}
theorem De {ops : Array Oper} {i : Nat} {es rs : List (Nat × List Nat)} {s : SA} {Q : SA → Prop} (h : Q s) (hi : Nat.ble ops.size i = true:=by kernel_rfl) (hc : (effPairs (closM ops.toList 0 []) es && wrPairs (closM ops.toList 0 []) rs es) = true:=by kernel_rfl) (hk : keysLt N s.A = true:=by kernel_rfl) : WD P T bad N ops i es rs s Q:=WD_end (hi:=hi) (hc:=hc) (hk:=hk) (h:=h)
theorem wOh {s : SA} (b0 b j : Nat) (B0 : Blk) (v0 v0' : V) (e : TypeId) (wd : Nat) (hg : s.h.get b0 = some B0:=by kernel_rfl) (hv : B0.var = true:=by kernel_rfl) (hes : B0.es = [v0]:=by kernel_rfl) (hj : v0.cells[j]? = some (.ps .nil []):=by kernel_rfl) (hc' : v0'.cells = v0.cells.set j (.sl b s.c 0 0 true):=by kernel_rfl) (hb : s.h.get b = none:=by kernel_rfl) (hc : Nat.ble E.c s.c = true:=by kernel_rfl) : Weak bad E N s ⟨s.A,(b,⟨s.c,e,wd,false,true,[]⟩) :: (b0,{ B0 with es:=[v0'] }) :: s.h.erase b0,s.c + 1⟩:=Weak_ownH (b0:=b0) (b:=b) (j:=j) (B0:=B0) (v0:=v0) (v0':=v0') (e:=e) (wd:=wd) (hg:=hg) (hv:=hv) (hes:=hes) (hj:=hj) (hc':=hc') (hb:=hb) (hc:=hc)
theorem wO {s : SA} (k b : Nat) (e : TypeId) (wd : Nat) (h : lkA s.A k = .ps .nil []:=by kernel_rfl) (hb : s.h.get b = none:=by kernel_rfl) (hk : Nat.blt k N = true:=by kernel_rfl) (hc : Nat.ble E.c s.c = true:=by kernel_rfl) :
  Weak bad E N s ⟨(k,.sl b s.c 0 0 true) :: s.A,(b,⟨s.c,e,wd,false,true,[]⟩) :: s.h,s.c + 1⟩:=Weak_own (k:=k) (b:=b) (e:=e) (wd:=wd) (h:=h) (hb:=hb) (hk:=hk) (hc:=hc)
theorem wF {s : SA} (b st : Nat) (B : Blk) (A' : List (Nat × V)) (h' : Hp) (hA : FzA b st B.es s.A A') (hH : FzH b st B.es (s.h.erase b) h') (hg : s.h.get b = some B:=by kernel_rfl) (hs : B.s = st:=by exact rfl) (hv : B.var = false:=by exact rfl) : Weak bad E N s ⟨A',h',s.c⟩:=Weak_frz (b:=b) (st:=st) (B:=B) (hg:=hg) (hs:=hs) (hv:=hv) (A':=A') (h':=h') (hA:=hA) (hH:=hH)
theorem wL {s : SA} (A' : List (Nat × V)) (h' : Hp) (hA : SLe s.A A') (hH : HLe s.h h') (hk : keysLt N A' = true:=by kernel_rfl) : Weak bad E N s ⟨A',h',s.c⟩:=Weak_leH (A':=A') (h':=h') (hk:=hk) (hA:=hA) (hH:=hH)
end
section
variable {P : Program} {bad : Nat → Prop} {E : Ent} {N : Nat}
theorem Ci {k : Operand} {x y : Code} {s : SA} {Q : Exit → SA → Prop} {β : Type} {X Y r : β} {b : Bool} (h : (bif b then X else Y) = r) (h1 : X = r → WA P bad E N x s Q) (h2 : Y = r → WA P bad E N y s Q) (hk : evA s.A k = .p (.bool b):=by kernel_rfl) : WA P bad E N (.cond k x y) s Q :=
 WA_cond b hk (fun hb=>h1 (ctrue hb h)) fun hb=>h2 (cfalse hb h)
end
abbrev cb (st t e : Nat) (v : V) : Blk:=⟨st,t,e,true,false,[v]⟩
abbrev rb {T : TypeId → Option TI} {α : Type} (st : Nat) (σ : SE T α) (l : List α) : Blk:=⟨st,σ.e,σ.sz,false,true,σ.F l⟩
abbrev po {T : TypeId → Option TI} {α : Type} (σ : SE T α) (l : List α) : V:=.ps .opt (σ.F l)
abbrev vs {T : TypeId → Option TI} {α : Type} (b st : Nat) (σ : SE T α) (l : List α) : V:=.sl b st 0 (σ.F l).length true
abbrev vn : V:=.ps .nil []
abbrev bx (b s : Nat) : V:=.box b s 0 0
abbrev vU : V:=.p Go.undef
end Go.Mx
namespace Go.Mx
set_option linter.unusedVariables false
set_option linter.unusedSimpArgs false
section
variable {P : Program} {T : TypeId → Option TI} {bad : Nat → Prop} {E : Ent} {N : Nat} {α : Type}
def clr (l : List α) (n : Int) (z : α) : List α:=l.take n.toNat ++ List.replicate (l.length - n.toNat) z
theorem clr_length (l : List α) (n : Int) (z : α) : (clr l n z).length = l.length:=by
 unfold clr; simp; omega
end
end Go.Mx
namespace Go.Mx
set_option linter.unusedVariables false
set_option linter.unusedSimpArgs false
section
variable {P : Program} {T : TypeId → Option TI} {bad : Nat → Prop} {E : Ent} {N : Nat} {α : Type}
end
end Go.Mx
namespace Go.Mx
set_option linter.unusedVariables false
set_option linter.unusedSimpArgs false
abbrev Ch:=List (List V)
def lkY (tt : Ch) (k : Nat) : Option V:=(tt.getD (Nat.div k 16) [])[Nat.mod k 16]?
def RelC (tt : Ch) (t : List V) : Prop:=∀ k,lkY tt k = t[k]?
def evalY (tt : Ch) : Operand → V
 | .tmp k=>(lkY tt k).getD .undef
 | .const v=>ofC v
 | .func f=>.fn f [] []
 | .global _=>.undef
theorem evalY_eq {tt : Ch} {t : List V} (h : RelC tt t) : evalY tt = evalO t:=by
 funext x
 cases x <;> simp only [evalY,evalO]
 rw [h,List.getD_eq_getElem?_getD]
def setC : Ch → Nat → Nat → V → Ch
 | [],_,_,_=>[]
 | c :: r,0,j,v=>c.set j v :: r
 | c :: r,i + 1,j,v=>c :: setC r i j v
theorem setC_getD : ∀ (tt : Ch) (i j : Nat) (v : V) (i' : Nat),(setC tt i j v).getD i' [] = if i = i' then (tt.getD i []).set j v else tt.getD i' []
 | [],i,j,v,i'=>by simp [setC]
 | c :: r,0,j,v,i'=>by
  cases i' with
  | zero=>simp [setC]
  | succ i'=>simp [setC]
 | c :: r,i + 1,j,v,i'=>by
  cases i' with
  | zero=>simp [setC]
  | succ i' =>
   have:=setC_getD r i j v i'
   simpa [setC] using this
theorem RelC.set {tt : Ch} {t : List V} (h : RelC tt t) (n : Nat) (v : V) : RelC (setC tt (Nat.div n 16) (Nat.mod n 16) v) (t.set n v):=by
 intro k
 have hk:=h k
 have hn:=h n
 have dn : Nat.div n 16 = n / 16:=rfl
 have mn : Nat.mod n 16 = n % 16:=rfl
 have dk : Nat.div k 16 = k / 16:=rfl
 have mk : Nat.mod k 16 = k % 16:=rfl
 unfold lkY at hk hn ⊢
 rw [dk,mk] at hk ⊢
 rw [dn,mn] at hn ⊢
 rw [setC_getD,List.getElem?_set]
 by_cases e : n / 16 = k / 16
 ·rw [if_pos e,List.getElem?_set]
  by_cases e2 : n % 16 = k % 16
  ·have : n = k:=by omega
   subst this
   simp only [if_true]
   by_cases h3 : n < t.length
   ·have h4 : n % 16 < (tt.getD (n / 16) []).length:=by
     rcases Nat.lt_or_ge (n % 16) (tt.getD (n / 16) []).length with h5 | h5
     ·exact h5
     ·rw [List.getElem?_eq_none h5,List.getElem?_eq_getElem h3] at hn; cases hn
    rw [if_pos h4,if_pos h3]
   ·have h4 : ¬ n % 16 < (tt.getD (n / 16) []).length:=by
     intro h5
     rw [List.getElem?_eq_getElem h5,List.getElem?_eq_none (by omega)] at hn; cases hn
    rw [if_neg h4,if_neg h3]
  ·rw [if_neg e2,e,hk,if_neg (by omega)]
 ·rw [if_neg e,hk,if_neg (by omega)]
def chunks : Nat → List V → Ch
 | 0,_=>[]
 | n + 1,t=>t.take 16 :: chunks n (t.drop 16)
theorem chunks_getD : ∀ (n : Nat) (t : List V) (i : Nat),t.length ≤ 16 * n → (chunks n t).getD i [] = (t.drop (16 * i)).take 16
 | 0,t,i,h=>by
  have : t = []:=List.length_eq_zero_iff.1 (by omega)
  subst this
  simp [chunks]
 | n + 1,t,0,h=>by simp [chunks]
 | n + 1,t,i + 1,h=>by
  have:=chunks_getD n (t.drop 16) i (by simp; omega)
  simp only [chunks,List.getD_cons_succ,this,List.drop_drop]
  rw [show 16 + 16 * i = 16 * (i + 1) by omega]
theorem RelC_chunks {t : List V} {n : Nat} (h : t.length ≤ 16 * n) : RelC (chunks n t) t:=by
 intro k
 have dk : Nat.div k 16 = k / 16:=rfl
 have mk : Nat.mod k 16 = k % 16:=rfl
 unfold lkY
 rw [dk,mk,chunks_getD n t _ h,List.getElem?_take,if_pos (Nat.mod_lt _ (by omega)),List.getElem?_drop]
 rw [show 16 * (k / 16) + k % 16 = k by omega]
section
universe u
variable {α : Type u}
def forceCh : Ch → (Ch → α) → α
 | [],k=>k []
 | c :: r,k=>forceL forceP c fun c=>forceCh r fun r=>k (c :: r)
theorem forceCh_eq : ∀ (t : Ch) (k : Ch → α),forceCh t k = k t
 | [],k=>rfl
 | c :: r,k=>by simp only [forceCh,forceL_eq forceP_eq,forceCh_eq r]
def putC : Ch → Nat → Nat → V → (Ch → α) → α
 | [],_,_,_,k=>k []
 | c :: r,0,j,v,k=>putF c j v fun c=>k (c :: r)
 | c :: r,i + 1,j,v,k=>putC r i j v fun r=>k (c :: r)
theorem putC_eq : ∀ (tt : Ch) (i j : Nat) (v : V) (k : Ch → α),putC tt i j v k = k (setC tt i j v)
 | [],_,_,_,k=>rfl
 | c :: r,0,j,v,k=>by simp only [putC,putF_eq,setC]
 | c :: r,i + 1,j,v,k=>by simp only [putC,putC_eq r,setC]
def putY (tt : Ch) (d : Option Tmp) (v : V) (k : Ch → α) : α :=
 match d with
 | some n=>putC tt (Nat.div n 16) (Nat.mod n 16) v k
 | none=>k tt
def setY (tt : Ch) (d : Option Tmp) (v : V) : Ch :=
 match d with
 | some n=>setC tt (Nat.div n 16) (Nat.mod n 16) v
 | none=>tt
theorem putY_eq (tt : Ch) (d : Option Tmp) (v : V) (k : Ch → α) : putY tt d v k = k (setY tt d v):=by
 cases d <;> simp only [putY,setY,putC_eq]
theorem RelC.put {tt : Ch} {t : List V} (h : RelC tt t) (d : Option Tmp) (v : V) : RelC (setY tt d v) (putT t d v):=by
 cases d with
 | none=>exact h
 | some n=>exact h.set n v
def withAllY (t : Ch) (d : Option Tmp) (v : V) (h : Hp) (c : Nat) (k : V → Ch → Hp → Nat → α) : α :=
 forceSh v fun v=>putY t d v fun t=>forceHd h fun h=>forceN c fun c=>k v t h c
theorem withAllY_eq (t : Ch) (d : Option Tmp) (v : V) (h : Hp) (c : Nat) (k : V → Ch → Hp → Nat → α) : withAllY t d v h c k = k v (setY t d v) h c:=by
 simp only [withAllY,forceSh_eq,putY_eq,forceHd_eq,forceN_eq]
def withCallY (t : Ch) (d : Option Tmp) (v : V) (h : Hp) (c : Nat) (k : V → Ch → Hp → Nat → α) : α :=
 forceV 5 v fun v=>putY t d v fun t=>forceH h fun h=>forceN c fun c=>k v t h c
theorem withCallY_eq (t : Ch) (d : Option Tmp) (v : V) (h : Hp) (c : Nat) (k : V → Ch → Hp → Nat → α) : withCallY t d v h c k = k v (setY t d v) h c:=by
 simp only [withCallY,forceV_eq,putY_eq,forceH_eq,forceN_eq]
def withVY (deep : Bool) (t : Ch) (d : Option Tmp) (v : V) (k : V → Ch → α) : α:=bif deep then forceV 5 v fun v=>putY t d v fun t=>k v t else forceSh v fun v=>putY t d v fun t=>k v t
theorem withVY_eq (deep : Bool) (t : Ch) (d : Option Tmp) (v : V) (k : V → Ch → α) : withVY deep t d v k = k v (setY t d v):=by
 cases deep <;> simp only [withVY,cond_true,cond_false,forceV_eq,forceSh_eq,putY_eq]
end
def puY (v : Option V) (h : Hp) (c : Nat) : Option (V × Hp × Nat):=v.map fun v=>(v,h,c)
def yPick (a : V) (b : V) (h : Hp) (c : Nat) : V → Option (V × Hp × Nat)
 | .p (.bool true)=>some (a,h,c)
 | .p (.bool false)=>some (b,h,c)
 | _=>none
def yAlloc (T : TypeId → Option TI) (e : TypeId) (h : Hp) (c : Nat) (o : Option Tmp) : Option (V × Hp × Nat):=match o,T e with
  | some d,some i=>some (.box d c 0 0,h.set d ⟨c,e,i.size,true,false,[i.zero]⟩,c + 1)
  | _,_=>none
def yBox (e : TypeId) (x : V) (h : Hp) (c : Nat) (o : Option Tmp) : Option (V × Hp × Nat):=match o with
  | some d=>if x.cells.all V.one = true then some (.box d c 0 0,h.set d ⟨c,e,x.cells.length,true,false,[x]⟩,c + 1) else none
  | none=>none
def yBuildSlice (T : TypeId → Option TI) (draw : Bool) (t : TypeId) (len : Nat) (ps : List (Nat × V)) (h : Hp) (c : Nat) (o : Option Tmp) : Option (V × Hp × Nat):=match o with
  | some d=>evBuildSlice T d draw t len ps h c
  | none=>none
def yStore (o : Option Hp) (c : Nat) : Option (V × Hp × Nat):=o.map fun h'=>(.p Go.undef,h',c)
def yNilCheck (h : Hp) (c : Nat) (x : V) : Option (V × Hp × Nat):=match x with
  | .ref v off=>some (.ref v off,h,c)
  | .box b s i off=>if liveB h b s then some (.box b s i off,h,c) else none
  | _=>none
def yMakeSlice (T : TypeId → Option TI) (t : TypeId) (l k : V) (h : Hp) (c : Nat) (o : Option Tmp) : Option (V × Hp × Nat):=match o with
  | some d=>evMake T d t l k h c
  | none=>none
def ySlice (T : TypeId → Option TI) (t : TypeId) (x : V) (lo hi mx : Option V) (h : Hp) (c : Nat) (no : Bool) : Option (V × Hp × Nat):=if no then none else puY (evSlice T h t x lo hi mx) h c
def yExtract (i : Nat) (h : Hp) (c : Nat) (x : V) : Option (V × Hp × Nat):=match x with
  | .tup vs=>puY vs[i]? h c
  | _=>none
def yAppend (T : TypeId → Option TI) (ρ : Operand → V) (h : Hp) (c : Nat) (o : Option Tmp) (a : List Operand) (ts : List TypeId) : Option (V × Hp × Nat):=match o,a,ts with
   | some d,[s,x],[t1,t2]=>if t1 = t2 then evAppend T d t1 (ρ s) (ρ x) h c else none
   | _,_,_=>none
def yLen (T : TypeId → Option TI) (ρ : Operand → V) (h : Hp) (c : Nat) (a : List Operand) (ts : List TypeId) : Option (V × Hp × Nat):=match a,ts with
   | [x],[t1]=>puY (evLen T h t1 (ρ x)) h c
   | _,_=>none
def yCopy (T : TypeId → Option TI) (ρ : Operand → V) (h : Hp) (c : Nat) (a : List Operand) (ts : List TypeId) : Option (V × Hp × Nat):=match a,ts with
   | [d,x],[t1,_]=>evCopy T t1 (ρ d) (ρ x) h c
   | _,_=>none
def yClear (T : TypeId → Option TI) (ρ : Operand → V) (h : Hp) (c : Nat) (a : List Operand) (ts : List TypeId) : Option (V × Hp × Nat):=match a,ts with
   | [x],[t1]=>evClear T t1 (ρ x) h c
   | _,_=>none
def yBuiltin (P : Program) (T : TypeId → Option TI) (ρ : Operand → V) (o : Option Tmp) (ty : TypeId) (args : Array Operand) (argTypes : Array TypeId) (h : Hp) (c : Nat) (b : Builtin) : Option (V × Hp × Nat):=match b with
  | .append=>yAppend T ρ h c o args.toList argTypes.toList
  | .len=>yLen T ρ h c args.toList argTypes.toList
  | .copy=>yCopy T ρ h c args.toList argTypes.toList
  | .clear=>yClear T ρ h c args.toList argTypes.toList
  | .max | .min | .complex | .real | .imag=>puY (evBuiltin P b argTypes ty (args.map fun | .const _=>true | _=>false) (args.toList.map ρ)) h c
  | _=>none
def partsY (ρ : Operand → V) : List (Nat × Operand) → List (Nat × V)
 | []=>[]
 | x :: r=>(x.1,ρ x.2) :: partsY ρ r
theorem partsY_eq (ρ : Operand → V) : ∀ l,partsY ρ l = l.map fun x=>(x.1,ρ x.2)
 | []=>rfl
 | x :: r=>by simp only [partsY,List.map_cons,partsY_eq ρ r]
def evOperY (P : Program) (T : TypeId → Option TI) (draw : Bool) (ρ : Operand → V) (dst : Option Tmp) (ty : TypeId) (h : Hp) (c : Nat) (op : Op) : Option (V × Hp × Nat) :=
 match op with
 | .move x | .assign x=>some (ρ x,h,c)
 | .pick k a b=>yPick (ρ a) (ρ b) h c (ρ k)
 | .alloc e=>yAlloc T e h c dst
 | .box e x=>yBox e (ρ x) h c dst
 | .build t ps=>puY (evBuild T t (partsY ρ ps.toList)) h c
 | .buildSlice t len ps=>yBuildSlice T draw t len (partsY ρ ps.toList) h c dst
 | .load t a=>puY (evLoad T h t (ρ a)) h c
 | .store t a x=>yStore (evStore T h t (ρ a) (ρ x)) c
 | .nilCheck x=>yNilCheck h c (ρ x)
 | .binOp op xt x y _=>puY (evBin P T h op xt x y (ρ x) (ρ y)) h c
 | .unOp op _ x=>puY (evUn P op (ρ x)) h c
 | .convert src d x=>puY (evConvert P T h src d (ρ x)) h c
 | .makeFunc (.func f) first cap=>some (.fn f (first.toList.map ρ) (cap.toList.map ρ),h,c)
 | .makeSlice t l k=>yMakeSlice T t (ρ l) (ρ k) h c dst
 | .slice t x lo hi mx=>ySlice T t (ρ x) (lo.map ρ) (hi.map ρ) (mx.map ρ) h c (mx.isSome && hi.isNone)
 | .fieldAddr s x f=>puY (evFieldAddr T h s (ρ x) f) h c
 | .field s x f=>puY (evField T s (ρ x) f) h c
 | .indexAddr t x ix=>puY (evIndexAddr T h t (ρ x) (ρ ix)) h c
 | .index t x ix=>puY (evIndex T t (ρ x) (ρ ix)) h c
 | .extract x i=>yExtract i h c (ρ x)
 | .call { callee:=.builtin b,args,argTypes }=>yBuiltin P T ρ dst ty args argTypes h c b
 | _=>none
theorem evOperY_eq (P : Program) (T : TypeId → Option TI) (draw : Bool) (t : List V) (o : Oper) (h : Hp) (c : Nat) : evOperY P T draw (evalO t) o.dst o.type h c o.op = evOper P T draw t o h c:=by
 obtain ⟨dst,op,ty,pos,after,guard⟩:=o
 cases op <;> simp only [evOperY,evOper,partsY_eq]
 case makeFunc fn first cap=>cases fn <;> rfl
 case call cl =>
  obtain ⟨callee,args,argTypes⟩:=cl
  cases callee <;> rfl
 all_goals rfl
end Go.Mx
namespace Go.Mx
set_option linter.unusedVariables false
set_option linter.unusedSimpArgs false
structure YS where
 t : Ch
 h : Hp
 c : Nat
def Rel (s : YS) (st : St) : Prop:=RelC s.t st.t ∧ st.h = s.h ∧ st.c = s.c
def guardV : Option V → Bool → Option Bool
 | some (.p (.bool b)),want=>some (b == want)
 | some (.p _),_=>some false
 | _,_=>none
def evGuardY (t : Ch) (ops : Array Oper) (g : Option (Nat × Bool)) : Option Bool :=
 match g with
 | none=>some true
 | some (j,want)=>match (ops[j]?).bind (·.dst) with
  | none=>some false
  | some d=>guardV (lkY t d) want
theorem evGuardY_eq {t : Ch} {l : List V} (h : RelC t l) (ops : Array Oper) (o : Oper) : evGuardY t ops o.guard = evGuard l ops o:=by
 unfold evGuardY evGuard
 cases o.guard with
 | none=>rfl
 | some x =>
  obtain ⟨j,want⟩:=x
  simp only []
  cases (ops[j]?).bind (·.dst) with
  | none=>rfl
  | some d =>
   have hd : lkY t d = l[d]?:=h d
   show guardV (lkY t d) want = _
   rw [hd]
   show _ = match l[d]? with
    | some (.p (.bool b))=>some (b == want)
    | some (.p _)=>some false
    | _=>none
   cases l[d]? with
   | none=>rfl
   | some v =>
    cases v <;> try rfl
    rename_i x
    cases x <;> rfl
def evTargetY (ρ : Operand → V) (f : Operand) (args : Array Operand) : Option (FuncId × List V) :=
 match ρ f with
 | .fn g first cap=>some (g,first ++ args.toList.map ρ ++ cap)
 | _=>none
theorem evTargetY_eq (l : List V) (f : Operand) (args : Array Operand) (at_ : Array TypeId) : evTargetY (evalO l) f args = evTarget l { callee:=.value f,args:=args,argTypes:=at_ }:=rfl
def rdOfY (ρ : Operand → V) (o : Op) : List Nat:=if consults o then o.operands.toList.flatMap fun x=>topIds (ρ x) else []
def wrOpY (ρ : Operand → V) (dst : Option Tmp) (h h' : Hp) : Op → List Nat
 | .store _ a _=>topIds (ρ a) ++ goneOf h h'
 | .call cl=>dst.toList ++ cl.args.toList.flatMap fun x=>topIds (ρ x)
 | _=>dst.toList
theorem wrOpY_eq (l : List V) (o : Oper) (h h' : Hp) : wrOpY (evalO l) o.dst h h' o.op = wrOp l o h h':=by
 obtain ⟨dst,op,ty,pos,after,guard⟩:=o
 cases op <;> rfl
abbrev YStp:=Bool × List Nat × List Nat
def Stp.y (s : Stp) : YStp:=(s.eff,s.wr,s.rd)
def effListY : List YStp → Nat → List (Nat × List Nat)
 | [],_=>[]
 | s :: r,j=>bif s.1 then (j,s.2.1) :: effListY r (Nat.succ j) else effListY r (Nat.succ j)
def rdListY : List YStp → Nat → List (Nat × List Nat)
 | [],_=>[]
 | s :: r,j=>match s.2.2 with
  | []=>rdListY r (Nat.succ j)
  | x :: y=>(j,x :: y) :: rdListY r (Nat.succ j)
theorem effListY_eq : ∀ (tr : List Stp) (k : Nat),effListY (tr.map Stp.y) k = effList tr k
 | [],_=>rfl
 | s :: r,k=>by simp only [List.map_cons,effListY,effList,Stp.y,effListY_eq r]
theorem rdListY_eq : ∀ (tr : List Stp) (k : Nat),rdListY (tr.map Stp.y) k = rdList tr k
 | [],_=>rfl
 | s :: r,k=>by
  simp only [List.map_cons,rdListY,rdList,Stp.y,rdListY_eq r]
  cases s.rd <;> rfl
def effsOkY (M : List (Nat × Nat)) (tr : List YStp) : Bool:=match effListY tr 0 with
 | []=>true
 | E=>effPairs M E && wrPairs M (rdListY tr 0) E
theorem effsOkY_eq (M : List (Nat × Nat)) (tr : List Stp) (h : effsOkY M (tr.map Stp.y) = true) : effsOk M tr = true:=by
 unfold effsOkY at h
 rw [effListY_eq,rdListY_eq] at h
 unfold effsOk
 split at h
 ·rename_i he
  rw [he]; rfl
 ·exact h
def yOps (P : Program) (T : TypeId → Option TI) (call : CallF) (ops : Array Oper) : List Oper → YS → Option YS
 | [],st=>some st
 | o :: r,st=>match evGuardY st.t ops o.guard with
  | some true=>match o.op with
   | .call { callee:=.value f,args,argTypes }=>match evTargetY (evalY st.t) f args with
    | some (g,vs)=>withL vs fun vs=>match call g vs st.h st.c (o.dst.getD 0) with
     | some (v,h',c',_)=>withCallY st.t o.dst v h' c' fun _ t' h' c'=>yOps P T call ops r ⟨t',h',c'⟩
     | none=>none
    | none=>none
   | op=>match evOperY P T false (evalY st.t) o.dst o.type st.h st.c op with
    | some (v,h',c')=>bif changesH op then withAllY st.t o.dst v h' c' fun _ t' h' c'=>yOps P T call ops r ⟨t',h',c'⟩ else withVY (deepOp op) st.t o.dst v fun _ t'=>yOps P T call ops r ⟨t',h',c'⟩
    | none=>none
  | some false=>withVY false st.t o.dst (.p Go.undef) fun _ t'=>yOps P T call ops r ⟨t',st.h,st.c⟩
  | none=>none
def yStp (P : Program) (T : TypeId → Option TI) (callP : CallP) (call : CallF) (ops : Array Oper) : List Oper → YS → Option (List YStp × YS)
 | [],st=>some ([],st)
 | o :: r,st=>match evGuardY st.t ops o.guard with
  | some true =>
   bif localOp o.op then match evOperY P T true (evalY st.t) o.dst o.type st.h st.c o.op with
    | some (v,_,_)=>withVY (deepOp o.op) st.t o.dst v fun v t'=>match yStp P T callP call ops r ⟨t',st.h,st.c⟩ with
     | some (tr,fin)=>some ((false,[],rdOfY (evalY st.t) o.op) :: tr,fin)
     | none=>none
    | none=>none
   else match o.op with
   | .call { callee:=.value f,args,argTypes }=>match evTargetY (evalY st.t) f args with
    | some (g,vs)=>withL vs fun vs=>match callP g vs with
     | some v=>withVY true st.t o.dst v fun v t'=>match yStp P T callP call ops r ⟨t',st.h,st.c⟩ with
      | some (tr,fin)=>some ((false,[],[]) :: tr,fin)
      | none=>none
     | none=>match call g vs st.h st.c (o.dst.getD 0) with
     | some (v,h',c',wr)=>withCallY st.t o.dst v h' c' fun v t' h' c'=>match yStp P T callP call ops r ⟨t',h',c'⟩ with
      | some (tr,fin)=>some ((true,wr,[]) :: tr,fin)
      | none=>none
     | none=>none
    | none=>none
   | op=>bif writesOp op then match evOperY P T true (evalY st.t) o.dst o.type st.h st.c op with
     | some (v,h',c')=>withAllY st.t o.dst v h' c' fun v t' h' c'=>match yStp P T callP call ops r ⟨t',h',c'⟩ with
      | some (tr,fin)=>some ((true,wrOpY (evalY st.t) o.dst st.h h' op,[]) :: tr,fin)
      | none=>none
     | none=>none
    else none
  | some false=>withVY false st.t o.dst (.p Go.undef) fun _ t'=>match yStp P T callP call ops r ⟨t',st.h,st.c⟩ with
   | some (tr,fin)=>some ((false,[],[]) :: tr,fin)
   | none=>none
  | none=>none
def yDraw (P : Program) (T : TypeId → Option TI) (callP : CallP) (call : CallF) (ops : Array Oper) (st : YS) : Option YS :=
 match yStp P T callP call ops ops.toList st with
 | some (tr,fin)=>bif namesOk ops && effsOkY (closM ops.toList 0 []) tr then some fin else none
 | none=>none
def yLoop (body : YS → Option (Exit × YS)) : Nat → YS → Option (Exit × YS)
 | 0,_=>none
 | n + 1,st=>match body st with
  | some (.normal,st')=>yLoop body n st'
  | r=>r
def condY (v : V) (a b : YS → Option (Exit × YS)) (st : YS) : Option (Exit × YS) :=
 match v with
 | .p (.bool true)=>a st
 | .p (.bool false)=>b st
 | _=>none
def blockY (id : Nat) : Option (Exit × YS) → Option (Exit × YS)
 | some (.exit id',st')=>bif Nat.beq id' id then some (.normal,st') else some (.exit id',st')
 | r=>r
def normY : Option YS → Option (Exit × YS)
 | some st'=>some (.normal,st')
 | none=>none
def thenY (b : YS → Option (Exit × YS)) : Option (Exit × YS) → Option (Exit × YS)
 | some (.normal,st')=>b st'
 | r=>r
def yCode (P : Program) (T : TypeId → Option TI) (callP : CallP) (call : CallF) (fuel : Nat) : Code → YS → Option (Exit × YS)
 | .skip,st=>some (.normal,st)
 | .label _,st=>some (.normal,st)
 | .seq a b,st=>thenY (yCode P T callP call fuel b) (yCode P T callP call fuel a st)
 | .cond k a b,st=>condY (evalY st.t k) (yCode P T callP call fuel a) (yCode P T callP call fuel b) st
 | .block id a,st=>blockY id (yCode P T callP call fuel a st)
 | .loop a,st=>yLoop (yCode P T callP call fuel a) fuel st
 | .exit id,st=>some (.exit id,st)
 | .ret,st=>some (.ret,st)
 | .region _ ops draw,st=>normY (bif draw then yDraw P T callP call ops st else yOps P T call ops ops.toList st)
 | _,_=>none
section
variable {P : Program} {T : TypeId → Option TI} {bad : Nat → Prop}
theorem Rel.put {s : YS} {st : St} (h : Rel s st) (d : Option Tmp) (v : V) (h' : Hp) (c' : Nat) : Rel ⟨setY s.t d v,h',c'⟩ ⟨putT st.t d v,h',c'⟩:=⟨h.1.put d v,rfl,rfl⟩
theorem yOps_sound (hT : TabOk P T) {call : CallF} (hcall : CallOk P call) {ops : Array Oper} : ∀ (r : List Oper) (i : Nat) (s : YS) (st : St) (s' : YS),Rel s st → ops.toList.drop i = r → yOps P T call ops r s = some s' →
  WOps P bad ops (List.range' i r.length) st (fun st'=>Rel s' st'):=by
 intro r
 induction r with
 | nil =>
  intro i s st s' hR _ he
  simp only [yOps,Option.some.injEq] at he
  subst he
  exact WOps_nil hR
 | cons o r ih =>
  intro i s st s' hR hd he
  obtain ⟨t,h,c⟩:=st
  obtain ⟨hR1,h2,h3⟩:=hR
  simp only at hR1 h2 h3
  subst h2 h3
  have ho : ops[i]? = some o:=by
   have : ops.toList[i]? = some o:=by
    have:=congrArg (fun l=>l[0]?) hd
    simpa using this
   simpa using this
  have hd' : ops.toList.drop (i + 1) = r:=by
   have:=congrArg (List.drop 1) hd
   simpa [List.drop_drop] using this
  rw [List.length_cons,List.range'_succ]
  simp only [yOps,withVY_eq,withAllY_eq,withCallY_eq,withL_eq,Bool.cond_self,evalY_eq hR1,evGuardY_eq hR1] at he
  have nx : ∀ d v h' c',Rel ⟨setY s.t d v,h',c'⟩ ⟨putT t d v,h',c'⟩:=fun d v h' c'=>⟨hR1.put d v,rfl,rfl⟩
  split at he
  ·rename_i hg
   split at he
   ·rename_i f args argTypes hop
    split at he
    ·rename_i g vs htg
     split at he
     ·rename_i v h' c' wr hc
      obtain ⟨h1,_,h2⟩:=hcall _ _ _ _ _ _ _ _ _ hc
      exact WOps_call ho hg hop (evTargetY_eq t f args argTypes ▸ htg) h1 (h2 bad) (ih (i + 1) _ _ _ (nx _ _ _ _) hd' he)
     ·cases he
    ·cases he
   ·split at he
    ·rename_i v h' c' hev
     rw [evOperY_eq] at hev
     exact WOps_op hT ho hg hev (ih (i + 1) _ _ _ (nx _ _ _ _) hd' he)
    ·cases he
  ·rename_i hg
   exact WOps_skip ho hg (ih (i + 1) _ _ _ (nx _ _ _ _) hd' he)
  ·cases he
theorem yStp_spec {callP : CallP} {call : CallF} (hcallP : CallPOk P callP) (hcall : CallOk P call) {ops : Array Oper} : ∀ (r : List Oper) (s : YS) (st : St) (ytr : List YStp) (yfin : YS),Rel s st → yStp P T callP call ops r s = some (ytr,yfin) →
  ∃ tr fin,tr.map Stp.y = ytr ∧ Rel yfin fin ∧ tr.map (·.o) = r ∧ (∀ s ∈ tr,s.Good P T bad ops) ∧ Chain fin tr st.t st.h st.c:=by
 intro r
 induction r with
 | nil =>
  intro s st ytr yfin hR he
  simp only [yStp,Option.some.injEq,Prod.mk.injEq] at he
  obtain ⟨rfl,rfl⟩:=he
  exact ⟨[],st,rfl,hR,rfl,fun s hs=>by simp at hs,rfl,rfl,rfl⟩
 | cons o r ih =>
  intro s st ytr yfin hR he
  obtain ⟨t,h,c⟩:=st
  obtain ⟨hR1,h2,h3⟩:=hR
  simp only at hR1 h2 h3
  subst h2 h3
  have nx : ∀ d v h' c',Rel ⟨setY s.t d v,h',c'⟩ ⟨putT t d v,h',c'⟩:=fun d v h' c'=>⟨hR1.put d v,rfl,rfl⟩
  have step : ∀ (q : Stp) (ytr' : List YStp) (s' : YS),q.o = o → q.t = t → q.h = s.h → q.c = s.c → q.Good P T bad ops → s' = ⟨setY s.t o.dst q.v,q.h',q.c'⟩ → yStp P T callP call ops r s' = some (ytr',yfin) → ytr = q.y :: ytr' →
    ∃ tr fin,tr.map Stp.y = ytr ∧ Rel yfin fin ∧ tr.map (·.o) = o :: r ∧ (∀ s ∈ tr,s.Good P T bad ops) ∧ Chain fin tr t s.h s.c:=by
   rintro q ytr' s' h1 h2 h3 h4 h5 rfl h6 rfl
   obtain ⟨tr,fin,i0,iR,i1,i2,i3⟩:=ih _ _ _ _ (nx o.dst q.v q.h' q.c') h6
   refine ⟨q :: tr,fin,by simp [i0],iR,by simp [h1,i1],fun s' hs'=>?_,h2,h3,h4,by rw [h1]; exact i3⟩
   rcases List.mem_cons.1 hs' with rfl | hs'
   ·exact h5
   ·exact i2 s' hs'
  simp only [yStp,withVY_eq,withAllY_eq,withCallY_eq,withL_eq,evalY_eq hR1,evGuardY_eq hR1] at he
  split at he
  ·rename_i hg
   cases hloc : localOp o.op with
   | true =>
    rw [hloc] at he
    simp only [cond_true] at he
    split at he
    ·rename_i v h' c' hev
     split at he
     ·rename_i tr' fin' hr
      simp only [Option.some.injEq,Prod.mk.injEq] at he
      obtain ⟨rfl,rfl⟩:=he
      rw [evOperY_eq] at hev
      obtain ⟨e1,e2,_⟩:=evOper_local (h2:=s.h) (c2:=s.c) hloc hev (fun _ _=>rfl) (fun _ _=>rfl)
      subst e1 e2
      exact step ⟨o,t,s.h,s.c,true,false,v,s.h,s.c,[],rdOf t o.op⟩ _ _ rfl rfl rfl rfl ⟨hg,fun _=>⟨rfl,rfl⟩,fun h=>by simp at h,fun h=>by simp at h,fun _=>.inl ⟨rfl,hloc,hev,rfl⟩⟩ rfl hr rfl
     ·cases he
    ·cases he
   | false =>
    rw [hloc] at he
    simp only [cond_false] at he
    split at he
    ·rename_i f args argTypes hop
     split at he
     ·rename_i g vs htg
      have htg' : evTarget t { callee:=.value f,args:=args,argTypes:=argTypes } = some (g,vs):=htg
      split at he
      ·rename_i v hc
       obtain ⟨k1,k2⟩:=hcallP _ _ _ hc
       split at he
       ·rename_i tr' fin' hr
        simp only [Option.some.injEq,Prod.mk.injEq] at he
        obtain ⟨rfl,rfl⟩:=he
        exact step ⟨o,t,s.h,s.c,true,false,v,s.h,s.c,[],[]⟩ _ _ rfl rfl rfl rfl ⟨hg,fun _=>⟨rfl,rfl⟩,fun h=>by simp at h,fun h=>by simp at h,fun _=>.inr (.inl ⟨rfl,_,g,vs,hop,htg',k1,k2 bad⟩)⟩ rfl hr rfl
       ·cases he
      split at he
      ·rename_i v h' c' wr hc
       obtain ⟨k1,k2,k3⟩:=hcall _ _ _ _ _ _ _ _ _ hc
       split at he
       ·rename_i tr' fin' hr
        simp only [Option.some.injEq,Prod.mk.injEq] at he
        obtain ⟨rfl,rfl⟩:=he
        exact step ⟨o,t,s.h,s.c,true,true,v,h',c',wr,[]⟩ _ _ rfl rfl rfl rfl ⟨hg,fun h=>by simp at h,fun h=>by simp at h,fun _=>k2,fun _=>.inr (.inr ⟨rfl,.inr ⟨_,g,vs,hop,htg',k1,k3 bad⟩⟩)⟩ rfl hr rfl
       ·cases he
      ·cases he
     ·cases he
    ·cases hwo : writesOp o.op with
     | false=>rw [hwo] at he; cases he
     | true =>
      rw [hwo] at he
      simp only [cond_true] at he
      split at he
      ·rename_i v h' c' hev
       rw [evOperY_eq] at hev
       split at he
       ·rename_i tr' fin' hr
        simp only [Option.some.injEq,Prod.mk.injEq] at he
        obtain ⟨rfl,rfl⟩:=he
        exact step ⟨o,t,s.h,s.c,true,true,v,h',c',wrOp t o s.h h',[]⟩ _ _ rfl rfl rfl rfl ⟨hg,fun h=>by simp at h,fun h=>by simp at h,fun _=>wrOp_spec hwo hev,fun _=>.inr (.inr ⟨rfl,.inl ⟨hwo,hev⟩⟩)⟩ rfl hr (by rw [wrOpY_eq]; rfl)
       ·cases he
      ·cases he
  ·rename_i hg
   split at he
   ·rename_i tr' fin' hr
    simp only [Option.some.injEq,Prod.mk.injEq] at he
    obtain ⟨rfl,rfl⟩:=he
    exact step ⟨o,t,s.h,s.c,false,false,.p Go.undef,s.h,s.c,[],[]⟩ _ _ rfl rfl rfl rfl ⟨hg,fun _=>⟨rfl,rfl⟩,fun _=>⟨rfl,rfl⟩,fun h=>by simp at h,fun h=>by simp at h⟩ rfl hr rfl
   ·cases he
  ·cases he
theorem yDraw_sound (hT : TabOk P T) {callP : CallP} {call : CallF} (hcallP : CallPOk P callP) (hcall : CallOk P call) (hm : P.follows .mixedOrders = true) {id : Nat} {ops : Array Oper} {s s1 : YS} {st : St} (hR : Rel s st) (he : yDraw P T callP call ops s = some s1) :
  WC P bad (.region id ops true) st (fun e' st'=>e' = .normal ∧ Rel s1 st'):=by
 unfold yDraw at he
 split at he
 ·rename_i ytr yfin hs
  cases hcond : (namesOk ops && effsOkY (closM ops.toList 0 []) ytr) with
  | false=>rw [hcond] at he; cases he
  | true =>
   rw [hcond] at he
   simp only [cond_true,Option.some.injEq] at he
   subst he
   rw [Bool.and_eq_true] at hcond
   obtain ⟨tr,fin,h0,hRf,h1,h2,h3⟩:=yStp_spec (bad:=bad) hcallP hcall _ _ _ _ _ hR hs
   have hed : edgesOk ops = true:=by
    have:=hcond.1
    simp only [namesOk,Bool.and_eq_true] at this
    exact this.1
   exact WC_draw hT hm h1 h2 h3 hed (pairsOk_of h1 hcond.1 (effsOkY_eq _ _ (by rw [h0]; exact hcond.2))) ⟨rfl,hRf⟩
 ·cases he
theorem yLoop_sound {x : Code} {body : YS → Option (Exit × YS)} (hb : ∀ s st e s',Rel s st → body s = some (e,s') → WC P bad x st (fun e' st'=>e' = e ∧ Rel s' st')) : ∀ (n : Nat) (s : YS) (st : St) (e : Exit) (s' : YS),Rel s st → yLoop body n s = some (e,s') →
  WLoop P bad x n st (fun e' st'=>e' = e ∧ Rel s' st'):=by
 intro n
 induction n with
 | zero=>intro s st e s' _ h; simp [yLoop] at h
 | succ n ih =>
  intro s st e s' hR h
  simp only [yLoop] at h
  split at h
  ·rename_i st1 h1
   refine WC_mono (hb _ _ _ _ hR h1) ?_
   rintro e' q ⟨rfl,hq⟩
   exact ih _ _ _ _ hq h
  ·rename_i hne
   refine WC_mono (hb _ _ _ _ hR h) ?_
   rintro e' q ⟨rfl,hq⟩
   cases e' <;> first | exact ⟨rfl,hq⟩ | exact absurd h (hne _)
theorem yCode_sound (hT : TabOk P T) {callP : CallP} {call : CallF} (hcallP : CallPOk P callP) (hcall : CallOk P call) (hm : P.follows .mixedOrders = true) (fuel : Nat) : ∀ (code : Code) (s : YS) (st : St) (e : Exit) (s' : YS),Rel s st → yCode P T callP call fuel code s = some (e,s') →
  WC P bad code st (fun e' st'=>e' = e ∧ Rel s' st'):=by
 intro code
 induction code with
 | skip=>intro s st e s' hR h; simp only [yCode,Option.some.injEq,Prod.mk.injEq] at h; exact WC_skip ⟨h.1,h.2 ▸ hR⟩
 | label l=>intro s st e s' hR h; simp only [yCode,Option.some.injEq,Prod.mk.injEq] at h; exact WC_label ⟨h.1,h.2 ▸ hR⟩
 | exit id=>intro s st e s' hR h; simp only [yCode,Option.some.injEq,Prod.mk.injEq] at h; exact WC_exit ⟨h.1,h.2 ▸ hR⟩
 | ret=>intro s st e s' hR h; simp only [yCode,Option.some.injEq,Prod.mk.injEq] at h; exact WC_ret ⟨h.1,h.2 ▸ hR⟩
 | seq a b iha ihb =>
  intro s st e s' hR h
  simp only [yCode] at h
  unfold thenY at h
  split at h
  ·rename_i st1 h1
   refine WC_seq (WC_mono (iha _ _ _ _ hR h1) ?_)
   rintro e' q ⟨rfl,hq⟩
   exact ihb _ _ _ _ hq h
  ·rename_i hne
   refine WC_seq (WC_mono (iha _ _ _ _ hR h) ?_)
   rintro e' q ⟨rfl,hq⟩
   cases e' <;> first | exact ⟨rfl,hq⟩ | exact absurd h (hne _)
 | cond k a b iha ihb =>
  intro s st e s' hR h
  simp only [yCode,evalY_eq hR.1] at h
  unfold condY at h
  split at h
  ·rename_i hk; exact WC_cond hk (iha _ _ _ _ hR h)
  ·rename_i hk; exact WC_cond hk (ihb _ _ _ _ hR h)
  ·cases h
 | block id a ih =>
  intro s st e s' hR h
  simp only [yCode] at h
  unfold blockY at h
  split at h
  ·rename_i id' st1 h1
   refine WC_block (WC_mono (ih _ _ _ _ hR h1) ?_)
   rintro e' q ⟨rfl,hq⟩
   simp only [blockQ]
   cases hid : Nat.beq id' id with
   | true =>
    rw [hid] at h
    simp only [cond_true,Option.some.injEq,Prod.mk.injEq] at h
    rw [if_pos (Nat.eq_of_beq_eq_true hid)]; exact ⟨h.1,h.2 ▸ hq⟩
   | false =>
    rw [hid] at h
    simp only [cond_false,Option.some.injEq,Prod.mk.injEq] at h
    rw [if_neg (Nat.ne_of_beq_eq_false hid)]; exact ⟨h.1,h.2 ▸ hq⟩
  ·rename_i hne
   refine WC_block (WC_mono (ih _ _ _ _ hR h) ?_)
   rintro e' q ⟨rfl,hq⟩
   cases e' <;> first | exact ⟨rfl,hq⟩ | exact absurd h (hne _ _)
 | loop a ih =>
  intro s st e s' hR h
  simp only [yCode] at h
  exact WC_loop fuel (yLoop_sound ih fuel _ _ _ _ hR h)
 | region id ops draw =>
  intro s st e s' hR h
  simp only [yCode] at h
  unfold normY at h
  split at h
  ·rename_i st1 h1
   simp only [Option.some.injEq,Prod.mk.injEq] at h
   obtain ⟨rfl,rfl⟩:=h
   cases draw with
   | false =>
    simp only [cond_false] at h1
    have:=yOps_sound (bad:=bad) hT hcall ops.toList 0 s st st1 hR (by simp) h1
    refine WC_region ?_
    rw [List.range_eq_range']
    simp only [Array.length_toList] at this
    exact WOps_mono this fun s hs=>⟨rfl,hs⟩
   | true =>
    simp only [cond_true] at h1
    exact yDraw_sound hT hcallP hcall hm hR h1
  ·cases h
 | rangeFunc f ps a b=>intro s st e s' hR h; simp [yCode] at h
 | scope a=>intro s st e s' hR h; simp [yCode] at h
 | goto l=>intro s st e s' hR h; simp [yCode] at h
 | refuse w=>intro s st e s' hR h; simp [yCode] at h
end
def evResultY (T : TypeId → Option TI) (s : YS) : ResultVar → Option V
 | .tmp k=>some ((lkY s.t k).getD .undef)
 | .cell a t=>evLoad T s.h t ((lkY s.t a).getD .undef)
def evResultsY (T : TypeId → Option TI) (s : YS) (rs : List ResultVar) : Option V :=
 match rs with
 | [r]=>evResultY T s r
 | rs=>(rs.mapM (evResultY T s)).map .tup
theorem evResultsY_eq (T : TypeId → Option TI) {s : YS} {st : St} (hR : Rel s st) (rs : List ResultVar) : evResultsY T s rs = evResults T st rs:=by
 have h : evResultY T s = evResult T st:=by
  funext r
  obtain ⟨h1,h2,h3⟩:=hR
  have h1' : ∀ k,lkY s.t k = st.t[k]?:=h1
  cases r <;> simp only [evResultY,evResult,h1',List.getD_eq_getElem?_getD,h2]
 unfold evResultsY evResults
 rw [h]
 match rs with
 | []=>rfl
 | [r]=>rfl
 | _ :: _ :: _=>rfl
def endY (T : TypeId → Option TI) (fn : Func) : Option (Exit × YS) → Option (V × Hp × Nat)
 | some (.normal,st) | some (.ret,st)=>match evResultsY T st fn.results.toList with
  | some r=>some (r,st.h,st.c)
  | none=>none
 | _=>none
section
variable {P : Program} {T : TypeId → Option TI} {F : FuncId → Option Func} {mode : FuncId → Nat}
end
end Go.Mx
section
open Go.RowKit
namespace Go.Mx
set_option linter.unusedVariables false
set_option linter.unusedSimpArgs false
def tabRowM (P : Program) (t : TypeId) : Option TI :=
 match P.info? t,P.underlying t with
 | some info,some d=>match info.zero with
  | some z=>if z.cells.size = info.size ∧ t < P.types.size then some ⟨info.size,info.bytes,d,ofC z⟩ else none
  | none=>none
 | _,_=>none
def fieldsOkM (P : Program) (t : TypeId) : Bool :=
 match tabRowM P t with
 | some ⟨_,_,.struct fs,_⟩=>fs.toList.all fun f=>(tabRowM P f.type).isSome
 | _=>true
def tabAll (P : Program) : Bool:=(List.range P.types.size).all (fieldsOkM P)
theorem tabRowM_ok {P : Program} (hall : tabAll P = true) : TabOk P (tabRowM P):=by
 intro t i ht
 have ht0:=ht
 unfold tabRowM at ht
 split at ht
 ·rename_i info d hi hu
  split at ht
  ·rename_i z hz
   split at ht
   ·rename_i hsz
    simp only [Option.some.injEq] at ht
    subst ht
    refine ⟨info,z,hi,rfl,rfl,hu,hz,rfl,hsz.1,fun fs hfs f hf=>?_⟩
    have hlt : t < P.types.size:=hsz.2
    have:=List.all_eq_true.1 hall t (List.mem_range.2 hlt)
    unfold fieldsOkM at this
    rw [ht0] at this
    simp only at hfs
    subst hfs
    exact List.all_eq_true.1 this f hf
   ·cases ht
  ·cases ht
 ·cases ht
def funOf (P : Program) (g : FuncId) : Option Func :=
 match P.funcs[g]? with
 | some fn=>if fn.name == "runtime.NumGoroutine" then none else some fn
 | none=>none
theorem funOf_ok (P : Program) : FOk P (funOf P):=by
 intro g fn h
 unfold funOf at h
 split at h
 ·rename_i f hf
  split at h
  ·cases h
  ·rename_i hn
   simp only [Option.some.injEq] at h
   subst h
   exact ⟨hf,by simpa using hn⟩
 ·cases h
end Go.Mx
end
section
open Go.RowKit
namespace Go.Mx
set_option linter.unusedVariables false
set_option linter.unusedSimpArgs false
def eqInt : Int → Int → Bool
 | .ofNat a,.ofNat b=>Nat.beq a b
 | .negSucc a,.negSucc b=>Nat.beq a b
 | _,_=>false
theorem eqInt_ok : ∀ {a b : Int},eqInt a b = true → a = b
 | .ofNat a,.ofNat b,h=>by rw [Nat.eq_of_beq_eq_true (show Nat.beq a b = true from h)]
 | .negSucc a,.negSucc b,h=>by rw [Nat.eq_of_beq_eq_true (show Nat.beq a b = true from h)]
 | .ofNat _,.negSucc _,h=>by cases h
 | .negSucc _,.ofNat _,h=>by cases h
def eqVal : Value → Value → Bool
 | .int k a,.int k' b=>decide (k = k') && eqInt a b
 | .bool a,.bool b=>a == b
 | .string a,.string b=>bytesEq a b
 | .complex k a b,.complex k' c d=>decide (k = k') && Nat.beq a c && Nat.beq b d
 | .nilFunc,.nilFunc=>true
 | .pointer none,.pointer none=>true
 | .nilIface,.nilIface=>true
 | .slice none 0 0,.slice none 0 0=>true
 | _,_=>false
theorem eqVal_ok {a b : Value} (h : eqVal a b = true) : a = b:=by
 unfold eqVal at h
 split at h
 ·simp only [Bool.and_eq_true,decide_eq_true_eq] at h
  rw [h.1,eqInt_ok h.2]
 ·simp only [beq_iff_eq] at h; rw [h]
 ·rename_i a b
  rw [bytesEq,u8Eqs_eq] at h
  have : a = b:=ByteArray.ext (Array.ext' (by simpa using h))
  rw [this]
 ·simp only [Bool.and_eq_true,decide_eq_true_eq] at h
  rw [h.1.1,Nat.eq_of_beq_eq_true h.1.2,Nat.eq_of_beq_eq_true h.2]
 all_goals first | rfl | cases h
def eqVs (f : V → V → Bool) : List V → List V → Bool
 | [],[]=>true
 | a :: r,b :: q=>f a b && eqVs f r q
 | _,_=>false
theorem eqVs_ok {f : V → V → Bool} (hf : ∀ a b,f a b = true → a = b) : ∀ {l m : List V},eqVs f l m = true → l = m
 | [],[],_=>rfl
 | a :: r,b :: q,h=>by
  simp only [eqVs,Bool.and_eq_true] at h
  rw [hf a b h.1,eqVs_ok hf h.2]
 | [],_ :: _,h=>by cases h
 | _ :: _,[],h=>by cases h
def eqV : Nat → V → V → Bool
 | 0,_,_=>false
 | n + 1,a,b=>match a,b with
  | .p x,.p y=>eqVal x y
  | .agg l,.agg m=>eqVs (eqV n) l m
  | .tup l,.tup m=>eqVs (eqV n) l m
  | .ps c l,.ps d m=>decide (c = d) && eqVs (eqV n) l m
  | .undef,.undef=>true
  | _,_=>false
theorem eqV_ok : ∀ (n : Nat) (a b : V),eqV n a b = true → a = b
 | 0,_,_,h=>by cases h
 | n + 1,a,b,h=>by
  cases a <;> cases b <;> simp only [eqV] at h <;> try (cases h; done)
  ·rw [eqVal_ok h]
  ·rw [eqVs_ok (eqV_ok n) h]
  ·rw [eqVs_ok (eqV_ok n) h]
  ·simp only [Bool.and_eq_true,decide_eq_true_eq] at h
   rw [h.1,eqVs_ok (eqV_ok n) h.2]
  ·rfl
abbrev Memo:=List (FuncId × List V × V)
def lookMemo : Memo → FuncId → List V → Option V
 | [],_,_=>none
 | (f,us,r) :: m,g,vs=>bif Nat.beq f g && eqVs (eqV 30) us vs then some r else lookMemo m g vs
def MemoOk (P : Program) (m : Memo) : Prop:=∀ x ∈ m,Enters P x.1 ∧ x.2.1.all (pur 6) = true ∧ PT P x.1 x.2.1 x.2.2
theorem lookMemo_ok {P : Program} : ∀ {m : Memo},MemoOk P m → ∀ {g vs r},lookMemo m g vs = some r → Enters P g ∧ vs.all (pur 6) = true ∧ PT P g vs r
 | [],_,_,_,_,h=>by cases h
 | (f,us,r0) :: m,hm,g,vs,r,h=>by
  simp only [lookMemo] at h
  cases hc : (Nat.beq f g && eqVs (eqV 30) us vs) with
  | false=>rw [hc] at h; exact lookMemo_ok (fun x hx=>hm x (List.mem_cons_of_mem _ hx)) h
  | true =>
   rw [hc] at h
   simp only [cond_true,Option.some.injEq] at h
   subst h
   simp only [Bool.and_eq_true] at hc
   obtain rfl:=Nat.eq_of_beq_eq_true hc.1
   obtain rfl:=eqVs_ok (eqV_ok 30) hc.2
   exact hm _ (List.mem_cons_self ..)
def zFn (P : Program) (T : TypeId → Option TI) (F : FuncId → Option Func) (mode : FuncId → Nat) (memo : Memo) (fuel : Nat) : Nat → FuncId → List V → Hp → Nat → Option (V × Hp × Nat)
 | 0,_,_,_,_=>none
 | n + 1,g,vs,h,c=>match lookMemo memo g vs with
  | some r=>some (r,h,c)
  | none=>match F g with
   | some fn=>match fn.body with
    | some code=>forceCh (chunks (Nat.succ (Nat.div (start fn vs h c).t.length 16)) (start fn vs h c).t) fun t0=>endY T fn (yCode P T (xPureCall (zFn P T F mode memo fuel n) mode) (xCall (zFn P T F mode memo fuel n) mode) fuel code ⟨t0,h,c⟩)
    | none=>none
   | none=>none
section
variable {P : Program} {T : TypeId → Option TI} {F : FuncId → Option Func} {mode : FuncId → Nat}
theorem zFn_sound (hT : TabOk P T) {memo : Memo} (hmemo : MemoOk P memo) (hF : FOk P F) (hm : P.follows .mixedOrders = true) (fuel : Nat) : ∀ n,RecOk P (zFn P T F mode memo fuel n):=by
 intro n
 induction n with
 | zero=>intro g vs h c r h' c' he; simp [zFn] at he
 | succ n ih =>
  intro g vs h c r h' c' he
  simp only [zFn,forceCh_eq] at he
  split at he
  ·rename_i r0 hmm
   simp only [Option.some.injEq,Prod.mk.injEq] at he
   obtain ⟨rfl,rfl,rfl⟩:=he
   obtain ⟨k1,k2,k3⟩:=lookMemo_ok hmemo hmm
   exact ⟨k1,fun bad=>CallsA_of_PT k2 k3 _ _⟩
  split at he
  ·rename_i fn hfn
   obtain ⟨hf,hname⟩:=hF g fn hfn
   split at he
   ·rename_i code hb
    refine ⟨⟨fn,hf,by rw [hb]; rfl,hname⟩,fun bad w m xs hh hl hr=>?_⟩
    have hR0 : Rel ⟨chunks (Nat.succ (Nat.div (start fn vs h c).t.length 16)) (start fn vs h c).t,h,c⟩ (start fn vs h c):=by
     refine ⟨RelC_chunks ?_,rfl,rfl⟩
     have e : Nat.div (start fn vs h c).t.length 16 = (start fn vs h c).t.length / 16:=rfl
     rw [e,Nat.succ_eq_add_one]
     omega
    have key : ∀ e s,yCode P T (xPureCall (zFn P T F mode memo fuel n) mode) (xCall (zFn P T F mode memo fuel n) mode) fuel code ⟨chunks (Nat.succ (Nat.div (start fn vs h c).t.length 16)) (start fn vs h c).t,h,c⟩ = some (e,s) → (e = .normal ∨ e = .ret) → evResultsY T s fn.results.toList = some r → s.h = h' → s.c = c' →
      Calls P g xs w fun e w'=>∃ x m',e = .returned x ∧ Rep bad w' m' c' r x ∧ Le w m c w' m' c' ∧ HeapRep bad h' w' m' c':=by
     intro e s hx hee hres h1 h2
     subst h1 h2
     refine calls_body hT hf hb hh hl hr (Q:=fun st=>Rel s st) (WC_mono (yCode_sound hT (xPureCall_sound ih) (xCall_sound ih) hm fuel code _ _ _ _ hR0 hx) ?_) ?_
     ·rintro e' q ⟨rfl,hq⟩
      rcases hee with rfl | rfl <;> exact hq
     ·rintro st a' w' m' hq hs hle
      rw [evResultsY_eq T hq] at hres
      obtain ⟨x,h3,h4⟩:=evResults_sound hT hs hres
      obtain ⟨q1,q2,q3⟩:=hq
      exact ⟨x,h3,x,m',rfl,q3 ▸ h4,q3 ▸ hle,q2 ▸ q3 ▸ hs.h⟩
    unfold endY at he
    split at he
    ·rename_i s hx
     split at he
     ·rename_i r' h1
      simp only [Option.some.injEq,Prod.mk.injEq] at he
      obtain ⟨rfl,h2,h3⟩:=he
      exact key _ _ hx (.inl rfl) h1 h2 h3
     ·cases he
    ·rename_i s hx
     split at he
     ·rename_i r' h1
      simp only [Option.some.injEq,Prod.mk.injEq] at he
      obtain ⟨rfl,h2,h3⟩:=he
      exact key _ _ hx (.inr rfl) h1 h2 h3
     ·cases he
    ·cases he
   ·cases he
  ·cases he
end
def saysV (r : V) : Option (V × Hp × Nat) → Bool
 | some (r0,h1,_)=>match frz 6 h1 r0 with
  | some (r',_)=>eqV 30 r r'
  | none=>false
 | none=>false
theorem memo_cons {P : Program} (hall : tabAll P = true) (hm : P.follows .mixedOrders = true) {mode : FuncId → Nat} {memo : Memo} (hmemo : MemoOk P memo) {fuel n : Nat} {g : FuncId} {vs : List V} {r : V}
  (h : (saysV r (zFn P (tabRowM P) (funOf P) mode memo fuel n g vs [] 0) && vs.all (pur 6)) = true) : MemoOk P ((g,vs,r) :: memo):=by
 intro x hx
 refine (List.mem_cons.1 hx).elim (fun e=>?_) fun h'=>hmemo x h'
 subst e
 rw [Bool.and_eq_true] at h
 obtain ⟨h,hp⟩:=h
 unfold saysV at h
 split at h
 ·rename_i r0 h1 c1 hrun
  split at h
  ·rename_i r' h2 hf
   obtain rfl:=eqV_ok 30 _ _ h
   obtain ⟨k1,k2⟩:=zFn_sound (tabRowM_ok hall) hmemo (funOf_ok P) hm fuel n _ _ _ _ _ _ _ hrun
   exact ⟨k1,hp,PT_of k2 hf⟩
  ·cases h
 ·cases h
theorem memo_nil {P : Program} : MemoOk P []:=fun x hx=>by cases hx
end Go.Mx
end
namespace Go.Su.Ytcadbebhhnggdaa
open Go.Mx Go.Proofs
theorem tabs23 : tabAll Try.prog = true:=by kernel_rfl
def rc (a b n : Int) : V:=.agg [.p (.int .i64 a),.p (.int .i64 b),.p (.int .i64 n),.ps .opt []]
set_option maxRecDepth 100000 in
theorem memo23 : MemoOk Try.prog [(21,[.ps .opt [rc 0 0 4,rc 0 0 1,rc 1 0 4,rc 0 0 0]],.ps .any [.p (.int .i64 0),.p (.int .i64 1),.p (.int .i64 4)])] :=
 memo_cons tabs23 (Checked.mixed Try.checked) memo_nil (mode:=fun g=>bif Nat.testBit 2338769422387155982623412556700012154618593375420416 g then 1 else bif Nat.testBit 730750851333887992640455507271542186401631043584 g then 3 else bif Nat.testBit 4384504911992708754611054498148849058967797628928 g then 2 else 0) (fuel:=300) (n:=40) (by kernel_rfl)
set_option maxRecDepth 100000 in
theorem memo23n : MemoOk Try.prog [(21,[.ps .opt []],.ps .nil [])] :=
 memo_cons tabs23 (Checked.mixed Try.checked) memo_nil (mode:=fun g=>bif Nat.testBit 2338769422387155982623412556700012154618593375420416 g then 1 else bif Nat.testBit 730750851333887992640455507271542186401631043584 g then 3 else bif Nat.testBit 4384504911992708754611054498148849058967797628928 g then 2 else 0) (fuel:=300) (n:=40) (by kernel_rfl)
theorem racy1_pt : PT Try.prog 21 [.ps .opt [rc 0 0 4,rc 0 0 1,rc 1 0 4,rc 0 0 0]] (.ps .any [.p (.int .i64 0),.p (.int .i64 1),.p (.int .i64 4)]):=(memo23 _ (List.mem_cons_self ..)).2.2
theorem racy2_pt : PT Try.prog 21 [.ps .opt []] (.ps .nil []):=(memo23n _ (List.mem_cons_self ..)).2.2
end Go.Su.Ytcadbebhhnggdaa
