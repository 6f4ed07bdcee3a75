/-
  The rules of the steps, of states in parts.
-/
import Derived.Test.YtfmgnboplbgniaaDx15
namespace Go.Mx
set_option linter.unusedVariables false
section
variable {P : Program} {T : TypeId → Option TI} {bad : Nat → Prop} {E : Ent} {N : Nat} {α : Type}

theorem WO_go' {ops : Array Oper} {i : Nat} {A : List (Nat × V)} {h0 : Hp} {c0 : Nat} {Q : Exit → SA → Prop} {o : Oper} (ho : ops[i]? = some o) (hgd : evGuardA A ops o = some true) {cl : Call} {g : FuncId} (hA hr : Hp) (vs vs' : List V) (E1 E2 : List (Nat × Nat × Nat)) (hB : Hp) (r r' : V) (c2 : Nat)
    (hop : o.op = .call cl) (htg : evTargetA A cl = some (g, vs)) (hen : Enters P g) (hvs : mapO (trV h0 (lookE E1) [] 5) vs = some vs') (hA' : moveH h0 (lookE E1) [] E1 = some hA)
    (hc1 : (E1.all (fun x => Nat.beq x.2.2 0) && nodupB (E1.map (·.1)) && nodupB (E1.map fun x => x.2.1) && nodupB (E2.map (·.1)) && nodupB (E2.map fun x => x.2.1) && Nat.ble c0 c2) = true)
    (hg : GO P g hA vs' r hr) (hr' : trV hr (lookE E2) [] 5 r = some r') (hB' : moveH hr (lookE E2) [] E2 = some hB) (hE2 : E2.all (okE2 h0 hr E1 c0 c2) = true) (hd : okD N o.dst = true)
    (hk : WO P bad E N ops (i + 1) ⟨putA A o.dst r', hB ++ eraseAll h0 (E1.map (·.1)), c2⟩ Q) : WO P bad E N ops i ⟨A, h0, c0⟩ Q :=
  WO_go (s := ⟨A, h0, c0⟩) (ho := ho) (hgd := hgd) (hA := hA) (hr := hr) (vs := vs) (vs' := vs') (E1 := E1) (E2 := E2) (hB := hB) (r := r) (r' := r') (c2 := c2) (hop := hop) (htg := htg) (hen := hen) (hvs := hvs) (hA' := hA') (hc1 := hc1) (hg := hg) (hr' := hr') (hB' := hB') (hE2 := hE2) (hd := hd) (hk := hk)

theorem WO_append' (hT : TabOk P T) (σ : SE T α) {ops : Array Oper} {i : Nat} {A : List (Nat × V)} {h0 : Hp} {c0 : Nat} {Q : Exit → SA → Prop} {o : Oper} (hoi : ops[i]? = some o) (hgd : evGuardA A ops o = some true) {d : Nat} {ty : TypeId} {pos : String} {af : Array Edge} {g : Option (Nat × Bool)} {x y : Operand} (b st : Nat) (nl : Bool) (l l2 : List α)
    (ho : o = ⟨some d, .call ⟨.builtin .append, #[x, y], #[σ.t, σ.t]⟩, ty, pos, af, g⟩) (hx : evA A x = .sl b st 0 (σ.F l).length true) (hg : h0.get b = some ⟨st, σ.e, σ.sz, false, nl, σ.F l⟩) (hy : elems h0 (evA A y) = some (σ.F l2))
    (hroom : room σ.i1.bytes l.length l2.length = true) (hd : Nat.blt d N = true)
    (hk : WO P bad E N ops (i + 1) ⟨(d, .sl d c0 0 (σ.F (l ++ l2)).length true) :: A, (h0.erase b).set d ⟨c0, σ.e, σ.sz, false, true, σ.F (l ++ l2)⟩, c0 + 1⟩ Q) : WO P bad E N ops i ⟨A, h0, c0⟩ Q :=
  WO_append (s := ⟨A, h0, c0⟩) (hT := hT) (σ := σ) (hoi := hoi) (hgd := hgd) (b := b) (st := st) (nl := nl) (l := l) (l2 := l2) (ho := ho) (hx := hx) (hg := hg) (hy := hy) (hroom := hroom) (hd := hd) (hk := hk)

theorem WO_clip' (hT : TabOk P T) (σ : SE T α) {ops : Array Oper} {i : Nat} {A : List (Nat × V)} {h0 : Hp} {c0 : Nat} {Q : Exit → SA → Prop} {o : Oper} (hoi : ops[i]? = some o) (hgd : evGuardA A ops o = some true) {d : Option Tmp} {ty : TypeId} {pos : String} {af : Array Edge} {g : Option (Nat × Bool)} {x : Operand} {hi mx : Operand} (b st n : Nat) (tip : Bool) (B : Blk)
    (ho : o = ⟨d, .slice σ.t x none (some hi) (some mx), ty, pos, af, g⟩) (hx : evA A x = .sl b st 0 n tip) (hg : h0.get b = some B) (hs : B.s = st) (hh : evA A hi = .p (.int .i64 n)) (hm : evA A mx = .p (.int .i64 n)) (hd : okD N d = true)
    (hk : WO P bad E N ops (i + 1) ⟨putA A d (.sl b st 0 n false), h0, c0⟩ Q) : WO P bad E N ops i ⟨A, h0, c0⟩ Q :=
  WO_clip (s := ⟨A, h0, c0⟩) (hT := hT) (σ := σ) (hoi := hoi) (hgd := hgd) (b := b) (st := st) (n := n) (tip := tip) (B := B) (ho := ho) (hx := hx) (hg := hg) (hs := hs) (hh := hh) (hm := hm) (hd := hd) (hk := hk)

theorem WO_isnil' (hT : TabOk P T) (σ : SE T α) {ops : Array Oper} {i : Nat} {A : List (Nat × V)} {h0 : Hp} {c0 : Nat} {Q : Exit → SA → Prop} {o : Oper} (hoi : ops[i]? = some o) (hgd : evGuardA A ops o = some true) {d : Option Tmp} {t' ty : TypeId} {pos : String} {af : Array Edge} {g : Option (Nat × Bool)} {x : Operand} (k : SC) (l : List α)
    (ho : o = ⟨d, .binOp .eql σ.t x (.const (.slice none 0 0)) t', ty, pos, af, g⟩) (hx : evA A x = .ps k (σ.F l)) (hd : okD N d = true)
    (hk : ∀ b : Bool, (b = true → l = []) → WO P bad E N ops (i + 1) ⟨putA A d (.p (.bool b)), h0, c0⟩ Q) : WO P bad E N ops i ⟨A, h0, c0⟩ Q :=
  WO_isnil (s := ⟨A, h0, c0⟩) (hT := hT) (σ := σ) (hoi := hoi) (hgd := hgd) (k := k) (l := l) (ho := ho) (hx := hx) (hd := hd) (hk := hk)

theorem WO_ptb' {ops : Array Oper} {i : Nat} {A : List (Nat × V)} {h0 : Hp} {c0 : Nat} {Q : Exit → SA → Prop} {o : Oper} (ho : ops[i]? = some o) (hg : evGuardA A ops o = some true) {cl : Call} {g : FuncId} (bor : List Nat) (vs vs' : List V) (r : V) (hop : o.op = .call cl) (htg : evTargetA A cl = some (g, vs)) (hen : Enters P g)
    (ht : mapO (trV h0 (fun _ => none) bor 5) vs = some vs') (hpu : vs'.all (pur 6) = true) (hs : scal 4 r = true) (hc : PT P g vs' r) (hd : okD N o.dst = true) (hk : WO P bad E N ops (i + 1) ⟨putA A o.dst r, h0, c0⟩ Q) : WO P bad E N ops i ⟨A, h0, c0⟩ Q :=
  WO_ptb (s := ⟨A, h0, c0⟩) (ho := ho) (hg := hg) (bor := bor) (vs := vs) (vs' := vs') (r := r) (hop := hop) (htg := htg) (hen := hen) (ht := ht) (hpu := hpu) (hs := hs) (hc := hc) (hd := hd) (hk := hk)

theorem One' (hT : TabOk P T) {ops : Array Oper} {i : Nat} {A : List (Nat × V)} {h0 : Hp} {c0 : Nat} {Q : Exit → SA → Prop} {o : Oper} (ho : ops[i]? = some o) {v : V} {h' : Hp} {c' : Nat} (he : evOperF P T false (evA A) o h0 c0 = some (v, h', c')) (hk : WO P bad E N ops (i + 1) ⟨putA A o.dst v, h', c'⟩ Q)
    (hg : evGuardA A ops o = some true := by kernel_rfl) (hd : okD N o.dst = true := by kernel_rfl) : WO P bad E N ops i ⟨A, h0, c0⟩ Q :=
  One (s := ⟨A, h0, c0⟩) (hT := hT) (ho := ho) (he := he) (hk := hk) (hg := hg) (hd := hd)

theorem Pt' {ops : Array Oper} {i : Nat} {A : List (Nat × V)} {h0 : Hp} {c0 : Nat} {Q : Exit → SA → Prop} {o : Oper} {cl : Call} {g : FuncId} {vs : List V} {r : V} (hen : Enters P g) (hc : PT P g vs r) (hk : WO P bad E N ops (i + 1) ⟨putA A o.dst r, h0, c0⟩ Q)
    (ho : ops[i]? = some o := by rfl) (hop : o.op = .call cl := by rfl) (hg : evGuardA A ops o = some true := by kernel_rfl) (htg : evTargetA A cl = some (g, vs) := by kernel_rfl) (hpu : vs.all (pur 6) = true := by kernel_rfl)
    (hd : okD N o.dst = true := by kernel_rfl) : WO P bad E N ops i ⟨A, h0, c0⟩ Q :=
  Pt (s := ⟨A, h0, c0⟩) (hen := hen) (hc := hc) (hk := hk) (ho := ho) (hop := hop) (hg := hg) (htg := htg) (hpu := hpu) (hd := hd)

theorem WD_loc' {ops : Array Oper} {i : Nat} {es rs : List (Nat × List Nat)} {A : List (Nat × V)} {h0 : Hp} {c0 : Nat} {Q : SA → Prop} {o : Oper} (ho : ops[i]? = some o) (hs : keysLt N A = true) (hg : evGuardA A ops o = some true) (hl : localOp o.op = true) {v : V} {h' : Hp} {c' : Nat}
    (he : evOperF P T true (evA A) o h0 c0 = some (v, h', c')) (hd : okD N o.dst = true) (hk : WD P T bad N ops (i + 1) es (rs ++ entryL i (rdA A o.op)) ⟨putA A o.dst v, h0, c0⟩ Q) : WD P T bad N ops i es rs ⟨A, h0, c0⟩ Q :=
  WD_loc (s := ⟨A, h0, c0⟩) (ho := ho) (hs := hs) (hg := hg) (hl := hl) (he := he) (hd := hd) (hk := hk)

theorem WD_wr' {ops : Array Oper} {i : Nat} {es rs : List (Nat × List Nat)} {A : List (Nat × V)} {h0 : Hp} {c0 : Nat} {Q : SA → Prop} {o : Oper} (ho : ops[i]? = some o) (hs : keysLt N A = true) (hg : evGuardA A ops o = some true) (hl : writesOp o.op = true) {v : V} {h' : Hp} {c' : Nat}
    (he : evOperF P T true (evA A) o h0 c0 = some (v, h', c')) (hd : okD N o.dst = true) (hk : WD P T bad N ops (i + 1) (es ++ [(i, wrA A o h0 h')]) rs ⟨putA A o.dst v, h', c'⟩ Q) : WD P T bad N ops i es rs ⟨A, h0, c0⟩ Q :=
  WD_wr (s := ⟨A, h0, c0⟩) (ho := ho) (hs := hs) (hg := hg) (hl := hl) (he := he) (hd := hd) (hk := hk)

theorem WD_pt' {ops : Array Oper} {i : Nat} {es rs : List (Nat × List Nat)} {A : List (Nat × V)} {h0 : Hp} {c0 : Nat} {Q : SA → Prop} {o : Oper} (ho : ops[i]? = some o) (hs : keysLt N A = true) (hg : evGuardA A ops o = some true) {cl : Call} {g : FuncId} (vs : List V) (r : V) (hop : o.op = .call cl) (htg : evTargetA A cl = some (g, vs)) (hen : Enters P g)
    (hpu : vs.all (pur 6) = true) (hc : PT P g vs r) (hd : okD N o.dst = true) (hk : WD P T bad N ops (i + 1) es rs ⟨putA A o.dst r, h0, c0⟩ Q) : WD P T bad N ops i es rs ⟨A, h0, c0⟩ Q :=
  WD_pt (s := ⟨A, h0, c0⟩) (ho := ho) (hs := hs) (hg := hg) (vs := vs) (r := r) (hop := hop) (htg := htg) (hen := hen) (hpu := hpu) (hc := hc) (hd := hd) (hk := hk)

theorem WD_ptb' {ops : Array Oper} {i : Nat} {es rs : List (Nat × List Nat)} {A : List (Nat × V)} {h0 : Hp} {c0 : Nat} {Q : SA → Prop} {o : Oper} (ho : ops[i]? = some o) (hks : keysLt N A = true) (hg : evGuardA A ops o = some true) {cl : Call} {g : FuncId} (bor : List Nat) (vs vs' : List V) (r : V) (hop : o.op = .call cl) (htg : evTargetA A cl = some (g, vs)) (hen : Enters P g)
    (ht : mapO (trV h0 (fun _ => none) bor 5) vs = some vs') (hpu : vs'.all (pur 6) = true) (hs : scal 4 r = true) (hc : PT P g vs' r) (hd : okD N o.dst = true) (hk : WD P T bad N ops (i + 1) (es ++ [(i, [])]) rs ⟨putA A o.dst r, h0, c0⟩ Q) : WD P T bad N ops i es rs ⟨A, h0, c0⟩ Q :=
  WD_ptb (s := ⟨A, h0, c0⟩) (ho := ho) (hks := hks) (hg := hg) (bor := bor) (vs := vs) (vs' := vs') (r := r) (hop := hop) (htg := htg) (hen := hen) (ht := ht) (hpu := hpu) (hs := hs) (hc := hc) (hd := hd) (hk := hk)

theorem WD_go' {ops : Array Oper} {i : Nat} {es rs : List (Nat × List Nat)} {A : List (Nat × V)} {h0 : Hp} {c0 : Nat} {Q : SA → Prop} {o : Oper} (ho : ops[i]? = some o) (hs : keysLt N A = true) (hgd : evGuardA A ops o = some true) {cl : Call} {g : FuncId} (hA hr : Hp) (vs vs' : List V) (E1 E2 : List (Nat × Nat × Nat)) (hB : Hp) (r r' : V) (c2 : Nat)
    (hop : o.op = .call cl) (htg : evTargetA A cl = some (g, vs)) (hen : Enters P g) (hvs : mapO (trV h0 (lookE E1) [] 5) vs = some vs') (hA' : moveH h0 (lookE E1) [] E1 = some hA)
    (hc1 : (E1.all (fun x => Nat.beq x.2.2 0) && nodupB (E1.map (·.1)) && nodupB (E1.map fun x => x.2.1) && nodupB (E2.map (·.1)) && nodupB (E2.map fun x => x.2.1) && Nat.ble c0 c2) = true)
    (hg : GO P g hA vs' r hr) (hr' : trV hr (lookE E2) [] 5 r = some r') (hB' : moveH hr (lookE E2) [] E2 = some hB) (hE2 : E2.all (okE2 h0 hr E1 c0 c2) = true) (hd : okD N o.dst = true)
    (hk : WD P T bad N ops (i + 1) (es ++ [(i, (E2.map fun x => x.2.1) ++ E1.map (·.1))]) rs ⟨putA A o.dst r', hB ++ eraseAll h0 (E1.map (·.1)), c2⟩ Q) : WD P T bad N ops i es rs ⟨A, h0, c0⟩ Q :=
  WD_go (s := ⟨A, h0, c0⟩) (ho := ho) (hs := hs) (hgd := hgd) (hA := hA) (hr := hr) (vs := vs) (vs' := vs') (E1 := E1) (E2 := E2) (hB := hB) (r := r) (r' := r') (c2 := c2) (hop := hop) (htg := htg) (hen := hen) (hvs := hvs) (hA' := hA') (hc1 := hc1) (hg := hg) (hr' := hr') (hB' := hB') (hE2 := hE2) (hd := hd) (hk := hk)

end
end Go.Mx
