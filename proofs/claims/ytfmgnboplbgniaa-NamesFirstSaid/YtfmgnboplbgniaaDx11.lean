/-
  Short forms of the steps, for printed proofs.
-/
import Derived.Test.YtfmgnboplbgniaaDx9
import Derived.KernelRfl
namespace Go.Mx
set_option linter.unusedVariables false

abbrev vi (x : Int) : V := .p (.int .i64 x)
abbrev vu (x : Int) : V := .p (.int .u8 x)
abbrev vb (x : Bool) : V := .p (.bool x)
abbrev vw (x : ByteArray) : V := .p (.string x)
abbrev vz (x : Cx) : V := .p (.complex .f64 x.re x.im)
abbrev vo (b st : Nat) (l : List V) : V := .sl b st 0 l.length true
abbrev c0 : Cx := ⟨0, 0⟩
abbrev b0 : ByteArray := ByteArray.empty
abbrev wr (x : Int) : Int := IntKind.i64.wrap x
abbrev ln {α : Type} (l : List α) : Int := (l.length : Int)

section
variable {P : Program} {T : TypeId → Option TI} {bad : Nat → Prop} {E : Ent} {N : Nat} {α : Type}

/-- A stretch of a region. -/
theorem Sg (hT : TabOk P T) {ops : Array Oper} {i : Nat} {s : SA} {Q : Exit → SA → Prop} (n : Nat) (ks : List Nat) (s' : SA) (h : WO P bad E N ops (i + n) s' Q) (hr : runK P T N ops i n ks s = some s' := by kernel_rfl) (hk : ks.all (Nat.blt · N) = true := by kernel_rfl) : WO P bad E N ops i s Q :=
  WO_seg hT n ks s' hr hk h
theorem Ze {ops : Array Oper} {i : Nat} {s : SA} {Q : Exit → SA → Prop} (h : Q .normal s) (hi : Nat.ble ops.size i = true := by kernel_rfl) : WO P bad E N ops i s Q := WO_end hi h
/-- A stretch to the region's end. -/
theorem Sz (hT : TabOk P T) {ops : Array Oper} {i : Nat} {s : SA} {Q : Exit → SA → Prop} (n : Nat) (ks : List Nat) (s' : SA) (h : Q .normal s') (hr : runK P T N ops i n ks s = some s' := by kernel_rfl) (hk : ks.all (Nat.blt · N) = true := by kernel_rfl) (hi : Nat.ble ops.size (i + n) = true := by kernel_rfl) : WO P bad E N ops i s Q :=
  WO_seg hT n ks s' hr hk (WO_end hi h)
/-- The same from a region's start. -/
theorem Rg (hT : TabOk P T) {id : Nat} {ops : Array Oper} {s : SA} {Q : Exit → SA → Prop} (n : Nat) (ks : List Nat) (s' : SA) (h : WO P bad E N ops (0 + n) s' Q) (hr : runK P T N ops 0 n ks s = some s' := by kernel_rfl) (hk : ks.all (Nat.blt · N) = true := by kernel_rfl) : WA P bad E N (.region id ops false) s Q :=
  WA_region (WO_seg hT n ks s' hr hk h)
theorem Rz (hT : TabOk P T) {id : Nat} {ops : Array Oper} {s : SA} {Q : Exit → SA → Prop} (n : Nat) (ks : List Nat) (s' : SA) (h : Q .normal s') (hr : runK P T N ops 0 n ks s = some s' := by kernel_rfl) (hk : ks.all (Nat.blt · N) = true := by kernel_rfl) (hi : Nat.ble ops.size (0 + n) = true := by kernel_rfl) : WA P bad E N (.region id ops false) s Q :=
  WA_region (WO_seg hT n ks s' hr hk (WO_end hi h))
/-- The same, and something behind it. -/
theorem Qg (hT : TabOk P T) {id : Nat} {ops : Array Oper} {y : Code} {s : SA} {Q : Exit → SA → Prop} (n : Nat) (ks : List Nat) (s' : SA) (h : WO P bad E N ops (0 + n) s' (thenA (fun s' => WA P bad E N y s' Q) Q)) (hr : runK P T N ops 0 n ks s = some s' := by kernel_rfl) (hk : ks.all (Nat.blt · N) = true := by kernel_rfl) : WA P bad E N (.seq (.region id ops false) y) s Q :=
  WA_seq (Rg hT n ks s' h hr hk)
theorem Qz (hT : TabOk P T) {id : Nat} {ops : Array Oper} {y : Code} {s : SA} {Q : Exit → SA → Prop} (n : Nat) (ks : List Nat) (s' : SA) (h : WA P bad E N y s' Q) (hr : runK P T N ops 0 n ks s = some s' := by kernel_rfl) (hk : ks.all (Nat.blt · N) = true := by kernel_rfl) (hi : Nat.ble ops.size (0 + n) = true := by kernel_rfl) : WA P bad E N (.seq (.region id ops false) y) s Q :=
  WA_seq (Rz hT n ks s' h hr hk hi)

theorem weakKR {s s' : SA} (ks : List Nat) (L : List (Nat × Nat × Nat)) (hk : ks.all (Nat.blt · N) = true) (hA : trA s.h (lookE L) (keepA ks s.A) = some s'.A) (hB : moveH s.h (lookE L) [] L = some s'.h) (hc : renOk s.h E.c s'.c L = true) : Weak bad E N s s' :=
  (Weak_keepE ks _ rfl hk).trans (Weak_ren (s := ⟨keepA ks s.A, s.h, s.c⟩) L s' hA hB hc)

/-- What is left is named anew, and there is the end. -/
theorem oK {ops : Array Oper} {i : Nat} {s s' : SA} {Q : Exit → SA → Prop} (ks : List Nat) (L : List (Nat × Nat × Nat)) (h : Q .normal s') (hi : Nat.ble ops.size i = true := by kernel_rfl) (hk : ks.all (Nat.blt · N) = true := by kernel_rfl)
    (hA : trA s.h (lookE L) (keepA ks s.A) = some s'.A := by kernel_rfl) (hB : moveH s.h (lookE L) [] L = some s'.h := by kernel_rfl) (hc : renOk s.h E.c s'.c L = true := by kernel_rfl) : WO P bad E N ops i s Q :=
  WO_weak (weakKR ks L hk hA hB hc) (WO_end hi h)
theorem sK {s s' : SA} {Q : Exit → SA → Prop} (ks : List Nat) (L : List (Nat × Nat × Nat)) (h : Q .normal s') (hk : ks.all (Nat.blt · N) = true := by kernel_rfl)
    (hA : trA s.h (lookE L) (keepA ks s.A) = some s'.A := by kernel_rfl) (hB : moveH s.h (lookE L) [] L = some s'.h := by kernel_rfl) (hc : renOk s.h E.c s'.c L = true := by kernel_rfl) : WA P bad E N .skip s Q :=
  WA_weak (weakKR ks L hk hA hB hc) (WA_skip h)
theorem eK {id : Nat} {s s' : SA} {Q : Exit → SA → Prop} (ks : List Nat) (L : List (Nat × Nat × Nat)) (h : Q (.exit id) s') (hk : ks.all (Nat.blt · N) = true := by kernel_rfl)
    (hA : trA s.h (lookE L) (keepA ks s.A) = some s'.A := by kernel_rfl) (hB : moveH s.h (lookE L) [] L = some s'.h := by kernel_rfl) (hc : renOk s.h E.c s'.c L = true := by kernel_rfl) : WA P bad E N (.exit id) s Q :=
  WA_weak (weakKR ks L hk hA hB hc) (WA_exit h)
theorem rK {s : SA} {Q : Exit → SA → Prop} (ks : List Nat) (L : List (Nat × Nat × Nat)) (s' : SA) (h : Q .ret s') (hk : ks.all (Nat.blt · N) = true := by kernel_rfl)
    (hA : trA s.h (lookE L) (keepA ks s.A) = some s'.A := by kernel_rfl) (hB : moveH s.h (lookE L) [] L = some s'.h := by kernel_rfl) (hc : renOk s.h E.c s'.c L = true := by kernel_rfl) : WA P bad E N .ret s Q :=
  WA_weak (weakKR ks L hk hA hB hc) (WA_ret h)
theorem wK {s s' : SA} {Q : SA → Prop} (ks : List Nat) (L : List (Nat × Nat × Nat)) (h : Q s') (hk : ks.all (Nat.blt · N) = true := by kernel_rfl)
    (hA : trA s.h (lookE L) (keepA ks s.A) = some s'.A := by kernel_rfl) (hB : moveH s.h (lookE L) [] L = some s'.h := by kernel_rfl) (hc : renOk s.h E.c s'.c L = true := by kernel_rfl) : Wk bad E N s Q :=
  Wk_step (weakKR ks L hk hA hB hc) (Wk_done h)
theorem lK {x : Code} {s s' : SA} {Q : Exit → SA → Prop} (ks : List Nat) (L : List (Nat × Nat × Nat)) (I : Nat → SA → Prop) (n : Nat) (h0 : I n s') (hz : ∀ s', I 0 s' → False) (h : ∀ k s', I (k + 1) s' → WA P bad E N x s' (thenA (I k) Q)) (hk : ks.all (Nat.blt · N) = true := by kernel_rfl)
    (hA : trA s.h (lookE L) (keepA ks s.A) = some s'.A := by kernel_rfl) (hB : moveH s.h (lookE L) [] L = some s'.h := by kernel_rfl) (hc : renOk s.h E.c s'.c L = true := by kernel_rfl) : WA P bad E N (.loop x) s Q :=
  WA_weak (weakKR ks L hk hA hB hc) (WA_loop I n h0 hz h)

/-- What is named anew alone, and there is the end. -/
theorem oR {ops : Array Oper} {i : Nat} {s s' : SA} {Q : Exit → SA → Prop} (L : List (Nat × Nat × Nat)) (h : Q .normal s') (hi : Nat.ble ops.size i = true := by kernel_rfl)
    (hA : trA s.h (lookE L) s.A = some s'.A := by kernel_rfl) (hB : moveH s.h (lookE L) [] L = some s'.h := by kernel_rfl) (hc : renOk s.h E.c s'.c L = true := by kernel_rfl) : WO P bad E N ops i s Q :=
  WO_weak (Weak_ren L s' hA hB hc) (WO_end hi h)
theorem sR {s s' : SA} {Q : Exit → SA → Prop} (L : List (Nat × Nat × Nat)) (h : Q .normal s')
    (hA : trA s.h (lookE L) s.A = some s'.A := by kernel_rfl) (hB : moveH s.h (lookE L) [] L = some s'.h := by kernel_rfl) (hc : renOk s.h E.c s'.c L = true := by kernel_rfl) : WA P bad E N .skip s Q :=
  WA_weak (Weak_ren L s' hA hB hc) (WA_skip h)
theorem eR {id : Nat} {s s' : SA} {Q : Exit → SA → Prop} (L : List (Nat × Nat × Nat)) (h : Q (.exit id) s')
    (hA : trA s.h (lookE L) s.A = some s'.A := by kernel_rfl) (hB : moveH s.h (lookE L) [] L = some s'.h := by kernel_rfl) (hc : renOk s.h E.c s'.c L = true := by kernel_rfl) : WA P bad E N (.exit id) s Q :=
  WA_weak (Weak_ren L s' hA hB hc) (WA_exit h)
theorem rR {s : SA} {Q : Exit → SA → Prop} (L : List (Nat × Nat × Nat)) (s' : SA) (h : Q .ret s')
    (hA : trA s.h (lookE L) s.A = some s'.A := by kernel_rfl) (hB : moveH s.h (lookE L) [] L = some s'.h := by kernel_rfl) (hc : renOk s.h E.c s'.c L = true := by kernel_rfl) : WA P bad E N .ret s Q :=
  WA_weak (Weak_ren L s' hA hB hc) (WA_ret h)
theorem wR {s s' : SA} {Q : SA → Prop} (L : List (Nat × Nat × Nat)) (h : Q s')
    (hA : trA s.h (lookE L) s.A = some s'.A := by kernel_rfl) (hB : moveH s.h (lookE L) [] L = some s'.h := by kernel_rfl) (hc : renOk s.h E.c s'.c L = true := by kernel_rfl) : Wk bad E N s Q :=
  Wk_step (Weak_ren L s' hA hB hc) (Wk_done h)
theorem lR {x : Code} {s s' : SA} {Q : Exit → SA → Prop} (L : List (Nat × Nat × Nat)) (I : Nat → SA → Prop) (n : Nat) (h0 : I n s') (hz : ∀ s', I 0 s' → False) (h : ∀ k s', I (k + 1) s' → WA P bad E N x s' (thenA (I k) Q))
    (hA : trA s.h (lookE L) s.A = some s'.A := by kernel_rfl) (hB : moveH s.h (lookE L) [] L = some s'.h := by kernel_rfl) (hc : renOk s.h E.c s'.c L = true := by kernel_rfl) : WA P bad E N (.loop x) s Q :=
  WA_weak (Weak_ren L s' hA hB hc) (WA_loop I n h0 hz h)

/-- What is kept. -/
theorem oW {ops : Array Oper} {i : Nat} {s : SA} {Q : Exit → SA → Prop} (ks : List Nat) (s' : SA) (h : WO P bad E N ops i s' Q) (he : (⟨keepA ks s.A, s.h, s.c⟩ : SA) = s' := by kernel_rfl) (hk : ks.all (Nat.blt · N) = true := by kernel_rfl) : WO P bad E N ops i s Q := WO_weak (Weak_keepE ks s' he hk) h
theorem aW {code : Code} {s : SA} {Q : Exit → SA → Prop} (ks : List Nat) (s' : SA) (h : WA P bad E N code s' Q) (he : (⟨keepA ks s.A, s.h, s.c⟩ : SA) = s' := by kernel_rfl) (hk : ks.all (Nat.blt · N) = true := by kernel_rfl) : WA P bad E N code s Q := WA_weak (Weak_keepE ks s' he hk) h
theorem kW {s : SA} {Q : SA → Prop} (ks : List Nat) (s' : SA) (h : Wk bad E N s' Q) (he : (⟨keepA ks s.A, s.h, s.c⟩ : SA) = s' := by kernel_rfl) (hk : ks.all (Nat.blt · N) = true := by kernel_rfl) : Wk bad E N s Q := Wk_step (Weak_keepE ks s' he hk) h

/-- A bit. -/
theorem Cd {k : Operand} {x y : Code} {s : SA} {Q : Exit → SA → Prop} (b : Bool) (h1 : b = true → WA P bad E N x s Q) (h2 : b = false → WA P bad E N y s Q) (hk : evA s.A k = .p (.bool b) := by kernel_rfl) : WA P bad E N (.cond k x y) s Q := WA_cond b hk h1 h2

/-- Calls. -/
theorem Pt {ops : Array Oper} {i : Nat} {s : SA} {Q : Exit → SA → Prop} {o : Oper} {cl : Call} {g : FuncId} {vs : List V} {r : V} (hen : Enters P g) (hc : PT P g vs r) (hk : WO P bad E N ops (i + 1) ⟨putA s.A o.dst r, s.h, s.c⟩ Q)
    (ho : ops[i]? = some o := by rfl) (hop : o.op = .call cl := by rfl) (hg : evGuardA s.A ops o = some true := by kernel_rfl) (htg : evTargetA s.A cl = some (g, vs) := by kernel_rfl) (hpu : vs.all (pur 6) = true := by kernel_rfl)
    (hd : okD N o.dst = true := by kernel_rfl) : WO P bad E N ops i s Q :=
  WO_pt ho hg vs r hop htg hen hpu hc hd hk
theorem One (hT : TabOk P T) {ops : Array Oper} {i : Nat} {s : SA} {Q : Exit → SA → Prop} {o : Oper} (ho : ops[i]? = some o) {v : V} {h' : Hp} {c' : Nat} (he : evOperF P T false (evA s.A) o s.h s.c = some (v, h', c')) (hk : WO P bad E N ops (i + 1) ⟨putA s.A o.dst v, h', c'⟩ Q)
    (hg : evGuardA s.A ops o = some true := by kernel_rfl) (hd : okD N o.dst = true := by kernel_rfl) : WO P bad E N ops i s Q :=
  WO_one hT ho hg he hd hk
end
end Go.Mx
