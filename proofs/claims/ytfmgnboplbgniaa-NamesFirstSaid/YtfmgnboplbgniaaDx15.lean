/-
  Short forms of the steps that name what turned alone.
-/
import Derived.Test.YtfmgnboplbgniaaDx14
namespace Go.Mx
set_option linter.unusedVariables false

section
variable {P : Program} {T : TypeId → Option TI} {bad : Nat → Prop} {E : Ent} {N : Nat}
variable {ops : Array Oper} {i : Nat} {A : List (Nat × V)} {h : Hp} {c : Nat}

theorem WO_segd (hT : TabOk P T) {Q : Exit → SA → Prop} (n : Nat) (ks : List Nat) (dA : List (Nat × V)) (hr : runK P T N ops i n ks ⟨A, h, c⟩ = some ⟨keepA ks (dA ++ A), h, c⟩) (hk : ks.all (Nat.blt · N) = true)
    (hq : WO P bad E N ops (i + n) ⟨keepA ks (dA ++ A), h, c⟩ Q) : WO P bad E N ops i ⟨A, h, c⟩ Q := WO_seg hT n ks _ hr hk hq
theorem WO_segh (hT : TabOk P T) {Q : Exit → SA → Prop} (n : Nat) (ks : List Nat) (dA : List (Nat × V)) (h' : Hp) (c' : Nat) (hr : runK P T N ops i n ks ⟨A, h, c⟩ = some ⟨keepA ks (dA ++ A), h', c'⟩) (hk : ks.all (Nat.blt · N) = true)
    (hq : WO P bad E N ops (i + n) ⟨keepA ks (dA ++ A), h', c'⟩ Q) : WO P bad E N ops i ⟨A, h, c⟩ Q := WO_seg hT n ks _ hr hk hq

theorem Sgd (hT : TabOk P T) {Q : Exit → SA → Prop} (n : Nat) (ks : List Nat) (dA : List (Nat × V)) (hq : WO P bad E N ops (i + n) ⟨keepA ks (dA ++ A), h, c⟩ Q)
    (hr : runK P T N ops i n ks ⟨A, h, c⟩ = some ⟨keepA ks (dA ++ A), h, c⟩ := by kernel_rfl) (hk : ks.all (Nat.blt · N) = true := by kernel_rfl) : WO P bad E N ops i ⟨A, h, c⟩ Q := WO_seg hT n ks _ hr hk hq
theorem Szd (hT : TabOk P T) {Q : Exit → SA → Prop} (n : Nat) (ks : List Nat) (dA : List (Nat × V)) (hq : Q .normal ⟨keepA ks (dA ++ A), h, c⟩)
    (hr : runK P T N ops i n ks ⟨A, h, c⟩ = some ⟨keepA ks (dA ++ A), h, c⟩ := by kernel_rfl) (hk : ks.all (Nat.blt · N) = true := by kernel_rfl) (hi : Nat.ble ops.size (i + n) = true := by kernel_rfl) : WO P bad E N ops i ⟨A, h, c⟩ Q := Sz hT n ks _ hq hr hk hi
theorem Rgd (hT : TabOk P T) {id : Nat} {Q : Exit → SA → Prop} (n : Nat) (ks : List Nat) (dA : List (Nat × V)) (hq : WO P bad E N ops (0 + n) ⟨keepA ks (dA ++ A), h, c⟩ Q)
    (hr : runK P T N ops 0 n ks ⟨A, h, c⟩ = some ⟨keepA ks (dA ++ A), h, c⟩ := by kernel_rfl) (hk : ks.all (Nat.blt · N) = true := by kernel_rfl) : WA P bad E N (.region id ops false) ⟨A, h, c⟩ Q := Rg hT n ks _ hq hr hk
theorem Rzd (hT : TabOk P T) {id : Nat} {Q : Exit → SA → Prop} (n : Nat) (ks : List Nat) (dA : List (Nat × V)) (hq : Q .normal ⟨keepA ks (dA ++ A), h, c⟩)
    (hr : runK P T N ops 0 n ks ⟨A, h, c⟩ = some ⟨keepA ks (dA ++ A), h, c⟩ := by kernel_rfl) (hk : ks.all (Nat.blt · N) = true := by kernel_rfl) (hi : Nat.ble ops.size (0 + n) = true := by kernel_rfl) : WA P bad E N (.region id ops false) ⟨A, h, c⟩ Q := Rz hT n ks _ hq hr hk hi
theorem Qgd (hT : TabOk P T) {id : Nat} {y : Code} {Q : Exit → SA → Prop} (n : Nat) (ks : List Nat) (dA : List (Nat × V)) (hq : WO P bad E N ops (0 + n) ⟨keepA ks (dA ++ A), h, c⟩ (thenA (fun s' => WA P bad E N y s' Q) Q))
    (hr : runK P T N ops 0 n ks ⟨A, h, c⟩ = some ⟨keepA ks (dA ++ A), h, c⟩ := by kernel_rfl) (hk : ks.all (Nat.blt · N) = true := by kernel_rfl) : WA P bad E N (.seq (.region id ops false) y) ⟨A, h, c⟩ Q := Qg hT n ks _ hq hr hk
theorem Qzd (hT : TabOk P T) {id : Nat} {y : Code} {Q : Exit → SA → Prop} (n : Nat) (ks : List Nat) (dA : List (Nat × V)) (hq : WA P bad E N y ⟨keepA ks (dA ++ A), h, c⟩ Q)
    (hr : runK P T N ops 0 n ks ⟨A, h, c⟩ = some ⟨keepA ks (dA ++ A), h, c⟩ := by kernel_rfl) (hk : ks.all (Nat.blt · N) = true := by kernel_rfl) (hi : Nat.ble ops.size (0 + n) = true := by kernel_rfl) : WA P bad E N (.seq (.region id ops false) y) ⟨A, h, c⟩ Q := Qz hT n ks _ hq hr hk hi

theorem Sgh (hT : TabOk P T) {Q : Exit → SA → Prop} (n : Nat) (ks : List Nat) (dA : List (Nat × V)) (h' : Hp) (c' : Nat) (hq : WO P bad E N ops (i + n) ⟨keepA ks (dA ++ A), h', c'⟩ Q)
    (hr : runK P T N ops i n ks ⟨A, h, c⟩ = some ⟨keepA ks (dA ++ A), h', c'⟩ := by kernel_rfl) (hk : ks.all (Nat.blt · N) = true := by kernel_rfl) : WO P bad E N ops i ⟨A, h, c⟩ Q := WO_seg hT n ks _ hr hk hq
theorem Szh (hT : TabOk P T) {Q : Exit → SA → Prop} (n : Nat) (ks : List Nat) (dA : List (Nat × V)) (h' : Hp) (c' : Nat) (hq : Q .normal ⟨keepA ks (dA ++ A), h', c'⟩)
    (hr : runK P T N ops i n ks ⟨A, h, c⟩ = some ⟨keepA ks (dA ++ A), h', c'⟩ := by kernel_rfl) (hk : ks.all (Nat.blt · N) = true := by kernel_rfl) (hi : Nat.ble ops.size (i + n) = true := by kernel_rfl) : WO P bad E N ops i ⟨A, h, c⟩ Q := Sz hT n ks _ hq hr hk hi
theorem Rgh (hT : TabOk P T) {id : Nat} {Q : Exit → SA → Prop} (n : Nat) (ks : List Nat) (dA : List (Nat × V)) (h' : Hp) (c' : Nat) (hq : WO P bad E N ops (0 + n) ⟨keepA ks (dA ++ A), h', c'⟩ Q)
    (hr : runK P T N ops 0 n ks ⟨A, h, c⟩ = some ⟨keepA ks (dA ++ A), h', c'⟩ := by kernel_rfl) (hk : ks.all (Nat.blt · N) = true := by kernel_rfl) : WA P bad E N (.region id ops false) ⟨A, h, c⟩ Q := Rg hT n ks _ hq hr hk
theorem Rzh (hT : TabOk P T) {id : Nat} {Q : Exit → SA → Prop} (n : Nat) (ks : List Nat) (dA : List (Nat × V)) (h' : Hp) (c' : Nat) (hq : Q .normal ⟨keepA ks (dA ++ A), h', c'⟩)
    (hr : runK P T N ops 0 n ks ⟨A, h, c⟩ = some ⟨keepA ks (dA ++ A), h', c'⟩ := by kernel_rfl) (hk : ks.all (Nat.blt · N) = true := by kernel_rfl) (hi : Nat.ble ops.size (0 + n) = true := by kernel_rfl) : WA P bad E N (.region id ops false) ⟨A, h, c⟩ Q := Rz hT n ks _ hq hr hk hi
theorem Qgh (hT : TabOk P T) {id : Nat} {y : Code} {Q : Exit → SA → Prop} (n : Nat) (ks : List Nat) (dA : List (Nat × V)) (h' : Hp) (c' : Nat) (hq : WO P bad E N ops (0 + n) ⟨keepA ks (dA ++ A), h', c'⟩ (thenA (fun s' => WA P bad E N y s' Q) Q))
    (hr : runK P T N ops 0 n ks ⟨A, h, c⟩ = some ⟨keepA ks (dA ++ A), h', c'⟩ := by kernel_rfl) (hk : ks.all (Nat.blt · N) = true := by kernel_rfl) : WA P bad E N (.seq (.region id ops false) y) ⟨A, h, c⟩ Q := Qg hT n ks _ hq hr hk
theorem Qzh (hT : TabOk P T) {id : Nat} {y : Code} {Q : Exit → SA → Prop} (n : Nat) (ks : List Nat) (dA : List (Nat × V)) (h' : Hp) (c' : Nat) (hq : WA P bad E N y ⟨keepA ks (dA ++ A), h', c'⟩ Q)
    (hr : runK P T N ops 0 n ks ⟨A, h, c⟩ = some ⟨keepA ks (dA ++ A), h', c'⟩ := by kernel_rfl) (hk : ks.all (Nat.blt · N) = true := by kernel_rfl) (hi : Nat.ble ops.size (0 + n) = true := by kernel_rfl) : WA P bad E N (.seq (.region id ops false) y) ⟨A, h, c⟩ Q := Qz hT n ks _ hq hr hk hi

variable {es rs : List (Nat × List Nat)} {Q : SA → Prop}

/-- The same in a region whose order is open. -/
theorem Ds (n : Nat) (dA : List (Nat × V)) (dE dR : List (Nat × List Nat)) (hq : WD P T bad N ops (i + n) (es ++ dE) (rs ++ dR) ⟨dA ++ A, h, c⟩ Q) (hs : keysLt N A = true := by kernel_rfl)
    (hr : runD P T N ops n i (ops.toList.drop i) ⟨A, h, c⟩ es rs = some (⟨dA ++ A, h, c⟩, es ++ dE, rs ++ dR) := by kernel_rfl) : WD P T bad N ops i es rs ⟨A, h, c⟩ Q := WD_seg n _ _ _ hs hr hq
theorem Dh (n : Nat) (dA : List (Nat × V)) (h' : Hp) (c' : Nat) (dE dR : List (Nat × List Nat)) (hq : WD P T bad N ops (i + n) (es ++ dE) (rs ++ dR) ⟨dA ++ A, h', c'⟩ Q) (hs : keysLt N A = true := by kernel_rfl)
    (hr : runD P T N ops n i (ops.toList.drop i) ⟨A, h, c⟩ es rs = some (⟨dA ++ A, h', c'⟩, es ++ dE, rs ++ dR) := by kernel_rfl) : WD P T bad N ops i es rs ⟨A, h, c⟩ Q := WD_seg n _ _ _ hs hr hq
/-- What came is said anew. -/
theorem Dt {d : Option Tmp} {v : V} (v' : V) (hq : WD P T bad N ops i es rs ⟨putA A d v', h, c⟩ Q) (hv : v = v' := by kernel_rfl) : WD P T bad N ops i es rs ⟨putA A d v, h, c⟩ Q := by
  subst hv; exact hq
end
end Go.Mx
