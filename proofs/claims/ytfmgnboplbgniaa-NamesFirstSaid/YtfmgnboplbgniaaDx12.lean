/-
  Complex numbers; pointers into variables that hold arrays.
-/
import Derived.Test.YtfmgnboplbgniaaDx11
namespace Go.Mx
set_option linter.unusedVariables false

def cadd (a b : Cx) : Option Cx := (FloatKind.f64.format.add a.re b.re).bind fun r => (FloatKind.f64.format.add a.im b.im).bind fun i => some ⟨r, i⟩
def cmul (a b : Cx) : Option Cx :=
  (FloatKind.f64.format.mul a.re b.re).bind fun p => (FloatKind.f64.format.mul a.im b.im).bind fun q => (FloatKind.f64.format.sub p q).bind fun r =>
  (FloatKind.f64.format.mul a.re b.im).bind fun s => (FloatKind.f64.format.mul a.im b.re).bind fun t => (FloatKind.f64.format.add s t).bind fun i => some ⟨r, i⟩

/-- Rows are handed over that are known to be none of nil. -/
theorem GO_leH {P : Program} {g : FuncId} {hA hA' hb : Hp} {vs : List V} {r : V} (hH : HLe hA' hA) (h : GO P g hA vs r hb) : GO P g hA' vs r hb :=
  fun bad w m xs hh hl hr => h bad w m xs (hH.rep hh) hl hr

section
variable {P : Program} {T : TypeId → Option TI}

theorem ev_cadd {ρ : Operand → V} {dr : Bool} {h : Hp} {c : Nat} {d : Option Tmp} {t t' ty : TypeId} {pos : String} {af : Array Edge} {g : Option (Nat × Bool)} {x y : Operand} (a b : Cx) {r : Cx} (hr : cadd a b = some r) (hx : ρ x = vz a) (hy : ρ y = vz b) :
    evOperF P T dr ρ ⟨d, .binOp .add t x y t', ty, pos, af, g⟩ h c = some (vz r, h, c) := by
  unfold cadd at hr
  simp only [Option.bind_eq_some_iff] at hr
  obtain ⟨r1, h1, r2, h2, h3⟩ := hr
  cases h3
  have h4 : still P (do eqGuard .add t x y (.complex .f64 a.re a.im) (.complex .f64 b.re b.im); binOp .add t (.complex .f64 a.re a.im) (.complex .f64 b.re b.im) : Sem Value) = some (.complex .f64 r1 r2) := by
    have e1 : eqGuard .add t x y (.complex .f64 a.re a.im) (.complex .f64 b.re b.im) = pure () := rfl
    have e2 : binOp .add t (.complex .f64 a.re a.im) (.complex .f64 b.re b.im) = pure (.complex .f64 r1 r2) := by
      show Op.complexOp .add .f64 a.re a.im b.re b.im = _
      simp [Op.complexOp, Op.Complex.arith, Op.floatArith, h1, h2]
    rw [e1, e2]; rfl
  simp only [evOperF, evBin, hx, hy, toVal, fastBin, h4, Option.map_some]

theorem ev_cmul {ρ : Operand → V} {dr : Bool} {h : Hp} {c : Nat} {d : Option Tmp} {t t' ty : TypeId} {pos : String} {af : Array Edge} {g : Option (Nat × Bool)} {x y : Operand} (a b : Cx) {r : Cx} (hr : cmul a b = some r) (hx : ρ x = vz a) (hy : ρ y = vz b) :
    evOperF P T dr ρ ⟨d, .binOp .mul t x y t', ty, pos, af, g⟩ h c = some (vz r, h, c) := by
  unfold cmul at hr
  simp only [Option.bind_eq_some_iff] at hr
  obtain ⟨p, h1, q, h2, r1, h3, s, h4, u, h5, i, h6, h7⟩ := hr
  cases h7
  have h8 : still P (do eqGuard .mul t x y (.complex .f64 a.re a.im) (.complex .f64 b.re b.im); binOp .mul t (.complex .f64 a.re a.im) (.complex .f64 b.re b.im) : Sem Value) = some (.complex .f64 r1 i) := by
    have e1 : eqGuard .mul t x y (.complex .f64 a.re a.im) (.complex .f64 b.re b.im) = pure () := rfl
    have e2 : binOp .mul t (.complex .f64 a.re a.im) (.complex .f64 b.re b.im) = pure (.complex .f64 r1 i) := by
      show Op.complexOp .mul .f64 a.re a.im b.re b.im = _
      simp [Op.complexOp, Op.Complex.conv, Op.Complex.product, Op.Complex.mul, Op.Complex.sub, Op.Complex.add, Op.Complex.arith, Op.floatArith, h1, h2, h3, h4, h5, h6]
    rw [e1, e2]; rfl
  simp only [evOperF, evBin, hx, hy, toVal, fastBin, h8, Option.map_some]

/-- A place in a variable that holds an array, that a number names. -/
theorem ev_indexAddrA {ρ : Operand → V} {dr : Bool} {h : Hp} {c : Nat} {d : Option Tmp} {t ty : TypeId} {pos : String} {af : Array Edge} {g : Option (Nat × Bool)} {x ix : Operand} {α : Type} (l : List α) (b s : Nat) (kd : IntKind) (n : Int) {a : α} (i0 i1 : TI) (e : TypeId)
    (ha : idx l n = some a) (hx : ρ x = .box b s 0 0) (hi : ρ ix = .p (.int kd n)) (h0 : T t = some i0) (hd : i0.desc = .array l.length e) (he : T e = some i1) (hz : i1.size = 1) (hl : liveB h b s = true) :
    evOperF P T dr ρ ⟨d, .indexAddr t x ix, ty, pos, af, g⟩ h c = some (.box b s 0 n.toNat, h, c) := by
  obtain ⟨hn, ha'⟩ := idx_some ha
  obtain ⟨sz, bt, ds, z⟩ := i0
  simp only at hd
  subst hd
  have h3 : n.toNat < l.length := (List.getElem?_eq_some_iff.1 ha').1
  simp [evOperF, evIndexAddr, h0, hx, hi, asI, show ¬ n < 0 by omega, he, hz, h3, hl]

theorem ev_loadA {ρ : Operand → V} {dr : Bool} {h : Hp} {c : Nat} {d : Option Tmp} {t ty : TypeId} {pos : String} {af : Array Edge} {g : Option (Nat × Bool)} {x : Operand} {α : Type} (f : α → V) (l : List α) (b s : Nat) (B : Blk) (n : Int) {a : α} (i1 : TI)
    (ha : idx l n = some a) (hx : ρ x = .box b s 0 n.toNat) (hg : h.get b = some B) (hs : B.s = s) (hes : B.es = [.agg (l.map f)]) (he : T t = some i1) (hz : i1.size = 1) (hag : isAggD i1.desc = false) :
    evOperF P T dr ρ ⟨d, .load t x, ty, pos, af, g⟩ h c = some (f a, h, c) := by
  obtain ⟨hn, ha'⟩ := idx_some ha
  have h3 : n.toNat < l.length := (List.getElem?_eq_some_iff.1 ha').1
  rw [List.getElem?_eq_getElem h3] at ha'
  have h4 : l[n.toNat] = a := by simpa using ha'
  simp [evOperF, evLoad, he, hx, elemAt, hg, hs, hes, hag, partV, hz, V.cells, h3, h4]

end
end Go.Mx
