/-
  Rows made at a length that is known by name; copies into them.
-/
import Derived.Test.YtfmgnboplbgniaaDx12
namespace Go.Mx
set_option linter.unusedVariables false

def lov {α : Type} (es : List α) (off : Nat) (xs : List α) : List α := es.take off ++ xs ++ es.drop (off + xs.length)
def lcopy {α : Type} (l xs : List α) : List α := lov l 0 (xs.take (min xs.length l.length))
def rcopy {α : Type} (l : List α) (n : Nat) : List α := lov l n ((l.take n).take (min n (l.length - n)))
def mroom (b : Nat) (n : Int) : Bool := decide (0 ≤ n) && decide (n.toNat * b ≤ roomB)

theorem lov_length {α : Type} {es xs : List α} {off : Nat} (h : off + xs.length ≤ es.length) : (lov es off xs).length = es.length := by unfold lov; simp; omega
theorem lcopy_length {α : Type} (l xs : List α) : (lcopy l xs).length = l.length := lov_length (by simp; omega)
theorem rcopy_length {α : Type} (l : List α) (n : Nat) : (rcopy l n).length = l.length := by
  unfold rcopy
  rcases Nat.lt_or_ge l.length n with h | h
  · unfold lov; simp; omega
  · exact lov_length (by simp; omega)

section
variable {P : Program} {T : TypeId → Option TI} {α : Type}

theorem SE.lov (σ : SE T α) (l : List α) (off : Nat) (xs : List α) : over (σ.F l) off (σ.F xs) = σ.F (lov l off xs) := by
  simp only [over, Go.Mx.lov, σ.hF, List.map_append, List.map_take, List.map_drop, List.length_map]

theorem ev_make (σ : SE T α) {ρ : Operand → V} {dr : Bool} {h : Hp} {c d : Nat} {ty : TypeId} {pos : String} {af : Array Edge} {g : Option (Nat × Bool)} {x y : Operand} (n : Int) (z : α) (hr : mroom σ.i1.bytes n = true) (hx : ρ x = vi n) (hy : ρ y = vi n) (hz : σ.f z = σ.i1.zero) :
    evOperF P T dr ρ ⟨some d, .makeSlice σ.t x y, ty, pos, af, g⟩ h c = some (vo d c (σ.F (List.replicate n.toNat z)), h.set d ⟨c, σ.e, σ.sz, false, false, σ.F (List.replicate n.toNat z)⟩, c + 1) := by
  obtain ⟨sz, bt, zz, h1⟩ := σ.row
  unfold mroom at hr
  simp only [Bool.and_eq_true, decide_eq_true_eq] at hr
  obtain ⟨h2, h3⟩ := hr
  have e1 : σ.F (List.replicate n.toNat z) = List.replicate n.toNat σ.i1.zero := by rw [σ.hF, List.map_replicate, hz]
  have hb := σ.hb
  have hp := σ.hp
  have hzz := σ.hz
  simp only [evOperF, evMake, h1, σ.he, hx, hy, asI]
  rw [if_pos ⟨h2, Int.le_refl _, hb, by rw [hzz]; exact hp, h3⟩]
  simp only [vo, e1, hzz, List.length_replicate]

theorem ev_copy (σ : SE T α) {ρ : Operand → V} {dr : Bool} {h : Hp} {c : Nat} {d : Option Tmp} {ty t2 : TypeId} {pos : String} {af : Array Edge} {g : Option (Nat × Bool)} {x y : Operand} (b s : Nat) (l xs : List α) (hx : ρ x = vo b s (σ.F l)) (hg : h.get b = some ⟨s, σ.e, σ.sz, false, false, σ.F l⟩) (hy : elems h (ρ y) = some (σ.F xs)) :
    evOperF P T dr ρ ⟨d, .call ⟨.builtin .copy, #[x, y], #[σ.t, t2]⟩, ty, pos, af, g⟩ h c = some (vi (min xs.length l.length : Nat), h.set b ⟨s, σ.e, σ.sz, false, false, σ.F (lcopy l xs)⟩, c) := by
  obtain ⟨sz, bt, zz, e0⟩ := σ.row
  have hx' : ρ x = .sl b s 0 (σ.F l).length true := hx
  have e2 : (σ.F xs).take (min (σ.F xs).length (σ.F l).length) = σ.F (xs.take (min xs.length l.length)) := by simp only [σ.len]; rw [σ.hF, σ.hF, List.map_take]
  simp only [evOperF, evCopy, e0, σ.he, hx', hy, hg]
  rw [if_pos ⟨trivial, trivial, trivial, σ.hz.symm, by omega, σ.all xs⟩, e2, σ.lov]
  simp only [σ.len]
  rfl

def inR (n : Int) (k : Nat) : Bool := decide (0 < n) && decide (n < k)

theorem ev_subR (σ : SE T α) {ρ : Operand → V} {dr : Bool} {h : Hp} {c : Nat} {d : Option Tmp} {ty : TypeId} {pos : String} {af : Array Edge} {g : Option (Nat × Bool)} {x y : Operand} (b s : Nat) (l : List α) (n : Int) (hn : inR n l.length = true) (hx : ρ x = vo b s (σ.F l)) (hy : ρ y = vi n) (hg : h.get b = some ⟨s, σ.e, σ.sz, false, false, σ.F l⟩) :
    evOperF P T dr ρ ⟨d, .slice σ.t x (some y) none none, ty, pos, af, g⟩ h c = some (.sl b s n.toNat (l.length - n.toNat) false, h, c) := by
  obtain ⟨sz, bt, zz, e0⟩ := σ.row
  have hx' : ρ x = .sl b s 0 (σ.F l).length true := hx
  unfold inR at hn
  simp only [Bool.and_eq_true, decide_eq_true_eq] at hn
  have hlen : lenV h (.sl b s 0 l.length true) = some l.length := by simp [lenV, hg]
  have hn2 : (n == 0) = false := by simp; omega
  have hn3 : ¬ n = (l.length : Int) := by omega
  have h5 : ∀ q : Int, q ∈ (none : Option Int) → q = (l.length : Int) := fun q hq => by cases hq
  have key : evSlice T h σ.t (.sl b s 0 l.length true) (some (vi n)) none none = some (.sl b s n.toNat (l.length - n.toNat) false) := by
    simp only [evSlice, e0, σ.he, hlen, intOr, intOpt, asI]
    rw [if_pos ⟨by omega, by omega, Int.le_refl _, h5⟩]
    simp only [hg]
    rw [if_pos ⟨trivial, σ.hz.symm⟩, if_neg (by simp), if_neg hn3]
    simp [hn2]
  simp [evOperF, hx', hy, σ.len, key]

theorem ev_subL (σ : SE T α) {ρ : Operand → V} {dr : Bool} {h : Hp} {c : Nat} {d : Option Tmp} {ty : TypeId} {pos : String} {af : Array Edge} {g : Option (Nat × Bool)} {x y : Operand} (b s : Nat) (l : List α) (n : Int) (hn : inR n l.length = true) (hx : ρ x = vo b s (σ.F l)) (hy : ρ y = vi n) (hg : h.get b = some ⟨s, σ.e, σ.sz, false, false, σ.F l⟩) :
    evOperF P T dr ρ ⟨d, .slice σ.t x none (some y) none, ty, pos, af, g⟩ h c = some (.sl b s 0 n.toNat true, h, c) := by
  obtain ⟨sz, bt, zz, e0⟩ := σ.row
  have hx' : ρ x = .sl b s 0 (σ.F l).length true := hx
  unfold inR at hn
  simp only [Bool.and_eq_true, decide_eq_true_eq] at hn
  have hlen : lenV h (.sl b s 0 l.length true) = some l.length := by simp [lenV, hg]
  have hn3 : ¬ (0 : Int) = n := by omega
  have h5 : ∀ q : Int, q ∈ (none : Option Int) → q = n := fun q hq => by cases hq
  have key : evSlice T h σ.t (.sl b s 0 l.length true) none (some (vi n)) none = some (.sl b s 0 n.toNat true) := by
    simp only [evSlice, e0, σ.he, hlen, intOr, intOpt, asI]
    rw [if_pos ⟨Int.le_refl _, by omega, by omega, h5⟩]
    simp only [hg]
    rw [if_pos ⟨trivial, σ.hz.symm⟩, if_neg (by simp), if_neg hn3]
    simp
  simp [evOperF, hx', hy, σ.len, key]

theorem ev_rcopy (σ : SE T α) {ρ : Operand → V} {dr : Bool} {h : Hp} {c : Nat} {d : Option Tmp} {ty t2 : TypeId} {pos : String} {af : Array Edge} {g : Option (Nat × Bool)} {x y : Operand} (b s : Nat) (l : List α) (n : Int) (hn : inR n l.length = true) (hx : ρ x = .sl b s n.toNat (l.length - n.toNat) false) (hy : ρ y = .sl b s 0 n.toNat true) (hg : h.get b = some ⟨s, σ.e, σ.sz, false, false, σ.F l⟩) :
    evOperF P T dr ρ ⟨d, .call ⟨.builtin .copy, #[x, y], #[σ.t, t2]⟩, ty, pos, af, g⟩ h c = some (vi (min n.toNat (l.length - n.toNat) : Nat), h.set b ⟨s, σ.e, σ.sz, false, false, σ.F (rcopy l n.toNat)⟩, c) := by
  obtain ⟨sz, bt, zz, e0⟩ := σ.row
  unfold inR at hn
  simp only [Bool.and_eq_true, decide_eq_true_eq] at hn
  have hel : elems h (.sl b s 0 n.toNat true) = some (σ.F (l.take n.toNat)) := by
    simp only [elems, hg]
    rw [if_pos ⟨trivial, trivial, by rw [σ.len]; omega⟩]
    rw [List.drop_zero, σ.hF, σ.hF, List.map_take]
  have hlt : (l.take n.toNat).length = n.toNat := by simp; omega
  have e2 : (σ.F (l.take n.toNat)).take (min (σ.F (l.take n.toNat)).length (l.length - n.toNat)) = σ.F ((l.take n.toNat).take (min n.toNat (l.length - n.toNat))) := by simp only [σ.len, hlt]; rw [σ.hF, σ.hF, List.map_take (l := l.take n.toNat)]
  simp only [evOperF, evCopy, e0, σ.he, hx, hy, hel, hg]
  rw [if_pos ⟨trivial, trivial, trivial, σ.hz.symm, by rw [σ.len]; omega, σ.all _⟩, e2, σ.lov]
  simp only [σ.len, hlt]
  rfl

end
end Go.Mx
