/-
  Stores into rows; appends onto full slices; strings' bytes; arguments that read zs less.
-/
import Derived.Test.YtfmgnboplbgniaaDx7
namespace Go.Mx
set_option linter.unusedVariables false
set_option linter.unusedSimpArgs false

def gomax (a b : Int) : Int := if b > a then b else a
def gomin (a b : Int) : Int := if b < a then b else a

def e_i64 (n : Int) : V := .p (.int .i64 n)
def e_u64 (n : Int) : V := .p (.int .u64 n)
def e_u8 (n : Int) : V := .p (.int .u8 n)
def e_b (b : Bool) : V := .p (.bool b)
def e_s (s : ByteArray) : V := .p (.string s)
def e_c (z : Cx) : V := .p (.complex .f64 z.re z.im)

/-- A byte of a string. -/
def idxS (s : ByteArray) (n : Int) : Option Int := bif decide (n < 0) then none else (s[n.toNat]?).map fun b => (b.toNat : Int)

section
variable {P : Program} {T : TypeId → Option TI} {bad : Nat → Prop} {E : Ent} {N : Nat} {α : Type}

theorem ev_indexS {ρ : Operand → V} {dr : Bool} {h : Hp} {c : Nat} {d : Option Tmp} {t ty : TypeId} {pos : String} {af : Array Edge} {g : Option (Nat × Bool)} {x ix : Operand} (s : ByteArray) (kd : IntKind) (n : Int) {a : Int} {i0 : TI}
    (ha : idxS s n = some a) (hx : ρ x = .p (.string s)) (hi : ρ ix = .p (.int kd n)) (h0 : T t = some i0) (hd : i0.desc = .string) :
    evOperF P T dr ρ ⟨d, .index t x ix, ty, pos, af, g⟩ h c = some (.p (.int .u8 a), h, c) := by
  unfold idxS at ha
  by_cases hn : n < 0
  · simp [hn] at ha
  · simp only [hn, decide_false, cond_false, Option.map_eq_some_iff] at ha
    obtain ⟨b, hb, rfl⟩ := ha
    obtain ⟨sz, bt, ds, z⟩ := i0
    simp only at hd
    subst hd
    simp [evOperF, evIndex, h0, hx, hi, asI, hn, hb]

def VLes_all : List V → List V → Prop := VLes

theorem PT_args {g : FuncId} {us vs : List V} {r : V} (h : PT P g vs r) (hv : VLes us vs) : PT P g us r := by
  obtain ⟨h1, h2⟩ := hv.get
  intro bad w xs hbad hl hr
  exact h bad w xs hbad (by omega) fun i a b => h2 i (by omega) a w _ _ (hr i (by omega) b)

theorem GO_args {g : FuncId} {hA hb : Hp} {us vs : List V} {r : V} (h : GO P g hA vs r hb) (hv : VLfs us vs) : GO P g hA us r hb := by
  obtain ⟨h1, h2⟩ := hv.get
  intro bad w m xs hh hl hr
  exact h bad w m xs hh (by omega) fun i a b => h2 i (by omega) a _ _ _ _ _ (hr i (by omega) b)

theorem SE.set {T : TypeId → Option TI} {α : Type} (σ : SE T α) (l : List α) (n : Nat) (a : α) : (σ.F l).set n (σ.f a) = σ.F (l.set n a) := by
  rw [σ.hF, σ.hF, List.map_set]

/-- An append onto a slice that is full. -/
theorem WO_appendF (hT : TabOk P T) (σ : SE T α) {ops : Array Oper} {i : Nat} {s : SA} {Q : Exit → SA → Prop} {o : Oper} (hoi : ops[i]? = some o) (hgd : evGuardA s.A ops o = some true) {d : Nat} {ty : TypeId} {pos : String} {af : Array Edge} {g : Option (Nat × Bool)} {x y : Operand} (k : SC) (l l2 : List α)
    (ho : o = ⟨some d, .call ⟨.builtin .append, #[x, y], #[σ.t, σ.t]⟩, ty, pos, af, g⟩) (hk0 : k = .full ∨ k = .fopt) (hx : evA s.A x = .ps k (σ.F l)) (hy : elems s.h (evA s.A y) = some (σ.F l2)) (hne : l2 ≠ [])
    (hroom : room σ.i1.bytes l.length l2.length = true) (hd : Nat.blt d N = true)
    (hk : WO P bad E N ops (i + 1) ⟨(d, .sl d s.c 0 (σ.F (l ++ l2)).length true) :: s.A, s.h.set d ⟨s.c, σ.e, σ.sz, false, false, σ.F (l ++ l2)⟩, s.c + 1⟩ Q) : WO P bad E N ops i s Q := by
  subst ho
  refine WO_one hT hoi hgd (v := .sl d s.c 0 (σ.F (l ++ l2)).length true) (h' := s.h.set d ⟨s.c, σ.e, σ.sz, false, false, σ.F (l ++ l2)⟩) (c' := s.c + 1) ?_ hd hk
  obtain ⟨sz, bt, z, hrow⟩ := σ.row
  have hemp : (σ.F l2).isEmpty = false := by
    cases l2 with
    | nil => exact absurd rfl hne
    | cons a r => simp [σ.hF]
  have hr2 : (l.length + l2.length) * σ.i1.bytes ≤ roomB := by
    have := of_decide_eq_true hroom
    simpa [roomB] using this
  have hall : (σ.F l).all (fun v => v.cells.length == σ.sz) = true := by
    rw [σ.hF, List.all_eq_true]
    intro v hv
    obtain ⟨a, _, rfl⟩ := List.mem_map.1 hv
    simp [σ.hs]
  have hz := σ.hz
  have hp := σ.hp
  have hs1 := σ.all l2
  simp only [evOperF, if_true, evAppend, hrow, σ.he, hy, hx]
  rw [if_pos ⟨hs1, by omega, σ.hb⟩]
  rcases hk0 with rfl | rfl <;>
    simp only [hall, hemp, σ.len, hz, ← σ.app, List.length_append, reduceCtorEq, or_false, false_or, or_true, true_or, and_self, if_true, Bool.false_eq_true, if_false, hr2]

/-- An append of something onto a row of the frame's own. -/
theorem ev_append (σ : SE T α) {ρ : Operand → V} {dr : Bool} {h : Hp} {c : Nat} {d : Nat} {ty : TypeId} {pos : String} {af : Array Edge} {g : Option (Nat × Bool)} {x y : Operand} (b st : Nat) (nl : Bool) (l l2 : List α)
    (hx : ρ x = .sl b st 0 (σ.F l).length true) (hg : h.get b = some ⟨st, σ.e, σ.sz, false, nl, σ.F l⟩) (hy : elems h (ρ y) = some (σ.F l2)) (hne : l2 ≠ []) (hroom : room σ.i1.bytes l.length l2.length = true) :
    evOperF P T dr ρ ⟨some d, .call ⟨.builtin .append, #[x, y], #[σ.t, σ.t]⟩, ty, pos, af, g⟩ h c = some (.sl d c 0 (σ.F (l ++ l2)).length true, (h.erase b).set d ⟨c, σ.e, σ.sz, false, false, σ.F (l ++ l2)⟩, c + 1) := by
  obtain ⟨sz, bt, z, hrow⟩ := σ.row
  have hemp : (σ.F l2).isEmpty = false := by
    cases l2 with
    | nil => exact absurd rfl hne
    | cons a r => simp [σ.hF]
  have hr2 : (l.length + l2.length) * σ.i1.bytes ≤ roomB := by
    have := of_decide_eq_true hroom
    simpa [roomB] using this
  have hs1 := σ.all l2
  have hz := σ.hz
  have hp := σ.hp
  simp only [evOperF, if_true, evAppend, hrow, σ.he, hy, hx, hg]
  rw [if_pos ⟨hs1, by omega, σ.hb⟩]
  simp only [hemp, σ.len, hz, ← σ.app, List.length_append, true_and, and_self, if_true, Bool.false_eq_true, if_false, and_true, hr2]

theorem ev_bslice (σ : SE T α) {ρ : Operand → V} {o : Oper} {h : Hp} {c : Nat} (d : Nat) (l : List α) (he : evOperF P T false ρ o h c = some (.sl d c 0 (l.map σ.f).length true, h.set d ⟨c, σ.e, σ.sz, false, false, l.map σ.f⟩, c + 1)) :
    evOperF P T false ρ o h c = some (.sl d c 0 (σ.F l).length true, h.set d ⟨c, σ.e, σ.sz, false, false, σ.F l⟩, c + 1) := by rw [σ.hF]; exact he

theorem ev_bsliceD (σ : SE T α) {ρ : Operand → V} {o : Oper} {h : Hp} {c : Nat} (l : List α) (he : evOperF P T true ρ o h c = some (.ps .full (l.map σ.f), h, c)) :
    evOperF P T true ρ o h c = some (.ps .full (σ.F l), h, c) := by rw [σ.hF]; exact he

theorem elems_own (σ : SE T α) {h : Hp} {v : V} (b s : Nat) (tip : Bool) (B : Blk) (l : List α) (hx : v = .sl b s 0 (σ.F l).length tip) (hg : h.get b = some B) (hs : B.s = s) (hv : B.var = false) (he : B.es = σ.F l) : elems h v = some (σ.F l) := by
  subst hx
  simp only [elems, hg, hs, hv, he, Nat.zero_add, Nat.le_refl, and_self, if_true, List.drop_zero, List.take_length]

/-- A row that is handed over may be let go. -/
theorem PT_of_GO {g : FuncId} {vs : List V} {b : Nat} {tip : Bool} {e : TypeId} {w : Nat} {es : List V} (h : GO P g [] vs (.sl b 1 0 es.length tip) [(b, ⟨1, e, w, false, true, es⟩)]) : PT P g vs (.ps .opt es) := by
  intro bad w0 xs hbad hl hr
  have hh : HeapRep bad [] w0 noM 1 := ⟨fun b B h => by simp [Hp.get] at h, fun _ _ => rfl, hbad, fun b l β h => by simp [noM] at h, fun b b' l l' β h => by simp [noM] at h⟩
  refine (h bad w0 noM xs hh hl fun i a b => .pure (hr i a b)).mono ?_
  rintro en w' ⟨x, m', rfl, hx, hle, hh'⟩
  have h1 := FzV.sound hh' (b := b) (s := 1) (B := ⟨1, e, w, false, true, es⟩) (by simp [Hp.get]) rfl rfl (.hit tip) hx
  refine ⟨x, rfl, ?_, ?_⟩
  · have h2 := pur_sound 1 (by rfl) h1
    exact h2.mono fun β hβ => ⟨⟨hβ.1, hβ.2.1, fun b l h => by simp [noM] at h⟩, fun _ => rfl⟩
  · exact ⟨Nat.le_refl _, fun b l h => by simp [noM] at h, fun β hβ _ => hle.keep β hβ fun b l h => by simp [noM] at h, hle.size, hle.os, hle.output, hle.tape, fun b l β h => by simp [noM] at h⟩

end
end Go.Mx
