/-
  What is handed to a law, read: a value that reads as data stands for a typed one. Any program.
-/
import Derived.Test.YtfmgnboplbgniaaDx9
import Derived.WalkKit
import Derived.OpenShut
import Derived.ShutString
import Derived.ChangeOld
import Derived.Below
import Derived.SizedLaws
namespace Go.Mx
open Go.ChangeShapes Go.WideShapes Go.RowKit
set_option linter.unusedVariables false

theorem Le.below {w w' : World} {c c' : Nat} {m' : MM} (h : Le w noM c w' m' c') : Below w.heap.size w w' :=
  ⟨h.os, h.tape, h.output, h.size, fun k hk => h.keep k hk fun b l hb => by simp [noM] at hb⟩

def inW (W : World) (β : Nat) : Prop := β < W.heap.size

/-- Whatever is read at type t stands for a value of α. -/
def Opens (P : Program) (W : World) (t : TypeId) {α : Type} (f : α → V) (good : α → Prop) : Prop :=
  ∀ (H : Type) (enc : TypeId × Value → H) (fuel : Nat) (cs : List Value) (x : DataW H × List MemPlace), DataW.trod enc P W 0 (fun _ => true) true fuel t cs = some x →
    ∃ a, good a ∧ (f a).cells.length = cs.length ∧ ∀ i (h1 : i < (f a).cells.length) (h2 : i < cs.length), RepP W (inW W) (f a).cells[i] cs[i]

section
variable {P : Program} {W : World} {t e : TypeId} {α : Type} {f : α → V} {good : α → Prop}

theorem opens_int {k : IntKind} (ht : P.underlying t = some (.int k)) : Opens P W t (fun n => .p (.int k n)) (fun n => (Lit.int k n).wf = true) := by
  intro H enc fuel cs x h
  obtain ⟨n, rfl, _, hw⟩ := DataW.trod_int ht h
  refine ⟨n, hw, rfl, fun i h1 h2 => ?_⟩
  have : i = 0 := by simpa [V.cells] using h1
  subst this
  exact .p _

theorem opens_bool (ht : P.underlying t = some .bool) : Opens P W t (fun b => .p (.bool b)) (fun _ => True) := by
  intro H enc fuel cs x h
  obtain ⟨n, rfl, _⟩ := DataW.trod_bool ht h
  refine ⟨n, trivial, rfl, fun i h1 h2 => ?_⟩
  have : i = 0 := by simpa [V.cells] using h1
  subst this
  exact .p _

theorem opens_string (ht : P.underlying t = some .string) : Opens P W t (fun s => .p (.string s)) (fun s => s.size ≤ maxLen) := by
  intro H enc fuel cs x h
  obtain ⟨n, rfl, _, hw⟩ := DataW.trod_string ht h
  refine ⟨n, hw, rfl, fun i h1 h2 => ?_⟩
  have : i = 0 := by simpa [V.cells] using h1
  subst this
  exact .p _

theorem opens_slice {k : Nat} (ht : P.underlying t = some (.slice e)) (hk : P.cellsOf e = k) (h0 : 0 < k) (hf : ∀ a, (f a).cells.length = k) (ho : Opens P W e f good) :
    Opens P W t (fun l : List α => .ps .opt (l.map f)) (fun l => l.length ≤ maxLen ∧ ∀ a ∈ l, good a) := by
  intro H enc fuel cs x h
  rcases DataW.trod_slice ht h with ⟨rfl, _⟩ | ⟨a, len, cap, elems, rest, n, _, rfl, _, _, hl, hm, hlen, hel, hsp, _⟩
  · refine ⟨[], ⟨by simp, by simp⟩, rfl, fun i h1 h2 => ?_⟩
    have : i = 0 := by simpa [V.cells] using h1
    subst this
    exact .psNil (by simp)
  · rw [hk] at hel hsp
    obtain ⟨hrl, hr⟩ := hsp rfl
    obtain ⟨b, o, q⟩ := a
    -- each element
    have each : ∀ i, i < len → ∃ cs', W.cells? 0 ((⟨b, o, q⟩ : Addr).add (i * k)) k = some cs' ∧ ∃ y, DataW.trod enc P W 0 (fun _ => true) true n e cs' = some y := fun i hi => by
      have := hel i hi
      rw [List.getElem?_eq_getElem (by omega), Option.bind_eq_some_iff] at this
      obtain ⟨cs', h1, h2⟩ := this
      exact ⟨cs', h1, _, h2⟩
    have spot : 0 < cap → q = none := fun hc => by
      have key : ∃ cs', W.cells? 0 ((⟨b, o, q⟩ : Addr).add (0 * k)) k = some cs' := by
        by_cases hz : 0 < len
        · obtain ⟨cs', h1, _⟩ := each 0 hz
          exact ⟨cs', h1⟩
        · have h1 := hr 0 (by omega)
          rw [List.getElem?_eq_getElem (by omega), Option.bind_eq_some_iff] at h1
          obtain ⟨cs', h1, _⟩ := h1
          have : len = 0 := by omega
          subst this
          exact ⟨cs', h1⟩
      obtain ⟨cs', h1⟩ := key
      obtain ⟨_, h2, h3⟩ := World.cells?_some h1
      have h4 := h3 0 h0
      rw [List.getElem?_eq_getElem (by omega)] at h4
      simpa [Addr.add] using World.cell?_spot h4
    have mk : ∀ m, m ≤ len → ∃ l : List α, l.length = m ∧ (∀ a ∈ l, good a) ∧ ∀ i (hi : i < l.length), ∃ cs', W.cells? 0 ((⟨b, o, q⟩ : Addr).add (i * k)) k = some cs' ∧
        ∀ j (h1 : j < (f l[i]).cells.length) (h2 : j < cs'.length), RepP W (inW W) (f l[i]).cells[j] cs'[j] := by
      intro m
      induction m with
      | zero => exact fun _ => ⟨[], rfl, by simp, fun i hi => by simp at hi⟩
      | succ m ih =>
        intro hm'
        obtain ⟨l, hl1, hl2, hl3⟩ := ih (by omega)
        obtain ⟨cs', h1, y, h2⟩ := each m (by omega)
        obtain ⟨a, g1, g2, g3⟩ := ho H enc n cs' y h2
        refine ⟨l ++ [a], by simp [hl1], fun z hz => ?_, fun i hi => ?_⟩
        · rcases List.mem_append.1 hz with hz | hz
          · exact hl2 z hz
          · obtain rfl := List.mem_singleton.1 hz
            exact g1
        · by_cases hi' : i < l.length
          · obtain ⟨c1, c2, c3⟩ := hl3 i hi'
            refine ⟨c1, c2, ?_⟩
            rw [List.getElem_append_left hi']
            exact c3
          · have : i = m := by simp at hi; omega
            subst this
            refine ⟨cs', h1, ?_⟩
            have : (l ++ [a])[i] = a := by simp [← hl1]
            rw [this]
            exact g3
    obtain ⟨l, hl1, hl2, hl3⟩ := mk len (Nat.le_refl _)
    refine ⟨l, ⟨by rw [hl1]; omega, hl2⟩, rfl, fun i h1 h2 => ?_⟩
    have : i = 0 := by simpa [V.cells] using h1
    subst this
    show RepP W (inW W) (.ps .opt (l.map f)) (.slice (some ⟨b, o, q⟩) len cap)
    have hlen' : (l.map f).length = len := by simp [hl1]
    have cell : ∀ i j, i < l.length → j < k → ∃ y, W.cell? ⟨b, o + i * k + j, none⟩ = some y ∧ ∀ (h : i < l.length) (h2 : j < (f l[i]).cells.length), RepP W (inW W) (f l[i]).cells[j] y := by
      intro i j hi hj
      obtain ⟨cs', c1, c2⟩ := hl3 i hi
      obtain ⟨_, c3, c4⟩ := World.cells?_some c1
      have hq : q = none := spot (by omega)
      subst hq
      have c5 := c4 j hj
      rw [Addr.add_lit, Addr.add_lit, List.getElem?_eq_getElem (by omega)] at c5
      exact ⟨_, c5, fun h h2 => c2 j h2 (by omega)⟩
    have := RepP.ps (w := W) (ok := inW W) (c := .opt) (xs := l.map f) (β := b) (o := o) (k := k) (cap := cap) (q := q) (val := fun i j => (W.cell? ⟨b, o + i * k + j, none⟩).getD Go.undef)
      (by simp) (by omega) (by simp) (fun hne => by
        have hp : 0 < l.length := by cases l with
          | nil => exact absurd rfl hne
          | cons _ _ => simp
        obtain ⟨y, hy, _⟩ := cell 0 0 hp h0
        unfold inW
        unfold World.cell? at hy
        simp only at hy
        rcases Nat.lt_or_ge b W.heap.size with h | h
        · exact h
        · rw [Array.getElem?_eq_none h] at hy; simp at hy)
      (fun i hi => by simp [hf])
      (fun i j hi hj => by
        obtain ⟨y, hy, _⟩ := cell i j (by simpa using hi) hj
        rw [hy]; rfl)
      (fun i hi j hj => by
        obtain ⟨y, hy, hr⟩ := cell i j (by simpa using hi) (by rw [← hf (l[i]'(by simpa using hi))]; simpa using hj)
        rw [hy]
        have := hr (by simpa using hi) (by simpa using hj)
        simpa using this)
      (fun hq => by
        rcases Nat.eq_zero_or_pos cap with h | h
        · exact h
        · exact absurd (spot h) hq)
    rw [hlen'] at this
    exact this

/-- One field of a struct. -/
theorem opens_field {fs : Array Field} {H : Type} {enc : TypeId × Value → H} {n : Nat} {cs : List Value} {xs : List (DataW H × List MemPlace)} (hx : xs.length = fs.size)
    (h : ∀ (i : Nat) (fl : Field), fs[i]? = some fl → DataW.trod enc P W 0 (fun _ => true) true n fl.type ((cs.drop fl.offset).take (P.cellsOf fl.type)) = xs[i]?)
    (i : Nat) {fl : Field} (hfl : fs[i]? = some fl) {k o : Nat} (hk : P.cellsOf fl.type = k) (ho' : fl.offset = o) (hl : o + k ≤ cs.length) (ho : Opens P W fl.type f good) :
    ∃ a, good a ∧ (f a).cells.length = k ∧ ∀ j (h1 : j < (f a).cells.length) (h2 : o + j < cs.length), RepP W (inW W) (f a).cells[j] cs[o + j] := by
  have h1 := h i fl hfl
  have hi : i < fs.size := (Array.getElem?_eq_some_iff.1 hfl).1
  rw [List.getElem?_eq_getElem (by omega), hk, ho'] at h1
  obtain ⟨a, g1, g2, g3⟩ := ho H enc n _ _ h1
  have hlen : ((cs.drop o).take k).length = k := by simp; omega
  refine ⟨a, g1, by rw [g2, hlen], fun j h1 h2 => ?_⟩
  have := g3 j h1 (by omega)
  simpa using this

/-- A slice that is handed over. -/
theorem open_slice {H : Type} {enc : TypeId × Value → H} {r : Reach} {b0 : Nat} {v : Value} {d : DataW H} {ps : List MemPlace} {g : List α → V} (ht : P.underlying t = some (.slice e)) (hg : ∀ l, (g l).cells = [g l]) {good' : List α → Prop} (ho : Opens P W t g good')
    (hval : Value.okWide P W r b0 t v) (h : DataW.Trod enc P W 0 (fun _ => true) true t v d ps) : ∃ l, good' l ∧ RepP W (inW W) (g l) v := by
  obtain ⟨a, len, cap, rfl⟩ := okWide_slice ht hval
  obtain ⟨fuel, hf⟩ := h
  obtain ⟨l, h1, h2, h3⟩ := ho H enc fuel _ _ hf
  refine ⟨l, h1, ?_⟩
  have := h3 0 (by rw [hg]; simp) (by simp [Value.cells])
  simpa [hg, Value.cells] using this

end

/-- A call of a pure function, seen from without. -/
theorem calls_of_PT {P : Program} {g : FuncId} {vs : List V} {b : Bool} (h : PT P g vs (.p (.bool b))) (w : World) (xs : Array Value) (hl : vs.length = xs.size) (hr : ∀ i (h1 : i < vs.length) (h2 : i < xs.size), RepP w (inW w) vs[i] xs[i]) :
    Calls P g xs w fun e w' => e = .returned (.bool b) ∧ Below w.heap.size w w' := by
  refine (h (fun _ => False) w xs (fun β h => h.elim) hl (fun i h1 h2 => (hr i h1 h2).mono fun β hβ => ⟨⟨hβ, fun h => h, fun b l hb => by simp [noM] at hb⟩, fun _ => rfl⟩)).mono ?_
  rintro e w' ⟨x, rfl, hx, hle⟩
  exact ⟨by rw [repP_p hx], hle.below⟩

end Go.Mx
