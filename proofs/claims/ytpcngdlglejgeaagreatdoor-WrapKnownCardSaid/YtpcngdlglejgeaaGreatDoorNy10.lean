/-
  The abstract machine's operations are sound: what is built and made; every operation.
-/
import Derived.Test.YtpcngdlglejgeaaGreatDoorNy9
namespace Go.Mx
set_option linter.unusedVariables false
set_option linter.unusedSimpArgs false

section
variable {P : Program} {T : TypeId → Option TI} {w : World} {m : MM} {c : Nat} {bad : Nat → Prop}

theorem foldl_put (l : List Value) (off : Nat) : ∀ (s : Nat) (cs : Array Value), ((l.zipIdx s).foldl (fun (cs : Array Value) (x : Value × Nat) => cs.setIfInBounds (off + x.2) x.1) cs).size = cs.size ∧
    ∀ k, ((l.zipIdx s).foldl (fun (cs : Array Value) (x : Value × Nat) => cs.setIfInBounds (off + x.2) x.1) cs)[k]? =
      if off + s ≤ k ∧ k < off + s + l.length ∧ k < cs.size then l[k - off - s]? else cs[k]? := by
  induction l with
  | nil => intro s cs; exact ⟨rfl, fun k => by simp; intro h1 h2; omega⟩
  | cons v r ih =>
    intro s cs
    obtain ⟨h1, h2⟩ := ih (s + 1) (cs.setIfInBounds (off + s) v)
    simp only [List.zipIdx_cons, List.foldl_cons]
    refine ⟨by rw [h1]; simp, fun k => ?_⟩
    rw [h2]
    simp only [Array.size_setIfInBounds, List.length_cons]
    by_cases hk : k = off + s
    · subst hk
      rw [if_neg (by omega)]
      by_cases hlt : off + s < cs.size
      · rw [if_pos (by omega)]
        simp [hlt]
      · rw [if_neg (by omega)]
        simp [hlt]
    · have e : (cs.setIfInBounds (off + s) v)[k]? = cs[k]? := by rw [Array.getElem?_setIfInBounds_ne (by omega)]
      by_cases h3 : off + (s + 1) ≤ k ∧ k < off + (s + 1) + r.length ∧ k < cs.size
      · rw [if_pos h3, if_pos (by omega), show k - off - s = (k - off - (s + 1)) + 1 by omega, List.getElem?_cons_succ]
      · rw [if_neg h3, if_neg (by omega), e]

/-- Cells, one by one. -/
def RepL (bad : Nat → Prop) (w : World) (m : MM) (c : Nat) (vs : List V) (cs : Array Value) : Prop :=
  vs.length = cs.size ∧ ∀ i (h1 : i < vs.length) (h2 : i < cs.size), Rep bad w m c vs[i] cs[i]

/-- The parts of a build, one by one. -/
def RepPs (bad : Nat → Prop) (w : World) (m : MM) (c : Nat) : List (Nat × V) → List (Nat × Value) → Prop
  | [], [] => True
  | (i, v) :: r, (j, x) :: s => i = j ∧ Rep bad w m c v x ∧ RepPs bad w m c r s
  | _, _ => False

theorem fill_sound {pV pC : Nat → Option (Nat × Nat)} (hp : ∀ i r, pV i = some r → pC i = some r) : ∀ (ps : List (Nat × V)) (qs : List (Nat × Value)) (vs : List V) (cs : Array Value) (vs' : List V), RepPs bad w m c ps qs → RepL bad w m c vs cs →
    (∀ x ∈ ps, x.2.cells.all V.one = true) → fillV pV vs ps = some vs' → ∃ cs', Instr.fill pC cs qs = some cs' ∧ RepL bad w m c vs' cs' := by
  intro ps
  induction ps with
  | nil =>
    intro qs vs cs vs' hq hr _ hf
    cases qs with
    | nil => simp only [fillV, Option.some.injEq] at hf; subst hf; exact ⟨cs, rfl, hr⟩
    | cons y s => exact hq.elim
  | cons x r ih =>
    intro qs vs cs vs' hq hr hone hf
    obtain ⟨i, v⟩ := x
    cases qs with
    | nil => exact hq.elim
    | cons y s =>
      obtain ⟨j, x⟩ := y
      obtain ⟨rfl, hv, hs⟩ := hq
      simp only [fillV] at hf
      split at hf
      · cases hf
      · rename_i off size hpl
        split at hf
        · rename_i hcond
          obtain ⟨hl, hle⟩ := hcond
          obtain ⟨hxs, hxr⟩ := hv.cells (hone _ (List.mem_cons_self ..))
          simp only [Instr.fill, hp _ _ hpl]
          have hsz : x.cells.size = size := by omega
          have hlen := hr.1
          rw [if_neg (by simp [hsz]; omega)]
          refine ih s _ _ vs' hs ?_ (fun z hz => hone z (List.mem_cons_of_mem _ hz)) hf
          have hfold := foldl_put x.cells.toList off 0 cs
          have heq : x.cells.zipIdx.foldl (fun cs (cj : Value × Nat) => cs.setIfInBounds (off + cj.2) cj.1) cs = (x.cells.toList.zipIdx 0).foldl (fun (cs : Array Value) (x : Value × Nat) => cs.setIfInBounds (off + x.2) x.1) cs := by
            rw [← Array.foldl_toList]; simp
          rw [heq]
          refine ⟨by rw [hfold.1]; simp; omega, fun k h1 h2 => ?_⟩
          have hg := hfold.2 k
          rw [Array.getElem?_eq_getElem h2] at hg
          simp only [List.length_append, List.length_take, List.length_drop] at h1
          have hk : k < vs.length := by omega
          have hkc : k < cs.size := by omega
          by_cases hin : off ≤ k ∧ k < off + size
          · rw [if_pos (by simp; omega)] at hg
            have hk2 : k - off < x.cells.size := by omega
            have e2 : (vs.take off ++ v.cells ++ vs.drop (off + size))[k]'(by simp; omega) = v.cells[k - off]'(by omega) := by
              rw [List.getElem_append_left (by simp; omega), List.getElem_append_right (by simp; omega)]
              congr 1
              simp; omega
            rw [e2]
            have := hxr (k - off) (by omega) hk2
            simp only [Nat.sub_zero, Array.getElem?_toList, Array.getElem?_eq_getElem hk2, Option.some.injEq] at hg
            rw [hg]; exact this
          · rw [if_neg (by simp; omega), Array.getElem?_eq_getElem hkc, Option.some.injEq] at hg
            rw [hg]
            have e2 : (vs.take off ++ v.cells ++ vs.drop (off + size))[k]'(by simp; omega) = vs[k] := by
              by_cases h3 : k < off
              · rw [List.getElem_append_left (by simp; omega), List.getElem_append_left (by simp; omega)]; simp
              · rw [List.getElem_append_right (by simp; omega)]
                simp only [List.getElem_drop]
                congr 1
                simp; omega
            rw [e2]; exact hr.2 k hk hkc
        · cases hf

theorem evBuild_sound (hT : TabOk P T) {t : TypeId} {ps : List (Nat × V)} {qs : Array (Nat × Value)} {v : V} (hq : RepPs bad w m c ps qs.toList) (he : evBuild T t ps = some v) :
    ∃ y, (Instr.build t qs).run P w = .ok y w ∧ Rep bad w m c v y := by
  unfold evBuild at he
  split at he
  case isFalse => cases he
  rename_i hone'
  have hone : ∀ x ∈ ps, x.2.cells.all V.one = true := fun x hx => List.all_eq_true.1 hone' x hx
  split at he
  · rename_i size bytes fs z hTt
    obtain ⟨info, zv, hi, hsz, _, hu, hz, hzv, hzs, hfs'⟩ := hT t _ hTt
    simp only [] at hu hzv hzs
    simp only [Option.map_eq_some_iff] at he
    obtain ⟨vs', hf, rfl⟩ := he
    obtain ⟨hcl, hcr⟩ := ofC_cells_rep (w := w) (okOf bad w m) zv
    rw [← hzv] at hcl hcr
    have hfs : ∀ (l : List Field), (∀ f ∈ l, (T f.type).isSome = true) → (l.mapM (m := Sem) fun f => Prod.mk f.offset <$> sizeOf f.type).run P w = .ok (l.map fun f => (f.offset, ((T f.type).map (·.size)).getD 0)) w := by
      intro l
      induction l with
      | nil => intro _; rfl
      | cons f r ih =>
        intro hh
        obtain ⟨k, hk⟩ := Option.isSome_iff_exists.1 (hh f (by simp))
        have h1 := ih fun g hg => hh g (by simp [hg])
        obtain ⟨info', z', hi', hs', _⟩ := hT _ k hk
        simp [List.mapM_cons, sizeOf_run hi', h1, hs', hk]
    have h1 := hfs fs.toList (hfs' fs rfl)
    obtain ⟨cs', h2, h3⟩ := fill_sound (pC := fun x => Option.map (fun f : Field => (f.offset, (Option.map (fun x => x.size) (T f.type)).getD 0)) fs[x]?) (fun i r h => by
        split at h
        · rename_i f hf
          simp only [Option.map_eq_some_iff] at h
          obtain ⟨k, hk, rfl⟩ := h
          simp [hf, hk]
        · cases h) ps qs.toList z.cells zv.cells vs' hq ⟨hcl.symm, fun i a b => .pure (hcr i a b)⟩ hone hf
    exact ⟨_, by simp [Instr.build, zeroValue, typeInfo, hi, hz, run_underlying hu, Array.mapM_eq_mapM_toList, h1, h2], .agg h3.1 h3.2⟩
  · rename_i size bytes len e z hTt
    obtain ⟨info, zv, hi, hsz, _, hu, hz, hzv, hzs, _⟩ := hT t _ hTt
    simp only [] at hu hzv hzs
    split at he
    · rename_i k hTe
      obtain ⟨info', z', hi', hs', _⟩ := hT e k hTe
      simp only [Option.map_eq_some_iff] at he
      obtain ⟨vs', hf, rfl⟩ := he
      obtain ⟨hcl, hcr⟩ := ofC_cells_rep (w := w) (okOf bad w m) zv
      rw [← hzv] at hcl hcr
      obtain ⟨cs', h1, h2⟩ := fill_sound (pC := fun i => some (i * info'.size, info'.size)) (fun i r h => by rw [hs']; exact h) ps qs.toList z.cells zv.cells vs' hq ⟨hcl.symm, fun i a b => .pure (hcr i a b)⟩ hone hf
      exact ⟨_, by simp [Instr.build, zeroValue, typeInfo, hi, hz, run_underlying hu, sizeOf_run hi', h1], .agg h2.1 h2.2⟩
    · cases he
  · cases he

/-- A row of elements, in cells. -/
def RowR (w : World) (ok : Nat → Prop) (sz : Nat) (es : List V) (cs : Array Value) : Prop :=
  cs.size = es.length * sz ∧ (∀ i (h : i < es.length), es[i].cells.length = sz) ∧ ∀ i (h : i < es.length) j (h2 : j < es[i].cells.length), ∃ x, cs[i * sz + j]? = some x ∧ RepP w ok es[i].cells[j] x

def RepPp (w : World) (ok : Nat → Prop) : List (Nat × V) → List (Nat × Value) → Prop
  | [], [] => True
  | (i, v) :: r, (j, x) :: s => i = j ∧ RepP w ok v x ∧ RepPp w ok r s
  | _, _ => False

theorem row_zero {ok : Nat → Prop} {z : V} {zv : Value} {sz : Nat} (hl : zv.cells.size = z.cells.length) (hs : zv.cells.size = sz) (hr : ∀ j (h1 : j < z.cells.length) (h2 : j < zv.cells.size), RepP w ok z.cells[j] zv.cells[j]) (n : Nat) (hp : 0 < sz) :
    RowR w ok sz (List.replicate n z) ((Array.range (n * sz)).map (zv.cells[· % zv.cells.size]!)) := by
  refine ⟨by simp, fun i h => by simp; omega, fun i h j h2 => ?_⟩
  have h3 : j < z.cells.length := by simpa using h2
  have h4 : j < zv.cells.size := by omega
  have h5 : i < n := by simpa using h
  have h6 : i * sz + j < n * sz := by
    have := Nat.mul_le_mul_right sz (show i + 1 ≤ n from h5)
    rw [Nat.add_mul] at this; omega
  have h7 : (i * sz + j) % zv.cells.size = j := by
    rw [hs, Nat.mul_comm, Nat.mul_add_mod]; exact Nat.mod_eq_of_lt (by omega)
  refine ⟨zv.cells[j], ?_, by simpa using hr j h3 h4⟩
  simp [h6, h7, h4]

theorem setParts_sound {ok : Nat → Prop} {sz : Nat} : ∀ (ps : List (Nat × V)) (qs : List (Nat × Value)) (es : List V) (cs : Array Value) (es' : List V), RepPp w ok ps qs → RowR w ok sz es cs → setParts sz es ps = some es' →
    ∃ cs', Instr.fill (fun i => some (i * sz, sz)) cs qs = some cs' ∧ RowR w ok sz es' cs' ∧ es'.length = es.length := by
  intro ps
  induction ps with
  | nil =>
    intro qs es cs es' hq hr hf
    cases qs with
    | nil => simp only [setParts, Option.some.injEq] at hf; subst hf; exact ⟨cs, rfl, hr, rfl⟩
    | cons y s => exact hq.elim
  | cons x r ih =>
    intro qs es cs es' hq hr hf
    obtain ⟨i, v⟩ := x
    cases qs with
    | nil => exact hq.elim
    | cons y s =>
      obtain ⟨j, x⟩ := y
      obtain ⟨rfl, hv, hs⟩ := hq
      simp only [setParts] at hf
      split at hf
      · rename_i hcond
        obtain ⟨hi, hl, hone⟩ := hcond
        obtain ⟨hxs, hxr⟩ := hv.cells hone
        obtain ⟨hsz, hwd, hall⟩ := hr
        have hx : x.cells.size = sz := by omega
        have hfit : i * sz + sz ≤ cs.size := by
          have := Nat.mul_le_mul_right sz (show i + 1 ≤ es.length from hi)
          rw [Nat.add_mul] at this; omega
        simp only [Instr.fill]
        rw [if_neg (by simp [hx]; omega)]
        have hfold := foldl_put x.cells.toList (i * sz) 0 cs
        have heq : x.cells.zipIdx.foldl (fun cs (cj : Value × Nat) => cs.setIfInBounds (i * sz + cj.2) cj.1) cs = (x.cells.toList.zipIdx 0).foldl (fun (cs : Array Value) (x : Value × Nat) => cs.setIfInBounds (i * sz + x.2) x.1) cs := by
          rw [← Array.foldl_toList]; simp
        rw [heq]
        have hnew : RowR w ok sz (es.set i v) ((x.cells.toList.zipIdx 0).foldl (fun (cs : Array Value) (x : Value × Nat) => cs.setIfInBounds (i * sz + x.2) x.1) cs) := by
          refine ⟨by rw [hfold.1]; simp [hsz], fun k hk => ?_, fun k hk q hq => ?_⟩
          · rw [List.getElem_set]
            split
            · exact hl
            · exact hwd _ _
          · have hk' : k < es.length := by simpa using hk
            rw [hfold.2]
            by_cases hki : i = k
            · subst hki
              simp only [List.getElem_set_self] at hq ⊢
              have hq2 : q < x.cells.size := by omega
              rw [if_pos (by simp; omega)]
              refine ⟨x.cells[q], ?_, hxr q hq hq2⟩
              rw [show i * sz + q - i * sz - 0 = q by omega]
              simp [hq2]
            · simp only [List.getElem_set_ne hki] at hq ⊢
              have hqw : q < sz := by rw [← hwd k hk']; exact hq
              have := mul_apart (a := k) (b := i) (w := sz) (i := q) (j := 0) (n := sz) (k := 0) hqw (by omega) (Ne.symm hki)
              rw [if_neg (by simp; omega)]
              exact hall k hk' q hq
        obtain ⟨cs', h1, h2, h3⟩ := ih s _ _ es' hs hnew hf
        exact ⟨cs', h1, h2, by simpa using h3⟩
      · cases hf

def RowQ (R : V → Value → Prop) (sz : Nat) (es : List V) (cs : Array Value) : Prop :=
  cs.size = es.length * sz ∧ (∀ i (h : i < es.length), es[i].cells.length = sz) ∧ ∀ i (h : i < es.length) j (h2 : j < es[i].cells.length), ∃ x, cs[i * sz + j]? = some x ∧ R es[i].cells[j] x

def RepQp (R : V → Value → Prop) : List (Nat × V) → List (Nat × Value) → Prop
  | [], [] => True
  | (i, v) :: r, (j, x) :: s => i = j ∧ R v x ∧ RepQp R r s
  | _, _ => False

theorem rowQ_zero {R : V → Value → Prop} {z : V} {zv : Value} {sz : Nat} (hl : zv.cells.size = z.cells.length) (hs : zv.cells.size = sz) (hr : ∀ j (h1 : j < z.cells.length) (h2 : j < zv.cells.size), R z.cells[j] zv.cells[j]) (n : Nat) (hp : 0 < sz) :
    RowQ R sz (List.replicate n z) ((Array.range (n * sz)).map (zv.cells[· % zv.cells.size]!)) := by
  refine ⟨by simp, fun i h => by simp; omega, fun i h j h2 => ?_⟩
  have h3 : j < z.cells.length := by simpa using h2
  have h4 : j < zv.cells.size := by omega
  have h5 : i < n := by simpa using h
  have h6 : i * sz + j < n * sz := by
    have := Nat.mul_le_mul_right sz (show i + 1 ≤ n from h5)
    rw [Nat.add_mul] at this; omega
  have h7 : (i * sz + j) % zv.cells.size = j := by
    rw [hs, Nat.mul_comm, Nat.mul_add_mod]; exact Nat.mod_eq_of_lt (by omega)
  refine ⟨zv.cells[j], ?_, by simpa using hr j h3 h4⟩
  simp [h6, h7, h4]

theorem setPartsQ_sound {R : V → Value → Prop} (hR : ∀ {v : V} {x : Value}, R v x → v.cells.all V.one = true → x.cells.size = v.cells.length ∧ ∀ k (a : k < v.cells.length) (b : k < x.cells.size), R v.cells[k] x.cells[k]) {sz : Nat} : ∀ (ps : List (Nat × V)) (qs : List (Nat × Value)) (es : List V) (cs : Array Value) (es' : List V), RepQp R ps qs → RowQ R sz es cs → setParts sz es ps = some es' →
    ∃ cs', Instr.fill (fun i => some (i * sz, sz)) cs qs = some cs' ∧ RowQ R sz es' cs' ∧ es'.length = es.length := by
  intro ps
  induction ps with
  | nil =>
    intro qs es cs es' hq hr hf
    cases qs with
    | nil => simp only [setParts, Option.some.injEq] at hf; subst hf; exact ⟨cs, rfl, hr, rfl⟩
    | cons y s => exact hq.elim
  | cons x r ih =>
    intro qs es cs es' hq hr hf
    obtain ⟨i, v⟩ := x
    cases qs with
    | nil => exact hq.elim
    | cons y s =>
      obtain ⟨j, x⟩ := y
      obtain ⟨rfl, hv, hs⟩ := hq
      simp only [setParts] at hf
      split at hf
      · rename_i hcond
        obtain ⟨hi, hl, hone⟩ := hcond
        obtain ⟨hxs, hxr⟩ := hR hv hone
        obtain ⟨hsz, hwd, hall⟩ := hr
        have hx : x.cells.size = sz := by omega
        have hfit : i * sz + sz ≤ cs.size := by
          have := Nat.mul_le_mul_right sz (show i + 1 ≤ es.length from hi)
          rw [Nat.add_mul] at this; omega
        simp only [Instr.fill]
        rw [if_neg (by simp [hx]; omega)]
        have hfold := foldl_put x.cells.toList (i * sz) 0 cs
        have heq : x.cells.zipIdx.foldl (fun cs (cj : Value × Nat) => cs.setIfInBounds (i * sz + cj.2) cj.1) cs = (x.cells.toList.zipIdx 0).foldl (fun (cs : Array Value) (x : Value × Nat) => cs.setIfInBounds (i * sz + x.2) x.1) cs := by
          rw [← Array.foldl_toList]; simp
        rw [heq]
        have hnew : RowQ R sz (es.set i v) ((x.cells.toList.zipIdx 0).foldl (fun (cs : Array Value) (x : Value × Nat) => cs.setIfInBounds (i * sz + x.2) x.1) cs) := by
          refine ⟨by rw [hfold.1]; simp [hsz], fun k hk => ?_, fun k hk q hq => ?_⟩
          · rw [List.getElem_set]
            split
            · exact hl
            · exact hwd _ _
          · have hk' : k < es.length := by simpa using hk
            rw [hfold.2]
            by_cases hki : i = k
            · subst hki
              simp only [List.getElem_set_self] at hq ⊢
              have hq2 : q < x.cells.size := by omega
              rw [if_pos (by simp; omega)]
              refine ⟨x.cells[q], ?_, hxr q hq hq2⟩
              rw [show i * sz + q - i * sz - 0 = q by omega]
              simp [hq2]
            · simp only [List.getElem_set_ne hki] at hq ⊢
              have hqw : q < sz := by rw [← hwd k hk']; exact hq
              have := mul_apart (a := k) (b := i) (w := sz) (i := q) (j := 0) (n := sz) (k := 0) hqw (by omega) (Ne.symm hki)
              rw [if_neg (by simp; omega)]
              exact hall k hk' q hq
        obtain ⟨cs', h1, h2, h3⟩ := ih s _ _ es' hs hnew hf
        exact ⟨cs', h1, h2, by simpa using h3⟩
      · cases hf

theorem RepPp.mono {w' : World} {ok ok' : Nat → Prop} (h : ∀ v x, RepP w ok v x → RepP w' ok' v x) : ∀ {ps : List (Nat × V)} {qs : List (Nat × Value)}, RepPp w ok ps qs → RepPp w' ok' ps qs
  | [], [], _ => trivial
  | (_, _) :: _, (_, _) :: _, ⟨a, b, d⟩ => ⟨a, h _ _ b, RepPp.mono h d⟩
  | [], _ :: _, hh => hh.elim
  | _ :: _, [], hh => hh.elim

theorem RepPs.split : ∀ {ps : List (Nat × V)} {qs : List (Nat × Value)}, RepPs bad w m c ps qs → ps.map (·.1) = qs.map (·.1) ∧ (ps.map (·.2)).length = (qs.map (·.2)).length ∧
    ∀ i (h1 : i < (ps.map (·.2)).length) (h2 : i < (qs.map (·.2)).length), Rep bad w m c (ps.map (·.2))[i] (qs.map (·.2))[i]
  | [], [], _ => ⟨rfl, rfl, fun i h1 _ => by simp at h1⟩
  | (i, v) :: r, (j, x) :: s, ⟨a, b, d⟩ => by
    obtain ⟨h1, h2, h3⟩ := RepPs.split d
    refine ⟨by simp [a]; simpa using h1, by simpa using h2, fun k a1 a2 => ?_⟩
    cases k with
    | zero => exact b
    | succ k => exact h3 k (by simpa using a1) (by simpa using a2)
  | [], _ :: _, h => h.elim
  | _ :: _, [], h => h.elim

theorem RepPs.toQ : ∀ {ps : List (Nat × V)} {qs : List (Nat × Value)}, RepPs bad w m c ps qs → RepQp (Rep bad w m c) ps qs
  | [], [], _ => trivial
  | (i, v) :: r, (j, x) :: s, ⟨a, b, d⟩ => ⟨a, b, RepPs.toQ d⟩
  | [], _ :: _, h => h.elim
  | _ :: _, [], h => h.elim

theorem RepPp.join {ok : Nat → Prop} : ∀ {is : List Nat} {vs : List V} {qs : List (Nat × Value)}, is = qs.map (·.1) → vs.length = qs.length → (∀ i (h1 : i < vs.length) (h2 : i < (qs.map (·.2)).length), RepP w ok vs[i] (qs.map (·.2))[i]) → RepPp w ok (is.zip vs) qs
  | _, [], [], rfl, _, _ => trivial
  | _, v :: r, (j, x) :: s, rfl, hl, hr => by
    refine ⟨rfl, hr 0 (by simp) (by simp), RepPp.join rfl (by simpa using hl) fun i h1 h2 => ?_⟩
    exact hr (i + 1) (by simpa using h1) (by simpa using h2)
  | _, [], _ :: _, _, hl, _ => by simp at hl
  | _, _ :: _, [], _, hl, _ => by simp at hl

theorem RepPs.pure {n : Nat} : ∀ {ps : List (Nat × V)} {qs : List (Nat × Value)}, RepPs bad w m c ps qs → (∀ x ∈ ps, pur n x.2 = true) → RepPp w (okOf bad w m) ps qs
  | [], [], _, _ => trivial
  | (i, v) :: r, (j, x) :: s, ⟨a, b, d⟩, h => ⟨a, pur_sound n (h (i, v) (List.mem_cons_self ..)) b, RepPs.pure d fun y hy => h y (List.mem_cons_of_mem _ hy)⟩
  | [], _ :: _, h, _ => h.elim
  | _ :: _, [], h, _ => h.elim

theorem rowR_opt {w : World} {ok : Nat → Prop} {sz : Nat} {es : List V} {cs : Array Value} (h : RowR w ok sz es cs) : RowR w ok sz (es.map optV) cs := by
  have e : es.map optV = es := List.map_id es
  rw [e]; exact h

theorem evBuildSlice_sound (hT : TabOk P T) {h : Hp} (hh : HeapRep bad h w m c) {dst : Tmp} {draw : Bool} {t : TypeId} {len : Nat} {ps : List (Nat × V)} {qs : Array (Nat × Value)} (hq : RepPs bad w m c ps qs.toList) {v : V} {h' : Hp} {c' : Nat}
    (he : evBuildSlice T dst draw t len ps h c = some (v, h', c')) :
    ∃ y w' m', (Instr.buildSlice t len qs).run P w = .ok y w' ∧ Rep bad w' m' c' v y ∧ Le w m c w' m' c' ∧ HeapRep bad h' w' m' c' := by
  unfold evBuildSlice at he
  split at he
  · rename_i _ _ e _ hTt
    obtain ⟨_, _, _, _, _, hu, _⟩ := hT t _ hTt
    simp only [] at hu
    split at he
    · rename_i i hTe
      obtain ⟨info, z, hi, hsz, _, _, hz, hzv, hzs, _⟩ := hT e i hTe
      split at he
      · rename_i hcond
        obtain ⟨h24, hpos⟩ := hcond
        have hz0 : ∀ ok, RowR w ok i.size (List.replicate len i.zero) ((Array.range (len * i.size)).map (z.cells[· % z.cells.size]!)) := fun ok => by
          obtain ⟨hcl, hcr⟩ := ofC_cells_rep (w := w) ok z
          rw [← hzv] at hcl hcr
          exact row_zero hcl hzs hcr len hpos
        have hrun : ∀ cs', Instr.fill (fun k => some (k * i.size, i.size)) ((Array.range (len * i.size)).map (z.cells[· % z.cells.size]!)) qs.toList = some cs' →
            (Instr.buildSlice t len qs).run P w = .ok (.slice (some ⟨w.heap.size, 0, none⟩) len len) (w.alloc (.cells cs' e)) := fun cs' hf => by
          by_cases hn : len * i.size = 0
          · rw [hn] at hf
            simp only [Array.range_zero', Array.map_empty] at hf
            simp [Instr.buildSlice, run_underlying hu, sizeOf_run hi, hsz, hn, hf, newRow, Array.range_zero']
          · simp [Instr.buildSlice, run_underlying hu, sizeOf_run hi, hsz, hn, zeroValue, typeInfo, hi, hz, hf, newRow, Nat.not_lt.2 h24]
        have hmax : len ≤ maxLen := by
          have : len ≤ len * i.size := Nat.le_mul_of_pos_right _ hpos
          unfold maxLen; omega
        have hfr : ∀ cs' : Array Value, (w.alloc (.cells cs' e)).heap[w.heap.size]? = some (.cells cs' e (0, 0)) := fun cs' => by simpa using heap_alloc_new w (.cells cs' e)
        split at he
        · -- it stays
          split at he
          · rename_i hp
            split at he
            · rename_i es hs
              simp only [Option.some.injEq, Prod.mk.injEq] at he
              obtain ⟨rfl, rfl, rfl⟩ := he
              have hq' := hq.pure (n := 4) fun x hx => List.all_eq_true.1 hp x hx
              obtain ⟨cs', h1, hrow, h5⟩ := setParts_sound ps qs.toList _ _ es hq' (hz0 _) hs
              obtain ⟨h2, h3, h4⟩ := rowR_opt hrow
              obtain ⟨le1, hh1⟩ := hh.world (w' := w.alloc (.cells cs' e)) (fun β hβ => alloc_old w _ β hβ) (by simp) rfl rfl rfl
              refine ⟨_, _, m, hrun cs' h1, .pure ?_, le1, hh1⟩
              have hlen : (es.map optV).length = len := by simpa using h5
              have hok : okOf bad (w.alloc (.cells cs' e)) m w.heap.size := ⟨by simp, fun hb => Nat.lt_irrefl _ (hh.lt _ hb), fun b l hb hl => Nat.lt_irrefl _ (hh.blk_lt hb hl)⟩
              have := RepP.ps (w := w.alloc (.cells cs' e)) (ok := okOf bad (w.alloc (.cells cs' e)) m) (c := .full) (xs := es.map optV) (β := w.heap.size) (o := 0) (k := i.size) (cap := len) (val := fun a b => (cs'[a * i.size + b]?).getD Go.undef)
                (by simp) (by omega) (fun _ => by omega) (fun _ => hok) h3 (fun a b ha hb => by
                  obtain ⟨y, hy, _⟩ := h4 a ha b (by rw [h3]; exact hb)
                  rw [cell_of_row _ _ _ _ _ _ (hfr cs'), Nat.zero_add, hy]; rfl) (fun a ha b hb => by
                  obtain ⟨y, hy, hr⟩ := h4 a ha b hb
                  rw [hy]
                  exact hr.mono fun β hβ => ⟨(le1.hok hβ).1, le1.cell hβ⟩) (q := none) (by simp)
              rw [hlen] at this
              exact this
            · cases he
          · split at he
            · rename_i es hs
              simp only [Option.some.injEq, Prod.mk.injEq] at he
              obtain ⟨rfl, rfl, rfl⟩ := he
              have hzr : RowQ (Rep bad w m c) i.size (List.replicate len i.zero) ((Array.range (len * i.size)).map (z.cells[· % z.cells.size]!)) := by
                obtain ⟨h1, h2, h3⟩ := hz0 (okOf bad w m)
                exact ⟨h1, h2, fun a ha b hb => by obtain ⟨y, hy, hr⟩ := h3 a ha b hb; exact ⟨y, hy, .pure hr⟩⟩
              obtain ⟨cs', f1, hrow, f5⟩ := setPartsQ_sound (fun hv h1 => hv.cells h1) ps qs.toList _ _ es hq.toQ hzr hs
              obtain ⟨f2, f3, f4⟩ := hrow
              have hlen : es.length = len := by simpa using f5
              have hnew := hh.new dst (w' := w.alloc (.cells cs' e)) (fun β hβ => alloc_old w _ β hβ) rfl rfl rfl (β0 := w.heap.size) (Nat.le_refl _) (e := e) (wd := i.size) (var := true) (es := es) (cs := cs') (hfr cs')
                (by omega) f3 (fun a ha b hb => by
                  obtain ⟨y, hy, hr⟩ := f4 a ha b hb
                  exact ⟨y, hy, by simpa [RepC] using hr⟩)
              exact ⟨_, _, _, hrun cs' f1, rep_slNew (Nat.le_refl _) (by rw [f2, hlen]) hmax, hnew.1, hnew.2⟩
            · cases he
        · split at he
          · rename_i vs h1 hm
            split at he
            · rename_i es hs
              simp only [Option.some.injEq, Prod.mk.injEq] at he
              obtain ⟨rfl, rfl, rfl⟩ := he
              obtain ⟨q1, q2, q3⟩ := hq.split
              obtain ⟨m1, le1, hh1, hl1, hp1⟩ := mapH_sound (frz_sound 4) (ps.map (·.2)) h vs h1 m (qs.toList.map (·.2)) hh hm q2 q3
              have hq' : RepPp w (okOf bad w m1) ((ps.map (·.1)).zip vs) qs.toList := RepPp.join q1 (by rw [hl1, q2]; simp) hp1
              obtain ⟨cs', f1, hrow, f5⟩ := setParts_sound _ qs.toList _ _ es hq' (hz0 _) hs
              obtain ⟨f2, f3, f4⟩ := rowR_opt hrow
              have hlen : (es.map optV).length = len := by simpa using f5
              have hnew := hh1.new dst (w' := w.alloc (.cells cs' e)) (fun β hβ => alloc_old w _ β hβ) rfl rfl rfl (β0 := w.heap.size) (Nat.le_refl _) (e := e) (wd := i.size) (var := false) (es := es.map optV) (cs := cs') (hfr cs')
                (by omega) f3 (fun a ha b hb => by
                  obtain ⟨y, hy, hr⟩ := f4 a ha b hb
                  exact ⟨y, hy, hr⟩)
              exact ⟨_, _, _, hrun cs' f1, rep_slNew (Nat.le_refl _) (by rw [f2, hlen]) hmax, le1.trans hnew.1, hnew.2⟩
            · cases he
          · cases he
      · cases he
    · cases he
  · cases he

theorem over_length {es xs : List V} {off : Nat} (h : off + xs.length ≤ es.length) : (over es off xs).length = es.length := by
  unfold over; simp; omega

/-- Elements of a row are written over. -/
theorem HeapRep.overwrite {h : Hp} (hh : HeapRep bad h w m c) {b : Nat} {B : Blk} (hg : h.get b = some B) {l : Loc} {β : Nat} (hm : m b = some l) (hblk : l.blk = some β) (hlw : l.w = B.w) {cs : Array Value} (hcs : w.heap[β]? = some (.cells cs B.T (0, 0)))
    (hcsz : cs.size = l.n) (hle : B.es.length * B.w ≤ l.n) (hwd : ∀ i (h : i < B.es.length), B.es[i].cells.length = B.w) (hall : ∀ i (h : i < B.es.length) j (h2 : j < B.es[i].cells.length), ∃ x, cs[i * B.w + j]? = some x ∧ RepC bad B.var w m c B.es[i].cells[j] x)
    (hv : B.var = false) {xs : List V} {off : Nat} (hfit : off + xs.length ≤ B.es.length) {vs : List Value} (hvl : vs.length = xs.length * B.w) (hxw : ∀ k (hk : k < xs.length), xs[k].cells.length = B.w)
    (hxr : ∀ k (hk : k < xs.length) j (h2 : j < xs[k].cells.length), ∃ x, vs[k * B.w + j]? = some x ∧ RepP w (okOf bad w m) xs[k].cells[j] x) (hone : ∀ u ∈ vs, u.oneCell' = true) :
    ∃ w', (storeCells ⟨β, off * l.w, none⟩ vs).run P w = .ok () w' ∧ Le w m c w' m c ∧ HeapRep bad (h.set b { B with es := over B.es off xs }) w' m c := by
  have hmul : off * B.w + xs.length * B.w ≤ B.es.length * B.w := by rw [← Nat.add_mul]; exact Nat.mul_le_mul_right _ hfit
  have hst := run_storeCells_at (P := P) β (off * l.w) B.T vs 0 cs w hcs (by rw [hlw, hvl]; omega) hone
  simp only [Nat.add_zero] at hst
  have hfull : off * l.w + vs.length ≤ cs.toList.length := by rw [hlw, hvl]; simp; omega
  let cs' := (cs.toList.take (off * l.w) ++ vs ++ cs.toList.drop (off * l.w + vs.length)).toArray
  have hget : ∀ p, cs'[p]? = if p < off * l.w then cs[p]? else if p < off * l.w + vs.length then vs[p - off * l.w]? else cs[p]? := fun p => by
    have := splice_get cs.toList vs (off * l.w) p hfull
    simpa [cs'] using this
  have hcs' : cs'.size = cs.size := by simp [cs']; simp at hfull; omega
  have hbnd : ∀ {p q N : Nat}, p < N → q < B.w → p * B.w + q < N * B.w := fun {p q N} h1 h2 => by
    have := Nat.mul_le_mul_right B.w (show p + 1 ≤ N from h1)
    rw [Nat.add_mul] at this; omega
  have hin : ∀ k (hk : k < (over B.es off xs).length), (over B.es off xs)[k].cells.length = B.w ∧ ∀ j (h2 : j < (over B.es off xs)[k].cells.length), ∃ x, cs'[k * B.w + j]? = some x ∧ RepC bad B.var w m c (over B.es off xs)[k].cells[j] x := by
    intro k hk
    have hk0 : k < B.es.length := by rw [over_length hfit] at hk; exact hk
    by_cases h1 : k < off
    · have e : (over B.es off xs)[k] = B.es[k] := by
        simp only [over]
        rw [List.getElem_append_left (by simp; omega), List.getElem_append_left (by simp; omega)]
        simp
      rw [e]
      refine ⟨hwd k hk0, fun j hj => ?_⟩
      obtain ⟨y, hy, hr⟩ := hall k hk0 j hj
      refine ⟨y, ?_, hr⟩
      rw [hwd] at hj
      rw [hget, if_pos (by rw [hlw]; exact hbnd h1 hj)]
      exact hy
    · by_cases h2 : k < off + xs.length
      · have e : (over B.es off xs)[k] = xs[k - off]'(by omega) := by
          simp only [over]
          rw [List.getElem_append_left (by simp; omega), List.getElem_append_right (by simp; omega)]
          congr 1
          simp; omega
        rw [e]
        refine ⟨hxw _ _, fun j hj => ?_⟩
        obtain ⟨y, hy, hr⟩ := hxr (k - off) (by omega) j hj
        refine ⟨y, ?_, by simpa [RepC, hv] using hr⟩
        rw [hxw] at hj
        have h3 : off * B.w ≤ k * B.w := Nat.mul_le_mul_right _ (by omega)
        have h4 : k * B.w + j < (off + xs.length) * B.w := hbnd h2 hj
        have h5 : (k - off) * B.w = k * B.w - off * B.w := Nat.sub_mul _ _ _
        rw [hget, hlw, hvl, if_neg (by omega), if_pos (by rw [Nat.add_mul] at h4; exact h4)]
        rw [show k * B.w + j - off * B.w = (k - off) * B.w + j by omega]
        exact hy
      · have e : (over B.es off xs)[k] = B.es[k] := by
          simp only [over]
          rw [List.getElem_append_right (by simp; omega)]
          simp only [List.getElem_drop]
          congr 1
          simp; omega
        rw [e]
        refine ⟨hwd k hk0, fun j hj => ?_⟩
        obtain ⟨y, hy, hr⟩ := hall k hk0 j hj
        refine ⟨y, ?_, hr⟩
        have h3 : (off + xs.length) * B.w ≤ k * B.w := Nat.mul_le_mul_right _ (by omega)
        rw [Nat.add_mul] at h3
        rw [hget, hlw, hvl, if_neg (by omega), if_neg (by omega)]
        exact hy
  have key := hh.write hg hm hblk hcs (cs' := cs') hcs' (es := over B.es off xs) (over_length hfit) (fun k hk => (hin k hk).1) (fun k hk j hj => (hin k hk).2 j hj)
  exact ⟨_, hst, key.1, key.2⟩

theorem evCopy_sound (hT : TabOk P T) {h : Hp} (hh : HeapRep bad h w m c) {t t2 ty : TypeId} {dv xv v : V} {d x : Value} (hd : Rep bad w m c dv d) (hx : Rep bad w m c xv x) {h' : Hp} {c' : Nat} (he : evCopy T t dv xv h c = some (v, h', c')) :
    ∃ y w' m', (Builtin.copy_ #[t, t2] ty #[d, x]).run P w = .ok y w' ∧ Rep bad w' m' c' v y ∧ Le w m c w' m' c' ∧ HeapRep bad h' w' m' c' := by
  unfold evCopy at he
  split at he
  · rename_i _ _ e _ hTt
    obtain ⟨_, _, _, _, _, hu, _⟩ := hT t _ hTt
    simp only [] at hu
    split at he
    · rename_i i b s off len tip xs hTe hel
      obtain ⟨info, z, hi, hsz, _⟩ := hT e i hTe
      split at he
      · rename_i B hg
        split at he
        · rename_i hcond
          obtain ⟨hs, hvar, hnl, hw, hfit, hxall⟩ := hcond
          simp only [Option.some.injEq, Prod.mk.injEq] at he
          obtain ⟨rfl, rfl, rfl⟩ := he
          obtain ⟨l, β, cs, hm, hls, hlw, hlT, hblk, hcs, hcsz, hle', hwd, hall⟩ := rep_block hh hg hs hnl
          have hxw : ∀ k (hk : k < xs.length), xs[k].cells.length = i.size ∧ xs[k].cells.all V.one = true := fun k hk => by
            have := List.all_eq_true.1 hxall _ (List.getElem_mem hk)
            simpa using this
          cases hd with
          | pure hr => cases hr
          | sl hs' hx' hb =>
            rcases hb l hm hls with ⟨h5, _⟩ | ⟨β', cap, h5, rfl, _⟩
            · rw [hblk] at h5; cases h5
            · rw [hblk] at h5; cases h5
              generalize hn : min xs.length len = n
              have hn1 : n ≤ xs.length := by omega
              have hn2 : n ≤ len := by omega
              have htl : (xs.take n).length = n := by simp; omega
              -- what is copied
              obtain ⟨vs, hvl, hone, hfirst, hxr⟩ : ∃ vs : List Value, vs.length = n * i.size ∧ (∀ u ∈ vs, u.oneCell' = true) ∧
                  (∃ sLen, (Builtin.lenOf x).run P w = .ok sLen w ∧ Nat.min sLen len = n ∧ (Builtin.firstCells info.size n x).run P w = .ok vs.toArray w) ∧
                  ∀ k (hk : k < (xs.take n).length) j (h2 : j < (xs.take n)[k].cells.length), ∃ u, vs[k * i.size + j]? = some u ∧ RepP w (okOf bad w m) (xs.take n)[k].cells[j] u := by
                rcases elems_sound hh hx hel with ⟨rfl, rfl⟩ | ⟨rfl, a, cp, rfl⟩ | ⟨β2, o2, k2, cap2, val, rfl, hw2, hc2, hr2⟩
                · obtain rfl : n = 0 := by simp at hn; omega
                  exact ⟨[], by simp, by simp, ⟨0, rfl, by simp, run_firstCells_none _ _ _ _ _⟩, fun k hk => by simp at hk⟩
                · obtain rfl : n = 0 := by simp at hn; omega
                  exact ⟨[], by simp, by simp, ⟨0, rfl, by simp, run_firstCells_some w _ _ _ _ _ [] (by simp) (by simp)⟩, fun k hk => by simp at hk⟩
                · refine ⟨flatC n i.size val, flatC_length _ _ _, fun u hu => ?_, ⟨xs.length, rfl, hn, ?_⟩, fun k hk j hj => ?_⟩
                  · obtain ⟨p, q, hp, hq, rfl⟩ := flatC_mem hu
                    have hp' : p < xs.length := by omega
                    have hq' : q < xs[p].cells.length := by rw [(hxw p hp').1]; exact hq
                    exact (hr2 p hp' q hq').one (List.all_eq_true.1 (hxw p hp').2 _ (List.getElem_mem hq'))
                  · refine run_firstCells_some w _ _ _ _ _ _ (by rw [hsz]; exact flatC_length _ _ _) fun j u hu => ?_
                    obtain ⟨a1, a2, rfl, a4⟩ := flatC_ix val hu
                    have a1' : j / i.size < xs.length := by omega
                    have hk2 : k2 = i.size := by rw [← hw2 _ a1']; exact (hxw _ a1').1
                    subst hk2
                    have := hc2 _ _ a1' a2
                    rw [Addr.add_lit]
                    rwa [show o2 + j = o2 + j / i.size * i.size + j % i.size by omega]
                  · have hk' : k < xs.length := by simp at hk; omega
                    have e : (xs.take n)[k] = xs[k] := by simp
                    have hj' : j < xs[k].cells.length := by rw [← e]; exact hj
                    have hj2 : j < i.size := by rw [← (hxw k hk').1]; exact hj'
                    refine ⟨_, flatC_get n i.size val k j (by simp at hk; omega) hj2, ?_⟩
                    have := hr2 k hk' j hj'
                    simpa [e] using this
              obtain ⟨sLen, hlen, hmin, hfirst⟩ := hfirst
              rw [hw] at hwd hall
              obtain ⟨w', hst, hle2, hh2⟩ := hh.overwrite (P := P) hg hm hblk (by rw [hlw]) hcs hcsz hle' (by rw [hw]; exact hwd) (by rw [hw]; exact hall) hvar (xs := xs.take n) (off := off) (by rw [htl]; omega) (vs := vs) (by rw [htl, hw]; exact hvl)
                (fun k hk => by rw [hw]; have : k < xs.length := by { simp at hk; omega }; simpa using (hxw k this).1) (by rw [hw]; exact hxr) hone
              refine ⟨goInt (n : Nat), w', m, ?_, .pure (.p _), hle2, hh2⟩
              simp [Builtin.copy_, run_underlying hu, sizeOf_run hi, hlen, hmin, hfirst, hst]
        · cases he
      · cases he
    · cases he
  · cases he

theorem evClear_sound (hT : TabOk P T) {h : Hp} (hh : HeapRep bad h w m c) {t ty : TypeId} {xv v : V} {x : Value} (hx : Rep bad w m c xv x) {h' : Hp} {c' : Nat} (he : evClear T t xv h c = some (v, h', c')) :
    ∃ y w' m', (Builtin.clear_ #[t] ty #[x]).run P w = .ok y w' ∧ Rep bad w' m' c' v y ∧ Le w m c w' m' c' ∧ HeapRep bad h' w' m' c' := by
  unfold evClear at he
  split at he
  · rename_i _ _ e _ hTt
    obtain ⟨_, _, _, _, _, hu, _⟩ := hT t _ hTt
    simp only [] at hu
    split at he
    · rename_i i b s off len tip hTe
      obtain ⟨info, z, hi, hsz, hby, _, hz, hzv, hzs, _⟩ := hT e i hTe
      split at he
      · rename_i B hg
        split at he
        · rename_i hcond
          obtain ⟨hs, hvar, hnl, hw, hfit, hpos, hz1⟩ := hcond
          simp only [Option.some.injEq, Prod.mk.injEq] at he
          obtain ⟨rfl, rfl, rfl⟩ := he
          obtain ⟨l, β, cs, hm, hls, hlw, hlT, hblk, hcs, hcsz, hle', hwd, hall⟩ := rep_block hh hg hs hnl
          obtain ⟨hcl, hcr⟩ := ofC_cells_rep (w := w) (okOf bad w m) z
          rw [← hzv] at hcl hcr
          obtain ⟨f2, f3, f4⟩ := row_zero (w := w) hcl hzs hcr len hpos
          cases hx with
          | pure hr => cases hr
          | sl hs' hx' hb =>
            rcases hb l hm hls with ⟨h5, _⟩ | ⟨β', cap, h5, rfl, _⟩
            · rw [hblk] at h5; cases h5
            · rw [hblk] at h5; cases h5
              have hzl : i.zero.cells.length = i.size := by rw [← hcl, hzs]
              rw [hw] at hwd hall
              let vs := (Builtin.zeroCells z.cells len).toList
              have hvs : vs = ((Array.range (len * i.size)).map (z.cells[· % z.cells.size]!)).toList := by simp [vs, Builtin.zeroCells, hzs]
              have hone : ∀ u ∈ vs, u.oneCell' = true := fun u hu => by
                rw [hvs] at hu
                simp only [Array.toList_map, Array.toList_range, List.mem_map, List.mem_range] at hu
                obtain ⟨q, hq, rfl⟩ := hu
                have hsz0 : 0 < z.cells.size := by omega
                have hq' : q % z.cells.size < z.cells.size := Nat.mod_lt _ hsz0
                have h3 := hcr (q % z.cells.size) (by omega) hq'
                have h4 : i.zero.cells[q % z.cells.size].one = true := List.all_eq_true.1 hz1 _ (List.getElem_mem _)
                rw [getElem!_pos z.cells _ hq']
                exact h3.one h4
              obtain ⟨w', hst, hle2, hh2⟩ := hh.overwrite (P := P) hg hm hblk (by rw [hlw]) hcs hcsz hle' (by rw [hw]; exact hwd) (by rw [hw]; exact hall) hvar (xs := List.replicate len i.zero) (off := off) (by simpa using hfit) (vs := vs)
                (by rw [hvs, hw]; simp) (fun k hk => by rw [hw]; simpa using hzl) (fun k hk j hj => by
                  obtain ⟨y, hy, hr⟩ := f4 k hk j hj
                  refine ⟨y, ?_, hr⟩
                  rw [hvs, hw, Array.getElem?_toList]
                  exact hy) hone
              refine ⟨.tuple #[], w', m, ?_, .pure (.tup rfl fun i h1 => by simp at h1), hle2, hh2⟩
              rcases Nat.eq_zero_or_pos len with h0 | h0
              · subst h0
                have hv0 : vs = [] := by rw [hvs]; simp
                rw [hv0] at hst
                have : w' = w := by
                  simp [storeCells] at hst
                  exact hst.symm
                subst this
                simp [Builtin.clear_, run_underlying hu]
              · obtain ⟨n, rfl⟩ : ∃ n, len = n + 1 := ⟨len - 1, by omega⟩
                simp [Builtin.clear_, run_underlying hu, zeroValue, typeInfo, hi, hz, vs] at hst ⊢
                rw [hst]; rfl
        · cases he
      · cases he
    · cases he
  · cases he

theorem evMake_sound (hT : TabOk P T) {h : Hp} (hh : HeapRep bad h w m c) {dst : Tmp} {t : TypeId} {lv kv v : V} {l k : Value} (hl : Rep bad w m c lv l) (hk : Rep bad w m c kv k) {h' : Hp} {c' : Nat} (he : evMake T dst t lv kv h c = some (v, h', c')) :
    ∃ y w' m', (Instr.makeSlice t l k).run P w = .ok y w' ∧ Rep bad w' m' c' v y ∧ Le w m c w' m' c' ∧ HeapRep bad h' w' m' c' := by
  unfold evMake at he
  split at he
  · rename_i _ _ e _ hTt
    obtain ⟨_, _, _, _, _, hu, _⟩ := hT t _ hTt
    simp only [] at hu
    split at he
    · rename_i i n q hTe hln hkq
      obtain ⟨info, z, hi, hsz, hby, _, hz, hzv, hzs, _⟩ := hT e i hTe
      obtain ⟨k1, rfl⟩ := asI_spec hln
      obtain ⟨k2, rfl⟩ := asI_spec hkq
      obtain rfl := rep_p hl
      obtain rfl := rep_p hk
      split at he
      · rename_i hcond
        obtain ⟨h0, hnq, hpb, hps, hroom⟩ := hcond
        simp only [Option.some.injEq, Prod.mk.injEq] at he
        obtain ⟨rfl, rfl, rfl⟩ := he
        have hmax := roomB_max hpb hroom
        have hrb := hroom
        unfold roomB at hrb
        have hq63 : q ≤ 9223372036854775807 := by unfold maxLen at hmax; omega
        have hmul : (info.bytes : Int) * q ≤ 281474976710656 := by
          have e1 : ((q.toNat * i.bytes : Nat) : Int) = (info.bytes : Int) * q := by
            rw [hby, Int.natCast_mul, Int.toNat_of_nonneg (by omega), Int.mul_comm]
          omega
        have hrun := run_make (P := P) w t e info z hu hi hz k1 k2 n q h0 hnq hmul hq63
        rw [hsz] at hrun
        obtain ⟨hcl, hcr⟩ := ofC_cells_rep (w := w) (okOf bad w m) z
        rw [← hzv] at hcl hcr
        obtain ⟨f2, f3, f4⟩ := row_zero (w := w) hcl hzs hcr q.toNat hps
        have hle : n.toNat ≤ q.toNat := by omega
        have hnew := hh.new dst (w' := w.alloc (.cells (madeCells z.cells (q.toNat * i.size)) e)) (fun β hβ => alloc_old w _ β hβ) rfl rfl rfl (β0 := w.heap.size) (Nat.le_refl _) (e := e) (wd := i.size) (var := false)
          (es := List.replicate n.toNat i.zero) (cs := madeCells z.cells (q.toNat * i.size)) (by simpa using heap_alloc_new w (.cells (madeCells z.cells (q.toNat * i.size)) e))
          (by rw [size_madeCells]; simpa using Nat.mul_le_mul_right _ hle) (fun a ha => by
            have := f3 a (by simp at ha ⊢; omega)
            simpa using this) (fun a ha b hb => by
            obtain ⟨y, hy, hr⟩ := f4 a (by simp at ha ⊢; omega) b (by simpa using hb)
            exact ⟨y, hy, by simpa [RepC] using hr⟩)
        exact ⟨_, _, _, hrun, rep_slNew hle (by rw [size_madeCells]) hmax, hnew.1, hnew.2⟩
      · cases he
    · cases he
  · cases he

/-- An entry and what stands for it. -/
def EntR (R : V → Value → Prop) (e : V) (x : MapEntry) : Prop := ∃ k v, e = .tup [.p (.int .i64 k), v] ∧ x.key = .int .i64 k ∧ R v x.val

theorem lookD_spec {R : V → Value → Prop} (k : Int) : ∀ (es : List V) (l : List MapEntry) (i : Nat), es.length = l.length → (∀ j (h1 : j < es.length) (h2 : j < l.length), EntR R es[j] l[j]) →
    (lookD es k = none ∧ Instr.findNow (.int .i64) (.int .i64 k) l i = some none ∧ ∀ x, putD es k x = es ++ [.tup [.p (.int .i64 k), x]]) ∨
    (∃ v j e, lookD es k = some v ∧ Instr.findNow (.int .i64) (.int .i64 k) l i = some (some (i + j, e.val)) ∧ l[j]? = some e ∧ e.key = .int .i64 k ∧ R v e.val ∧ ∀ x, putD es k x = es.set j (.tup [.p (.int .i64 k), x]))
  | [], [], i, _, _ => .inl ⟨rfl, rfl, fun _ => rfl⟩
  | [], _ :: _, i, h, _ => by simp at h
  | _ :: _, [], i, h, _ => by simp at h
  | a :: es, e :: l, i, hl, hr => by
    obtain ⟨q, v, h1, h2, h3⟩ := hr 0 (by simp) (by simp)
    simp only [List.getElem_cons_zero] at h1 h2 h3
    subst h1
    by_cases c : k = q
    · subst c
      refine .inr ⟨v, 0, e, by simp [lookD], ?_, by simp, h2, h3, fun x => by simp [putD]⟩
      have hs : Instr.sameNow (.int .i64) (.int .i64 k) e.key = some true := by rw [h2]; simp [Instr.sameNow]
      simp only [Instr.findNow, hs]; rfl
    · have hs : Instr.sameNow (.int .i64) (.int .i64 k) e.key = some false := by rw [h2]; simp [Instr.sameNow, c]
      rcases lookD_spec k es l (i + 1) (by simpa using hl) (fun j a b => hr (j + 1) (by simp; omega) (by simp; omega)) with ⟨p1, p2, p3⟩ | ⟨v', j, e', p1, p2, p3, p4, p5, p6⟩
      · exact .inl ⟨by simp [lookD, c, p1], by simp only [Instr.findNow, hs, p2], fun x => by simp [putD, c, p3]⟩
      · refine .inr ⟨v', j + 1, e', by simp [lookD, c, p1], ?_, by simpa using p3, p4, p5, fun x => by simp [putD, c, p6]⟩
        simp only [Instr.findNow, hs, p2]
        congr 3; omega

theorem mapET_spec (hT : TabOk P T) {t et : TypeId} (h : mapET T t = some et) : ∃ kt, P.underlying t = some (.map kt et) ∧ P.underlying kt = some (.int .i64) := by
  unfold mapET at h
  split at h
  · rename_i _ _ kt et' _ hTt
    obtain ⟨_, _, _, _, _, hu, _⟩ := hT t _ hTt
    split at h
    · rename_i _ _ _ hTk
      obtain ⟨_, _, _, _, _, hu2, _⟩ := hT kt _ hTk
      simp only [Option.some.injEq] at h
      subst h
      exact ⟨kt, hu, hu2⟩
    · cases h
  · cases h

theorem rep_map {h : Hp} (hh : HeapRep bad h w m c) {b s : Nat} {B : Blk} (hg : h.get b = some B) (hs : B.s = s) (hn : B.nl = true) (hw : B.w = 0) {x : Value} (hr : Rep bad w m c (.mp b s) x) :
    ∃ l β ents clk, m b = some l ∧ l.blk = some β ∧ x = .map (some β) ∧ w.heap[β]? = some (.map ents clk) ∧ B.var = true ∧ B.es.length = ents.size ∧ ∀ i (h : i < B.es.length) (h2 : i < ents.toList.length), EntR (Rep bad w m c) B.es[i] ents.toList[i] := by
  obtain ⟨l, hm, h1, _, _, _, h2⟩ := hh.get b B hg
  cases hr with
  | pure hr => cases hr
  | mp hs' hx hb =>
    obtain ⟨β, hβ, rfl⟩ := hb l hm (h1.trans hs)
    rcases h2 with ⟨_, h3, _⟩ | ⟨_, _, h4, β', ents, clk, h5, h6, h7, h8⟩ | ⟨h3, _⟩
    · rw [hβ] at h3; cases h3
    · rw [hβ] at h5; cases h5
      exact ⟨l, β, ents, clk, hm, hβ, rfl, h6, h4, h7, fun i a b => by simpa [EntR] using h8 i a (by simpa using b)⟩
    · have := h3 hn; omega

theorem evLookup_sound (hT : TabOk P T) {h : Hp} (hh : HeapRep bad h w m c) {t : TypeId} {mv kv v : V} {mx kx : Value} (hm : Rep bad w m c mv mx) (hk : Rep bad w m c kv kx) (he : evLookup T h t mv kv = some v) :
    ∃ y, (Instr.lookup t mx kx false).run P w = .ok y w ∧ Rep bad w m c v y := by
  unfold evLookup at he
  split at he
  · rename_i et b s k het
    obtain ⟨kt, hu, hku⟩ := mapET_spec hT het
    obtain rfl := rep_p hk
    split at he
    · rename_i B hg
      split at he
      · rename_i hcond
        obtain ⟨l, β, ents, clk, hml, hβ, rfl, hobj, _, hlen, hents⟩ := rep_map hh hg hcond.1 hcond.2.1 hcond.2.2 hm
        have hck : ∀ em, (Instr.checkKey em 10000 kt (.int .i64 k)).run P w = .ok () w := fun em => MapKept.run_checkKey hku (by simp [MapKept.IsKey]) em 9999
        rcases lookD_spec k B.es ents.toList 0 (by simpa using hlen) hents with ⟨p1, p2, _⟩ | ⟨v', j, e', p1, p2, p3, p4, p5, _⟩
        · rw [p1] at he
          simp only [Option.map_eq_some_iff] at he
          obtain ⟨i, hTe, rfl⟩ := he
          obtain ⟨info, z, hi, hsz, _, _, hz, hzv, hzs, _⟩ := hT et i hTe
          refine ⟨z, ?_, by rw [hzv]; exact .pure (repC _ _)⟩
          simp [Instr.lookup, run_underlying hu, MapKept.run_getObj_map hobj, hck, MapKept.run_findKey hku p2, zeroValue, typeInfo, hi, hz]
        · rw [p1] at he
          simp only [Option.some.injEq] at he
          subst he
          refine ⟨e'.val, ?_, p5⟩
          simp [Instr.lookup, run_underlying hu, MapKept.run_getObj_map hobj, hck, MapKept.run_findKey hku p2]
      · cases he
    · cases he
  · cases he

theorem evMapUpd_sound (hT : TabOk P T) {h : Hp} (hh : HeapRep bad h w m c) {t : TypeId} {mv kv xv : V} {mx kx x : Value} (hm : Rep bad w m c mv mx) (hk : Rep bad w m c kv kx) (hx : Rep bad w m c xv x) {h' : Hp} (he : evMapUpd T h t mv kv xv = some h') :
    ∃ w', (Instr.mapUpdate t mx kx x).run P w = .ok () w' ∧ Le w m c w' m c ∧ HeapRep bad h' w' m c := by
  unfold evMapUpd at he
  split at he
  · rename_i et b s k het
    obtain ⟨kt, hu, hku⟩ := mapET_spec hT het
    obtain rfl := rep_p hk
    split at he
    · rename_i B hg
      split at he
      · rename_i hcond
        simp only [Option.some.injEq] at he
        subst he
        obtain ⟨l, β, ents, clk, hml, hβ, rfl, hobj, hvar, hlen, hents⟩ := rep_map hh hg hcond.1 hcond.2.1 hcond.2.2 hm
        have hck : (Instr.checkKey false 10000 kt (.int .i64 k)).run P w = .ok () w := MapKept.run_checkKey hku (by simp [MapKept.IsKey]) false 9999
        have hent : ∀ i (h : i < B.es.length) (h2 : i < ents.size), EntR (Rep bad w m c) B.es[i] ents[i] := fun i a b => by
          have h9 := hents i a (by simpa using b)
          rwa [Array.getElem_toList] at h9
        rcases lookD_spec k B.es ents.toList 0 (by simpa using hlen) hents with ⟨p1, p2, p3⟩ | ⟨v', j, e', p1, p2, p3, p4, p5, p6⟩
        · have key := hh.writeM hg hml hβ hobj (ents' := ents.push { key := .int .i64 k, val := x, born := clk }) (clk' := clk + 1) hcond.2.1 hcond.2.2 hvar (es := putD B.es k xv) (by rw [p3]; simp [hlen]) (fun i a b => by
            rw [p3] at a
            simp only [p3]
            by_cases hi : i < B.es.length
            · have hi2 : i < ents.size := by omega
              rw [List.getElem_append_left hi, Array.getElem_push_lt hi2]
              exact hent i hi hi2
            · have e1 : i = B.es.length := by simp at a; omega
              subst e1
              refine ⟨k, xv, by simp, ?_, ?_⟩
              · simp only [hlen, Array.getElem_push_eq]
              · simp only [hlen, Array.getElem_push_eq]; exact hx)
          refine ⟨_, ?_, key.1, key.2⟩
          simp [Instr.mapUpdate, run_underlying hu, MapKept.run_getObj_map hobj, hck, MapKept.run_findKey hku p2, MapKept.run_setObj_map _ hobj]
        · have hj : ents[j]? = some e' := by simpa using p3
          have hjlt : j < ents.size := (Array.getElem?_eq_some_iff.1 hj).1
          have key := hh.writeM hg hml hβ hobj (ents' := ents.modify j fun e => { e with key := .int .i64 k, val := x }) (clk' := clk) hcond.2.1 hcond.2.2 hvar (es := putD B.es k xv) (by rw [p6]; simp [hlen]) (fun i a b => by
            rw [p6] at a
            simp only [p6]
            have hi : i < B.es.length := by simpa using a
            have hi2 : i < ents.size := by omega
            rw [List.getElem_set]
            by_cases hji : j = i
            · subst hji
              rw [if_pos rfl]
              refine ⟨k, xv, rfl, ?_, ?_⟩
              · simp [Array.getElem_modify]
              · simpa [Array.getElem_modify] using hx
            · rw [if_neg hji]
              have e2 : (ents.modify j fun e => { e with key := .int .i64 k, val := x })[i]'b = ents[i] := by rw [Array.getElem_modify, if_neg hji]
              rw [e2]
              exact hent i hi hi2)
          refine ⟨_, ?_, key.1, key.2⟩
          have hkey : ∀ w, (Instr.keyThatStays (.int .i64 k) (.int .i64 k)).run P w = .ok (.int .i64 k) w := fun w => by simp [Instr.keyThatStays, Instr.sameBits]
          rw [Nat.zero_add] at p2
          simp [Instr.mapUpdate, run_underlying hu, MapKept.run_getObj_map hobj, hck, MapKept.run_findKey hku p2, hj, p4, hkey, MapKept.run_setObj_map _ hobj]
      · cases he
    · cases he
  · cases he

end
end Go.Mx
