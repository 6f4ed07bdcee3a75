/-
  Bodies of functions; operations on slices that are lists of a kind.
-/
import Derived.Test.YtfmgnboplbgniaaDx3
namespace Go.Mx
set_option linter.unusedVariables false
set_option linter.unusedSimpArgs false

def enumA : Nat → List V → List (Nat × V)
  | _, [] => []
  | k, v :: r => (k, v) :: enumA (k + 1) r

theorem enumA_get : ∀ (vs : List V) (j k : Nat), lkA (enumA j vs) k = if j ≤ k then vs.getD (k - j) .undef else .undef
  | [], j, k => by simp [enumA, lkA]
  | v :: r, j, k => by
    rw [enumA, lkA_cons, enumA_get r]
    by_cases h1 : j = k
    · subst h1; simp
    · rw [if_neg h1]
      by_cases h2 : j ≤ k
      · rw [if_pos h2, if_pos (by omega), show k - j = k - (j + 1) + 1 by omega]; simp
      · rw [if_neg h2, if_neg (by omega)]

theorem enumA_lt : ∀ (vs : List V) (j N : Nat), j + vs.length ≤ N → keysLt N (enumA j vs) = true
  | [], _, _, _ => rfl
  | v :: r, j, N, h => by
    simp only [List.length_cons] at h
    simp only [enumA, keysLt, Bool.and_eq_true]
    exact ⟨by rw [Nat.blt_eq]; omega, enumA_lt r (j + 1) N (by omega)⟩

/-- How a body may end. -/
def EndsA (Q : SA → Prop) : Exit → SA → Prop
  | .normal, s => Q s
  | .ret, s => Q s
  | _, _ => False

section
variable {P : Program} {T : TypeId → Option TI} {bad : Nat → Prop} {E : Ent} {N : Nat}

theorem calls_bodyA {g : FuncId} {fn : Func} {code : Code} (hf : P.funcs[g]? = some fn) (hb : fn.body = some code) {w : World} {m : MM} {c : Nat} {h : Hp} {vs : List V} {xs : Array Value} (hh : HeapRep bad h w m c) (hl : vs.length = xs.size)
    (hr : ∀ i (h1 : i < vs.length) (h2 : i < xs.size), Rep bad w m c vs[i] xs[i]) (hn : Nat.ble vs.length fn.ntmps = true) {Q : SA → Prop} (hc : WA P bad ⟨w, m, c⟩ fn.ntmps code ⟨enumA 0 vs, h, c⟩ (EndsA Q)) {R : Ending → World → Prop}
    (hR : ∀ s a' w' m', Q s → SRA bad fn.ntmps s a' w' m' → Le w m c w' m' s.c → ∃ x, (results fn a'.tmps).run P w' = .ok x w' ∧ R (.returned x) w') : Calls P g xs w R := by
  replace hn : vs.length ≤ fn.ntmps := Nat.le_of_ble_eq_true hn
  have hk := enumA_lt vs 0 fn.ntmps (by omega)
  refine calls_of_wp hf hb (wp_mono (hc _ w m ⟨hk, ⟨⟨?_, fun i => ?_⟩, hh, rfl⟩⟩ (Le.refl _ _ _)) ?_)
  · simp [SA.st, mkT_length]; omega
  · have := (start_rep (w := w) (m := m) (c := c) hl hr fn.ntmps).2 i
    simp only [SA.st]
    rw [mkT_getD hk, enumA_get]
    simp only [Nat.zero_le, if_true, Nat.sub_zero]
    rw [List.getD_eq_getElem?_getD]
    by_cases h1 : i < vs.length
    · rw [List.getD_eq_getElem?_getD, List.getElem?_append_left h1] at this
      exact this
    · rw [List.getElem?_eq_none (by omega)]
      exact .pure (.undef _)
  · rintro e a' w' ⟨s', m', h1, h2, h3⟩
    cases e <;> simp only [EndsA] at h1
    · obtain ⟨x, h4, h5⟩ := hR s' a' w' m' h1 h2 h3
      exact ⟨h2.2.d, x, h4, h5⟩
    · obtain ⟨x, h4, h5⟩ := hR s' a' w' m' h1 h2 h3
      exact ⟨h2.2.d, x, h4, h5⟩

theorem PT_bodyA (hT : TabOk P T) {g : FuncId} {fn : Func} {code : Code} (hf : P.funcs[g]? = some fn) (hb : fn.body = some code) {vs : List V} {r : V} (hn : Nat.ble vs.length fn.ntmps = true)
    (hc : ∀ bad w, WA P bad ⟨w, noM, 0⟩ fn.ntmps code ⟨enumA 0 vs, [], 0⟩ (EndsA fun s => evResults T (s.st fn.ntmps) fn.results.toList = some r ∧ pur 6 r = true)) : PT P g vs r := by
  intro bad w xs hbad hl hr
  refine calls_bodyA hf hb (heap_nil hbad) hl (fun i h1 h2 => .pure (hr i h1 h2)) hn (hc bad w) ?_
  rintro s a' w' m' ⟨h1, h2⟩ hs hle
  obtain ⟨x, h3, h4⟩ := evResults_sound hT hs.2 h1
  refine ⟨x, h3, x, rfl, (pur_sound 6 h2 h4).mono fun β hβ => ⟨⟨hβ.1, hβ.2.1, fun b l h => by simp [noM] at h⟩, fun _ => rfl⟩, ?_⟩
  exact ⟨Nat.le_refl _, fun b l h => by simp [noM] at h, fun β hβ _ => hle.keep β hβ fun b l h => by simp [noM] at h, hle.size, hle.os, hle.output, hle.tape, fun b l β h => by simp [noM] at h⟩

/-- A function to which the blocks hA are handed, and which hands the blocks hr over. -/
def GO (P : Program) (g : FuncId) (hA : Hp) (vs : List V) (r : V) (hr : Hp) : Prop := ∀ bad, CallsA P bad hA 1 g vs r hr 2

theorem GO_bodyA (hT : TabOk P T) {g : FuncId} {fn : Func} {code : Code} (hf : P.funcs[g]? = some fn) (hb : fn.body = some code) {hA hr : Hp} {vs : List V} {r : V} (ds : List Nat) (hn : Nat.ble vs.length fn.ntmps = true)
    (hc : ∀ bad w m, WA P bad ⟨w, m, 1⟩ fn.ntmps code ⟨enumA 0 vs, hA, 1⟩ (EndsA fun s => evResults T (s.st fn.ntmps) fn.results.toList = some r ∧ eraseAll s.h ds = hr ∧ s.c = 2)) : GO P g hA vs r hr := by
  intro bad w m xs hh hl hrep
  refine calls_bodyA hf hb hh hl hrep hn (hc bad w m) ?_
  rintro s a' w' m' ⟨h1, h5, h6⟩ hs hle
  obtain ⟨x, h3, h4⟩ := evResults_sound hT hs.2 h1
  have h7 := hs.2.h
  simp only [SA.st] at h4 h7
  rw [h6] at h4 h7 hle
  obtain ⟨k1, k2⟩ := eraseAll_sound ds h7
  rw [h5] at k2
  exact ⟨x, h3, x, _, rfl, h4.mono k1, hle.trans k1, k2⟩

end

/-- A kind of values: how they stand in the machine. -/
structure TE (α : Type) where
  f : α → V
  F : List α → List V
  hF : ∀ l, F l = l.map f
  sz : Nat
  hs : ∀ a, (f a).cells.length = sz
  h1 : ∀ a, (f a).cells.all V.one = true

/-- A type of slices. -/
structure SE (T : TypeId → Option TI) (α : Type) extends TE α where
  t : TypeId
  e : TypeId
  i0 : TI
  i1 : TI
  ht : T t = some i0
  hd : i0.desc = .slice e
  he : T e = some i1
  hz : i1.size = sz
  hp : 0 < sz
  hb : 0 < i1.bytes

theorem SE.row {T : TypeId → Option TI} {α : Type} (σ : SE T α) : ∃ sz bt z, T σ.t = some ⟨sz, bt, .slice σ.e, z⟩ := by
  have h1 := σ.ht
  have h2 := σ.hd
  revert h1 h2
  generalize σ.i0 = i
  intro h1 h2
  obtain ⟨sz, bt, ds, z⟩ := i
  simp only at h2
  subst h2
  exact ⟨sz, bt, z, h1⟩

theorem TE.len {α : Type} (τ : TE α) (l : List α) : (τ.F l).length = l.length := by rw [τ.hF, List.length_map]

/-- An element. -/
def idx {α : Type} (l : List α) (n : Int) : Option α := bif decide (n < 0) then none else l[n.toNat]?

theorem idx_some {α : Type} {l : List α} {n : Int} {a : α} (h : idx l n = some a) : 0 ≤ n ∧ l[n.toNat]? = some a := by
  unfold idx at h
  by_cases hn : n < 0
  · simp [hn] at h
  · simp only [hn, decide_false, cond_false] at h
    exact ⟨by omega, h⟩

/-- A part of a list. -/
def sub {α : Type} (l : List α) (a b : Int) : Option (List α) := bif decide (0 ≤ a) && decide (a ≤ b) && decide (b ≤ l.length) then some ((l.drop a.toNat).take (b.toNat - a.toNat)) else none

theorem sub_some {α : Type} {l l' : List α} {a b : Int} (h : sub l a b = some l') : 0 ≤ a ∧ a ≤ b ∧ b ≤ l.length ∧ l' = (l.drop a.toNat).take (b.toNat - a.toNat) := by
  unfold sub at h
  cases hc : decide (0 ≤ a) && decide (a ≤ b) && decide (b ≤ l.length) with
  | false => rw [hc] at h; cases h
  | true =>
    rw [hc] at h
    simp only [Bool.and_eq_true, decide_eq_true_eq] at hc
    simp only [cond_true, Option.some.injEq] at h
    exact ⟨hc.1.1, hc.1.2, hc.2, h.symm⟩

section
variable {P : Program} {T : TypeId → Option TI} {bad : Nat → Prop} {E : Ent} {N : Nat} {α : Type}

theorem ev_len (σ : SE T α) {ρ : Operand → V} {dr : Bool} {h : Hp} {c : Nat} {d : Option Tmp} {ty : TypeId} {pos : String} {af : Array Edge} {g : Option (Nat × Bool)} {x : Operand} (k : SC) (l : List α) (hx : ρ x = .ps k (σ.F l)) :
    evOperF P T dr ρ ⟨d, .call ⟨.builtin .len, #[x], #[σ.t]⟩, ty, pos, af, g⟩ h c = some (.p (.int .i64 l.length), h, c) := by
  obtain ⟨sz, bt, z, h1⟩ := σ.row
  simp [evOperF, evLen, h1, hx, lenV, σ.len, goInt]

theorem ev_len_own (σ : SE T α) {ρ : Operand → V} {dr : Bool} {h : Hp} {c : Nat} {d : Option Tmp} {ty : TypeId} {pos : String} {af : Array Edge} {g : Option (Nat × Bool)} {x : Operand} (b s : Nat) (tip : Bool) (B : Blk) (l : List α)
    (hx : ρ x = .sl b s 0 (σ.F l).length tip) (hg : h.get b = some B) (hs : B.s = s) :
    evOperF P T dr ρ ⟨d, .call ⟨.builtin .len, #[x], #[σ.t]⟩, ty, pos, af, g⟩ h c = some (.p (.int .i64 l.length), h, c) := by
  obtain ⟨sz, bt, z, h1⟩ := σ.row
  simp [evOperF, evLen, h1, hx, lenV, σ.len, goInt, hg, hs]

theorem ev_index (σ : SE T α) {ρ : Operand → V} {dr : Bool} {h : Hp} {c : Nat} {d : Option Tmp} {ty : TypeId} {pos : String} {af : Array Edge} {g : Option (Nat × Bool)} {x ix : Operand} (k : SC) (l : List α) (kd : IntKind) (n : Int) {a : α}
    (ha : idx l n = some a) (hk : k ≠ .nil) (hx : ρ x = .ps k (σ.F l)) (hi : ρ ix = .p (.int kd n)) :
    evOperF P T dr ρ ⟨d, .indexAddr σ.t x ix, ty, pos, af, g⟩ h c = some (.ref (σ.f a) 0, h, c) := by
  obtain ⟨hn, ha'⟩ := idx_some ha
  obtain ⟨sz, bt, z, h1⟩ := σ.row
  have h3 : (σ.F l)[n.toNat]? = some (σ.f a) := by rw [σ.hF, List.getElem?_map, ha']; rfl
  simp [evOperF, evIndexAddr, h1, hx, hi, asI, show ¬ n < 0 by omega, σ.he, h3, σ.hs, σ.hz, σ.hp, hk]

theorem ev_index_own (σ : SE T α) {ρ : Operand → V} {dr : Bool} {h : Hp} {c : Nat} {d : Option Tmp} {ty : TypeId} {pos : String} {af : Array Edge} {g : Option (Nat × Bool)} {x ix : Operand} (b s : Nat) (tip : Bool) (B : Blk) (l : List α) (kd : IntKind) (n : Int) {a : α}
    (ha : idx l n = some a) (hx : ρ x = .sl b s 0 (σ.F l).length tip) (hi : ρ ix = .p (.int kd n)) (hg : h.get b = some B) (hs : B.s = s) (hw : B.w = σ.sz) :
    evOperF P T dr ρ ⟨d, .indexAddr σ.t x ix, ty, pos, af, g⟩ h c = some (.box b s n.toNat 0, h, c) := by
  obtain ⟨hn, ha'⟩ := idx_some ha
  obtain ⟨sz, bt, z, h1⟩ := σ.row
  have h3 : n.toNat < l.length := (List.getElem?_eq_some_iff.1 ha').1
  simp [evOperF, evIndexAddr, h1, hx, hi, asI, show ¬ n < 0 by omega, σ.he, σ.hz, hg, hs, hw, σ.len, h3]

theorem evLoad_row (σ : SE T α) {h : Hp} {t : TypeId} (b s : Nat) (B : Blk) (l : List α) (n : Nat) (a : α) (ha : l[n]? = some a) (off : Nat) (hg : h.get b = some B) (hs : B.s = s) (hes : B.es = σ.F l) :
    evLoad T h t (.box b s n off) = evLoad T h t (.ref (σ.f a) off) := by
  have h3 : (σ.F l)[n]? = some (σ.f a) := by rw [σ.hF, List.getElem?_map, ha]; rfl
  simp only [evLoad, elemAt, hg, hs, hes, h3, if_true, Option.map_some]

/-- A load out of a row of the frame's own. -/
theorem ev_load_row (σ : SE T α) {ρ : Operand → V} {dr : Bool} {h : Hp} {c : Nat} {d : Option Tmp} {t ty : TypeId} {pos : String} {af : Array Edge} {g : Option (Nat × Bool)} {x : Operand} (b s : Nat) (B : Blk) (l : List α) (n off : Nat) (a : α) (v : V)
    (ha : l[n]? = some a) (hx : ρ x = .box b s n off) (hg : h.get b = some B) (hs : B.s = s) (hes : B.es = σ.F l) (hv : evLoad T [] t (.ref (σ.f a) off) = some v) :
    evOperF P T dr ρ ⟨d, .load t x, ty, pos, af, g⟩ h c = some (v, h, c) := by
  have : evLoad T h t (.ref (σ.f a) off) = evLoad T [] t (.ref (σ.f a) off) := by simp only [evLoad, elemAt]
  simp only [evOperF, hx, evLoad_row σ b s B l n a ha off hg hs hes, this, hv, Option.map_some]

/-- A part of a slice that stays. -/
theorem ev_slice (σ : SE T α) {ρ : Operand → V} {dr : Bool} {h : Hp} {c : Nat} {d : Option Tmp} {ty : TypeId} {pos : String} {af : Array Edge} {g : Option (Nat × Bool)} {x : Operand} {lo hi mx : Option Operand} (k : SC) (l : List α) (a b : Int) (q : Option Int) (l' : List α) (k' : SC)
    (hl' : sub l a b = some l') (hx : ρ x = .ps k (σ.F l)) (hlo : intOr 0 (lo.map ρ) = some a) (hhi : intOr l.length (hi.map ρ) = some b) (hmx : intOpt (mx.map ρ) = some q) (hq : ∀ y ∈ q, y = b) (hmh : (mx.isSome && hi.isNone) = false)
    (hk : (match k with | .nil => (.nil : SC) | .opt | .fopt => if mx.isSome then .fopt else .opt | _ => if mx.isSome then .full else .any) = k') (hk0 : k ≠ .nil) :
    evOperF P T dr ρ ⟨d, .slice σ.t x lo hi mx, ty, pos, af, g⟩ h c = some (.ps k' (σ.F l'), h, c) := by
  obtain ⟨h1, h2, h3, rfl⟩ := sub_some hl'
  obtain ⟨sz, bt, z, e1⟩ := σ.row
  have e3 : (σ.F l).all (fun v => v.cells.length == σ.i1.size) = true := by
    rw [σ.hF, List.all_eq_true]
    intro v hv
    obtain ⟨a, _, rfl⟩ := List.mem_map.1 hv
    simp [σ.hs, σ.hz]
  have e4 : ((σ.F l).drop a.toNat).take (b.toNat - a.toNat) = σ.F ((l.drop a.toNat).take (b.toNat - a.toNat)) := by
    rw [σ.hF, σ.hF, List.map_take, List.map_drop]
  have e6 : q.isSome = mx.isSome := by
    cases mx with
    | none =>
      simp only [Option.map_none, intOpt, Option.some.injEq] at hmx
      subst hmx; rfl
    | some y =>
      simp only [Option.map_some, intOpt, Option.map_eq_some_iff] at hmx
      obtain ⟨_, _, rfl⟩ := hmx; rfl
  simp only [evOperF, hmh, Bool.false_eq_true, if_false, evSlice, e1, σ.he, hx, lenV, σ.len, hlo, hhi, hmx]
  rw [if_pos ⟨h1, h2, h3, hq⟩]
  simp only [e3, if_true, e4, e6]
  subst hk
  cases k <;> first | exact absurd rfl hk0 | (cases hm : mx.isSome <;> simp)

/-- One at a place that a number names, of values that stand in a row. -/
theorem ev_indexA {ρ : Operand → V} {dr : Bool} {h : Hp} {c : Nat} {d : Option Tmp} {t ty : TypeId} {pos : String} {af : Array Edge} {g : Option (Nat × Bool)} {x ix : Operand} (f : α → V) (l : List α) (kd : IntKind) (n : Int) {a : α} (i0 i1 : TI) (e : TypeId)
    (ha : idx l n = some a) (hx : ρ x = .agg (l.map f)) (hi : ρ ix = .p (.int kd n)) (h0 : T t = some i0) (hd : i0.desc = .array l.length e) (he : T e = some i1) (hz : i1.size = 1) (hag : isAggD i1.desc = false) :
    evOperF P T dr ρ ⟨d, .index t x ix, ty, pos, af, g⟩ h c = some (f a, h, c) := by
  obtain ⟨hn, ha'⟩ := idx_some ha
  obtain ⟨sz, bt, ds, z⟩ := i0
  simp only at hd
  subst hd
  have h3 : n.toNat < l.length := (List.getElem?_eq_some_iff.1 ha').1
  simp [evOperF, evIndex, h0, hx, hi, asI, show ¬ n < 0 by omega, he, hz, partV, hag, h3, ha']
  rw [List.getElem?_eq_getElem h3] at ha'
  have : l[n.toNat] = a := by simpa using ha'
  rw [this]

theorem ev_quo {ρ : Operand → V} {dr : Bool} {h : Hp} {c : Nat} {d : Option Tmp} {t t' ty : TypeId} {pos : String} {af : Array Edge} {g : Option (Nat × Bool)} {x y : Operand} (k : IntKind) (a b : Int) (hb : (b == 0) = false) (hx : ρ x = .p (.int k a)) (hy : ρ y = .p (.int k b)) :
    evOperF P T dr ρ ⟨d, .binOp .quo t x y t', ty, pos, af, g⟩ h c = some (.p (.int k (k.wrap (a.tdiv b))), h, c) := by
  have : b ≠ 0 := by simpa using hb
  simp [evOperF, evBin, hx, hy, toVal, fastBin, this]

theorem ev_rem {ρ : Operand → V} {dr : Bool} {h : Hp} {c : Nat} {d : Option Tmp} {t t' ty : TypeId} {pos : String} {af : Array Edge} {g : Option (Nat × Bool)} {x y : Operand} (k : IntKind) (a b : Int) (hb : (b == 0) = false) (hx : ρ x = .p (.int k a)) (hy : ρ y = .p (.int k b)) :
    evOperF P T dr ρ ⟨d, .binOp .rem t x y t', ty, pos, af, g⟩ h c = some (.p (.int k (a.tmod b)), h, c) := by
  have : b ≠ 0 := by simpa using hb
  simp [evOperF, evBin, hx, hy, toVal, fastBin, this]

/-- One operation that comes to one thing. -/
theorem WO_one (hT : TabOk P T) {ops : Array Oper} {i : Nat} {s : SA} {Q : Exit → SA → Prop} {o : Oper} (ho : ops[i]? = some o) (hg : evGuardA s.A ops o = some true) {v : V} {h' : Hp} {c' : Nat} (he : evOperF P T false (evA s.A) o s.h s.c = some (v, h', c')) (hd : okD N o.dst = true)
    (hk : WO P bad E N ops (i + 1) ⟨putA s.A o.dst v, h', c'⟩ Q) : WO P bad E N ops i s Q :=
  WO_eff _ ho hg (Eff_op hT he hd) fun s' e => by subst e; exact hk

theorem WO_pt {ops : Array Oper} {i : Nat} {s : SA} {Q : Exit → SA → Prop} {o : Oper} (ho : ops[i]? = some o) (hg : evGuardA s.A ops o = some true) {cl : Call} {g : FuncId} (vs : List V) (r : V) (hop : o.op = .call cl) (htg : evTargetA s.A cl = some (g, vs)) (hen : Enters P g) (hpu : vs.all (pur 6) = true)
    (hc : PT P g vs r) (hd : okD N o.dst = true) (hk : WO P bad E N ops (i + 1) ⟨putA s.A o.dst r, s.h, s.c⟩ Q) : WO P bad E N ops i s Q :=
  WO_eff _ ho hg (Eff_pt hop htg hen hpu hc hd) fun s' e => by subst e; exact hk

end
end Go.Mx
