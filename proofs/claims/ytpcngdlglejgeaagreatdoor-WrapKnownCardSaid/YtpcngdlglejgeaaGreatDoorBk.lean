/-
  The function that slices.Backward gives, ranged over: a round for each number, from the last on.
-/
import Derived.Test.YtpcngdlglejgeaaGreatDoorNy22
import Derived.Test.YtpcngdlglejgeaaGreatDoorChecked
import Derived.KernelRfl
import Derived.IntWalk
namespace Go.Proofs.YtpcngdlglejgeaaGreatDoor.back
open Go.Mx
set_option linter.unusedVariables false
set_option maxRecDepth 100000

theorem tabs : tabAll Tryz.prog = true := by kernel_rfl
theorem hT : TabOk Tryz.prog (tabRowM Tryz.prog) := tabRowM_ok tabs

theorem RepT_weak {bad : Nat → Prop} {w : World} {m : MM} {c : Nat} {t t2 : List V} {tmps : Array Value} (h : RepT bad w m c t tmps) (hl : t2.length = t.length) (he : ∀ i, t2.getD i .undef = t.getD i .undef ∨ t2.getD i .undef = .undef) : RepT bad w m c t2 tmps :=
  ⟨hl.trans h.1, fun i => by
    rcases he i with e | e
    · rw [e]; exact h.2 i
    · rw [e]; exact .pure (.undef _)⟩

theorem noM_of {bad : Nat → Prop} {w : World} {m : MM} {c : Nat} (h : HeapRep bad [] w m c) : m = noM := funext fun b => h.non b rfl

theorem operIn_plain {P : Program} {o : Oper} {a : Act} {w : World} {K : Act → World → Prop} {Q : Exit → Act → World → Prop} {r : Next} {w' : World} (hro : (execOp a.eval o).run P w = .ok r w') (hnd : ∀ c, o.op ≠ .defer c) (hr : (∃ x, r = .value x ∧ K (a.put o.dst x) w') ∨ (r = .skip ∧ K (a.put o.dst undef) w')) : o.wpIn Fence.wide 0 P a w K Q := by
  refine ⟨fun _ _ => trivial, ?_⟩
  rw [Oper.semAt_eq _ _ _ hnd, hro]
  rcases hr with ⟨x, rfl, h⟩ | ⟨rfl, h⟩
  · exact h
  · exact h

section
variable {P : Program} {T : TypeId → Option TI} {bad : Nat → Prop}

/-- What holds on the way: the slots, the world reached from W, what the second slot holds. -/
structure Here (W : World) (cap : Value) (t : List V) (a : Act) (w : World) : Prop where
  s : SR 0 (fun _ => False) ⟨t, [], 0⟩ a w noM
  d : a.defers = []
  c : a.tmps.getD 1 Go.undef = cap
  le : Le W noM 0 w noM 0

theorem put_getD {a : Act} {d : Option Tmp} {x : Value} {k : Nat} (h : d ≠ some k) : (a.put d x).tmps.getD k Go.undef = a.tmps.getD k Go.undef := by
  cases d with
  | none => rfl
  | some q =>
    have : q ≠ k := fun e => h (by rw [e])
    simp [Act.put, Array.getD_eq_getD_getElem?, this]

/-- One operation of a list, where the function's own calls are in sight. -/
theorem stepIn (hT : TabOk P T) {W : World} {cap : Value} {ops : Array Oper} {i : Nat} {l : List Nat} {o : Oper} {op : Op} {d : Option Tmp} (ho : ops[i]? = some o) (hop : o.op = op) (hd : o.dst = d) (hg : o.guard = none) (hnd : ∀ c, op ≠ .defer c) (h1 : d ≠ some 1) {t : List V} {a : Act} {w : World} (hs : Here W cap t a w) {v : V}
    (he : evOper P T false t o [] 0 = some (v, [], 0))
    {Q : Exit → Act → World → Prop} (hk : ∀ a' w', Here W cap (putT t d v) a' w' → wpOpsIn Fence.wide 0 P ops Q l a' w') : wpOpsIn Fence.wide 0 P ops Q (i :: l) a w := by
  subst hop hd
  have hguard : Region.wanted o (yielded ops a.tmps) = true := evGuard_sound hs.s.t (by simp [evGuard, hg])
  simp only [wpOpsIn, ho, hguard, if_true]
  obtain ⟨r, w2, m2, hrun, hr, le2, hh2⟩ := evOper_sound hT hs.s.h hs.s.t he
  obtain rfl := noM_of hh2
  have pd : ∀ (d : Option Tmp) (x : Value), (a.put d x).defers = a.defers := fun d x => by cases d <;> rfl
  refine operIn_plain hrun hnd ?_
  rcases hr with ⟨x, rfl, hv⟩ | ⟨rfl, hv⟩
  · exact .inl ⟨x, rfl, hk _ w2 ⟨hs.s.put le2 hh2 hv o.dst, (pd _ _).trans hs.d, (put_getD h1).trans hs.c, hs.le.trans le2⟩⟩
  · exact .inr ⟨rfl, hk _ w2 ⟨hs.s.put le2 hh2 (by rw [hv]; exact .pure (.p _)) o.dst, (pd _ _).trans hs.d, (put_getD h1).trans hs.c, hs.le.trans le2⟩⟩

theorem opsIn_at {F : Fence} {n : Nat} {ops : Array Oper} {Q : Exit → Act → World → Prop} {i : Nat} {l : List Nat} {o : Oper} {a : Act} {w : World} (ho : ops[i]? = some o) (hw : Region.wanted o (yielded ops a.tmps) = true) (h : o.wpIn F n P a w (wpOpsIn F n P ops Q l) Q) : wpOpsIn F n P ops Q (i :: l) a w := by
  simp only [wpOpsIn, ho, hw, if_true]
  exact h

theorem rep_p {w : World} {m : MM} {c : Nat} {x y : Value} (h : Rep bad w m c (.p x) y) : y = x := by
  cases h with
  | pure h => cases h; rfl

end

def ops1 : Code → Array Oper
  | .region _ ops _ => ops
  | _ => #[]
def fs : Code → Code
  | .seq a _ => a
  | .block _ a => a
  | .loop a => a
  | c => c
def sn : Code → Code
  | .seq _ b => b
  | c => c
noncomputable def code : Code := (Tryz.f80.body).getD .skip
noncomputable def rd : Code := fs (fs (sn code))
noncomputable def R0 : Array Oper := ops1 (fs code)
noncomputable def R1 : Array Oper := ops1 (fs (fs rd))
noncomputable def R3 : Array Oper := ops1 (fs (fs (fs (sn rd))))
noncomputable def R2 : Array Oper := ops1 (sn (sn rd))

theorem body_eq : Tryz.f80.body = some (.seq (.region 0 R0 false) (.block 0 (.loop (.seq (.seq (.region 1 R1 false) (.cond (.tmp 8) .skip (.exit 0))) (.seq (.block 1 (.seq (.region 3 R3 false) (.cond (.tmp 18) .ret .skip))) (.region 2 R2 false)))))) := by kernel_rfl

def yv (l : Nat) : V := .p (.func (.yield l) #[] #[])
def cv (k : SC) (ns : List Int) : V := .ref (.ps k (ns.map fun x => V.p (.int .i64 x))) 0
def iv (z : Int) : V := .p (.int .i64 z)

def t0 (l : Nat) (k : SC) (ns : List Int) (x : V) : List V := yv l :: cv k ns :: V.undef :: x :: List.replicate 15 V.undef

def is31 : Option TI → Bool
  | some ⟨1, _, .slice 3, _⟩ => true
  | _ => false

theorem T31 : ∃ b z, tabRowM Tryz.prog 31 = some ⟨1, b, .slice 3, z⟩ := by
  have h : is31 (tabRowM Tryz.prog 31) = true := by kernel_rfl
  unfold is31 at h
  split at h
  · rename_i b z e; exact ⟨b, z, e⟩
  · cases h

def is3 : Option TI → Bool
  | some ⟨1, _, .int _, _⟩ => true
  | _ => false

theorem T3 : ∃ b k z, tabRowM Tryz.prog 3 = some ⟨1, b, .int k, z⟩ := by
  have h : is3 (tabRowM Tryz.prog 3) = true := by kernel_rfl
  unfold is3 at h
  split at h
  · rename_i b k z e; exact ⟨b, k, z, e⟩
  · cases h

noncomputable def o (R : Array Oper) (i : Nat) : Oper := (R[i]?).getD ⟨none, .move (.const Go.undef), 0, "", #[], none⟩

theorem ld_slice {t : List V} {q : Oper} {a : Operand} {k : SC} {xs : List V} (hop : q.op = .load 31 a) (ha : evalO t a = .ref (.ps k xs) 0) : evOper Tryz.prog (tabRowM Tryz.prog) false t q [] 0 = some (.ps k xs, [], 0) := by
  obtain ⟨b, z, e⟩ := T31
  simp [evOper, evOperF, hop, evLoad, ha, e, elemAt, isAggD, partV, V.cells]

theorem ld_int {t : List V} {q : Oper} {a : Operand} {x : Value} (hop : q.op = .load 3 a) (ha : evalO t a = .ref (.p x) 0) : evOper Tryz.prog (tabRowM Tryz.prog) false t q [] 0 = some (.p x, [], 0) := by
  obtain ⟨b, k, z, e⟩ := T3
  simp [evOper, evOperF, hop, evLoad, ha, e, elemAt, isAggD, partV, V.cells]

theorem ix_ref {t : List V} {q : Oper} {a b : Operand} {k : SC} {xs : List V} {n : Nat} {x : Value} (hop : q.op = .indexAddr 31 a b) (ha : evalO t a = .ps k xs) (hb : evalO t b = .p (.int .i64 (n : Int))) (hx : xs[n]? = some (.p x)) (hk : k ≠ .nil) : evOper Tryz.prog (tabRowM Tryz.prog) false t q [] 0 = some (.ref (.p x) 0, [], 0) := by
  obtain ⟨b1, z1, e1⟩ := T31
  obtain ⟨b2, k2, z2, e2⟩ := T3
  have h0 : ¬ ((n : Int) < 0) := by omega
  simp [evOper, evOperF, hop, evIndexAddr, ha, hb, e1, e2, asI, h0, hx, V.cells, hk]

theorem ln_ps {t : List V} {q : Oper} {a : Operand} {k : SC} {xs : List V} (hop : q.op = .call { callee := .builtin .len, args := #[a], argTypes := #[31] }) (ha : evalO t a = .ps k xs) : evOper Tryz.prog (tabRowM Tryz.prog) false t q [] 0 = some (iv xs.length, [], 0) := by
  obtain ⟨b1, z1, e1⟩ := T31
  simp [evOper, evOperF, hop, evLen, ha, e1, lenV, iv, goInt]

theorem sub_one {t : List V} {q : Oper} {a : Operand} {x y : TypeId} {z : Int} (hop : q.op = .binOp .sub x a (.const (.int .i64 1)) y) (ha : evalO t a = iv z) (h1 : -9223372036854775808 ≤ z - 1) (h2 : z - 1 ≤ 9223372036854775807) : evOper Tryz.prog (tabRowM Tryz.prog) false t q [] 0 = some (iv (z - 1), [], 0) := by
  have hb : evalO t (.const (.int .i64 1)) = .p (.int .i64 1) := rfl
  simp only [evOper, evOperF, hop, evBin, ha, hb, iv, toVal, fastBin, if_true, Option.map_some]
  rw [IntWalk.i64_in _ ⟨h1, h2⟩]

theorem geq_zero {t : List V} {q : Oper} {a : Operand} {x y : TypeId} {z : Int} (hop : q.op = .binOp .geq x a (.const (.int .i64 0)) y) (ha : evalO t a = iv z) : evOper Tryz.prog (tabRowM Tryz.prog) false t q [] 0 = some (.p (.bool (decide (z ≥ 0))), [], 0) := by
  have hb : evalO t (.const (.int .i64 0)) = .p (.int .i64 0) := rfl
  simp only [evOper, evOperF, hop, evBin, ha, hb, iv, toVal, fastBin, if_true, Option.map_some]

theorem mv {t : List V} {q : Oper} {a : Operand} (hop : q.op = .move a) : evOper Tryz.prog (tabRowM Tryz.prog) false t q [] 0 = some (evalO t a, [], 0) := by
  simp only [evOper, evOperF, hop]

theorem asg {t : List V} {q : Oper} {a : Operand} (hop : q.op = .assign a) : evOper Tryz.prog (tabRowM Tryz.prog) false t q [] 0 = some (evalO t a, [], 0) := by
  simp only [evOper, evOperF, hop]

theorem notT {t : List V} {q : Oper} {a : Operand} {x : TypeId} (hop : q.op = .unOp .not x a) (ha : evalO t a = .p (.bool true)) : evOper Tryz.prog (tabRowM Tryz.prog) false t q [] 0 = some (.p (.bool false), [], 0) := by
  simp only [evOper, evOperF, hop, ha]
  rfl

theorem ps_nil {w : World} {ok : Nat → Prop} {k : SC} {xs : List V} {v : Value} (h : RepP w ok (.ps k xs) v) (hx : xs ≠ []) : k ≠ .nil := by
  cases h with
  | psNil => exact absurd rfl hx
  | ps hn => exact hn

/-- The slots in a round: what a round ahead left in the others is not told. -/
def tr (l : Nat) (k : SC) (ns : List Int) (z : V) (b : V) : List V := yv l :: cv k ns :: V.undef :: z :: (List.replicate 13 V.undef ++ [b, V.undef])

theorem backOf (fn : Func) (hf : Tryz.prog.funcs[80]? = some fn) (hb : fn.body = some (.seq (.region 0 R0 false) (.block 0 (.loop (.seq (.seq (.region 1 R1 false) (.cond (.tmp 8) .skip (.exit 0))) (.seq (.block 1 (.seq (.region 3 R3 false) (.cond (.tmp 18) .ret .skip))) (.region 2 R2 false))))))) (hn : fn.ntmps = 19) (hres : fn.results = #[]) : BackF Tryz.prog 80 := by
  intro ns k cap l J W0 hlen hmono hcap hround hJ0
  -- a state from its slots
  have fresh : ∀ (w : World) (tmps : Array Value) (z : V) (zv : Value) (b : V) (bv : Value) (j : Nat), J j w → tmps.size = 19 → tmps.getD 0 Go.undef = .func (.yield l) #[] #[] → tmps.getD 1 Go.undef = cap → tmps.getD 3 Go.undef = zv → tmps.getD 17 Go.undef = bv → RepP w (okOf (fun _ => False) w noM) z zv → RepP w (okOf (fun _ => False) w noM) b bv →
      RepT (fun _ => False) w noM 0 (tr l k ns z b) tmps := by
    intro w tmps z zv b bv j hj hsz e0 e1 e3 e17 hz hb
    refine ⟨by rw [hsz]; rfl, fun i => ?_⟩
    have hcp := (hcap j w hj).mono (ok' := okOf (fun _ => False) w noM) fun β hβ => ⟨⟨hβ, fun h => h, fun b l h => by simp [noM] at h⟩, fun _ => rfl⟩
    by_cases h0 : i = 0
    · subst h0; rw [e0]; exact .pure (.p _)
    by_cases h1 : i = 1
    · subst h1; rw [e1]; exact .pure hcp
    by_cases h3 : i = 3
    · subst h3; rw [e3]; exact .pure hz
    by_cases h17 : i = 17
    · subst h17; rw [e17]; exact .pure hb
    have : (tr l k ns z b).getD i .undef = .undef := by
      by_cases hlt : i < 19
      · have : i = 2 ∨ i = 4 ∨ i = 5 ∨ i = 6 ∨ i = 7 ∨ i = 8 ∨ i = 9 ∨ i = 10 ∨ i = 11 ∨ i = 12 ∨ i = 13 ∨ i = 14 ∨ i = 15 ∨ i = 16 ∨ i = 18 := by omega
        rcases this with h | h | h | h | h | h | h | h | h | h | h | h | h | h | h <;> subst h <;> rfl
      · rw [List.getD_eq_getElem?_getD, List.getElem?_eq_none (by show 19 ≤ i; omega)]; rfl
    rw [this]; exact .pure (.undef _)
  have mkSR : ∀ (w : World) (a : Act) (t : List V), RepT (fun _ => False) w noM 0 t a.tmps → a.defers = [] → SR 0 (fun _ => False) ⟨t, [], 0⟩ a w noM := fun w a t h1 h2 => ⟨h1, heap_nil fun β h => h.elim, by rw [h2]; exact ⟨Nat.zero_le _, trivial⟩⟩
  have slots : ∀ {W w : World} {t : List V} {a : Act} {z : Int}, Here W cap t a w → t.length = 19 → t.getD 0 .undef = yv l → t.getD 3 .undef = iv z → a.tmps.size = 19 ∧ a.tmps.getD 0 Go.undef = .func (.yield l) #[] #[] ∧ a.tmps.getD 1 Go.undef = cap ∧ a.tmps.getD 3 Go.undef = .int .i64 z := fun {W w t a z} h h1 h2 h3 => by
    refine ⟨by rw [← h.s.t.1]; exact h1, ?_, h.c, ?_⟩
    · have := h.s.t.2 0; rw [show (⟨t, [], 0⟩ : St).t.getD 0 .undef = yv l from h2] at this; exact rep_p this
    · have := h.s.t.2 3; rw [show (⟨t, [], 0⟩ : St).t.getD 3 .undef = iv z from h3] at this; exact rep_p this
  have hknil : ∀ {w : World} {j : Nat}, J j w → 0 < ns.length → k ≠ .nil := fun {w j} hj hn => by
    have := hcap j w hj
    cases this with
    | ref _ _ _ hr =>
      have := hr 0 (by simp [V.cells])
      simp only [V.cells, List.getElem_cons_zero] at this
      exact ps_nil this (by intro h; rw [List.map_eq_nil_iff] at h; rw [h] at hn; simp at hn)
  obtain ⟨Inv, hInv⟩ : ∃ Inv : Nat → Act → World → Prop, Inv = fun j a w => a.tmps.size = 19 ∧ a.tmps.getD 0 Go.undef = .func (.yield l) #[] #[] ∧ a.tmps.getD 1 Go.undef = cap ∧ a.tmps.getD 3 Go.undef = .int .i64 ((ns.length : Int) - 1 - j) ∧ a.defers = [] ∧ J j w := ⟨_, rfl⟩
  refine callsIn_of_wp (fn := fn) hf hb trivial ?_
  rw [hn]
  generalize ha0 : ({ tmps := #[.func (.yield l) #[] #[], cap] ++ Array.replicate (19 - (#[.func (.yield l) #[] #[], cap] : Array Value).size) undef, defers := [] } : Act) = a0
  have hsz0 : a0.tmps.size = 19 := by rw [← ha0]; simp
  have hs0 : Here W0 cap (tr l k ns .undef .undef) a0 W0 := by
    have e1 : a0.tmps.getD 1 Go.undef = cap := by rw [← ha0]; simp [Array.getD_eq_getD_getElem?]
    exact ⟨mkSR _ _ _ (fresh W0 _ .undef (a0.tmps.getD 3 Go.undef) .undef (a0.tmps.getD 17 Go.undef) 0 hJ0 hsz0 (by rw [← ha0]; simp [Array.getD_eq_getD_getElem?]) e1 rfl rfl (.undef _) (.undef _)) (by rw [← ha0]), by rw [← ha0], e1, Le.refl _ _ _⟩
  clear ha0
  -- ahead of the loop
  refine wpIn_seq (wpIn_region ?_)
  rw [show List.range R0.size = [0, 1, 2, 3] by kernel_rfl]
  refine stepIn hT (o := o R0 0) (op := .load 31 (.tmp 1)) (d := some 4) (by kernel_rfl) (by kernel_rfl) (by kernel_rfl) (by kernel_rfl) (by intro c h; cases h) (by simp) hs0 (ld_slice (a := .tmp 1) (by kernel_rfl) rfl) fun a1 w1 hs1 => ?_
  refine stepIn hT (o := o R0 1) (op := .call { callee := .builtin .len, args := #[.tmp 4], argTypes := #[31] }) (d := some 5) (by kernel_rfl) (by kernel_rfl) (by kernel_rfl) (by kernel_rfl) (by intro c h; cases h) (by simp) hs1 (ln_ps (a := .tmp 4) (by kernel_rfl) rfl) fun a2 w2 hs2 => ?_
  refine stepIn hT (o := o R0 2) (op := .binOp .sub 3 (.tmp 5) (.const (.int .i64 1)) 3) (d := some 6) (by kernel_rfl) (by kernel_rfl) (by kernel_rfl) (by kernel_rfl) (by intro c h; cases h) (by simp) hs2 (sub_one (a := .tmp 5) (x := 3) (y := 3) (by kernel_rfl) rfl (by omega) (by rw [List.length_map]; omega)) fun a3 w3 hs3 => ?_
  refine stepIn hT (o := o R0 3) (op := .assign (.tmp 6)) (d := some 3) (by kernel_rfl) (by kernel_rfl) (by kernel_rfl) (by kernel_rfl) (by intro c h; cases h) (by simp) hs3 (asg (a := .tmp 6) (by kernel_rfl)) fun a4 w4 hs4 => ?_
  have inv0 : Inv 0 a4 w4 := by
    obtain ⟨q1, q2, q3, q4⟩ := slots (z := (ns.length : Int) - 1) hs4 rfl rfl (by rw [List.length_map]; rfl)
    rw [hInv]
    exact ⟨q1, q2, q3, by rw [q4]; simp, hs4.d, hmono 0 _ _ hJ0 hs4.le⟩
  clear hs0 hs1 hs2 hs3 hs4
  show Code.wpIn Fence.wide 0 Tryz.prog (.block 0 _) _ a4 w4
  refine wpIn_block (wpIn_loop (fun a w => ∃ j, j ≤ ns.length ∧ Inv j a w) (fun a _ => match a.tmps.getD 3 Go.undef with | .int _ z => (z + 1).toNat | _ => 0) ⟨0, Nat.zero_le _, inv0⟩ ?_)
  rintro a w ⟨j, hj, hi⟩
  rw [hInv] at hi
  obtain ⟨q1, q2, q3, q4, q5, hJ⟩ := hi
  have hs : Here w cap (tr l k ns (iv ((ns.length : Int) - 1 - j)) .undef) a w := ⟨mkSR _ _ _ (fresh w _ _ _ .undef (a.tmps.getD 17 Go.undef) j hJ q1 q2 q3 q4 rfl (.p _) (.undef _)) q5, q5, q3, Le.refl _ _ _⟩
  refine wpIn_seq (wpIn_seq (wpIn_region ?_))
  rw [show List.range R1.size = [0, 1] by kernel_rfl]
  refine stepIn hT (o := o R1 0) (op := .move (.tmp 3)) (d := some 7) (by kernel_rfl) (by kernel_rfl) (by kernel_rfl) (by kernel_rfl) (by intro c h; cases h) (by simp) hs (mv (a := .tmp 3) (by kernel_rfl)) fun a1 w1 hs1 => ?_
  refine stepIn hT (o := o R1 1) (op := .binOp .geq 3 (.tmp 7) (.const (.int .i64 0)) 3) (d := some 8) (by kernel_rfl) (by kernel_rfl) (by kernel_rfl) (by kernel_rfl) (by intro c h; cases h) (by simp) hs1 (geq_zero (a := .tmp 7) (x := 3) (y := 3) (z := (ns.length : Int) - 1 - j) (by kernel_rfl) rfl) fun a2 w2 hs2 => ?_
  have hev : a2.eval (.tmp 8) = .bool (decide ((ns.length : Int) - 1 - j ≥ 0)) := rep_p (hs2.s.t.eval (.tmp 8))
  show Code.wpIn Fence.wide 0 Tryz.prog (.cond (.tmp 8) .skip (.exit 0)) _ a2 w2
  by_cases hjn : j < ns.length
  · rw [decide_eq_true (show (ns.length : Int) - 1 - j ≥ 0 by omega)] at hev
    refine wpIn_cond_true hev (wpIn_skip ?_)
    -- what is asked
    have hz : ((ns.length : Int) - 1 - j) = ((ns.length - 1 - j : Nat) : Int) := by omega
    have hat : ns.length - 1 - j < ns.length := by omega
    show Code.wpIn Fence.wide 0 Tryz.prog (.seq (.block 1 _) _) _ a2 w2
    refine wpIn_seq (wpIn_block (wpIn_seq (wpIn_region ?_)))
    rw [show List.range R3.size = [0, 1, 2, 3, 4, 5, 6, 7] by kernel_rfl]
    refine stepIn hT (o := o R3 0) (op := .move (.tmp 0)) (d := some 11) (by kernel_rfl) (by kernel_rfl) (by kernel_rfl) (by kernel_rfl) (by intro c h; cases h) (by simp) hs2 (mv (a := .tmp 0) (by kernel_rfl)) fun b0 x0 h0 => ?_
    refine stepIn hT (o := o R3 1) (op := .move (.tmp 3)) (d := some 12) (by kernel_rfl) (by kernel_rfl) (by kernel_rfl) (by kernel_rfl) (by intro c h; cases h) (by simp) h0 (mv (a := .tmp 3) (by kernel_rfl)) fun b1 x1 h1 => ?_
    refine stepIn hT (o := o R3 2) (op := .load 31 (.tmp 1)) (d := some 13) (by kernel_rfl) (by kernel_rfl) (by kernel_rfl) (by kernel_rfl) (by intro c h; cases h) (by simp) h1 (ld_slice (a := .tmp 1) (by kernel_rfl) rfl) fun b2 x2 h2 => ?_
    refine stepIn hT (o := o R3 3) (op := .move (.tmp 3)) (d := some 14) (by kernel_rfl) (by kernel_rfl) (by kernel_rfl) (by kernel_rfl) (by intro c h; cases h) (by simp) h2 (mv (a := .tmp 3) (by kernel_rfl)) fun b3 x3 h3 => ?_
    refine stepIn hT (o := o R3 4) (op := .indexAddr 31 (.tmp 13) (.tmp 14)) (d := some 15) (by kernel_rfl) (by kernel_rfl) (by kernel_rfl) (by kernel_rfl) (by intro c h; cases h) (by simp) h3 (ix_ref (a := .tmp 13) (b := .tmp 14) (k := k) (xs := ns.map fun x => V.p (.int .i64 x)) (n := ns.length - 1 - j) (x := .int .i64 (ns[ns.length - 1 - j]'hat)) (by kernel_rfl) rfl (by rw [← hz]; rfl) (by rw [List.getElem?_map, List.getElem?_eq_getElem hat]; rfl) (hknil hJ (by omega))) fun b4 x4 h4 => ?_
    refine stepIn hT (o := o R3 5) (op := .load 3 (.tmp 15)) (d := some 16) (by kernel_rfl) (by kernel_rfl) (by kernel_rfl) (by kernel_rfl) (by intro c h; cases h) (by simp) h4 (ld_int (a := .tmp 15) (x := .int .i64 (ns[ns.length - 1 - j]'hat)) (by kernel_rfl) rfl) fun b5 x5 h5 => ?_
    have v11 : b5.eval (.tmp 11) = .func (.yield l) #[] #[] := rep_p (h5.s.t.eval (.tmp 11))
    have v12 : b5.eval (.tmp 12) = .int .i64 ((ns.length : Int) - 1 - j) := rep_p (h5.s.t.eval (.tmp 12))
    have v16 : b5.eval (.tmp 16) = .int .i64 (ns[ns.length - 1 - j]'hat) := rep_p (h5.s.t.eval (.tmp 16))
    have hJ5 : J j x5 := hmono _ _ _ hJ h5.le
    obtain ⟨fn', tmps', as', bd', hy, hrd⟩ := hround j x5 hJ5 hjn
    have ho6 : R3[6]? = some (o R3 6) := by kernel_rfl
    have hop6 : (o R3 6).op = .call { callee := .value (.tmp 11), args := #[.tmp 12, .tmp 16], argTypes := #[3, 3] } := by kernel_rfl
    have hd6 : (o R3 6).dst = some 17 := by kernel_rfl
    have hg6 : (o R3 6).guard = none := by kernel_rfl
    have hguard : Region.wanted (o R3 6) (yielded R3 b5.tmps) = true := evGuard_sound h5.s.t (by simp [evGuard, hg6])
    refine opsIn_at ho6 hguard ?_
    have hrun : (execOp b5.eval (o R3 6)).run Tryz.prog x5 = .ok (.round l fn' tmps' as' bd') x5 := by
      unfold execOp
      rw [hop6]
      simp only [resolve, Sem.run_bind, Deferred.ofValue, v11, Sem.run_pure, Result.andThen_ok, invoke]
      rw [show (#[] ++ (#[.tmp 12, .tmp 16] : Array Operand).map b5.eval : Array Value) = #[.int .i64 ((ns.length - 1 - j : Nat) : Int), .int .i64 (ns[ns.length - 1 - j]'hat)] by simp [v12, v16, hz]]
      exact hy
    refine ⟨fun _ _ => trivial, ?_⟩
    rw [Oper.semAt_eq _ _ _ (by rw [hop6]; intro c h; cases h), hrun]
    refine ⟨fun h => by simp [Fence.wide] at h, RoundIn.mono hrd ?_⟩
    rintro e x6 ⟨rfl, hJ6⟩
    rw [hd6]
    show wpOpsIn Fence.wide 0 Tryz.prog R3 _ [7] (b5.put (some 17) (.bool true)) x6
    -- behind the round
    obtain ⟨r1, r2, r3, r4⟩ := slots (z := (ns.length : Int) - 1 - j) h5 rfl rfl rfl
    have put_other : ∀ q, q ≠ 17 → (b5.put (some 17) (.bool true)).tmps.getD q Go.undef = b5.tmps.getD q Go.undef := fun q hq => put_getD (by intro h; cases h; exact hq rfl)
    have hsz6 : (b5.put (some 17) (.bool true)).tmps.size = 19 := by simp [Act.put, r1]
    have h17 : (b5.put (some 17) (.bool true)).tmps.getD 17 Go.undef = .bool true := by simp [Act.put, Array.getD_eq_getD_getElem?, r1]
    have d6 : (b5.put (some 17) (.bool true)).defers = [] := h5.d
    have e0 := (put_other 0 (by omega)).trans r2
    have e1 := (put_other 1 (by omega)).trans r3
    have e3 := (put_other 3 (by omega)).trans r4
    have h6 : Here x6 cap (tr l k ns (iv ((ns.length : Int) - 1 - j)) (.p (.bool true))) (b5.put (some 17) (.bool true)) x6 := ⟨mkSR _ _ _ (fresh x6 _ _ _ (.p (.bool true)) (.bool true) (j + 1) hJ6 hsz6 e0 e1 e3 h17 (.p _) (.p _)) d6, d6, e1, Le.refl _ _ _⟩
    refine stepIn hT (o := o R3 7) (op := .unOp .not 4 (.tmp 17)) (d := some 18) (by kernel_rfl) (by kernel_rfl) (by kernel_rfl) (by kernel_rfl) (by intro c h; cases h) (by simp) h6 (notT (a := .tmp 17) (x := 4) (by kernel_rfl) rfl) fun b7 x7 h7 => ?_
    have v18 : b7.eval (.tmp 18) = .bool false := rep_p (h7.s.t.eval (.tmp 18))
    show Code.wpIn Fence.wide 0 Tryz.prog (.cond (.tmp 18) .ret .skip) _ b7 x7
    refine wpIn_cond_false v18 (wpIn_skip ?_)
    show Code.wpIn Fence.wide 0 Tryz.prog (.region 2 R2 false) _ b7 x7
    refine wpIn_region ?_
    rw [show List.range R2.size = [0, 1, 2] by kernel_rfl]
    refine stepIn hT (o := o R2 0) (op := .move (.tmp 3)) (d := some 9) (by kernel_rfl) (by kernel_rfl) (by kernel_rfl) (by kernel_rfl) (by intro c h; cases h) (by simp) h7 (mv (a := .tmp 3) (by kernel_rfl)) fun b8 x8 h8 => ?_
    refine stepIn hT (o := o R2 1) (op := .binOp .sub 3 (.tmp 9) (.const (.int .i64 1)) 3) (d := some 10) (by kernel_rfl) (by kernel_rfl) (by kernel_rfl) (by kernel_rfl) (by intro c h; cases h) (by simp) h8 (sub_one (a := .tmp 9) (x := 3) (y := 3) (z := (ns.length : Int) - 1 - j) (by kernel_rfl) rfl (by omega) (by omega)) fun b9 x9 h9 => ?_
    refine stepIn hT (o := o R2 2) (op := .assign (.tmp 10)) (d := some 3) (by kernel_rfl) (by kernel_rfl) (by kernel_rfl) (by kernel_rfl) (by intro c h; cases h) (by simp) h9 (asg (a := .tmp 10) (by kernel_rfl)) fun b10 x10 h10 => ?_
    obtain ⟨s1, s2, s3, s4⟩ := slots (z := (ns.length : Int) - 1 - j - 1) h10 rfl rfl rfl
    refine ⟨⟨j + 1, by omega, ?_⟩, ?_⟩
    · rw [hInv]
      exact ⟨s1, s2, s3, by rw [s4]; congr 1; omega, h10.d, hmono _ _ _ hJ6 h10.le⟩
    · simp only [s4, q4]
      omega
  · rw [decide_eq_false (show ¬ (ns.length : Int) - 1 - j ≥ 0 by omega)] at hev
    refine wpIn_cond_false hev (wpIn_exit ?_)
    obtain rfl : j = ns.length := by omega
    refine ⟨hs2.d, .tuple #[], by simp [results, hres], ⟨_, rfl⟩, hmono _ _ _ hJ hs2.le⟩

theorem back80 : BackF Tryz.prog 80 := backOf Tryz.f80 Tryz.func80 body_eq (by kernel_rfl) (by kernel_rfl)

end Go.Proofs.YtpcngdlglejgeaaGreatDoor.back
