/-
  The executor: the abstract machine run, with its proof.
-/
import Derived.Test.YtpcngdlglejgeaaGreatDoorNy18
namespace Go.Mx
set_option linter.unusedVariables false
set_option linter.unusedSimpArgs false

def changesH : Op → Bool
  | .alloc _ | .box .. | .store .. | .makeSlice .. | .buildSlice .. | .makeMap .. | .mapUpdate .. => true
  | .call { callee := .builtin .append, .. } => true
  | .call { callee := .builtin .copy, .. } => true
  | .call { callee := .builtin .clear, .. } => true
  | _ => false

def xOps (P : Program) (T : TypeId → Option TI) (call : CallF) (ops : Array Oper) : List Oper → St → Option St
  | [], st => some st
  | o :: r, st => match evGuard st.t ops o with
    | some true => match o.op with
      | .call { callee := .value f, args, argTypes } => match evTarget st.t { callee := .value f, args, argTypes } with
        | some (g, vs) => withL vs fun vs => match call g vs st.h st.c (o.dst.getD 0) with
          | some (v, h', c', _) => withCall st.t o.dst v h' c' fun _ t' h' c' => xOps P T call ops r ⟨t', h', c'⟩
          | none => none
        | none => none
      | _ => match evOper P T false st.t o st.h st.c with
        | some (v, h', c') => bif changesH o.op then withAll st.t o.dst v h' c' fun _ t' h' c' => xOps P T call ops r ⟨t', h', c'⟩ else withV (deepOp o.op) st.t o.dst v fun _ t' => xOps P T call ops r ⟨t', h', c'⟩
        | none => none
    | some false => withV false st.t o.dst (.p Go.undef) fun _ t' => xOps P T call ops r ⟨t', st.h, st.c⟩
    | none => none

def xLoop (body : St → Option (Exit × St)) : Nat → St → Option (Exit × St)
  | 0, _ => none
  | n + 1, st => match body st with
    | some (.normal, st') => xLoop body n st'
    | r => r

def xCode (P : Program) (T : TypeId → Option TI) (callP : CallP) (call : CallF) (fuel : Nat) : Code → St → Option (Exit × St)
  | .skip, st => some (.normal, st)
  | .label _, st => some (.normal, st)
  | .seq a b, st => match xCode P T callP call fuel a st with
    | some (.normal, st') => xCode P T callP call fuel b st'
    | r => r
  | .cond k a b, st => match evalO st.t k with
    | .p (.bool true) => xCode P T callP call fuel a st
    | .p (.bool false) => xCode P T callP call fuel b st
    | _ => none
  | .block id a, st => match xCode P T callP call fuel a st with
    | some (.exit id', st') => if id' = id then some (.normal, st') else some (.exit id', st')
    | r => r
  | .loop a, st => xLoop (xCode P T callP call fuel a) fuel st
  | .exit id, st => some (.exit id, st)
  | .ret, st => some (.ret, st)
  | .region _ ops draw, st => match (if draw then xDraw P T callP call ops st else xOps P T call ops ops.toList st) with
    | some st' => some (.normal, st')
    | none => none
  | _, _ => none

section
variable {P : Program} {T : TypeId → Option TI} {bad : Nat → Prop} {bs : Nat}

theorem xOps_sound (hT : TabOk P T) {call : CallF} (hcall : CallOk P call) {ops : Array Oper} : ∀ (r : List Oper) (i : Nat) (st st' : St), ops.toList.drop i = r → xOps P T call ops r st = some st' →
    WOps bs P bad ops (List.range' i r.length) st (fun s => s = st') := by
  intro r
  induction r with
  | nil =>
    intro i st st' _ he
    simp only [xOps, Option.some.injEq] at he
    exact WOps_nil he
  | cons o r ih =>
    intro i st st' hd he
    have ho : ops[i]? = some o := by
      have : ops.toList[i]? = some o := by
        have := congrArg (fun l => l[0]?) hd
        simpa using this
      simpa using this
    have hd' : ops.toList.drop (i + 1) = r := by
      have := congrArg (List.drop 1) hd
      simpa [List.drop_drop] using this
    rw [List.length_cons, List.range'_succ]
    simp only [xOps, withV_eq, withAll_eq, withCall_eq, withL_eq, Bool.cond_self] at he
    split at he
    · rename_i hg
      split at he
      · rename_i f args argTypes hop
        split at he
        · rename_i g vs htg
          split at he
          · rename_i v h' c' wr hc
            obtain ⟨h1, _, h2⟩ := hcall _ _ _ _ _ _ _ _ _ hc
            exact WOps_call ho hg hop htg h1 (h2 bad) (ih (i + 1) _ _ hd' he)
          · cases he
        · cases he
      · split at he
        · rename_i v h' c' hev
          exact WOps_op hT ho hg hev (ih (i + 1) _ _ hd' he)
        · cases he
    · rename_i hg
      exact WOps_skip ho hg (ih (i + 1) _ _ hd' he)
    · cases he

theorem xLoop_sound {x : Code} {body : St → Option (Exit × St)} (hb : ∀ st e st', body st = some (e, st') → WC bs P bad x st (fun e' s => e' = e ∧ s = st')) : ∀ (n : Nat) (st : St) (e : Exit) (st' : St), xLoop body n st = some (e, st') →
    WLoop bs P bad x n st (fun e' s => e' = e ∧ s = st') := by
  intro n
  induction n with
  | zero => intro st e st' h; simp [xLoop] at h
  | succ n ih =>
    intro st e st' h
    simp only [xLoop] at h
    split at h
    · rename_i st1 h1
      refine WC_mono (hb _ _ _ h1) ?_
      rintro e' s ⟨rfl, rfl⟩
      exact ih _ _ _ h
    · rename_i hne
      refine WC_mono (hb _ _ _ h) ?_
      rintro e' s ⟨rfl, rfl⟩
      cases e' <;> first | exact ⟨rfl, rfl⟩ | exact absurd h (hne _)

theorem xCode_sound (hT : TabOk P T) {callP : CallP} {call : CallF} (hcallP : CallPOk P callP) (hcall : CallOk P call) (hm : P.follows .mixedOrders = true) (fuel : Nat) : ∀ (code : Code) (st : St) (e : Exit) (st' : St), xCode P T callP call fuel code st = some (e, st') → WC bs P bad code st (fun e' s => e' = e ∧ s = st') := by
  intro code
  induction code with
  | skip => intro st e st' h; simp only [xCode, Option.some.injEq, Prod.mk.injEq] at h; exact WC_skip ⟨h.1, h.2⟩
  | label l => intro st e st' h; simp only [xCode, Option.some.injEq, Prod.mk.injEq] at h; exact WC_label ⟨h.1, h.2⟩
  | exit id => intro st e st' h; simp only [xCode, Option.some.injEq, Prod.mk.injEq] at h; exact WC_exit ⟨h.1, h.2⟩
  | ret => intro st e st' h; simp only [xCode, Option.some.injEq, Prod.mk.injEq] at h; exact WC_ret ⟨h.1, h.2⟩
  | seq a b iha ihb =>
    intro st e st' h
    simp only [xCode] at h
    split at h
    · rename_i st1 h1
      refine WC_seq (WC_mono (iha _ _ _ h1) ?_)
      rintro e' s ⟨rfl, rfl⟩
      exact ihb _ _ _ h
    · rename_i hne
      refine WC_seq (WC_mono (iha _ _ _ h) ?_)
      rintro e' s ⟨rfl, rfl⟩
      cases e' <;> first | exact ⟨rfl, rfl⟩ | exact absurd h (hne _)
  | cond k a b iha ihb =>
    intro st e st' h
    simp only [xCode] at h
    split at h
    · rename_i hk; exact WC_cond hk (iha _ _ _ h)
    · rename_i hk; exact WC_cond hk (ihb _ _ _ h)
    · cases h
  | block id a ih =>
    intro st e st' h
    simp only [xCode] at h
    split at h
    · rename_i id' st1 h1
      refine WC_block (WC_mono (ih _ _ _ h1) ?_)
      rintro e' s ⟨rfl, rfl⟩
      simp only [blockQ]
      split at h
      · rename_i hid
        simp only [Option.some.injEq, Prod.mk.injEq] at h
        rw [if_pos hid]; exact ⟨h.1, h.2⟩
      · rename_i hid
        simp only [Option.some.injEq, Prod.mk.injEq] at h
        rw [if_neg hid]; exact ⟨h.1, h.2⟩
    · rename_i hne
      refine WC_block (WC_mono (ih _ _ _ h) ?_)
      rintro e' s ⟨rfl, rfl⟩
      cases e' <;> first | exact ⟨rfl, rfl⟩ | exact absurd h (hne _ _)
  | loop a ih =>
    intro st e st' h
    simp only [xCode] at h
    exact WC_loop fuel (xLoop_sound ih fuel _ _ _ h)
  | region id ops draw =>
    intro st e st' h
    simp only [xCode] at h
    split at h
    · rename_i st1 h1
      simp only [Option.some.injEq, Prod.mk.injEq] at h
      obtain ⟨rfl, rfl⟩ := h
      cases draw with
      | false =>
        simp only [Bool.false_eq_true, if_false] at h1
        have := xOps_sound (bad := bad) (bs := bs) hT hcall ops.toList 0 st st1 (by simp) h1
        refine WC_region ?_
        rw [List.range_eq_range']
        simp only [Array.length_toList] at this
        exact WOps_mono this fun s hs => ⟨rfl, hs⟩
      | true =>
        simp only [if_true] at h1
        exact xDraw_sound hT hcallP hcall hm h1
    · cases h
  | rangeFunc f ps a b => intro st e st' h; simp [xCode] at h
  | scope a => intro st e st' h; simp [xCode] at h
  | goto l => intro st e st' h; simp [xCode] at h
  | refuse w => intro st e st' h; simp [xCode] at h

end

/-- The functions that the machine knows. -/
def FOk (P : Program) (F : FuncId → Option Func) : Prop := ∀ g fn, F g = some fn → P.funcs[g]? = some fn ∧ (fn.name == "runtime.NumGoroutine") = false

/-- The blocks that a value names. -/
def idsV (h : Hp) : Nat → V → List Nat
  | 0, _ => []
  | n + 1, v => match v with
    | .sl b _ _ _ _ => b :: (match h.get b with
      | some B => if B.var then B.es.flatMap (idsV h n) else []
      | none => [])
    | .box b _ _ _ => b :: (match h.get b with
      | some B => if B.var then B.es.flatMap (idsV h n) else []
      | none => [])
    | .mp b _ => b :: (match h.get b with
      | some B => B.es.flatMap (idsV h n)
      | none => [])
    | .agg vs | .tup vs => vs.flatMap (idsV h n)
    | .fn _ zs bs => zs.flatMap (idsV h n) ++ bs.flatMap (idsV h n)
    | _ => []

def dedup : List Nat → List Nat
  | [] => []
  | b :: r => if r.contains b then dedup r else b :: dedup r

def lentBase : Nat := 1000000000000

def xEntries (h : Hp) : List Nat → Nat → List (Nat × Nat × Nat)
  | [], _ => []
  | b :: r, k => (b, lentBase + k, 0) :: xEntries h r (k + 1)

/-- What comes back of the blocks that were lent: those that live on under their stamp. -/
def xBack (h hr : Hp) : List (Nat × Nat × Nat) → List (Nat × Nat × Nat)
  | [] => []
  | (b, k, _) :: r => match hr.get k, h.get b with
    | some B, some B0 => if B.s = 0 then (k, b, B0.s) :: xBack h hr r else xBack h hr r
    | _, _ => xBack h hr r

def xNew (d : Nat) (used : List Nat) : List Nat → Nat → Nat → List (Nat × Nat × Nat)
  | [], _, _ => []
  | b :: r, j, s => (let k := d + 4096 * (s + 1); (b, if used.contains k then k + 2048 else k, s)) :: xNew d used r (j + 1) (s + 1)

def okE2 (h hr : Hp) (E1 : List (Nat × Nat × Nat)) (c c2 : Nat) (x : Nat × Nat × Nat) : Bool :=
  (decide (c ≤ x.2.2) && decide (x.2.2 < c2)) ||
  ((match hr.get x.1 with | some B => B.s == 0 | none => false) && E1.contains (x.2.1, x.1, 0) && (match h.get x.2.1 with | some B => B.s == x.2.2 | none => false))

/-- A call to which the blocks of E1 are lent. -/
def xLend (rec : FuncId → List V → Hp → Nat → Option (V × Hp × Nat)) (E1 : List (Nat × Nat × Nat)) (bor : List Nat) : CallF := fun g vs h c d =>
  match mapO (trV h (lookE E1) bor 12) vs, moveH h (lookE E1) bor E1 with
  | some vs', some hA => match rec g vs' hA 1 with
    | some (r, hr, _) =>
      let back := xBack h hr E1
      let new := (dedup (idsV hr 12 r ++ back.flatMap fun x => match hr.get x.1 with | some B => if B.var then B.es.flatMap (idsV hr 12) else [] | none => [])).filter fun b => !(back.any fun x => x.1 == b)
      let E2 := back ++ xNew d (back.map fun x => x.2.1) new 0 c
      let c2 := c + new.length
      match trV hr (lookE E2) [] 12 r, moveH hr (lookE E2) [] E2 with
      | some r', some hB =>
        if (E1.all (fun x => x.2.2 == 0) && decide (E1.map (·.1)).Nodup && decide (E1.map fun x => x.2.1).Nodup && decide (E2.map (·.1)).Nodup && decide (E2.map fun x => x.2.1).Nodup && E2.all (okE2 h hr E1 c c2)) = true then
          some (r', hB ++ eraseAll h (E1.map (·.1) ++ bor), c2, (E2.map fun x => x.2.1) ++ (E1.map (·.1) ++ bor))
        else none
      | _, _ => none
    | none => none
  | _, _ => none

/-- Nothing is lent, what it gives is let go. -/
def xPure (rec : FuncId → List V → Hp → Nat → Option (V × Hp × Nat)) (bor : List Nat) : CallF := fun g vs h c d =>
  match mapO (trV h (fun _ => none) bor 12) vs with
  | some vs' => if vs'.all (pur 6) = true then
      match rec g vs' [] 0 with
      | some (r0, h1, _) => match frz 12 h1 r0 with
        | some (r, _) => if scal 4 r = true then some (r, h, c, []) else some (r, eraseAll h bor, c, bor)
        | none => none
      | none => none
    else none
  | none => none

/-- The word on a function, what it gives let go. -/
def xFrozen (rec : FuncId → List V → Hp → Nat → Option (V × Hp × Nat)) : FuncId → List V → Hp → Nat → Option (V × Hp × Nat) := fun g vs h c =>
  match rec g vs h c with
  | some (r, h', c') => match frz 12 h' r with
    | some (r', h2) => some (r', h2, c')
    | none => none
  | none => none

/-- How a function is called: 0: nothing is lent, what it gives is let go · 1: all is lent, what it gives is let go · 2: nothing is lent, what it gives is the caller's · 3: all is lent, what it gives is the caller's. -/
def xCall (rec : FuncId → List V → Hp → Nat → Option (V × Hp × Nat)) (mode : FuncId → Nat) : CallF := fun g vs h c d =>
  match mode g with
  | 0 => xPure rec (dedup (vs.flatMap (idsV h 12))) g vs h c d
  | 1 => xLend (xFrozen rec) (xEntries h (dedup (vs.flatMap (idsV h 12))) 0) [] g vs h c d
  | 3 => xLend rec (xEntries h (dedup (vs.flatMap (idsV h 12))) 0) [] g vs h c d
  | _ => xLend rec [] (dedup (vs.flatMap (idsV h 12))) g vs h c d

/-- Nothing of the frame is passed. -/
def xPureCall (rec : FuncId → List V → Hp → Nat → Option (V × Hp × Nat)) (mode : FuncId → Nat) : CallP := fun g vs =>
  match mode g with
  | 0 => if vs.all (pur 6) = true then
      match rec g vs [] 0 with
      | some (r0, h1, _) => match frz 12 h1 r0 with
        | some (r, _) => some r
        | none => none
      | none => none
    else none
  | _ => none

def xFn (P : Program) (T : TypeId → Option TI) (F : FuncId → Option Func) (mode : FuncId → Nat) (fuel : Nat) : Nat → FuncId → List V → Hp → Nat → Option (V × Hp × Nat)
  | 0, _, _, _, _ => none
  | n + 1, g, vs, h, c => match F g with
    | some fn => match fn.body with
      | some code => match xCode P T (xPureCall (xFn P T F mode fuel n) mode) (xCall (xFn P T F mode fuel n) mode) fuel code (start fn vs h c) with
        | some (.normal, st) => (evResults T st fn.results.toList).map fun r => (r, st.h, st.c)
        | some (.ret, st) => (evResults T st fn.results.toList).map fun r => (r, st.h, st.c)
        | _ => none
      | none => none
    | none => none

section
variable {P : Program} {T : TypeId → Option TI} {F : FuncId → Option Func} {mode : FuncId → Nat} {bs : Nat}

theorem eraseAll_ne : ∀ (bs : List Nat) {h : Hp} {b : Nat}, b ∉ bs → (eraseAll h bs).get b = h.get b
  | [], h, b, _ => rfl
  | x :: r, h, b, hb => by
    simp only [List.mem_cons, not_or] at hb
    simp only [eraseAll]
    rw [eraseAll_ne r hb.2, Hp.get_erase, if_neg (Ne.symm hb.1)]

theorem revE_none : ∀ {E : List (Nat × Nat × Nat)} {k : Nat}, k ∉ E.map (fun x => x.2.1) → revE E k = none
  | [], k, _ => rfl
  | (a, b, s) :: r, k, hk => by
    simp only [List.map_cons, List.mem_cons, not_or] at hk
    simp only [revE]
    rw [if_neg (Ne.symm hk.1)]
    exact revE_none hk.2

/-- What the executor's word on a function is worth. -/
def RecOk (P : Program) (rec : FuncId → List V → Hp → Nat → Option (V × Hp × Nat)) : Prop :=
  ∀ g vs h c r h' c', rec g vs h c = some (r, h', c') → Enters P g ∧ ∀ bad, CallsA P bad h c g vs r h' c'

theorem PT_of {g : FuncId} {vs : List V} {r0 r : V} {h1 h2 : Hp} {c1 : Nat} (hc : ∀ bad, CallsA P bad [] 0 g vs r0 h1 c1) (hf : frz 12 h1 r0 = some (r, h2)) : PT P g vs r := by
  intro bad w xs hbad hl hr
  refine (hc bad w noM xs (heap_nil hbad) hl fun i a b => .pure (hr i a b)).mono ?_
  rintro e w' ⟨x, m', rfl, hrx, hle, hh⟩
  obtain ⟨m2, le2, hh2, h5⟩ := frz_sound 12 h1 r0 r h2 m' x hh hf hrx
  refine ⟨x, rfl, h5.mono fun β hβ => ⟨⟨hβ.1, hβ.2.1, fun b l h => by simp [noM] at h⟩, fun _ => rfl⟩, ?_⟩
  exact ⟨Nat.le_refl _, fun b l h => by simp [noM] at h, fun β hβ _ => hle.keep β hβ fun b l h => by simp [noM] at h, hle.size, hle.os, hle.output, hle.tape, fun b l β h => by simp [noM] at h⟩

theorem xPure_sound {rec : FuncId → List V → Hp → Nat → Option (V × Hp × Nat)} (hrec : RecOk P rec) {bor : List Nat} {g : FuncId} {vs : List V} {h : Hp} {c d : Nat} {r : V} {h' : Hp} {c' : Nat} {wr : List Nat} (he : xPure rec bor g vs h c d = some (r, h', c', wr)) :
    Enters P g ∧ (∀ b, b ∉ wr → h'.get b = h.get b) ∧ ∀ bad, CallsA P bad h c g vs r h' c' := by
  unfold xPure at he
  split at he
  · rename_i vs' hvs
    split at he
    · rename_i hpu
      split at he
      · rename_i r0 h1 c1 hr
        obtain ⟨h3, h4⟩ := hrec _ _ _ _ _ _ _ hr
        split at he
        · rename_i r1 h2 hf
          have hpt := PT_of h4 hf
          split at he
          · rename_i hs
            simp only [Option.some.injEq, Prod.mk.injEq] at he
            obtain ⟨rfl, rfl, rfl, rfl⟩ := he
            exact ⟨h3, fun _ _ => rfl, fun bad => by simpa using CallsA_pure (bad := bad) hvs hpu hpt true fun _ => hs⟩
          · simp only [Option.some.injEq, Prod.mk.injEq] at he
            obtain ⟨rfl, rfl, rfl, rfl⟩ := he
            exact ⟨h3, fun b hb => eraseAll_ne _ hb, fun bad => by simpa using CallsA_pure (bad := bad) hvs hpu hpt false (by simp)⟩
        · cases he
      · cases he
    · cases he
  · cases he

theorem xLend_sound {rec : FuncId → List V → Hp → Nat → Option (V × Hp × Nat)} (hrec : RecOk P rec) {E1 : List (Nat × Nat × Nat)} {bor : List Nat} {g : FuncId} {vs : List V} {h : Hp} {c d : Nat} {r : V} {h' : Hp} {c' : Nat} {wr : List Nat} (he : xLend rec E1 bor g vs h c d = some (r, h', c', wr)) :
    Enters P g ∧ (∀ b, b ∉ wr → h'.get b = h.get b) ∧ ∀ bad, CallsA P bad h c g vs r h' c' := by
  unfold xLend at he
  split at he
  · rename_i vs' hA hvs hA'
    split at he
    · rename_i r0 hr cr hrr
      obtain ⟨h3, h4⟩ := hrec _ _ _ _ _ _ _ hrr
      extract_lets back new E2 c2 at he
      clear_value new E2
      split at he
      · rename_i r' hB hr' hB'
        split at he
        · rename_i hcond
          simp only [Bool.and_eq_true, decide_eq_true_eq] at hcond
          obtain ⟨⟨⟨⟨⟨k1, k2⟩, k3⟩, k4⟩, k5⟩, k6⟩ := hcond
          simp only [Option.some.injEq, Prod.mk.injEq] at he
          obtain ⟨rfl, rfl, rfl, rfl⟩ := he
          refine ⟨h3, fun b hb => ?_, fun bad => CallsA_lend hvs hA' (fun x hx => by simpa using List.all_eq_true.1 k1 x hx) k2 k3 h4 hr' hB' k4 k5 (Nat.le_add_right _ _) fun x hx => ?_⟩
          · rw [List.mem_append, not_or] at hb
            rw [Hp.get_append, (moveH_get hB' b).1 (revE_none hb.1), Option.none_or, eraseAll_ne _ hb.2]
          · have := List.all_eq_true.1 k6 x hx
            simp only [okE2, Bool.or_eq_true, Bool.and_eq_true, decide_eq_true_eq] at this
            rcases this with h5 | ⟨⟨h5, h6⟩, h7⟩
            · exact .inl h5
            · refine .inr ⟨?_, by simpa using h6, ?_⟩
              · split at h5
                · rename_i B hB; exact ⟨B, hB, by simpa using h5⟩
                · cases h5
              · split at h7
                · rename_i B hB; exact ⟨B, hB, by simpa using h7⟩
                · cases h7
        · cases he
      · cases he
    · cases he
  · cases he

theorem xFrozen_ok {rec : FuncId → List V → Hp → Nat → Option (V × Hp × Nat)} (hrec : RecOk P rec) : RecOk P (xFrozen rec) := by
  intro g vs h c r h' c' he
  unfold xFrozen at he
  split at he
  · rename_i r0 h1 c1 hr
    obtain ⟨h3, h4⟩ := hrec _ _ _ _ _ _ _ hr
    split at he
    · rename_i r2 h2 hf
      simp only [Option.some.injEq, Prod.mk.injEq] at he
      obtain ⟨rfl, rfl, rfl⟩ := he
      refine ⟨h3, fun bad w m xs hh hl hrep => (h4 bad w m xs hh hl hrep).mono ?_⟩
      rintro e w' ⟨x, m', rfl, hrx, hle, hh'⟩
      obtain ⟨m2, le2, hh2, h5⟩ := frz_sound 12 h1 r0 r2 h2 m' x hh' hf hrx
      exact ⟨x, m2, rfl, .pure h5, hle.trans le2, hh2⟩
    · cases he
  · cases he

theorem xCall_sound {rec : FuncId → List V → Hp → Nat → Option (V × Hp × Nat)} (hrec : RecOk P rec) : CallOk P (xCall rec mode) := by
  intro g vs h c d r h' c' wr he
  unfold xCall at he
  split at he
  · exact xPure_sound hrec he
  · exact xLend_sound (xFrozen_ok hrec) he
  · exact xLend_sound hrec he
  · exact xLend_sound hrec he

theorem CallsA_of_PT {bad : Nat → Prop} {g : FuncId} {vs : List V} {r : V} (hpu : vs.all (pur 6) = true) (hp : PT P g vs r) (h : Hp) (c : Nat) : CallsA P bad h c g vs r h c := by
  intro w m xs hh hl hr
  let bad' : Nat → Prop := fun β => bad β ∨ ∃ b l, m b = some l ∧ l.blk = some β
  have hbad' : ∀ β, bad' β → β < w.heap.size := fun β hβ => by
    rcases hβ with h1 | ⟨b, l, h1, h2⟩
    · exact hh.lt β h1
    · exact hh.blk_lt h1 h2
  have hargs : ∀ i (h1 : i < vs.length) (h2 : i < xs.size), RepP w (okOf bad' w noM) vs[i] xs[i] := fun i h1 h2 =>
    (pur_sound 6 (List.all_eq_true.1 hpu _ (List.getElem_mem h1)) (hr i h1 h2)).mono fun β hβ => ⟨⟨hβ.1, fun h3 => by
      rcases h3 with h3 | ⟨b, l, h3, h4⟩
      · exact hβ.2.1 h3
      · exact hβ.2.2 b l h3 h4, fun b l h3 => by simp [noM] at h3⟩, fun _ => rfl⟩
  refine (hp bad' w xs hbad' hl hargs).mono ?_
  rintro e w' ⟨x, rfl, hrx, hle⟩
  have hkeep : ∀ β, β < w.heap.size → w'.heap[β]? = w.heap[β]? := fun β hβ => hle.keep β hβ fun b l h1 => by simp [noM] at h1
  obtain ⟨le1, hh1⟩ := hh.world hkeep hle.size hle.os hle.output hle.tape
  exact ⟨x, m, rfl, .pure (hrx.mono fun β hβ => ⟨⟨hβ.1, fun h1 => hβ.2.1 (.inl h1), fun b l h1 h2 => hβ.2.1 (.inr ⟨b, l, h1, h2⟩)⟩, fun _ => rfl⟩), le1, hh1⟩

theorem xPureCall_sound {rec : FuncId → List V → Hp → Nat → Option (V × Hp × Nat)} (hrec : RecOk P rec) : CallPOk P (xPureCall rec mode) := by
  intro g vs r he
  unfold xPureCall at he
  split at he
  · split at he
    · rename_i hpu
      split at he
      · rename_i r0 h1 c1 hr
        obtain ⟨h3, h4⟩ := hrec _ _ _ _ _ _ _ hr
        split at he
        · rename_i r1 h2 hf
          simp only [Option.some.injEq] at he
          subst he
          exact ⟨h3, fun bad h c => CallsA_of_PT hpu (PT_of h4 hf) h c⟩
        · cases he
      · cases he
    · cases he
  · cases he

theorem xFn_sound (hT : TabOk P T) (hF : FOk P F) (hm : P.follows .mixedOrders = true) (fuel : Nat) : ∀ n, RecOk P (xFn P T F mode fuel n) := by
  intro n
  induction n with
  | zero => intro g vs h c r h' c' he; simp [xFn] at he
  | succ n ih =>
    intro g vs h c r h' c' he
    simp only [xFn] at he
    split at he
    · rename_i fn hfn
      obtain ⟨hf, hname⟩ := hF g fn hfn
      split at he
      · rename_i code hb
        refine ⟨⟨fn, hf, by rw [hb]; rfl, hname⟩, fun bad w m xs hh hl hr => ?_⟩
        have key : ∀ e st, xCode P T (xPureCall (xFn P T F mode fuel n) mode) (xCall (xFn P T F mode fuel n) mode) fuel code (start fn vs h c) = some (e, st) → (e = .normal ∨ e = .ret) → evResults T st fn.results.toList = some r → st.h = h' → st.c = c' →
            Calls P g xs w fun e w' => ∃ x m', e = .returned x ∧ Rep bad w' m' c' r x ∧ Le w m c w' m' c' ∧ HeapRep bad h' w' m' c' := by
          intro e st hx hee hres h1 h2
          subst h1 h2
          refine calls_body hT hf hb hh hl hr (Q := fun s => s = st) (fun bs => WC_mono (xCode_sound hT (xPureCall_sound ih) (xCall_sound ih) hm fuel code _ _ _ hx) ?_) ?_
          · rintro e' s ⟨rfl, rfl⟩
            rcases hee with rfl | rfl <;> rfl
          · rintro bs s a' w' m' rfl hs hle
            obtain ⟨x, h3, h4⟩ := evResults_sound hT hs hres
            exact ⟨x, h3, x, m', rfl, h4, hle, hs.h⟩
        split at he
        · rename_i st hx
          simp only [Option.map_eq_some_iff, Prod.mk.injEq] at he
          obtain ⟨r', h1, rfl, h2, h3⟩ := he
          exact key _ _ hx (.inl rfl) h1 h2 h3
        · rename_i st hx
          simp only [Option.map_eq_some_iff, Prod.mk.injEq] at he
          obtain ⟨r', h1, rfl, h2, h3⟩ := he
          exact key _ _ hx (.inr rfl) h1 h2 h3
        · cases he
      · cases he
    · cases he

end
end Go.Mx
