/-
  The executor with results that are known already: so that a long run may be proved in parts.
-/
import Derived.Test.YtpcngdlglejgeaaGreatDoorNy19
open Go.RowKit
namespace Go.Mx
set_option linter.unusedVariables false
set_option linter.unusedSimpArgs false

abbrev Memo := List (FuncId × List V × V)

/-- The last ones first: they are the cheap ones. -/
def eqVsT (f : V → V → Bool) : List V → List V → Bool
  | [], [] => true
  | a :: r, b :: q => eqVsT f r q && f a b
  | _, _ => false

theorem eqVsT_ok {f : V → V → Bool} (hf : ∀ a b, f a b = true → a = b) : ∀ {l m : List V}, eqVsT f l m = true → l = m
  | [], [], _ => rfl
  | a :: r, b :: q, h => by
    simp only [eqVsT, Bool.and_eq_true] at h
    rw [hf a b h.2, eqVsT_ok hf h.1]
  | [], _ :: _, h => by cases h
  | _ :: _, [], h => by cases h

def lookMemo : Memo → FuncId → List V → Option V
  | [], _, _ => none
  | (f, us, r) :: m, g, vs => bif Nat.beq f g && eqVsT (eqV 30) us vs then some r else lookMemo m g vs

def MemoOk (P : Program) (m : Memo) : Prop := ∀ x ∈ m, Enters P x.1 ∧ x.2.1.all (pur 6) = true ∧ PT P x.1 x.2.1 x.2.2

theorem lookMemo_ok {P : Program} : ∀ {m : Memo}, MemoOk P m → ∀ {g vs r}, lookMemo m g vs = some r → Enters P g ∧ vs.all (pur 6) = true ∧ PT P g vs r
  | [], _, _, _, _, h => by cases h
  | (f, us, r0) :: m, hm, g, vs, r, h => by
    simp only [lookMemo] at h
    cases hc : (Nat.beq f g && eqVsT (eqV 30) us vs) with
    | false => rw [hc] at h; exact lookMemo_ok (fun x hx => hm x (List.mem_cons_of_mem _ hx)) h
    | true =>
      rw [hc] at h
      simp only [cond_true, Option.some.injEq] at h
      subst h
      simp only [Bool.and_eq_true] at hc
      obtain rfl := Nat.eq_of_beq_eq_true hc.1
      obtain rfl := eqVsT_ok (eqV_ok 30) hc.2
      exact hm _ (List.mem_cons_self ..)

def zFn (P : Program) (T : TypeId → Option TI) (dp : TypeId → Bool) (fz bk : FuncId → Bool) (F : FuncId → Option Func) (mode : FuncId → Nat) (memo : Memo) (fuel : Nat) : Nat → FuncId → List V → Hp → Nat → Option (V × Hp × Nat)
  | 0, _, _, _, _ => none
  | n + 1, g, vs, h, c => match lookMemo memo g vs with
    | some r => some (r, h, c)
    | none => match F g with
      | some fn => match fn.body with
        | some code => forceCh (chunks (Nat.succ (Nat.div (start fn vs h c).t.length 16)) (start fn vs h c).t) fun t0 => endY T fn (yCode P T dp fz bk (xPureCall (zFn P T dp fz bk F mode memo fuel n) mode) (xCall (zFn P T dp fz bk F mode memo fuel n) mode) fuel code ⟨t0, h, c⟩)
        | none => none
      | none => none

section
variable {P : Program} {T : TypeId → Option TI} {dp : TypeId → Bool} {fz bk : FuncId → Bool} {F : FuncId → Option Func} {mode : FuncId → Nat} {bs : Nat}

theorem zFn_sound (hT : TabOk P T) (hbk : BkOk P bk) {memo : Memo} (hmemo : MemoOk P memo) (hF : FOk P F) (hm : P.follows .mixedOrders = true) (fuel : Nat) : ∀ n, RecOk P (zFn P T dp fz bk F mode memo fuel n) := by
  intro n
  induction n with
  | zero => intro g vs h c r h' c' he; simp [zFn] at he
  | succ n ih =>
    intro g vs h c r h' c' he
    simp only [zFn, forceCh_eq] at he
    split at he
    · rename_i r0 hmm
      simp only [Option.some.injEq, Prod.mk.injEq] at he
      obtain ⟨rfl, rfl, rfl⟩ := he
      obtain ⟨k1, k2, k3⟩ := lookMemo_ok hmemo hmm
      exact ⟨k1, fun bad => CallsA_of_PT k2 k3 _ _⟩
    split at he
    · rename_i fn hfn
      obtain ⟨hf, hname⟩ := hF g fn hfn
      split at he
      · rename_i code hb
        refine ⟨⟨fn, hf, by rw [hb]; rfl, hname⟩, fun bad w m xs hh hl hr => ?_⟩
        have hR0 : Rel ⟨chunks (Nat.succ (Nat.div (start fn vs h c).t.length 16)) (start fn vs h c).t, h, c⟩ (start fn vs h c) := by
          refine ⟨RelC_chunks ?_, rfl, rfl⟩
          have e : Nat.div (start fn vs h c).t.length 16 = (start fn vs h c).t.length / 16 := rfl
          rw [e, Nat.succ_eq_add_one]
          omega
        have key : ∀ e s, yCode P T dp fz bk (xPureCall (zFn P T dp fz bk F mode memo fuel n) mode) (xCall (zFn P T dp fz bk F mode memo fuel n) mode) fuel code ⟨chunks (Nat.succ (Nat.div (start fn vs h c).t.length 16)) (start fn vs h c).t, h, c⟩ = some (e, s) → (e = .normal ∨ e = .ret) → evResultsY T s fn.results.toList = some r → s.h = h' → s.c = c' →
            Calls P g xs w fun e w' => ∃ x m', e = .returned x ∧ Rep bad w' m' c' r x ∧ Le w m c w' m' c' ∧ HeapRep bad h' w' m' c' := by
          intro e s hx hee hres h1 h2
          subst h1 h2
          refine calls_body hT hf hb hh hl hr (Q := fun st => Rel s st) (fun bs => WC_mono (yCode_sound hT hbk (xPureCall_sound ih) (xCall_sound ih) hm fuel code _ _ _ _ hR0 hx) ?_) ?_
          · rintro e' q ⟨rfl, hq⟩
            rcases hee with rfl | rfl <;> exact hq
          · rintro bs st a' w' m' hq hs hle
            rw [evResultsY_eq T hq] at hres
            obtain ⟨x, h3, h4⟩ := evResults_sound hT hs hres
            obtain ⟨q1, q2, q3⟩ := hq
            exact ⟨x, h3, x, m', rfl, q3 ▸ h4, q3 ▸ hle, q2 ▸ q3 ▸ hs.h⟩
        unfold endY at he
        split at he
        · rename_i s hx
          split at he
          · rename_i r' h1
            simp only [Option.some.injEq, Prod.mk.injEq] at he
            obtain ⟨rfl, h2, h3⟩ := he
            exact key _ _ hx (.inl rfl) h1 h2 h3
          · cases he
        · rename_i s hx
          split at he
          · rename_i r' h1
            simp only [Option.some.injEq, Prod.mk.injEq] at he
            obtain ⟨rfl, h2, h3⟩ := he
            exact key _ _ hx (.inr rfl) h1 h2 h3
          · cases he
        · cases he
      · cases he
    · cases he

end

/-- It comes to this. -/
def saysV (r : V) : Option (V × Hp × Nat) → Bool
  | some (r0, h1, _) => match frz 12 h1 r0 with
    | some (r', _) => eqV 30 r r'
    | none => false
  | none => false

/-- A part of a run, done: it may be leant on. -/
theorem memo_cons {P : Program} (hall : tabAll P = true) (hm : P.follows .mixedOrders = true) {dp : TypeId → Bool} {fz bk : FuncId → Bool} {mode : FuncId → Nat} (hbk : BkOk P bk) {memo : Memo} (hmemo : MemoOk P memo) {fuel n : Nat} {g : FuncId} {vs : List V} {r : V}
    (h : (saysV r (zFn P (tabRowM P) dp fz bk (funOf P) mode memo fuel n g vs [] 0) && vs.all (pur 6)) = true) : MemoOk P ((g, vs, r) :: memo) := by
  intro x hx
  refine (List.mem_cons.1 hx).elim (fun e => ?_) fun h' => hmemo x h'
  subst e
  rw [Bool.and_eq_true] at h
  obtain ⟨h, hp⟩ := h
  unfold saysV at h
  split at h
  · rename_i r0 h1 c1 hrun
    split at h
    · rename_i r' h2 hf
      obtain rfl := eqV_ok 30 _ _ h
      obtain ⟨k1, k2⟩ := zFn_sound (tabRowM_ok hall) hbk hmemo (funOf_ok P) hm fuel n _ _ _ _ _ _ _ hrun
      exact ⟨k1, hp, PT_of k2 hf⟩
    · cases h
  · cases h

theorem memo_nil {P : Program} : MemoOk P [] := fun x hx => by cases hx

/-- A call that comes to true, parts of it known. -/
theorem calls_trueZ {P : Program} (hall : tabAll P = true) (hm : P.follows .mixedOrders = true) {dp : TypeId → Bool} {fz bk : FuncId → Bool} {mode : FuncId → Nat} (hbk : BkOk P bk) {memo : Memo} (hmemo : MemoOk P memo) {fuel n : Nat} {g : FuncId} (h : saysTrue (zFn P (tabRowM P) dp fz bk (funOf P) mode memo fuel n g [] [] 0) = true)
    (w : World) : Calls P g #[] w fun e w' => e = .returned (.bool true) ∧ Below w.heap.size w w' := by
  unfold saysTrue at h
  split at h
  · rename_i h1 c1 hx
    obtain ⟨_, h4⟩ := zFn_sound (tabRowM_ok hall) hbk hmemo (funOf_ok P) hm fuel n _ _ _ _ _ _ _ hx
    refine (h4 (fun _ => False) w noM #[] (heap_nil fun β h => h.elim) rfl fun i h1 => by simp at h1).mono ?_
    rintro e w' ⟨x, m', rfl, hrx, hle, _⟩
    exact ⟨by rw [rep_p hrx], hle.belowM⟩
  · cases h

end Go.Mx
