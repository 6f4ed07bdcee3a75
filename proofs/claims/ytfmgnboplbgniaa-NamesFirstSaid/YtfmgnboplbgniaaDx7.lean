/-
  More of what a state may be read zs; the table of types; words of the functions that are printed.
-/
import Derived.Test.YtfmgnboplbgniaaDx6
import Derived.KernelRfl
namespace Go.Mx
set_option linter.unusedVariables false
set_option linter.unusedSimpArgs false

/-- Cell by cell it may be read zs less. -/
def CLe (v v' : V) : Prop := v.cells.length = v'.cells.length ∧ ∀ j (h1 : j < v.cells.length) (h2 : j < v'.cells.length), VLf v.cells[j] v'.cells[j]

theorem VLf.slen {b s n n' : Nat} {tip : Bool} (h : n = n') : VLf (.sl b s 0 n tip) (.sl b s 0 n' tip) := h ▸ VLf.refl _
theorem CLe.refl (v : V) : CLe v v := ⟨rfl, fun j h1 h2 => VLf.refl _⟩
theorem CLe.agg {l m : List V} (h : VLfs l m) : CLe (.agg l) (.agg m) := ⟨h.get.1, h.get.2⟩
theorem CLe.one {v v' : V} (h : VLf v v') (h1 : v.cells = [v]) (h2 : v'.cells = [v']) : CLe v v' := by
  refine ⟨by rw [h1, h2]; rfl, fun j a b => ?_⟩
  have hj : j = 0 := by rw [h1] at a; simpa using a
  subst hj
  have e1 : v.cells[0] = v := by simp [h1]
  have e2 : v'.cells[0] = v' := by simp [h2]
  rw [e1, e2]; exact h
theorem CLe.of (l : List V) {v : V} (h : VLfs v.cells l) : CLe v (.agg l) := ⟨h.get.1, h.get.2⟩

def CLes : List V → List V → Prop
  | [], [] => True
  | a :: r, b :: q => CLe a b ∧ CLes r q
  | _, _ => False

theorem CLes.get : ∀ {l m : List V}, CLes l m → l.length = m.length ∧ ∀ i (h1 : i < l.length) (h2 : i < m.length), CLe l[i] m[i]
  | [], [], _ => ⟨rfl, fun i h => by simp at h⟩
  | a :: r, b :: q, ⟨h, k⟩ => by
    obtain ⟨h1, h2⟩ := k.get
    refine ⟨by simp [h1], fun i a b => ?_⟩
    cases i with
    | zero => exact h
    | succ i => simpa using h2 i (by simpa using a) (by simpa using b)
  | [], _ :: _, h => h.elim
  | _ :: _, [], h => h.elim

/-- Blocks that may be read zs less. -/
def HLe : Hp → Hp → Prop
  | [], [] => True
  | (k, B) :: r, (k', B') :: r' => k = k' ∧ (B = B' ∨ (B.var = true ∧ B' = { B with es := B'.es } ∧ CLes B.es B'.es) ∨ B' = { B with nl := true }) ∧ HLe r r'
  | _, _ => False

theorem HLe.refl : ∀ (h : Hp), HLe h h
  | [] => trivial
  | (k, B) :: r => ⟨rfl, .inl rfl, HLe.refl r⟩

theorem HLe.get : ∀ {h h' : Hp}, HLe h h' → ∀ k, (h.get k = none ∧ h'.get k = none) ∨ ∃ B B', h.get k = some B ∧ h'.get k = some B' ∧ (B = B' ∨ (B.var = true ∧ B' = { B with es := B'.es } ∧ CLes B.es B'.es) ∨ B' = { B with nl := true })
  | [], [], _, k => .inl ⟨rfl, rfl⟩
  | (j, B) :: r, (j', B') :: r', ⟨h1, h2, h3⟩, k => by
    subst h1
    simp only [Hp.get]
    by_cases e : j = k
    · simp only [e, if_true]; exact .inr ⟨B, B', rfl, rfl, h2⟩
    · simp only [if_neg e]; exact h3.get k
  | [], _ :: _, h, _ => h.elim
  | _ :: _, [], h, _ => h.elim

section
variable {P : Program} {T : TypeId → Option TI} {bad : Nat → Prop} {E : Ent} {N : Nat}

theorem HLe.rep {h h' : Hp} (hH : HLe h h') {w : World} {m : MM} {c : Nat} (hh : HeapRep bad h w m c) : HeapRep bad h' w m c := by
  refine ⟨fun k B1 hk => ?_, fun k hk => ?_, hh.lt, hh.nb, hh.inj⟩
  · rcases hH.get k with ⟨_, e2⟩ | ⟨B0, B0', e1, e2, e3⟩
    · rw [e2] at hk; cases hk
    · rw [e2] at hk; cases hk
      rcases e3 with rfl | ⟨e4, e5, e6⟩ | e7
      · exact hh.get k B0 e1
      rotate_left
      · obtain ⟨l, p1, p2, p3, p4, p5, p6⟩ := hh.get k B0 e1
        refine ⟨l, p1, ?_⟩
        rw [e7]
        refine ⟨p2, p3, p4, p5, ?_⟩
        rcases p6 with ⟨_, h7, h8⟩ | h6
        · exact .inl ⟨rfl, h7, h8⟩
        · exact .inr h6
      · obtain ⟨l, p1, p2, p3, p4, p5, p6⟩ := hh.get k B0 e1
        obtain ⟨q1, q2⟩ := e6.get
        refine ⟨l, p1, ?_⟩
        rw [e5]
        refine ⟨p2, p3, p4, p5, ?_⟩
        rcases p6 with ⟨r1, r2, r3⟩ | ⟨r1, β, cs, r2, r3, r4, r5, r6, r7⟩
        · exact .inl ⟨r1, r2, by rw [r3] at q1; exact List.length_eq_zero_iff.1 q1.symm⟩
        · refine .inr ⟨trivial, β, cs, r2, r3, r4, by simp only; rw [← q1]; exact r5, fun i hi => ?_, fun i hi j hj => ?_⟩
          · simp only at hi
            rw [← (q2 i (by omega) hi).1]; exact r6 i (by omega)
          · simp only at hi hj
            obtain ⟨c1, c2⟩ := q2 i (by omega) hi
            obtain ⟨x, hx, hr⟩ := r7 i (by omega) j (by rw [c1]; exact hj)
            refine ⟨x, hx, ?_⟩
            simp only [e4, RepC, if_true] at hr ⊢
            exact c2 j (by rw [c1]; exact hj) hj _ _ _ _ _ hr
  · rcases hH.get k with ⟨e1, _⟩ | ⟨B0, B0', e1, e2, e3⟩
    · exact hh.non k e1
    · rw [e2] at hk; cases hk

theorem Weak_leH {s : SA} (A' : List (Nat × V)) (h' : Hp) (hk : keysLt N A' = true) (hA : SLe s.A A') (hH : HLe s.h h') : Weak bad E N s ⟨A', h', s.c⟩ :=
  fun a w m hs hl => by
    have h1 := hs.slots hk fun k x hr => hA.get k _ _ _ _ _ hr
    exact ⟨m, ⟨h1.1, ⟨h1.2.t, hH.rep h1.2.h, h1.2.d⟩⟩, hl⟩

theorem Weak_keepE {s : SA} (ks : List Nat) (s' : SA) (he : (⟨keepA ks s.A, s.h, s.c⟩ : SA) = s') (hk : ks.all (Nat.blt · N) = true) : Weak bad E N s s' := he ▸ Weak_keep ks hk

/-- A nil slice in a variable is a row of the frame's own. -/
theorem Weak_ownH {s : SA} (b0 b j : Nat) (B0 : Blk) (v0 v0' : V) (e : TypeId) (wd : Nat) (hg : s.h.get b0 = some B0) (hv : B0.var = true) (hes : B0.es = [v0]) (hj : v0.cells[j]? = some (.ps .nil [])) (hc' : v0'.cells = v0.cells.set j (.sl b s.c 0 0 true))
    (hb : s.h.get b = none) (hc : Nat.ble E.c s.c = true) : Weak bad E N s ⟨s.A, (b, ⟨s.c, e, wd, false, true, []⟩) :: (b0, { B0 with es := [v0'] }) :: s.h.erase b0, s.c + 1⟩ := by
  intro a w m hs hl
  have hh := hs.2.h
  simp only [SA.st] at hh
  have hne : b0 ≠ b := by intro e; subst e; rw [hg] at hb; cases hb
  obtain ⟨hle, hnew⟩ := hh.newNil b e wd
  refine ⟨_, ⟨hs.1, ⟨hs.2.t.mono hle, ?_, hs.2.d⟩⟩, hl.trans hle⟩
  simp only [SA.st]
  have get' : ∀ k, Hp.get ((b, ⟨s.c, e, wd, false, true, []⟩) :: (b0, { B0 with es := [v0'] }) :: s.h.erase b0) k = if k = b0 then some { B0 with es := [v0'] } else (s.h.set b ⟨s.c, e, wd, false, true, []⟩).get k := fun k => by
    simp only [Hp.get, Hp.get_erase, Hp.get_set]
    by_cases h1 : b = k
    · subst h1; simp [Ne.symm hne]
    · by_cases h2 : b0 = k
      · subst h2; simp [h1]
      · simp [h1, h2, Ne.symm h2]
  refine ⟨fun k B hk => ?_, fun k hk => hnew.non k ?_, hnew.lt, hnew.nb, hnew.inj⟩
  · rw [get'] at hk
    by_cases hkb : k = b0
    · subst hkb
      rw [if_pos rfl] at hk; cases hk
      have h3 := hnew.get k B0 (by rw [Hp.get_set, if_neg (Ne.symm hne)]; exact hg)
      obtain ⟨l, p1, p2, p3, p4, p5, p6⟩ := h3
      refine ⟨l, p1, p2, p3, p4, p5, ?_⟩
      rcases p6 with ⟨r1, r2, r3⟩ | ⟨r1, β, cs, r2, r3, r4, r5, r6, r7⟩
      · rw [hes] at r3; cases r3
      · have hlen : v0'.cells.length = v0.cells.length := by rw [hc']; simp
        refine .inr ⟨trivial, β, cs, r2, r3, r4, by rw [hes] at r5; exact r5, fun i hi => ?_, fun i hi q hq => ?_⟩
        · have : i = 0 := by simpa using hi
          subst this
          have := r6 0 (by rw [hes]; simp)
          simp only [hes, List.getElem_cons_zero] at this ⊢
          omega
        · have : i = 0 := by simpa using hi
          subst this
          simp only [List.getElem_cons_zero] at hq ⊢
          have hq' : q < v0.cells.length := by omega
          obtain ⟨x, hx, hr⟩ := r7 0 (by rw [hes]; simp) q (by simp only [hes, List.getElem_cons_zero]; exact hq')
          refine ⟨x, hx, ?_⟩
          simp only [hv, RepC, if_true, hes, List.getElem_cons_zero] at hr ⊢
          have e1 : v0'.cells[q] = (v0.cells.set j (.sl b s.c 0 0 true))[q]'(by simpa using hq') := by simp [hc']
          rw [e1, List.getElem_set]
          split
          · rename_i hjq
            subst hjq
            have e2 : v0.cells[j] = .ps .nil [] := by
              rw [List.getElem?_eq_getElem hq'] at hj; simpa using hj
            rw [e2] at hr
            have hx0 : x = .slice none 0 0 := by
              cases hr with
              | pure hp => cases hp with
                | psNil => rfl
                | ps hn => exact absurd rfl hn
            rw [hx0]
            refine .sl (Nat.lt_succ_self _) rfl fun l1 hl1 _ => ?_
            simp only [upd, if_true, Option.some.injEq] at hl1
            subst hl1
            exact .inl ⟨rfl, rfl, rfl, rfl⟩
          · exact hr
    · rw [if_neg hkb] at hk
      exact hnew.get k B hk
  · rw [get'] at hk
    by_cases hkb : k = b0
    · rw [if_pos hkb] at hk; cases hk
    · rw [if_neg hkb] at hk; exact hk

/-- Behind a region that left its order open, what stands may be read otherwise. -/
def Wk (bad : Nat → Prop) (E : Ent) (N : Nat) (s : SA) (Q : SA → Prop) : Prop := ∃ s', Weak bad E N s s' ∧ Q s'

theorem Wk_step {s s' : SA} {Q : SA → Prop} (hw : Weak bad E N s s') (h : Wk bad E N s' Q) : Wk bad E N s Q := by
  obtain ⟨t, h1, h2⟩ := h
  exact ⟨t, hw.trans h1, h2⟩

theorem Wk_done {s : SA} {Q : SA → Prop} (h : Q s) : Wk bad E N s Q := ⟨s, Weak.refl s, h⟩

theorem WA_drawW (hT : TabOk P T) (hm : P.follows .mixedOrders = true) {id : Nat} {ops : Array Oper} {s : SA} {Q : Exit → SA → Prop} (hn : namesOk ops = true) (h : WD P T bad N ops 0 [] [] s fun s' => Wk bad E N s' (Q .normal)) : WA P bad E N (.region id ops true) s Q := by
  intro a w m hs hl
  refine wp_mono (WA_draw (E := E) (bad := bad) hT hm hn (Q := fun e s' => e = .normal ∧ Wk bad E N s' (Q .normal)) ?_ a w m hs hl) ?_
  · obtain ⟨tr, fin, h1, h2, h3, h4, h5, h6⟩ := h
    exact ⟨tr, fin, h1, h2, h3, h4, h5, rfl, h6⟩
  · rintro e a' w' ⟨s', m', ⟨rfl, s2, k1, k2⟩, h7, h8⟩
    obtain ⟨m2, h9, h10⟩ := k1 a' w' m' h7 h8
    exact ⟨s2, m2, k2, h9, h10⟩

/-- Ways meet. -/
theorem WA_join {x : Code} {s : SA} {Q : Exit → SA → Prop} (J : SA → Prop) (h : WA P bad E N x s (thenA J Q)) (hj : ∀ s', J s' → Q .normal s') : WA P bad E N x s Q :=
  WA_mono h fun e s' hq => by cases e <;> first | exact hj s' hq | exact hq

end

/-- The row of a type. -/
def tabRow (P : Program) (t : TypeId) : Option TI :=
  match P.info? t, P.underlying t with
  | some info, some d => match info.zero with
    | some z => if z.cells.size = info.size ∧ t < P.types.size then some ⟨info.size, info.bytes, d, ofC z⟩ else none
    | none => none
  | _, _ => none

def lookT : List (Nat × TI) → Nat → Option TI
  | [], _ => none
  | (k, i) :: r, t => bif Nat.beq k t then some i else lookT r t

theorem lookT_mem : ∀ {l : List (Nat × TI)} {t : Nat} {i : TI}, lookT l t = some i → (t, i) ∈ l
  | [], _, _, h => by cases h
  | (k, j) :: r, t, i, h => by
    simp only [lookT] at h
    cases hb : Nat.beq k t with
    | true =>
      rw [hb] at h
      simp only [cond_true, Option.some.injEq] at h
      subst h
      rw [Nat.eq_of_beq_eq_true hb]; exact List.mem_cons_self ..
    | false =>
      rw [hb] at h
      exact List.mem_cons_of_mem _ (lookT_mem h)

def rowsOk (P : Program) : List (Nat × TI) → Prop
  | [] => True
  | (k, i) :: r => tabRow P k = some i ∧ rowsOk P r

theorem rowsOk_mem {P : Program} : ∀ {l : List (Nat × TI)}, rowsOk P l → ∀ x ∈ l, tabRow P x.1 = some x.2
  | [], _, x, hx => by cases hx
  | (k, i) :: r, ⟨h1, h2⟩, x, hx => by
    rcases List.mem_cons.1 hx with rfl | hx
    · exact h1
    · exact rowsOk_mem h2 x hx

def tabClosed (l : List (Nat × TI)) : Bool := l.all fun x => match x.2.desc with
  | .struct fs => fs.toList.all fun f => (lookT l f.type).isSome
  | _ => true

theorem tab_ok {P : Program} {l : List (Nat × TI)} (h : rowsOk P l) (hc : tabClosed l = true) : TabOk P (lookT l) := by
  intro t i ht
  have hm := lookT_mem ht
  have h1 := rowsOk_mem h _ hm
  simp only at h1
  unfold tabRow at h1
  split at h1
  · rename_i info d hi hu
    split at h1
    · rename_i z hz
      split at h1
      · rename_i hsz
        simp only [Option.some.injEq] at h1
        subst h1
        refine ⟨info, z, hi, rfl, rfl, hu, hz, rfl, hsz.1, fun fs hfs f hf => ?_⟩
        have := List.all_eq_true.1 hc _ hm
        simp only at hfs
        subst hfs
        simp only at this
        exact List.all_eq_true.1 this f hf
      · cases h1
    · cases h1
  · cases h1

theorem bsome {α β : Type} {o : Option α} {f : α → Option β} {r : β} (h : o.bind f = some r) : ∃ x, o = some x ∧ f x = some r := Option.bind_eq_some_iff.1 h
theorem ctrue {α : Type} {b : Bool} {x y r : α} (hb : b = true) (h : (bif b then x else y) = r) : x = r := by rw [hb] at h; exact h
theorem cfalse {α : Type} {b : Bool} {x y r : α} (hb : b = false) (h : (bif b then x else y) = r) : y = r := by rw [hb] at h; exact h
theorem gsome {α : Type} {b : Bool} {x : Option α} {r : α} (h : (bif b then x else none) = some r) : b = true ∧ x = some r := by
  cases b with
  | true => exact ⟨rfl, h⟩
  | false => cases h
theorem g0some {α : Type} {b : Bool} {x : Option α} {r : α} (h : (bif b then none else x) = some r) : b = false ∧ x = some r := by
  cases b with
  | false => exact ⟨rfl, h⟩
  | true => cases h

/-- Ways that meet in a word. -/
def jn {α β : Type} (k : α) (f : α → β) : β := f k
theorem jsome {α β : Type} {k : α} {f : α → β} {r : β} (h : jn k f = r) : ∃ J, J = k ∧ f J = r := ⟨k, rfl, h⟩

/-- A complex number: its parts' bits. -/
structure Cx where
  re : Nat
  im : Nat

theorem enters {P : Program} {g : FuncId} (fn : Func) (h1 : P.funcs[g]? = some fn) (h2 : fn.body.isSome = true) (h3 : (fn.name == "runtime.NumGoroutine") = false) : Enters P g := ⟨fn, h1, h2, h3⟩

end Go.Mx
