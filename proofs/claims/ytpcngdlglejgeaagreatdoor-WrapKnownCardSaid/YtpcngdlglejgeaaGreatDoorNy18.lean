/-
  A region whose order Go leaves open, run in the order of the text, with the proof that every order comes to the same.
-/
import Derived.Test.YtpcngdlglejgeaaGreatDoorNy16
namespace Go.Mx
set_option linter.unusedVariables false
set_option linter.unusedSimpArgs false

/-! Values brought to their last form before they are handed on: nothing but speed. -/
section
universe u
variable {α : Type u}

def forceN (n : Nat) (k : Nat → α) : α :=
  match n with
  | 0 => k 0
  | m + 1 => k (Nat.succ m)

theorem forceN_eq (n : Nat) (k : Nat → α) : forceN n k = k n := by cases n <;> rfl

def forceB (b : Bool) (k : Bool → α) : α :=
  match b with
  | true => k true
  | false => k false

theorem forceB_eq (b : Bool) (k : Bool → α) : forceB b k = k b := by cases b <;> rfl

def forceI (n : Int) (k : Int → α) : α :=
  match n with
  | .ofNat m => forceN m fun m => k (.ofNat m)
  | .negSucc m => forceN m fun m => k (.negSucc m)

theorem forceI_eq (n : Int) (k : Int → α) : forceI n k = k n := by cases n <;> simp only [forceI, forceN_eq]

def forceVal (x : Value) (k : Value → α) : α :=
  match x with
  | .int kd n => forceI n fun n => k (.int kd n)
  | .bool b => forceB b fun b => k (.bool b)
  | x => k x

theorem forceVal_eq (x : Value) (k : Value → α) : forceVal x k = k x := by
  unfold forceVal
  split
  · rw [forceI_eq]
  · rw [forceB_eq]
  · rfl

def forceL (f : V → (V → α) → α) : List V → (List V → α) → α
  | [], k => k []
  | v :: r, k => f v fun v => forceL f r fun r => k (v :: r)

theorem forceL_eq {f : V → (V → α) → α} (hf : ∀ v k, f v k = k v) : ∀ (l : List V) (k : List V → α), forceL f l k = k l
  | [], k => rfl
  | v :: r, k => by simp only [forceL, hf, forceL_eq hf r]

def forceSC (c : SC) (k : SC → α) : α :=
  match c with
  | .nil => k .nil
  | .full => k .full
  | .any => k .any
  | .opt => k .opt
  | .fopt => k .fopt

theorem forceSC_eq (c : SC) (k : SC → α) : forceSC c k = k c := by cases c <;> rfl

def forceV : Nat → V → (V → α) → α
  | 0, v, k => k v
  | n + 1, v, k => match v with
    | .p x => forceVal x fun x => k (.p x)
    | .agg vs => forceL (forceV n) vs fun vs => k (.agg vs)
    | .tup vs => forceL (forceV n) vs fun vs => k (.tup vs)
    | .fn f a b => forceL (forceV n) a fun a => forceL (forceV n) b fun b => k (.fn f a b)
    | .ref v off => forceV n v fun v => forceN off fun off => k (.ref v off)
    | .box b s i off => forceN b fun b => forceN s fun s => forceN i fun i => forceN off fun off => k (.box b s i off)
    | .ps c xs => forceSC c fun c => forceL (forceV n) xs fun xs => k (.ps c xs)
    | .sl b s off len tip => forceN b fun b => forceN s fun s => forceN off fun off => forceN len fun len => forceB tip fun tip => k (.sl b s off len tip)
    | .mp b s => forceN b fun b => forceN s fun s => k (.mp b s)
    | .undef => k .undef

theorem forceV_eq : ∀ (n : Nat) (v : V) (k : V → α), forceV n v k = k v
  | 0, v, k => rfl
  | n + 1, v, k => by
    cases v <;> simp only [forceV, forceVal_eq, forceL_eq (forceV_eq n), forceN_eq, forceSC_eq, forceB_eq, forceV_eq n]

def forceP (v : V) (k : V → α) : α :=
  match v with
  | .p x => forceVal x fun x => k (.p x)
  | v => k v

theorem forceP_eq (v : V) (k : V → α) : forceP v k = k v := by
  unfold forceP
  split
  · rw [forceVal_eq]
  · rfl

def forceSh (v : V) (k : V → α) : α :=
  match v with
  | .p x => forceVal x fun x => k (.p x)
  | .agg vs => forceL forceP vs fun vs => k (.agg vs)
  | .tup vs => forceL forceP vs fun vs => k (.tup vs)
  | .fn f a b => forceL forceP a fun a => forceL forceP b fun b => k (.fn f a b)
  | .ref v off => forceN off fun off => k (.ref v off)
  | .box b s i off => forceN b fun b => forceN s fun s => forceN i fun i => forceN off fun off => k (.box b s i off)
  | .sl b s off len tip => forceN b fun b => forceN s fun s => forceN off fun off => forceN len fun len => forceB tip fun tip => k (.sl b s off len tip)
  | .mp b s => forceN b fun b => forceN s fun s => k (.mp b s)
  | v => k v

theorem forceSh_eq (v : V) (k : V → α) : forceSh v k = k v := by
  unfold forceSh
  split <;> simp only [forceVal_eq, forceL_eq forceP_eq, forceN_eq, forceB_eq]

def forceBk (B : Blk) (k : Blk → α) : α :=
  match B with
  | ⟨s, T, w, var, nl, es⟩ => forceN s fun s => forceB var fun var => forceB nl fun nl => forceL forceSh es fun es => k ⟨s, T, w, var, nl, es⟩

theorem forceBk_eq (B : Blk) (k : Blk → α) : forceBk B k = k B := by
  obtain ⟨s, T, w, var, nl, es⟩ := B
  simp only [forceBk, forceN_eq, forceB_eq, forceL_eq forceSh_eq]

def forceH : Hp → (Hp → α) → α
  | [], k => k []
  | (b, B) :: r, k => forceN b fun b => forceBk B fun B => forceH r fun r => k ((b, B) :: r)

theorem forceH_eq : ∀ (h : Hp) (k : Hp → α), forceH h k = k h
  | [], k => rfl
  | (b, B) :: r, k => by simp only [forceH, forceN_eq, forceBk_eq, forceH_eq r]

/-- The rest of the blocks stand. -/
def forceT : Hp → (Hp → α) → α
  | [], k => k []
  | x :: r, k => forceT r fun r => k (x :: r)

theorem forceT_eq : ∀ (h : Hp) (k : Hp → α), forceT h k = k h
  | [], k => rfl
  | x :: r, k => by simp only [forceT, forceT_eq r]

/-- The first block is new. -/
def forceHd (h : Hp) (k : Hp → α) : α :=
  match h with
  | [] => k []
  | (b, B) :: r => forceN b fun b => forceBk B fun B => forceT r fun r => k ((b, B) :: r)

theorem forceHd_eq (h : Hp) (k : Hp → α) : forceHd h k = k h := by
  unfold forceHd
  split
  · rfl
  · simp only [forceN_eq, forceBk_eq, forceT_eq]

def putF : List V → Nat → V → (List V → α) → α
  | [], _, _, k => k []
  | _ :: r, 0, v, k => k (v :: r)
  | x :: r, n + 1, v, k => putF r n v fun r => k (x :: r)

theorem putF_eq : ∀ (t : List V) (n : Nat) (v : V) (k : List V → α), putF t n v k = k (t.set n v)
  | [], n, v, k => by simp [putF]
  | x :: r, 0, v, k => by simp [putF]
  | x :: r, n + 1, v, k => by simp [putF, putF_eq r]

def putO (t : List V) (d : Option Tmp) (v : V) (k : List V → α) : α :=
  match d with
  | some n => putF t n v k
  | none => k t

theorem putO_eq (t : List V) (d : Option Tmp) (v : V) (k : List V → α) : putO t d v k = k (putT t d v) := by
  cases d <;> simp only [putO, putT, putF_eq]

/-- On with what an operation gave. -/
def withAll (t : List V) (d : Option Tmp) (v : V) (h : Hp) (c : Nat) (k : V → List V → Hp → Nat → α) : α :=
  forceSh v fun v => putO t d v fun t => forceHd h fun h => forceN c fun c => k v t h c

theorem withAll_eq (t : List V) (d : Option Tmp) (v : V) (h : Hp) (c : Nat) (k : V → List V → Hp → Nat → α) : withAll t d v h c k = k v (putT t d v) h c := by
  simp only [withAll, forceSh_eq, putO_eq, forceHd_eq, forceN_eq]

/-- Behind a call. -/
def withCall (t : List V) (d : Option Tmp) (v : V) (h : Hp) (c : Nat) (k : V → List V → Hp → Nat → α) : α :=
  forceV 5 v fun v => putO t d v fun t => forceH h fun h => forceN c fun c => k v t h c

theorem withCall_eq (t : List V) (d : Option Tmp) (v : V) (h : Hp) (c : Nat) (k : V → List V → Hp → Nat → α) : withCall t d v h c k = k v (putT t d v) h c := by
  simp only [withCall, forceV_eq, putO_eq, forceH_eq, forceN_eq]

def deepOp : Op → Bool
  | .slice .. | .buildSlice .. | .call .. => true
  | _ => false

def withV (deep : Bool) (t : List V) (d : Option Tmp) (v : V) (k : V → List V → α) : α := bif deep then forceV 5 v fun v => putO t d v fun t => k v t else forceSh v fun v => putO t d v fun t => k v t

theorem withV_eq (deep : Bool) (t : List V) (d : Option Tmp) (v : V) (k : V → List V → α) : withV deep t d v k = k v (putT t d v) := by
  cases deep <;> simp only [withV, cond_true, cond_false, forceV_eq, forceSh_eq, putO_eq]

def withL (l : List V) (k : List V → α) : α := forceL forceP l k

theorem withL_eq (l : List V) (k : List V → α) : withL l k = k l := forceL_eq forceP_eq l k

end

/-- A call, zs the caller sees it: from what is passed, the frame's blocks, the next stamp, the slot: what it gives, the blocks, the stamp, and which blocks may have turned. -/
abbrev CallF := FuncId → List V → Hp → Nat → Nat → Option (V × Hp × Nat × List Nat)

/-- A call of which nothing in the frame hangs. -/
abbrev CallP := FuncId → List V → Option V

def CallPOk (P : Program) (callP : CallP) : Prop := ∀ g vs r, callP g vs = some r → Enters P g ∧ ∀ bad h c, CallsA P bad h c g vs r h c

/-- What a call must be worth. -/
def CallOk (P : Program) (call : CallF) : Prop := ∀ g vs h c d r h' c' wr, call g vs h c d = some (r, h', c', wr) → Enters P g ∧ (∀ b, b ∉ wr → h'.get b = h.get b) ∧ ∀ bad, CallsA P bad h c g vs r h' c'

def goneOf (h h' : Hp) : List Nat := (h.map (·.1)).filter fun b => (h'.get b).isNone

/-- Only taken away. -/
def SubH (h' h : Hp) : Prop := ∀ b, h'.get b = h.get b ∨ h'.get b = none

theorem SubH.refl (h : Hp) : SubH h h := fun b => .inl rfl
theorem SubH.trans {a b c : Hp} (h1 : SubH a b) (h2 : SubH b c) : SubH a c := fun k => by
  rcases h1 k with e | e
  · rcases h2 k with f | f
    · exact .inl (e.trans f)
    · exact .inr (e.trans f)
  · exact .inr e

theorem SubH_erase (h : Hp) (b : Nat) : SubH (h.erase b) h := fun k => by
  rw [Hp.get_erase]; split
  · exact .inr rfl
  · exact .inl rfl

theorem SubH_mapH {f : Hp → V → Option (V × Hp)} (hf : ∀ h v v' h', f h v = some (v', h') → SubH h' h) : ∀ (l : List V) (h : Hp) (l' : List V) (h' : Hp), mapH f h l = some (l', h') → SubH h' h := by
  intro l
  induction l with
  | nil => intro h l' h' he; simp only [mapH, Option.some.injEq, Prod.mk.injEq] at he; rw [he.2]; exact SubH.refl _
  | cons v r ih =>
    intro h l' h' he
    simp only [mapH] at he
    split at he
    · rename_i v1 h1 hv
      split at he
      · rename_i r1 h2 hr
        simp only [Option.some.injEq, Prod.mk.injEq] at he
        rw [← he.2]
        exact (ih _ _ _ hr).trans (hf _ _ _ _ hv)
      · cases he
    · cases he

theorem SubH_frz : ∀ (n : Nat) (h : Hp) (v v' : V) (h' : Hp), frz n h v = some (v', h') → SubH h' h := by
  intro n
  induction n with
  | zero => intro h v v' h' he; cases he
  | succ n ih =>
    intro h v v' h' he
    unfold frz at he
    split at he
    · split at he
      · split at he
        · split at he
          · cases he
          · split at he
            · simp only [Option.some.injEq, Prod.mk.injEq] at he; rw [← he.2]; exact SubH_erase _ _
            · cases he
        · split at he
          · simp only [Option.map_eq_some_iff, Prod.mk.injEq] at he
            obtain ⟨⟨a, b⟩, h1, _, rfl⟩ := he
            exact (SubH_mapH (fun h v v' h' => ih h v v' h') _ _ _ _ h1).trans (SubH_erase _ _)
          · cases he
      · cases he
    · simp only [Option.map_eq_some_iff, Prod.mk.injEq] at he
      obtain ⟨⟨a, b⟩, h1, _, rfl⟩ := he
      exact SubH_mapH (fun h v v' h' => ih h v v' h') _ _ _ _ h1
    · simp only [Option.map_eq_some_iff, Prod.mk.injEq] at he
      obtain ⟨⟨a, b⟩, h1, _, rfl⟩ := he
      exact SubH_mapH (fun h v v' h' => ih h v v' h') _ _ _ _ h1
    · split at he
      · rename_i zs' h1 hz
        simp only [Option.map_eq_some_iff, Prod.mk.injEq] at he
        obtain ⟨⟨a, b⟩, h2, _, rfl⟩ := he
        exact (SubH_mapH (fun h v v' h' => ih h v v' h') _ _ _ _ h2).trans (SubH_mapH (fun h v v' h' => ih h v v' h') _ _ _ _ hz)
      · cases he
    · split at he
      · split at he
        · split at he
          · simp only [Option.some.injEq, Prod.mk.injEq] at he; rw [← he.2]; exact SubH_erase _ _
          · cases he
        · cases he
      · cases he
    · cases he
    · simp only [Option.some.injEq, Prod.mk.injEq] at he; rw [← he.2]; exact SubH.refl _

theorem Hp.get_mem {h : Hp} {b : Nat} {B : Blk} (hb : h.get b = some B) : b ∈ h.map (·.1) := by
  induction h with
  | nil => simp [Hp.get] at hb
  | cons x r ih =>
    obtain ⟨k, C⟩ := x
    simp only [Hp.get] at hb
    split at hb
    · rename_i e; subst e; simp
    · exact List.mem_cons_of_mem _ (ih hb)

theorem goneOf_spec {h h1 h' : Hp} {b : Nat} (hs : SubH h1 h) (he : h'.get b = h1.get b) (hb : b ∉ goneOf h h') : h'.get b = h.get b := by
  rw [he]
  rcases hs b with e | e
  · exact e
  · cases hg : h.get b with
    | none => rw [e]
    | some B =>
      exfalso
      refine hb (List.mem_filter.2 ⟨Hp.get_mem hg, ?_⟩)
      rw [he, e]; rfl

/-- The first block, if it is new. -/
def newOf (h h' : Hp) : List Nat := match h' with
  | (k, _) :: _ => match h.get k with
    | none => [k]
    | some _ => []
  | [] => []

theorem evAppend_head {T : TypeId → Option TI} {d : Nat} {t : TypeId} {s x : V} {h : Hp} {c : Nat} {v : V} {h' : Hp} {c' : Nat} (he : evAppend T d t s x h c = some (v, h', c')) : h' = h ∨ ∃ B r, h' = (d, B) :: r := by
  unfold evAppend at he
  split at he
  · rename_i r0 h0
    simp only [Option.some.injEq] at he
    subst he
    unfold evAppend0 at h0
    repeat' split at h0
    all_goals first
      | (cases h0; done)
      | (simp only [Option.some.injEq, Prod.mk.injEq] at h0; exact .inl h0.2.1.symm)
      | (simp only [Option.some.injEq, Prod.mk.injEq] at h0; exact .inr ⟨_, _, h0.2.1.symm⟩)
  · unfold evAppendD at he
    repeat' split at he
    all_goals first
      | (cases he; done)
      | (simp only [Option.some.injEq, Prod.mk.injEq] at he; exact .inr ⟨_, _, he.2.1.symm⟩)

/-- Which blocks an operation that writes may turn. -/
def wrOp (t : List V) (o : Oper) (h h' : Hp) : List Nat := match o.op with
  | .store _ a _ => topIds (evalO t a) ++ goneOf h h'
  | .mapUpdate _ x _ _ => topIds (evalO t x)
  | .call cl => o.dst.toList ++ (newOf h h' ++ cl.args.toList.flatMap fun x => topIds (evalO t x))
  | _ => o.dst.toList

section
variable {P : Program} {T : TypeId → Option TI} {bs : Nat}

theorem wrOp_spec {t : List V} {o : Oper} {h : Hp} {c : Nat} {v : V} {h' : Hp} {c' : Nat} (hw : writesOp o.op = true) (he : evOper P T true t o h c = some (v, h', c')) : ∀ b, b ∉ wrOp t o h h' → h'.get b = h.get b := by
  intro b hb
  obtain ⟨dst, op, ty, pos, after, guard⟩ := o
  simp only at hw
  cases op <;> simp only [writesOp] at hw <;> try (cases hw; done)
  case alloc e =>
    simp only [evOper, evOperF] at he
    simp only [wrOp] at hb
    split at he
    · rename_i d i _
      simp only [Option.some.injEq, Prod.mk.injEq] at he
      rw [← he.2.1, Hp.get_set, if_neg]
      rintro rfl
      exact hb (by simp)
    · cases he
  case box e x =>
    simp only [evOper, evOperF] at he
    simp only [wrOp] at hb
    split at he
    · rename_i d
      split at he
      · simp only [Option.some.injEq, Prod.mk.injEq] at he
        rw [← he.2.1, Hp.get_set, if_neg]
        rintro rfl
        exact hb (by simp)
      · cases he
    · cases he
  case makeSlice t' l k =>
    simp only [evOper, evOperF] at he
    simp only [wrOp] at hb
    split at he
    · rename_i d
      unfold evMake at he
      split at he
      · split at he
        · split at he
          · simp only [Option.some.injEq, Prod.mk.injEq] at he
            rw [← he.2.1, Hp.get_set, if_neg]
            rintro rfl
            exact hb (by simp)
          · cases he
        · cases he
      · cases he
    · cases he
  case makeMap t' r =>
    cases r <;> simp only [evOper, evOperF] at he <;> try (cases he; done)
    simp only [wrOp] at hb
    split at he
    · rename_i d
      simp only [Option.some.injEq, Prod.mk.injEq] at he
      rw [← he.2.1, Hp.get_set, if_neg]
      rintro rfl
      exact hb (by simp)
    · cases he
  case mapUpdate t' x k y =>
    simp only [evOper, evOperF, Option.map_eq_some_iff, Prod.mk.injEq] at he
    obtain ⟨h'', he, _, rfl, _⟩ := he
    simp only [wrOp] at hb
    unfold evMapUpd at he
    split at he
    · rename_i et b0 s q _ hx _
      split at he
      · split at he
        · simp only [Option.some.injEq] at he
          rw [← he, Hp.get_set, if_neg]
          rintro rfl
          exact hb (by rw [hx]; simp [topIds])
        · cases he
      · cases he
    · cases he
  case buildSlice t' len ps =>
    simp only [evOper, evOperF] at he
    simp only [wrOp] at hb
    split at he
    · rename_i d
      have hdb : d ≠ b := by rintro rfl; exact hb (by simp)
      unfold evBuildSlice at he
      split at he
      · split at he
        · split at he
          · simp only [if_true] at he
            split at he
            · split at he
              · simp only [Option.some.injEq, Prod.mk.injEq] at he; rw [← he.2.1]
              · cases he
            · split at he
              · simp only [Option.some.injEq, Prod.mk.injEq] at he; rw [← he.2.1, Hp.get_set, if_neg hdb]
              · cases he
          · cases he
        · cases he
      · cases he
    · cases he
  case store t' x y =>
    simp only [evOper, evOperF, Option.map_eq_some_iff, Prod.mk.injEq] at he
    obtain ⟨h'', he, _, rfl, _⟩ := he
    simp only [wrOp, List.mem_append, not_or] at hb
    unfold evStore at he
    split at he
    · rename_i i b0 s j off hT hx
      split at he
      · split at he
        · rename_i x' h1 hfz
          have hsub : SubH h1 h := by
            split at hfz
            · simp only [Option.some.injEq, Prod.mk.injEq] at hfz; rw [← hfz.2]; exact SubH.refl _
            · rw [Option.map_eq_some_iff] at hfz
              obtain ⟨⟨y1, y2⟩, hfz, he3⟩ := hfz
              simp only [Prod.mk.injEq] at he3
              obtain ⟨_, rfl⟩ := he3
              exact SubH_frz _ _ _ _ _ hfz
          split at he
          · split at he
            · split at he
              · simp only [Option.some.injEq] at he
                subst he
                refine goneOf_spec hsub ?_ hb.2
                rw [Hp.get_set, if_neg]
                rintro rfl
                exact hb.1 (by rw [hx]; simp [topIds])
              · cases he
            · cases he
          · cases he
        · cases he
      · cases he
    · cases he
  case call cl =>
    obtain ⟨callee, args, argTypes⟩ := cl
    cases callee <;> (try simp only [] at hw) <;> try (cases hw; done)
    rename_i bi
    cases bi <;> (try simp only [] at hw) <;> try (cases hw; done)
    case copy =>
      simp only [evOper, evOperF] at he
      simp only [wrOp, List.mem_append, not_or] at hb
      split at he
      · rename_i s x t1 t2' ha hat
        unfold evCopy at he
        split at he
        · split at he
          · rename_i i b0 st off len tip xs _ hs _
            have hsb : b0 ≠ b := by
              rintro rfl
              exact hb.2.2 (List.mem_flatMap.2 ⟨s, by rw [ha]; simp, by rw [hs]; simp [topIds]⟩)
            split at he
            · split at he
              · simp only [Option.some.injEq, Prod.mk.injEq] at he
                rw [← he.2.1, Hp.get_set, if_neg hsb]
              · cases he
            · cases he
          · cases he
        · cases he
      · cases he
    case clear =>
      simp only [evOper, evOperF] at he
      simp only [wrOp, List.mem_append, not_or] at hb
      split at he
      · rename_i s t1 ha hat
        unfold evClear at he
        split at he
        · split at he
          · rename_i i b0 st off len tip _ hs
            have hsb : b0 ≠ b := by
              rintro rfl
              exact hb.2.2 (List.mem_flatMap.2 ⟨s, by rw [ha]; simp, by rw [hs]; simp [topIds]⟩)
            split at he
            · split at he
              · simp only [Option.some.injEq, Prod.mk.injEq] at he
                rw [← he.2.1, Hp.get_set, if_neg hsb]
              · cases he
            · cases he
          · cases he
        · cases he
      · cases he
    simp only [evOper, evOperF] at he
    simp only [wrOp, List.mem_append, not_or] at hb
    split at he
    · rename_i d s x t1 t2' ha hat
      split at he
      · by_cases hn : nameA d (evalO t s) h c = b
        · have hne : nameA d (evalO t s) h c ≠ d := by rw [hn]; rintro rfl; exact hb.1 (by simp)
          have hg := (nameA_or d (evalO t s) h c).resolve_left hne
          rcases evAppend_head he with e | ⟨B, r, e⟩
          · rw [e]
          · exfalso
            refine hb.2.1 ?_
            subst e
            rw [hn] at hg
            simp only [newOf, hn, hg, List.mem_singleton]
        have hdb : nameA d (evalO t s) h c ≠ b := hn
        have hsb : ∀ b0 st off len tip, evalO t s = .sl b0 st off len tip → b0 ≠ b := by
          rintro b0 st off len tip hs rfl
          exact hb.2.2 (List.mem_flatMap.2 ⟨s, by rw [ha]; simp, by rw [hs]; simp [topIds]⟩)
        unfold evAppend at he
        split at he
        · rename_i h0
          rw [he] at h0
          clear he
          replace he := h0
          clear h0
          unfold evAppend0 at he
          split at he
          · split at he
            · split at he
              · split at he
                · split at he
                  · simp only [Option.some.injEq, Prod.mk.injEq] at he; rw [← he.2.1]
                  · split at he
                    · simp only [Option.some.injEq, Prod.mk.injEq] at he; rw [← he.2.1, Hp.get_set, if_neg hdb]
                    · cases he
                · split at he
                  · split at he
                    · simp only [Option.some.injEq, Prod.mk.injEq] at he; rw [← he.2.1]
                    · split at he
                      · simp only [Option.some.injEq, Prod.mk.injEq] at he; rw [← he.2.1, Hp.get_set, if_neg hdb]
                      · cases he
                  · cases he
                · rename_i b0 st off len tip hs
                  split at he
                  · split at he
                    · split at he
                      · simp only [Option.some.injEq, Prod.mk.injEq] at he; rw [← he.2.1]
                      · split at he
                        · simp only [Option.some.injEq, Prod.mk.injEq] at he
                          rw [← he.2.1, Hp.get_set, if_neg hdb, Hp.get_erase, if_neg (hsb _ _ _ _ _ hs)]
                        · cases he
                    · cases he
                  · cases he
                · cases he
              · cases he
            · cases he
          · cases he
        · unfold evAppendD at he
          split at he
          · split at he
            · rename_i xs h1 _ hel
              have hx : h1.get b = h.get b := by
                unfold elemsD at hel
                split at hel
                · rename_i b0 st off len tip hv
                  split at hel
                  · split at hel
                    · simp only [Option.some.injEq, Prod.mk.injEq] at hel
                      rw [← hel.2, Hp.get_erase, if_neg]
                      rintro rfl
                      exact hb.2.2 (List.mem_flatMap.2 ⟨x, by rw [ha]; simp, by rw [hv]; simp [topIds]⟩)
                    · cases hel
                  · cases hel
                · cases hel
              split at he
              · split at he
                · split at he
                  · simp only [Option.some.injEq, Prod.mk.injEq] at he; rw [← he.2.1, Hp.get_set, if_neg hdb, hx]
                  · cases he
                · rename_i b0 st off len tip hs
                  split at he
                  · split at he
                    · simp only [Option.some.injEq, Prod.mk.injEq] at he
                      rw [← he.2.1, Hp.get_set, if_neg hdb, Hp.get_erase, if_neg (hsb _ _ _ _ _ hs), hx]
                    · cases he
                  · cases he
                · cases he
              · cases he
            · cases he
          · cases he
      · cases he
    · cases he

end

def maskL : List Nat → Nat
  | [] => 0
  | x :: r => Nat.lor (Nat.shiftLeft 1 x) (maskL r)

theorem maskL_bit : ∀ (l : List Nat) (q : Nat), (maskL l).testBit q = true ↔ q ∈ l
  | [], q => by simp [maskL]
  | x :: r, q => by
    have h : maskL (x :: r) = (1 <<< x) ||| maskL r := rfl
    rw [h, Nat.testBit_or, Bool.or_eq_true, maskL_bit r q, List.mem_cons, Nat.one_shiftLeft, Nat.testBit_two_pow]
    simp only [decide_eq_true_eq]
    constructor
    · rintro (h | h)
      · exact .inl h.symm
      · exact .inr h
    · rintro (h | h)
      · exact .inl h.symm
      · exact .inr h

theorem maskL_meets {a b : List Nat} (h : Nat.land (maskL a) (maskL b) = 0) : meetsL a b = false := by
  cases hm : meetsL a b with
  | false => rfl
  | true =>
    exfalso
    obtain ⟨x, h1, h2⟩ := List.any_eq_true.1 hm
    have h3 : (maskL a &&& maskL b).testBit x = true := by
      rw [Nat.testBit_and, (maskL_bit a x).2 h1, (maskL_bit b x).2 (by simpa using h2)]; rfl
    have h4 : maskL a &&& maskL b = 0 := h
    rw [h4] at h3
    simp at h3

def lookM : List (Nat × Nat) → Nat → Nat
  | [], _ => 0
  | (k, m) :: r, i => bif Nat.beq k i then m else lookM r i

def edgesM : List Edge → List (Nat × Nat) → Nat
  | [], _ => 0
  | e :: r, acc => bif Region.binds .any e then Nat.lor (Nat.lor (Nat.shiftLeft 1 e.on) (lookM acc e.on)) (edgesM r acc) else edgesM r acc

/-- What each operation of a region lies behind, zs the bits of a number. -/
def closM : List Oper → Nat → List (Nat × Nat) → List (Nat × Nat)
  | [], _, acc => acc
  | o :: r, j, acc => closM r (Nat.succ j) ((j, edgesM o.after.toList acc) :: acc)

theorem closGo_in : ∀ (os : List Oper) (acc : List (List Nat)) (i : Nat) (hi : i < os.length) (e : Edge), e ∈ os[i].after.toList → Region.binds .any e = true → ∀ q, (q = e.on ∨ (e.on < acc.length + i ∧ q ∈ (closGo os acc).getD e.on [])) →
    q ∈ (closGo os acc).getD (acc.length + i) [] := by
  intro os
  induction os with
  | nil => intro acc i hi; simp at hi
  | cons o r ih =>
    intro acc i hi e he hb q hq
    let L := o.after.toList.flatMap fun e => if Region.binds .any e then e.on :: acc.getD e.on [] else []
    have h0 : closGo (o :: r) acc = closGo r (acc ++ [L]) := rfl
    rw [h0] at hq ⊢
    cases i with
    | zero =>
      obtain ⟨tl, h1, h2, _⟩ := closGo_spec r (acc ++ [L])
      rw [h1] at hq ⊢
      have hL : (acc ++ [L] ++ tl).getD (acc.length + 0) [] = L := by simp
      rw [hL]
      refine List.mem_flatMap.2 ⟨e, he, ?_⟩
      rw [if_pos hb]
      rcases hq with rfl | ⟨h3, h4⟩
      · exact List.mem_cons_self ..
      · refine List.mem_cons_of_mem _ ?_
        have h5 : (acc ++ [L] ++ tl).getD e.on [] = acc.getD e.on [] := by
          rw [List.append_assoc, List.getD_eq_getElem?_getD, List.getElem?_append_left (by omega), List.getD_eq_getElem?_getD]
        rwa [h5] at h4
    | succ i =>
      have := ih (acc ++ [L]) i (by simpa using hi) e (by simpa using he) hb q (by
        rcases hq with h | ⟨h3, h4⟩
        · exact .inl h
        · exact .inr ⟨by simp; omega, h4⟩)
      simpa [Nat.add_assoc, Nat.add_comm 1 i] using this

/-- The bits are true to the lists. -/
def BitsOk (C : List (List Nat)) (M : List (Nat × Nat)) : Prop := ∀ i q, (lookM M i).testBit q = true → q ∈ C.getD i []

theorem edgesM_bit {C : List (List Nat)} {M : List (Nat × Nat)} (hM : BitsOk C M) : ∀ (l : List Edge) (q : Nat), (edgesM l M).testBit q = true → ∃ e ∈ l, Region.binds .any e = true ∧ (q = e.on ∨ q ∈ C.getD e.on [])
  | [], q, h => by simp [edgesM] at h
  | e :: r, q, h => by
    simp only [edgesM] at h
    cases hb : Region.binds .any e with
    | false =>
      rw [hb] at h
      obtain ⟨e', h1, h2⟩ := edgesM_bit hM r q h
      exact ⟨e', List.mem_cons_of_mem _ h1, h2⟩
    | true =>
      rw [hb] at h
      have h' : ((1 <<< e.on ||| lookM M e.on) ||| edgesM r M).testBit q = true := h
      rw [Nat.testBit_or, Bool.or_eq_true, Nat.testBit_or, Bool.or_eq_true, Nat.one_shiftLeft, Nat.testBit_two_pow] at h'
      rcases h' with (h1 | h1) | h1
      · exact ⟨e, List.mem_cons_self .., hb, .inl (by simpa using Eq.symm (by simpa using h1))⟩
      · exact ⟨e, List.mem_cons_self .., hb, .inr (hM _ _ h1)⟩
      · obtain ⟨e', h3, h4⟩ := edgesM_bit hM r q h1
        exact ⟨e', List.mem_cons_of_mem _ h3, h4⟩

theorem closM_ok {ops : Array Oper} (hed : edgesOk ops = true) : ∀ (os : List Oper) (j : Nat) (M : List (Nat × Nat)), ops.toList.drop j = os → BitsOk (clos ops) M → BitsOk (clos ops) (closM os j M)
  | [], _, _, _, h => h
  | o :: r, j, M, hd, h => by
    have ho : ops.toList[j]? = some o := by
      have := congrArg (fun l => l[0]?) hd
      simpa using this
    have hd' : ops.toList.drop (j + 1) = r := by
      have := congrArg (List.drop 1) hd
      simpa [List.drop_drop] using this
    refine closM_ok hed r (j + 1) _ hd' fun i q hq => ?_
    simp only [lookM] at hq
    cases hji : Nat.beq j i with
    | false => rw [hji] at hq; exact h i q hq
    | true =>
      rw [hji] at hq
      have : j = i := Nat.eq_of_beq_eq_true hji
      subst this
      obtain ⟨e, he, hb, hq'⟩ := edgesM_bit h _ q hq
      obtain ⟨hlt, hv⟩ := List.getElem?_eq_some_iff.1 ho
      have hon : e.on < j := by
        have h1 := List.all_eq_true.1 hed (o, j) (by rw [List.mem_zipIdx_iff_getElem?]; simpa using ho)
        have h2 := List.all_eq_true.1 h1 e he
        simpa [hb] using h2
      have := closGo_in ops.toList [] j hlt e (by rw [hv]; exact he) hb q (by
        rcases hq' with h1 | h1
        · exact .inl h1
        · exact .inr ⟨by simpa using hon, h1⟩)
      rw [List.length_nil, Nat.zero_add] at this
      exact this

def orderedM (M : List (Nat × Nat)) (i j : Nat) : Bool := Nat.testBit (lookM M j) i

/-- Each operation's number, its name, the names that it looks at, zs bits. -/
def nameRows (ops : Array Oper) : List Oper → Nat → List (Nat × Nat × Nat)
  | [], _ => []
  | o :: r, j => (j, maskL o.dst.toList, maskL (namesOf ops o)) :: nameRows ops r (Nat.succ j)

def namePairs (M : List (Nat × Nat)) : List (Nat × Nat × Nat) → Bool
  | [] => true
  | x :: r => (r.all fun y => (Nat.beq (Nat.land x.2.1 y.2.2) 0 && Nat.beq (Nat.land y.2.1 x.2.2) 0) || orderedM M x.1 y.1) && namePairs M r

def namesOk (ops : Array Oper) : Bool := edgesOk ops && namePairs (closM ops.toList 0 []) (nameRows ops ops.toList 0)

theorem nameRows_mem {ops : Array Oper} : ∀ (os : List Oper) (k j : Nat) (o : Oper), os[j]? = some o → (k + j, maskL o.dst.toList, maskL (namesOf ops o)) ∈ nameRows ops os k
  | [], k, j, o, h => by simp at h
  | x :: r, k, 0, o, h => by
    simp only [List.getElem?_cons_zero, Option.some.injEq] at h
    subst h
    simp [nameRows]
  | x :: r, k, j + 1, o, h => by
    have := nameRows_mem (ops := ops) r (k + 1) j o (by simpa using h)
    simp only [nameRows]
    refine List.mem_cons_of_mem _ ?_
    rwa [show k + (j + 1) = k + 1 + j by omega]

theorem namePairs_spec {ops : Array Oper} {M : List (Nat × Nat)} : ∀ (os : List Oper) (k : Nat), namePairs M (nameRows ops os k) = true → ∀ i j oi oj, i < j → os[i]? = some oi → os[j]? = some oj →
    (meetsL oi.dst.toList (namesOf ops oj) || meetsL oj.dst.toList (namesOf ops oi)) = true → orderedM M (k + i) (k + j) = true
  | [], k, _, i, j, oi, oj, _, h, _, _ => by simp at h
  | x :: r, k, hp, i, j, oi, oj, hij, hi, hj, hc => by
    simp only [nameRows, namePairs, Bool.and_eq_true] at hp
    obtain ⟨j', rfl⟩ : ∃ j', j = j' + 1 := ⟨j - 1, by omega⟩
    cases i with
    | zero =>
      simp only [List.getElem?_cons_zero, Option.some.injEq] at hi
      subst hi
      have hm := nameRows_mem (ops := ops) r (k + 1) j' oj (by simpa using hj)
      have h1 := List.all_eq_true.1 hp.1 _ hm
      simp only [Bool.or_eq_true, Bool.and_eq_true] at h1
      rcases h1 with ⟨h2, h3⟩ | h1
      · rw [maskL_meets (Nat.eq_of_beq_eq_true h2), maskL_meets (Nat.eq_of_beq_eq_true h3)] at hc
        cases hc
      · rwa [show k + (j' + 1) = k + 1 + j' by omega]
    | succ i =>
      have := namePairs_spec r (k + 1) hp.2 i j' oi oj (by omega) (by simpa using hi) (by simpa using hj) hc
      rwa [show k + (j' + 1) = k + 1 + j' by omega, show k + (i + 1) = k + 1 + i by omega]

def effList : List Stp → Nat → List (Nat × List Nat)
  | [], _ => []
  | s :: r, j => bif s.eff then (j, s.wr) :: effList r (Nat.succ j) else effList r (Nat.succ j)

def rdList : List Stp → Nat → List (Nat × List Nat)
  | [], _ => []
  | s :: r, j => match s.rd with
    | [] => rdList r (Nat.succ j)
    | x :: y => (j, x :: y) :: rdList r (Nat.succ j)

def effPairs (M : List (Nat × Nat)) : List (Nat × List Nat) → Bool
  | [] => true
  | x :: r => (r.all fun y => orderedM M x.1 y.1) && effPairs M r

def wrPairs (M : List (Nat × Nat)) (R : List (Nat × List Nat)) : List (Nat × List Nat) → Bool
  | [] => true
  | (_, []) :: r => wrPairs M R r
  | (i, a :: w) :: r => (R.all fun y => !(meetsL y.2 (a :: w)) || (bif Nat.blt i y.1 then orderedM M i y.1 else (Nat.blt y.1 i && orderedM M y.1 i))) && wrPairs M R r

def effsOk (M : List (Nat × Nat)) (tr : List Stp) : Bool := effPairs M (effList tr 0) && wrPairs M (rdList tr 0) (effList tr 0)

theorem effList_mem : ∀ (tr : List Stp) (k j : Nat) (s : Stp), tr[j]? = some s → s.eff = true → (k + j, s.wr) ∈ effList tr k
  | [], k, j, s, h, _ => by simp at h
  | x :: r, k, 0, s, h, he => by
    simp only [List.getElem?_cons_zero, Option.some.injEq] at h
    subst h
    simp [effList, he]
  | x :: r, k, j + 1, s, h, he => by
    have := effList_mem r (k + 1) j s (by simpa using h) he
    rw [show k + (j + 1) = k + 1 + j by omega]
    simp only [effList]
    cases x.eff
    · exact this
    · exact List.mem_cons_of_mem _ this

theorem rdList_mem : ∀ (tr : List Stp) (k j : Nat) (s : Stp), tr[j]? = some s → s.rd ≠ [] → (k + j, s.rd) ∈ rdList tr k
  | [], k, j, s, h, _ => by simp at h
  | x :: r, k, 0, s, h, he => by
    simp only [List.getElem?_cons_zero, Option.some.injEq] at h
    subst h
    simp only [rdList]
    cases hx : x.rd with
    | nil => exact absurd hx he
    | cons a b => simp
  | x :: r, k, j + 1, s, h, he => by
    have := rdList_mem r (k + 1) j s (by simpa using h) he
    rw [show k + (j + 1) = k + 1 + j by omega]
    simp only [rdList]
    split
    · exact this
    · exact List.mem_cons_of_mem _ this

theorem effPairs_spec {M : List (Nat × Nat)} : ∀ (tr : List Stp) (k : Nat), effPairs M (effList tr k) = true → ∀ i j si sj, i < j → tr[i]? = some si → tr[j]? = some sj → si.eff = true → sj.eff = true → orderedM M (k + i) (k + j) = true
  | [], k, _, i, j, si, sj, _, h, _, _, _ => by simp at h
  | x :: r, k, hp, i, j, si, sj, hij, hi, hj, h1, h2 => by
    obtain ⟨j', rfl⟩ : ∃ j', j = j' + 1 := ⟨j - 1, by omega⟩
    simp only [effList] at hp
    cases i with
    | zero =>
      simp only [List.getElem?_cons_zero, Option.some.injEq] at hi
      subst hi
      simp only [h1, cond_true, effPairs, Bool.and_eq_true] at hp
      have hm := effList_mem r (k + 1) j' sj (by simpa using hj) h2
      have := List.all_eq_true.1 hp.1 _ hm
      rwa [show k + (j' + 1) = k + 1 + j' by omega]
    | succ i =>
      have hp' : effPairs M (effList r (k + 1)) = true := by
        cases hx : x.eff with
        | false => simpa [hx] using hp
        | true => simp only [hx, cond_true, effPairs, Bool.and_eq_true] at hp; exact hp.2
      have := effPairs_spec r (k + 1) hp' i j' si sj (by omega) (by simpa using hi) (by simpa using hj) h1 h2
      rwa [show k + (j' + 1) = k + 1 + j' by omega, show k + (i + 1) = k + 1 + i by omega]

theorem wrPairs_spec {M : List (Nat × Nat)} {R : List (Nat × List Nat)} : ∀ (E : List (Nat × List Nat)), wrPairs M R E = true → ∀ i w j d, (i, w) ∈ E → (j, d) ∈ R → meetsL d w = true → i ≠ j → (i < j → orderedM M i j = true) ∧ (j < i → orderedM M j i = true)
  | [], _, i, w, j, d, h, _, _, _ => by simp at h
  | (k, []) :: r, hp, i, w, j, d, h, hR, hm, hne => by
    rcases List.mem_cons.1 h with h | h
    · cases h
      exfalso
      obtain ⟨x, _, h2⟩ := List.any_eq_true.1 hm
      simp at h2
    · exact wrPairs_spec r (by simpa [wrPairs] using hp) i w j d h hR hm hne
  | (k, a :: v) :: r, hp, i, w, j, d, h, hR, hm, hne => by
    simp only [wrPairs, Bool.and_eq_true] at hp
    rcases List.mem_cons.1 h with h | h
    · cases h
      have h1 := List.all_eq_true.1 hp.1 _ hR
      simp only [hm, Bool.not_true, Bool.false_or] at h1
      cases hb : Nat.blt k j with
      | true =>
        rw [hb] at h1
        have : k < j := by rw [← Nat.blt_eq]; exact hb
        exact ⟨fun _ => h1, fun _ => by omega⟩
      | false =>
        rw [hb] at h1
        have h2 : ¬ k < j := fun h3 => by rw [← Nat.blt_eq, hb] at h3; cases h3
        simp only [cond_false, Bool.and_eq_true] at h1
        exact ⟨fun h3 => absurd h3 h2, fun _ => h1.2⟩
    · exact wrPairs_spec r hp.2 i w j d h hR hm hne

theorem meetsL_right {a b : List Nat} (h : meetsL a b = true) : a ≠ [] := by
  rintro rfl
  simp [meetsL] at h

theorem pairsOk_at {ops : Array Oper} {tr : List Stp} (ho : ∀ (i : Nat) (s : Stp), tr[i]? = some s → ops.toList[i]? = some s.o) (hn : namesOk ops = true) (he : effsOk (closM ops.toList 0 []) tr = true) : pairsOk ops (clos ops) tr = true := by
  simp only [namesOk, Bool.and_eq_true] at hn
  simp only [effsOk, Bool.and_eq_true] at he
  have hM := closM_ok hn.1 ops.toList 0 [] (by simp) fun i q h => by simp [lookM] at h
  refine List.all_eq_true.2 fun y hy => List.all_eq_true.2 fun x hx => ?_
  obtain ⟨sj, j⟩ := y
  obtain ⟨si, i⟩ := x
  rw [List.mem_zipIdx_iff_getElem?] at hy hx
  simp only at hy hx
  simp only [Bool.or_eq_true, Bool.not_eq_true', decide_eq_false_iff_not]
  refine (Decidable.em (i < j)).elim (fun hij => ?_) fun hij => .inl (.inl hij)
  have opi : ops.toList[i]? = some si.o := ho i si hx
  have opj : ops.toList[j]? = some sj.o := ho j sj hy
  have done : orderedM (closM ops.toList 0 []) i j = true → i ∈ (clos ops).getD j [] := fun h => hM j i h
  cases hc : conflict ops si sj with
  | false => exact .inl (.inr rfl)
  | true =>
    refine .inr ?_
    rw [List.contains_iff_mem]
    refine done ?_
    unfold conflict at hc
    simp only [Bool.or_eq_true, Bool.and_eq_true] at hc
    rcases hc with (((h1 | h1) | ⟨h1, h2⟩) | ⟨h1, h2⟩) | ⟨h1, h2⟩
    · simpa using namePairs_spec ops.toList 0 hn.2 i j _ _ hij opi opj (by simp [h1])
    · simpa using namePairs_spec ops.toList 0 hn.2 i j _ _ hij opi opj (by simp [h1])
    · simpa using effPairs_spec tr 0 he.1 i j si sj hij hx hy h1 h2
    · have a1 := effList_mem tr 0 i si hx h1
      have a2 := rdList_mem tr 0 j sj hy (meetsL_right h2)
      have := (wrPairs_spec _ he.2 _ _ _ _ a1 a2 h2 (by omega)).1 (by omega)
      simpa using this
    · have a1 := effList_mem tr 0 j sj hy h1
      have a2 := rdList_mem tr 0 i si hx (meetsL_right h2)
      have := (wrPairs_spec _ he.2 _ _ _ _ a1 a2 h2 (by omega)).2 (by omega)
      simpa using this

theorem pairsOk_of {ops : Array Oper} {tr : List Stp} (ho : tr.map (·.o) = ops.toList) (hn : namesOk ops = true) (he : effsOk (closM ops.toList 0 []) tr = true) : pairsOk ops (clos ops) tr = true :=
  pairsOk_at (fun i s h => by rw [← ho]; simp [h]) hn he

/-- The operations of a region in the order of the text, each zs a step. -/
def xStp (P : Program) (T : TypeId → Option TI) (callP : CallP) (call : CallF) (ops : Array Oper) : List Oper → St → Option (List Stp × St)
  | [], st => some ([], st)
  | o :: r, st => match evGuard st.t ops o with
    | some true =>
      if localOp o.op then match evOper P T true st.t o st.h st.c with
        | some (v, _, c') => if c' = st.c then withV (deepOp o.op) st.t o.dst v fun v t' => match xStp P T callP call ops r ⟨t', st.h, st.c⟩ with
          | some (tr, fin) => some (⟨o, st.t, st.h, st.c, true, false, v, st.h, st.c, [], rdOf st.t o.op⟩ :: tr, fin)
          | none => none
          else none
        | none => none
      else match o.op with
      | .call { callee := .value f, args, argTypes } => match evTarget st.t { callee := .value f, args, argTypes } with
        | some (g, vs) => withL vs fun vs => match callP g vs with
          | some v => withV true st.t o.dst v fun v t' => match xStp P T callP call ops r ⟨t', st.h, st.c⟩ with
            | some (tr, fin) => some (⟨o, st.t, st.h, st.c, true, false, v, st.h, st.c, [], []⟩ :: tr, fin)
            | none => none
          | none => match call g vs st.h st.c (o.dst.getD 0) with
          | some (v, h', c', wr) => withCall st.t o.dst v h' c' fun v t' h' c' => match xStp P T callP call ops r ⟨t', h', c'⟩ with
            | some (tr, fin) => some (⟨o, st.t, st.h, st.c, true, true, v, h', c', wr, []⟩ :: tr, fin)
            | none => none
          | none => none
        | none => none
      | _ => if writesOp o.op then match evOper P T true st.t o st.h st.c with
          | some (v, h', c') => withAll st.t o.dst v h' c' fun v t' h' c' => match xStp P T callP call ops r ⟨t', h', c'⟩ with
            | some (tr, fin) => some (⟨o, st.t, st.h, st.c, true, true, v, h', c', wrOp st.t o st.h h', []⟩ :: tr, fin)
            | none => none
          | none => none
        else none
    | some false => withV false st.t o.dst (.p Go.undef) fun _ t' => match xStp P T callP call ops r ⟨t', st.h, st.c⟩ with
      | some (tr, fin) => some (⟨o, st.t, st.h, st.c, false, false, .p Go.undef, st.h, st.c, [], []⟩ :: tr, fin)
      | none => none
    | none => none

def xDraw (P : Program) (T : TypeId → Option TI) (callP : CallP) (call : CallF) (ops : Array Oper) (st : St) : Option St :=
  match xStp P T callP call ops ops.toList st with
  | some (tr, fin) => if (namesOk ops && effsOk (closM ops.toList 0 []) tr) = true then some fin else none
  | none => none

section
variable {P : Program} {T : TypeId → Option TI} {bad : Nat → Prop} {bs : Nat}

theorem xStp_spec {callP : CallP} {call : CallF} (hcallP : CallPOk P callP) (hcall : CallOk P call) {ops : Array Oper} : ∀ (r : List Oper) (st : St) (tr : List Stp) (fin : St), xStp P T callP call ops r st = some (tr, fin) →
    tr.map (·.o) = r ∧ (∀ s ∈ tr, s.Good P T bad ops ∧ (s.on = true → s.eff = false → localOp s.o.op = true → s.rd = rdOf s.t s.o.op)) ∧ Chain fin tr st.t st.h st.c := by
  intro r
  induction r with
  | nil =>
    intro st tr fin he
    simp only [xStp, Option.some.injEq, Prod.mk.injEq] at he
    obtain ⟨rfl, rfl⟩ := he
    exact ⟨rfl, fun s hs => by simp at hs, rfl, rfl, rfl⟩
  | cons o r ih =>
    intro st tr fin he
    have step : ∀ (s : Stp) (tr' : List Stp) (st' : St), s.o = o → s.t = st.t → s.h = st.h → s.c = st.c → (s.Good P T bad ops ∧ (s.on = true → s.eff = false → localOp s.o.op = true → s.rd = rdOf s.t s.o.op)) → st' = ⟨putT st.t s.o.dst s.v, s.h', s.c'⟩ → xStp P T callP call ops r st' = some (tr', fin) → tr = s :: tr' →
        tr.map (·.o) = o :: r ∧ (∀ s ∈ tr, s.Good P T bad ops ∧ (s.on = true → s.eff = false → localOp s.o.op = true → s.rd = rdOf s.t s.o.op)) ∧ Chain fin tr st.t st.h st.c := by
      rintro s tr' st' h1 h2 h3 h4 h5 rfl h6 rfl
      obtain ⟨i1, i2, i3⟩ := ih _ _ _ h6
      refine ⟨by simp [h1, i1], fun s' hs' => ?_, h2, h3, h4, i3⟩
      rcases List.mem_cons.1 hs' with rfl | hs'
      · exact h5
      · exact i2 s' hs'
    simp only [xStp, withV_eq, withAll_eq, withCall_eq, withL_eq] at he
    split at he
    · rename_i hg
      split at he
      · rename_i hloc
        split at he
        · rename_i v h' c' hev
          split at he
          · rename_i hcc
            split at he
            · rename_i tr' fin' hr
              simp only [Option.some.injEq, Prod.mk.injEq] at he
              obtain ⟨rfl, rfl⟩ := he
              obtain ⟨e1, e2, _⟩ := evOper_local (h2 := st.h) (c2 := st.c) hloc hev hcc (fun _ _ => rfl) (fun _ _ => rfl)
              subst e1 e2
              exact step _ _ _ rfl rfl rfl rfl ⟨⟨hg, fun _ => ⟨rfl, rfl⟩, fun h => by simp at h, fun h => by simp at h, fun _ => .inl ⟨rfl, hloc, hev⟩⟩, fun _ _ _ => rfl⟩ rfl hr rfl
            · cases he
          · cases he
        · cases he
      · split at he
        · rename_i f args argTypes hop
          split at he
          · rename_i g vs htg
            split at he
            · rename_i v hc
              obtain ⟨k1, k2⟩ := hcallP _ _ _ hc
              split at he
              · rename_i tr' fin' hr
                simp only [Option.some.injEq, Prod.mk.injEq] at he
                obtain ⟨rfl, rfl⟩ := he
                exact step _ _ _ rfl rfl rfl rfl ⟨⟨hg, fun _ => ⟨rfl, rfl⟩, fun h => by simp at h, fun h => by simp at h, fun _ => .inr (.inl ⟨rfl, _, g, vs, hop, htg, k1, k2 bad⟩)⟩, fun _ _ h => by simp [hop, localOp] at h⟩ rfl hr rfl
              · cases he
            split at he
            · rename_i v h' c' wr hc
              obtain ⟨k1, k2, k3⟩ := hcall _ _ _ _ _ _ _ _ _ hc
              split at he
              · rename_i tr' fin' hr
                simp only [Option.some.injEq, Prod.mk.injEq] at he
                obtain ⟨rfl, rfl⟩ := he
                exact step _ _ _ rfl rfl rfl rfl ⟨⟨hg, fun h => by simp at h, fun h => by simp at h, fun _ => k2, fun _ => .inr (.inr ⟨rfl, .inr ⟨_, g, vs, hop, htg, k1, k3 bad⟩⟩)⟩, fun _ h => by simp at h⟩ rfl hr rfl
              · cases he
            · cases he
          · cases he
        · split at he
          · rename_i hwo
            split at he
            · rename_i v h' c' hev
              split at he
              · rename_i tr' fin' hr
                simp only [Option.some.injEq, Prod.mk.injEq] at he
                obtain ⟨rfl, rfl⟩ := he
                exact step _ _ _ rfl rfl rfl rfl ⟨⟨hg, fun h => by simp at h, fun h => by simp at h, fun _ => wrOp_spec hwo hev, fun _ => .inr (.inr ⟨rfl, .inl ⟨hwo, hev⟩⟩)⟩, fun _ h => by simp at h⟩ rfl hr rfl
              · cases he
            · cases he
          · cases he
    · rename_i hg
      split at he
      · rename_i tr' fin' hr
        simp only [Option.some.injEq, Prod.mk.injEq] at he
        obtain ⟨rfl, rfl⟩ := he
        exact step _ _ _ rfl rfl rfl rfl ⟨⟨hg, fun _ => ⟨rfl, rfl⟩, fun _ => ⟨rfl, rfl⟩, fun h => by simp at h, fun h => by simp at h⟩, fun h => by simp at h⟩ rfl hr rfl
      · cases he
    · cases he

theorem xDraw_sound (hT : TabOk P T) {callP : CallP} {call : CallF} (hcallP : CallPOk P callP) (hcall : CallOk P call) (hm : P.follows .mixedOrders = true) {id : Nat} {ops : Array Oper} {st st1 : St} (he : xDraw P T callP call ops st = some st1) :
    WC bs P bad (.region id ops true) st (fun e' s => e' = .normal ∧ s = st1) := by
  unfold xDraw at he
  split at he
  · rename_i tr fin hs
    split at he
    · rename_i hcond
      simp only [Option.some.injEq] at he
      subst he
      rw [Bool.and_eq_true] at hcond
      obtain ⟨h1, h2, h3⟩ := xStp_spec (bad := bad) hcallP hcall _ _ _ _ hs
      have hed : edgesOk ops = true := by
        have := hcond.1
        simp only [namesOk, Bool.and_eq_true] at this
        exact this.1
      exact WC_draw hT hm (WAny_draw hT hm h1 (fun s hs => (h2 s hs).1) h3 (fun i hi q1 q2 q3 => .inl ((h2 _ (List.getElem_mem hi)).2 q1 q2 q3)) hed (pairsOk_of h1 hcond.1 hcond.2) ⟨rfl, rfl⟩)
    · cases he
  · cases he

end
end Go.Mx
