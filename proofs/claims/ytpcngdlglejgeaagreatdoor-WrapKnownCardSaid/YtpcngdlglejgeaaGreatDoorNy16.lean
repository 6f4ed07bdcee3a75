/-
  A region whose order Go leaves open: whatever order is drawn, it comes to what the order of the text comes to, if what might clash is ordered.
-/
import Derived.Test.YtpcngdlglejgeaaGreatDoorNy15
namespace Go.Mx
set_option linter.unusedVariables false
set_option linter.unusedSimpArgs false

/-- It changes no block, and makes none. -/
def localOp : Op → Bool
  | .move _ | .assign _ | .pick .. | .build .. | .buildSlice .. | .load .. | .nilCheck _ | .binOp .. | .unOp .. | .convert .. | .makeFunc .. | .slice .. | .fieldAddr .. | .field .. | .indexAddr .. | .index .. | .extract .. | .lookup .. => true
  | .call { callee := .builtin b, .. } => match b with
    | .len | .max | .min | .complex | .real | .imag => true
    | _ => false
  | _ => false

/-- It looks into blocks. -/
def consults : Op → Bool
  | .load .. | .nilCheck _ | .binOp .. | .convert .. | .slice .. | .fieldAddr .. | .indexAddr .. | .lookup .. => true
  | .call { callee := .builtin .len, .. } => true
  | _ => false

def topIds : V → List Nat
  | .sl b _ _ _ _ => [b]
  | .box b _ _ _ => [b]
  | .mp b _ => [b]
  | _ => []

def rdOf (t : List V) (o : Op) : List Nat := if consults o then o.operands.toList.flatMap fun x => topIds (evalO t x) else []

section
variable {P : Program} {T : TypeId → Option TI} {bad : Nat → Prop} {h h2 : Hp} {bs : Nat}

theorem elemAt_congr {v : V} (hb : ∀ b ∈ topIds v, h2.get b = h.get b) : elemAt h2 v = elemAt h v := by
  cases v <;> simp only [elemAt]
  rw [hb _ (by simp [topIds])]

theorem liveB_congr {b s : Nat} (hb : h2.get b = h.get b) : liveB h2 b s = liveB h b s := by simp only [liveB, hb]

theorem evLoad_congr {t : TypeId} {v : V} (hb : ∀ b ∈ topIds v, h2.get b = h.get b) : evLoad T h2 t v = evLoad T h t v := by
  simp only [evLoad, elemAt_congr hb]

theorem evFieldAddr_congr {s : TypeId} {v : V} {f : Nat} (hb : ∀ b ∈ topIds v, h2.get b = h.get b) : evFieldAddr T h2 s v f = evFieldAddr T h s v f := by
  cases v <;> simp only [evFieldAddr]
  rw [liveB_congr (hb _ (by simp [topIds]))]

theorem evIndexAddr_congr {s : TypeId} {v ix : V} (hb : ∀ b ∈ topIds v, h2.get b = h.get b) : evIndexAddr T h2 s v ix = evIndexAddr T h s v ix := by
  cases hTs : T s with
  | none => simp only [evIndexAddr, hTs]
  | some i0 =>
    obtain ⟨sz, bt, d, z⟩ := i0
    cases hix : asI ix with
    | none => cases d <;> simp only [evIndexAddr, hTs, hix]
    | some n =>
      cases d <;> simp only [evIndexAddr, hTs, hix]
      case slice e =>
        cases hTe : T e <;> cases v <;> simp only []
        rw [hb _ (by simp [topIds])]
      case array len e =>
        cases hTe : T e <;> cases v <;> simp only []
        rw [liveB_congr (hb _ (by simp [topIds]))]

theorem lenV_congr {v : V} (hb : ∀ b ∈ topIds v, h2.get b = h.get b) : lenV h2 v = lenV h v := by
  cases v with
  | sl b s off len tip => simp only [lenV]; rw [hb _ (by simp [topIds])]
  | p x => cases x <;> rfl
  | _ => rfl

theorem elems_congr {v : V} (hb : ∀ b ∈ topIds v, h2.get b = h.get b) : elems h2 v = elems h v := by
  cases v <;> simp only [elems]
  rw [hb _ (by simp [topIds])]

theorem isNil_congr {v : V} (hb : ∀ b ∈ topIds v, h2.get b = h.get b) : isNilV h2 v = isNilV h v := by
  cases v <;> simp only [isNilV]
  rw [hb _ (by simp [topIds])]

theorem evSlice_congr {s : TypeId} {v : V} {lo hi mx : Option V} (hb : ∀ b ∈ topIds v, h2.get b = h.get b) : evSlice T h2 s v lo hi mx = evSlice T h s v lo hi mx := by
  simp only [evSlice, lenV_congr hb]
  cases v <;> simp only []
  rw [hb _ (by simp [topIds])]

theorem evLookup_congr {t : TypeId} {mv kv : V} (hb : ∀ b ∈ topIds mv, h2.get b = h.get b) : evLookup T h2 t mv kv = evLookup T h t mv kv := by
  unfold evLookup
  split
  · rename_i et b s k _ _ _
    rw [hb _ (by simp [topIds])]
  · rfl

/-- Such an operation comes to the same wherever what it looks at is the same. -/
theorem evOper_local {t t2 : List V} {o : Oper} {c c2 : Nat} {v : V} {h' : Hp} {c' : Nat} (hl : localOp o.op = true) (he : evOper P T true t o h c = some (v, h', c')) (hcc : c' = c) (ht : ∀ x ∈ o.op.operands.toList, evalO t2 x = evalO t x)
    (hr : ∀ b ∈ rdOf t o.op, h2.get b = h.get b) : h' = h ∧ c' = c ∧ evOper P T true t2 o h2 c2 = some (v, h2, c2) := by
  obtain ⟨dst, op, ty, pos, after, guard⟩ := o
  simp only at hl ht hr
  cases op <;> simp only [localOp] at hl <;> try (cases hl; done)
  case move x =>
    simp only [evOper, evOperF, Option.some.injEq, Prod.mk.injEq] at he
    obtain ⟨rfl, rfl, rfl⟩ := he
    exact ⟨rfl, rfl, by simp only [evOper, evOperF]; rw [ht x (by simp [Op.operands])]⟩
  case assign x =>
    simp only [evOper, evOperF, Option.some.injEq, Prod.mk.injEq] at he
    obtain ⟨rfl, rfl, rfl⟩ := he
    exact ⟨rfl, rfl, by simp only [evOper, evOperF]; rw [ht x (by simp [Op.operands])]⟩
  case pick k a b =>
    simp only [evOper, evOperF] at he ⊢
    rw [ht k (by simp [Op.operands]), ht a (by simp [Op.operands]), ht b (by simp [Op.operands])]
    split at he
    · cases he; exact ⟨rfl, rfl, by simp_all⟩
    · cases he; exact ⟨rfl, rfl, by simp_all⟩
    · cases he
  case build t' ps =>
    simp only [evOper, evOperF] at he ⊢
    simp only [Option.map_eq_some_iff, Prod.mk.injEq] at he
    obtain ⟨v', h1, rfl, rfl, rfl⟩ := he
    refine ⟨rfl, rfl, Option.map_eq_some_iff.2 ⟨v', ?_, rfl⟩⟩
    rw [← h1]
    congr 1
    exact List.map_congr_left fun x hx => by rw [ht x.2 (by simpa [Op.operands] using ⟨x.1, by simpa using hx⟩)]
  case buildSlice t' len ps =>
    simp only [evOper, evOperF] at he ⊢
    split at he
    · rename_i d hd
      have e : (ps.toList.map fun x => (x.1, evalO t2 x.2)) = ps.toList.map fun x => (x.1, evalO t x.2) := List.map_congr_left fun x hx => by rw [ht x.2 (by simpa [Op.operands] using ⟨x.1, by simpa using hx⟩)]
      rw [e]
      unfold evBuildSlice at he ⊢
      split at he
      · split at he
        · split at he
          · rename_i hcond
            simp only [if_true] at he
            split at he
            · split at he
              · simp only [Option.some.injEq, Prod.mk.injEq] at he
                obtain ⟨rfl, rfl, rfl⟩ := he
                simp_all
              · cases he
            · split at he
              · simp only [Option.some.injEq, Prod.mk.injEq] at he
                omega
              · cases he
          · cases he
        · cases he
      · cases he
    · cases he
  case load t' x =>
    simp only [evOper, evOperF] at he ⊢
    simp only [Option.map_eq_some_iff, Prod.mk.injEq] at he
    obtain ⟨v', h1, rfl, rfl, rfl⟩ := he
    refine ⟨rfl, rfl, Option.map_eq_some_iff.2 ⟨v', ?_, rfl⟩⟩
    rw [ht x (by simp [Op.operands]), evLoad_congr (h := h) fun b hb => hr b (by simp [rdOf, consults, Op.operands, hb])]
    exact h1
  case nilCheck x =>
    simp only [evOper, evOperF] at he ⊢
    rw [ht x (by simp [Op.operands])]
    split at he
    · rename_i v0 off hv; cases he; exact ⟨rfl, rfl, by simp [hv]⟩
    · rename_i b s i off hv
      split at he
      · rename_i hlv
        cases he
        refine ⟨rfl, rfl, ?_⟩
        have : h2.get b = h.get b := hr b (by simp [rdOf, consults, Op.operands, hv, topIds])
        simp [hv, liveB_congr this, hlv]
      · cases he
    · cases he
  case binOp op xt x y yt =>
    simp only [evOper, evOperF] at he ⊢
    simp only [Option.map_eq_some_iff, Prod.mk.injEq] at he
    obtain ⟨v', h1, rfl, rfl, rfl⟩ := he
    refine ⟨rfl, rfl, Option.map_eq_some_iff.2 ⟨v', ?_, rfl⟩⟩
    rw [ht x (by simp [Op.operands]), ht y (by simp [Op.operands])]
    unfold evBin at h1 ⊢
    rw [isNil_congr (h := h) fun b hb => hr b (by simp [rdOf, consults, Op.operands, hb])]
    exact h1
  case unOp op xt x =>
    simp only [evOper, evOperF] at he ⊢
    simp only [Option.map_eq_some_iff, Prod.mk.injEq] at he
    obtain ⟨v', h1, rfl, rfl, rfl⟩ := he
    exact ⟨rfl, rfl, Option.map_eq_some_iff.2 ⟨v', by rw [ht x (by simp [Op.operands])]; exact h1, rfl⟩⟩
  case convert src d x =>
    simp only [evOper, evOperF] at he ⊢
    simp only [Option.map_eq_some_iff, Prod.mk.injEq] at he
    obtain ⟨v', h1, rfl, rfl, rfl⟩ := he
    refine ⟨rfl, rfl, Option.map_eq_some_iff.2 ⟨v', ?_, rfl⟩⟩
    rw [ht x (by simp [Op.operands])]
    unfold evConvert at h1 ⊢
    rw [elems_congr (h := h) fun b hb => hr b (by simp [rdOf, consults, Op.operands, hb])]
    exact h1
  case makeFunc fn first cap =>
    simp only [evOper, evOperF] at he ⊢
    cases fn <;> simp only [] at he ⊢ <;> try (cases he; done)
    simp only [Option.some.injEq, Prod.mk.injEq] at he
    obtain ⟨rfl, rfl, rfl⟩ := he
    refine ⟨rfl, rfl, ?_⟩
    rw [List.map_congr_left (l := first.toList) fun x hx => ht x (by simp [Op.operands]; exact .inl (by simpa using hx)), List.map_congr_left (l := cap.toList) fun x hx => ht x (by simp [Op.operands]; exact .inr (by simpa using hx))]
  case slice t' x lo hi mx =>
    simp only [evOper, evOperF] at he ⊢
    split at he
    · cases he
    · rename_i hcond
      rw [if_neg hcond]
      simp only [Option.map_eq_some_iff, Prod.mk.injEq] at he
      obtain ⟨v', h1, rfl, rfl, rfl⟩ := he
      refine ⟨rfl, rfl, Option.map_eq_some_iff.2 ⟨v', ?_, rfl⟩⟩
      have e1 : lo.map (evalO t2) = lo.map (evalO t) := by cases lo <;> simp; exact ht _ (by simp [Op.operands])
      have e2 : hi.map (evalO t2) = hi.map (evalO t) := by cases hi <;> simp; exact ht _ (by simp [Op.operands])
      have e3 : mx.map (evalO t2) = mx.map (evalO t) := by cases mx <;> simp; exact ht _ (by simp [Op.operands])
      rw [ht x (by simp [Op.operands]), e1, e2, e3, evSlice_congr (h := h) fun b hb => hr b (by simp [rdOf, consults, Op.operands, hb])]
      exact h1
  case lookup t' x ix ok =>
    cases ok <;> simp only [evOper, evOperF] at he ⊢ <;> try (cases he; done)
    simp only [Option.map_eq_some_iff, Prod.mk.injEq] at he
    obtain ⟨v', h1, rfl, rfl, rfl⟩ := he
    refine ⟨rfl, rfl, Option.map_eq_some_iff.2 ⟨v', ?_, rfl⟩⟩
    rw [ht x (by simp [Op.operands]), ht ix (by simp [Op.operands]), evLookup_congr (h := h) fun b hb => hr b (by simp [rdOf, consults, Op.operands, hb])]
    exact h1
  case fieldAddr s x f =>
    simp only [evOper, evOperF] at he ⊢
    simp only [Option.map_eq_some_iff, Prod.mk.injEq] at he
    obtain ⟨v', h1, rfl, rfl, rfl⟩ := he
    refine ⟨rfl, rfl, Option.map_eq_some_iff.2 ⟨v', ?_, rfl⟩⟩
    rw [ht x (by simp [Op.operands]), evFieldAddr_congr (h := h) fun b hb => hr b (by simp [rdOf, consults, Op.operands, hb])]
    exact h1
  case field s x f =>
    simp only [evOper, evOperF] at he ⊢
    simp only [Option.map_eq_some_iff, Prod.mk.injEq] at he
    obtain ⟨v', h1, rfl, rfl, rfl⟩ := he
    exact ⟨rfl, rfl, Option.map_eq_some_iff.2 ⟨v', by rw [ht x (by simp [Op.operands])]; exact h1, rfl⟩⟩
  case indexAddr s x ix =>
    simp only [evOper, evOperF] at he ⊢
    simp only [Option.map_eq_some_iff, Prod.mk.injEq] at he
    obtain ⟨v', h1, rfl, rfl, rfl⟩ := he
    refine ⟨rfl, rfl, Option.map_eq_some_iff.2 ⟨v', ?_, rfl⟩⟩
    rw [ht x (by simp [Op.operands]), ht ix (by simp [Op.operands]), evIndexAddr_congr (h := h) fun b hb => hr b (by simp [rdOf, consults, Op.operands, hb])]
    exact h1
  case index s x ix =>
    simp only [evOper, evOperF] at he ⊢
    simp only [Option.map_eq_some_iff, Prod.mk.injEq] at he
    obtain ⟨v', h1, rfl, rfl, rfl⟩ := he
    exact ⟨rfl, rfl, Option.map_eq_some_iff.2 ⟨v', by rw [ht x (by simp [Op.operands]), ht ix (by simp [Op.operands])]; exact h1, rfl⟩⟩
  case extract x i =>
    simp only [evOper, evOperF] at he ⊢
    rw [ht x (by simp [Op.operands])]
    split at he
    · rename_i vs hv
      simp only [Option.map_eq_some_iff, Prod.mk.injEq] at he
      obtain ⟨v', h1, rfl, rfl, rfl⟩ := he
      exact ⟨rfl, rfl, by simp [hv, h1]⟩
    · cases he
  case call cl =>
    obtain ⟨callee, args, argTypes⟩ := cl
    cases callee <;> simp only [] at hl <;> try (cases hl; done)
    rename_i b
    have hargs : args.toList.map (evalO t2) = args.toList.map (evalO t) := List.map_congr_left fun x hx => ht x (by simpa [Op.operands, Call.operands] using hx)
    cases b <;> simp only [] at hl <;> try (cases hl; done)
    case len =>
      simp only [evOper, evOperF] at he ⊢
      split at he
      · rename_i x t1 ha hat
        simp only [Option.map_eq_some_iff, Prod.mk.injEq] at he
        obtain ⟨v', h1, rfl, rfl, rfl⟩ := he
        refine ⟨rfl, rfl, ?_⟩
        have hx : x ∈ args.toList := by rw [ha]; simp
        have e1 : evLen T h2 t1 (evalO t2 x) = evLen T h t1 (evalO t x) := by
          rw [ht x (by simpa [Op.operands, Call.operands] using hx)]
          unfold evLen
          rw [lenV_congr (h := h) fun b hb => hr b (by
            simp only [rdOf, consults, Op.operands, Call.operands, if_true, List.mem_flatMap]
            exact ⟨x, by simpa using hx, hb⟩)]
        simp [ha, hat, e1, h1]
      · cases he
    all_goals
      simp only [evOper, evOperF, hargs] at he ⊢
      simp only [Option.map_eq_some_iff, Prod.mk.injEq] at he
      obtain ⟨v', h1, rfl, rfl, rfl⟩ := he
      exact ⟨rfl, rfl, Option.map_eq_some_iff.2 ⟨v', h1, rfl⟩⟩

def writesOp : Op → Bool
  | .store .. | .alloc _ | .box .. | .makeSlice .. | .buildSlice .. | .makeMap .. | .mapUpdate .. => true
  | .call { callee := .builtin .append, .. } => true
  | .call { callee := .builtin .copy, .. } => true
  | .call { callee := .builtin .clear, .. } => true
  | _ => false

/-- What an operation that writes comes to hangs on its operands alone. -/
theorem evOper_effect {t t2 : List V} {o : Oper} {c : Nat} (hw : writesOp o.op = true) (ht : ∀ x ∈ o.op.operands.toList, evalO t2 x = evalO t x) :
    evOper P T true t2 o h c = evOper P T true t o h c := by
  obtain ⟨dst, op, ty, pos, after, guard⟩ := o
  simp only at hw ht
  cases op <;> simp only [writesOp] at hw <;> try (cases hw; done)
  case alloc e => simp only [evOper, evOperF]
  case makeMap t' r => cases r <;> simp only [evOper, evOperF]
  case mapUpdate t' x k y => simp only [evOper, evOperF, ht x (by simp [Op.operands]), ht k (by simp [Op.operands]), ht y (by simp [Op.operands])]
  case box e x => simp only [evOper, evOperF, ht x (by simp [Op.operands])]
  case makeSlice t' x y => simp only [evOper, evOperF, ht x (by simp [Op.operands]), ht y (by simp [Op.operands])]
  case buildSlice t' len ps =>
    simp only [evOper, evOperF]
    have e : (ps.toList.map fun x => (x.1, evalO t2 x.2)) = ps.toList.map fun x => (x.1, evalO t x.2) := List.map_congr_left fun x hx => by rw [ht x.2 (by simpa [Op.operands] using ⟨x.1, by simpa using hx⟩)]
    rw [e]
  case store t' x y => simp only [evOper, evOperF, ht x (by simp [Op.operands]), ht y (by simp [Op.operands])]
  case call cl =>
    obtain ⟨callee, args, argTypes⟩ := cl
    cases callee <;> (try simp only [] at hw) <;> try (cases hw; done)
    rename_i b
    cases b <;> (try simp only [] at hw) <;> try (cases hw; done)
    case copy =>
      simp only [evOper, evOperF]
      split
      · rename_i s x t1 t2' ha hat
        have hs' : s ∈ args.toList := by rw [ha]; simp
        have hx' : x ∈ args.toList := by rw [ha]; simp
        rw [ht s (by simpa [Op.operands, Call.operands] using hs'), ht x (by simpa [Op.operands, Call.operands] using hx')]
      · rfl
    case clear =>
      simp only [evOper, evOperF]
      split
      · rename_i x t1 ha hat
        have hx' : x ∈ args.toList := by rw [ha]; simp
        rw [ht x (by simpa [Op.operands, Call.operands] using hx')]
      · rfl
    simp only [evOper, evOperF]
    split
    · rename_i d s x t1 t2' ha hat
      have hs' : s ∈ args.toList := by rw [ha]; simp
      have hx' : x ∈ args.toList := by rw [ha]; simp
      rw [ht s (by simpa [Op.operands, Call.operands] using hs'), ht x (by simpa [Op.operands, Call.operands] using hx')]
    · rfl

theorem evTarget_congr {t t2 : List V} {cl : Call} (ht : ∀ x ∈ cl.operands.toList, evalO t2 x = evalO t x) : evTarget t2 cl = evTarget t cl := by
  obtain ⟨callee, args, argTypes⟩ := cl
  cases callee <;> simp only [evTarget]
  rename_i f
  rw [ht f (by simp [Call.operands]), List.map_congr_left (l := args.toList) fun x hx => ht x (by simp [Call.operands]; exact .inr (by simpa using hx))]

end

/-- One operation of a region, zs the order of the text has it. -/
structure Stp where
  o : Oper
  t : List V
  h : Hp
  c : Nat
  on : Bool
  eff : Bool
  v : V
  h' : Hp
  c' : Nat
  wr : List Nat
  rd : List Nat

def Stp.Good (P : Program) (T : TypeId → Option TI) (bad : Nat → Prop) (ops : Array Oper) (s : Stp) : Prop :=
  evGuard s.t ops s.o = some s.on ∧ (s.eff = false → s.h' = s.h ∧ s.c' = s.c) ∧ (s.on = false → s.eff = false ∧ s.v = .p Go.undef) ∧ (s.eff = true → ∀ b, b ∉ s.wr → s.h'.get b = s.h.get b) ∧
  (s.on = true → (s.eff = false ∧ localOp s.o.op = true ∧ evOper P T true s.t s.o s.h s.c = some (s.v, s.h', s.c')) ∨
    (s.eff = false ∧ ∃ cl g vs, s.o.op = .call cl ∧ evTarget s.t cl = some (g, vs) ∧ Enters P g ∧ ∀ h c, CallsA P bad h c g vs s.v h c) ∨
    (s.eff = true ∧ ((writesOp s.o.op = true ∧ evOper P T true s.t s.o s.h s.c = some (s.v, s.h', s.c')) ∨
      ∃ cl g vs, s.o.op = .call cl ∧ evTarget s.t cl = some (g, vs) ∧ Enters P g ∧ CallsA P bad s.h s.c g vs s.v s.h' s.c')))

def Chain (fin : St) : List Stp → List V → Hp → Nat → Prop
  | [], t, h, c => fin.t = t ∧ fin.h = h ∧ fin.c = c
  | s :: r, t, h, c => s.t = t ∧ s.h = h ∧ s.c = c ∧ Chain fin r (putT t s.o.dst s.v) s.h' s.c'

def namesOf (ops : Array Oper) (o : Oper) : List Tmp := o.dst.toList ++ o.looksAt ops

def meetsL (a b : List Nat) : Bool := a.any fun x => b.contains x

def conflict (ops : Array Oper) (a b : Stp) : Bool :=
  meetsL a.o.dst.toList (namesOf ops b.o) || meetsL b.o.dst.toList (namesOf ops a.o) || (a.eff && b.eff) || (a.eff && meetsL b.rd a.wr) || (b.eff && meetsL a.rd b.wr)

def closGo : List Oper → List (List Nat) → List (List Nat)
  | [], acc => acc
  | o :: r, acc => closGo r (acc ++ [o.after.toList.flatMap fun e => if Region.binds .any e then e.on :: acc.getD e.on [] else []])

def clos (ops : Array Oper) : List (List Nat) := closGo ops.toList []

def edgesOk (ops : Array Oper) : Bool := ops.toList.zipIdx.all fun x => x.1.after.toList.all fun e => !Region.binds .any e || decide (e.on < x.2)

def pairsOk (ops : Array Oper) (C : List (List Nat)) (tr : List Stp) : Bool :=
  tr.zipIdx.all fun y => tr.zipIdx.all fun x => !decide (x.2 < y.2) || !conflict ops x.1 y.1 || (C.getD y.2 []).contains x.2

theorem closGo_spec : ∀ (os : List Oper) (acc : List (List Nat)), ∃ tl, closGo os acc = acc ++ tl ∧ tl.length = os.length ∧
    ∀ i (hi : i < os.length) j, j ∈ (closGo os acc).getD (acc.length + i) [] → ∃ e ∈ os[i].after.toList, Region.binds .any e = true ∧ (j = e.on ∨ (e.on < acc.length + i ∧ j ∈ (closGo os acc).getD e.on [])) := by
  intro os
  induction os with
  | nil => intro acc; exact ⟨[], by simp [closGo], rfl, fun i hi => by simp at hi⟩
  | cons o r ih =>
    intro acc
    let L := o.after.toList.flatMap fun e => if Region.binds .any e then e.on :: acc.getD e.on [] else []
    obtain ⟨tl, h1, h2, h3⟩ := ih (acc ++ [L])
    have h0 : closGo (o :: r) acc = closGo r (acc ++ [L]) := rfl
    refine ⟨L :: tl, by rw [h0, h1]; simp, by simp [h2], fun i hi j hj => ?_⟩
    cases i with
    | zero =>
      rw [h0, h1] at hj
      have hL : (acc ++ [L] ++ tl).getD (acc.length + 0) [] = L := by simp
      rw [hL] at hj
      obtain ⟨e, he, hj⟩ := List.mem_flatMap.1 hj
      split at hj
      · rename_i hb
        refine ⟨e, he, hb, ?_⟩
        rcases List.mem_cons.1 hj with hj | hj
        · exact .inl hj
        · refine .inr ?_
          have hlt : e.on < acc.length := by
            rcases Nat.lt_or_ge e.on acc.length with h | h
            · exact h
            · simp [List.getD_eq_getElem?_getD, List.getElem?_eq_none h] at hj
          refine ⟨by omega, ?_⟩
          rw [h0, h1]
          have : (acc ++ [L] ++ tl).getD e.on [] = acc.getD e.on [] := by
            simp only [List.getD_eq_getElem?_getD, List.append_assoc]
            rw [List.getElem?_append_left hlt]
          rw [this]; exact hj
      · cases hj
    | succ i =>
      have := h3 i (by simpa using hi) j (by simpa [h0, Nat.add_assoc, Nat.add_comm 1 i] using hj)
      simpa [h0, Nat.add_assoc, Nat.add_comm 1 i] using this

theorem clos_mem {ops : Array Oper} {i j : Nat} (h : j ∈ (clos ops).getD i []) : ∃ o, ops[i]? = some o ∧ ∃ e ∈ o.after, Region.binds .any e = true ∧ (j = e.on ∨ (e.on < i ∧ j ∈ (clos ops).getD e.on [])) := by
  obtain ⟨tl, h1, h2, h3⟩ := closGo_spec ops.toList []
  have hi : i < ops.toList.length := by
    rcases Nat.lt_or_ge i ops.toList.length with h' | h'
    · exact h'
    · unfold clos at h
      rw [h1] at h
      simp [List.getD_eq_getElem?_getD, List.getElem?_eq_none (show tl.length ≤ i by omega)] at h
  obtain ⟨e, he, hb, hj⟩ := h3 i hi j (by simpa [clos] using h)
  refine ⟨ops[i], by simp at hi; simp [hi], e, by simpa using he, hb, ?_⟩
  simpa [clos] using hj

/-- What is done, is done with all that it comes after. -/
theorem clos_done {ops : Array Oper} {D : Nat → Bool} (hD : ∀ i o, D i = true → ops[i]? = some o → ∀ e ∈ o.after, Region.binds .any e = true → D e.on = true) : ∀ (i : Nat), D i = true → ∀ j ∈ (clos ops).getD i [], D j = true := by
  intro i
  induction i using Nat.strongRecOn with
  | _ i ih =>
    intro hi j hj
    obtain ⟨o, ho, e, he, hb, h⟩ := clos_mem hj
    have h1 := hD i o hi ho e he hb
    rcases h with rfl | ⟨hlt, h⟩
    · exact h1
    · exact ih e.on hlt h1 j h

theorem clos_ready {ops : Array Oper} {D : Nat → Bool} (hD : ∀ i o, D i = true → ops[i]? = some o → ∀ e ∈ o.after, Region.binds .any e = true → D e.on = true) {i : Nat} {o : Oper} (ho : ops[i]? = some o)
    (hr : ∀ e ∈ o.after, Region.binds .any e = true → D e.on = true) : ∀ j ∈ (clos ops).getD i [], D j = true := by
  intro j hj
  obtain ⟨o', ho', e, he, hb, h⟩ := clos_mem hj
  rw [ho] at ho'; cases ho'
  have h1 := hr e he hb
  rcases h with rfl | ⟨hlt, h⟩
  · exact h1
  · exact clos_done hD e.on h1 j h

/-- The slots, behind what is done. -/
def tD (D : Nat → Bool) : List Stp → Nat → List V → List V
  | [], _, t => t
  | s :: r, i, t => tD D r (i + 1) (if D i then putT t s.o.dst s.v else t)

theorem putT_length (t : List V) (d : Option Tmp) (v : V) : (putT t d v).length = t.length := by cases d <;> simp [putT]

theorem putT_get (t : List V) (d : Option Tmp) (v : V) (x : Nat) : (putT t d v)[x]? = if d = some x ∧ x < t.length then some v else t[x]? := by
  cases d with
  | none => simp [putT]
  | some k =>
    simp only [putT, List.getElem?_set, Option.some.injEq]
    by_cases h : k = x
    · subst h
      by_cases h2 : k < t.length
      · simp [h2]
      · simp [h2, List.getElem?_eq_none (Nat.le_of_not_lt h2)]
    · simp [h]

theorem tD_length (D : Nat → Bool) : ∀ (r : List Stp) (i : Nat) (t : List V), (tD D r i t).length = t.length
  | [], _, _ => rfl
  | s :: r, i, t => by
    simp only [tD, tD_length D r]
    split
    · exact putT_length _ _ _
    · rfl

theorem tD_congr {D D' : Nat → Bool} (x : Nat) : ∀ (r : List Stp) (i : Nat) (t t' : List V), t.length = t'.length → t[x]? = t'[x]? → (∀ j (hj : j < r.length), r[j].o.dst = some x → D (i + j) = D' (i + j)) → (tD D r i t)[x]? = (tD D' r i t')[x]?
  | [], _, _, _, _, h, _ => h
  | s :: r, i, t, t', hl, h, hd => by
    simp only [tD]
    refine tD_congr x r (i + 1) _ _ ?_ ?_ fun j hj hx => ?_
    · split <;> split <;> simp [putT_length, hl]
    · by_cases hx : s.o.dst = some x
      · have := hd 0 (by simp) hx
        simp only [Nat.add_zero] at this
        rw [this]
        split
        · rw [putT_get, putT_get, hl, h]
        · exact h
      · have e : ∀ (b : Bool) (u : List V), (if b = true then putT u s.o.dst s.v else u)[x]? = u[x]? := fun b u => by
          split
          · rw [putT_get, if_neg (by simp [hx])]
          · rfl
        rw [e, e, h]
    · have := hd (j + 1) (by simpa using hj) hx
      rwa [show i + (j + 1) = i + 1 + j by omega] at this

/-- The slot that an operation has written, and none behind it. -/
theorem tD_last {D : Nat → Bool} {x : Nat} : ∀ (r : List Stp) (i : Nat) (t : List V) (k : Nat) (hk : k < r.length), D (i + k) = true → r[k].o.dst = some x → x < t.length → (∀ j (hj : j < r.length), k < j → r[j].o.dst = some x → D (i + j) = false) →
    (tD D r i t)[x]? = some r[k].v
  | [], _, _, k, hk, _, _, _, _ => by simp at hk
  | s :: r, i, t, 0, _, hD, hx, hlt, hno => by
    simp only [List.getElem_cons_zero, Nat.add_zero] at hD hx ⊢
    simp only [tD, hD, if_true]
    have : (tD D r (i + 1) (putT t s.o.dst s.v))[x]? = (tD (fun _ => false) r (i + 1) (putT t s.o.dst s.v))[x]? := by
      refine tD_congr x r (i + 1) _ _ rfl rfl fun j hj hxj => ?_
      have := hno (j + 1) (by simpa using hj) (by omega) hxj
      rwa [show i + (j + 1) = i + 1 + j by omega] at this
    rw [this]
    have nothing : ∀ (r : List Stp) (i : Nat) (t : List V), tD (fun _ => false) r i t = t := by
      intro r
      induction r with
      | nil => intro i t; rfl
      | cons s r ih => intro i t; simp [tD, ih]
    rw [nothing, putT_get, if_pos ⟨hx, hlt⟩]
  | s :: r, i, t, k + 1, hk, hD, hx, hlt, hno => by
    simp only [tD, List.getElem_cons_succ] at hx ⊢
    refine tD_last r (i + 1) _ k (by simpa using hk) (by rwa [show i + 1 + k = i + (k + 1) by omega]) hx ?_ fun j hj hkj hxj => ?_
    · split
      · rw [putT_length]; exact hlt
      · exact hlt
    · have := hno (j + 1) (by simpa using hj) (by omega) hxj
      rwa [show i + (j + 1) = i + 1 + j by omega] at this

/-- The states of the text's order: before the k-th operation. -/
def stAt (fin : St) (tr : List Stp) (k : Nat) : St := match tr[k]? with
  | some s => ⟨s.t, s.h, s.c⟩
  | none => fin

theorem chain_step {fin : St} : ∀ {tr : List Stp} {t : List V} {h : Hp} {c : Nat}, Chain fin tr t h c → stAt fin tr 0 = ⟨t, h, c⟩ ∧ ∀ k (hk : k < tr.length), stAt fin tr (k + 1) = ⟨putT tr[k].t tr[k].o.dst tr[k].v, tr[k].h', tr[k].c'⟩
  | [], t, h, c, hc => by
    obtain ⟨rfl, rfl, rfl⟩ := hc
    exact ⟨by simp [stAt], fun k hk => by simp at hk⟩
  | s :: r, t, h, c, hc => by
    obtain ⟨rfl, rfl, rfl, hr⟩ := hc
    obtain ⟨h1, h2⟩ := chain_step hr
    refine ⟨by simp [stAt], fun k hk => ?_⟩
    cases k with
    | zero => simpa [stAt] using h1
    | succ k =>
      have := h2 k (by simpa using hk)
      simpa [stAt] using this

theorem tD_text {fin : St} {tr0 : List Stp} : ∀ (r : List Stp) (i : Nat), tr0.drop i = r → (∀ k (hk : k < tr0.length), stAt fin tr0 (k + 1) = ⟨putT tr0[k].t tr0[k].o.dst tr0[k].v, tr0[k].h', tr0[k].c'⟩) → ∀ k, i ≤ k → k ≤ tr0.length →
    tD (fun j => decide (j < k)) r i (stAt fin tr0 i).t = (stAt fin tr0 k).t := by
  intro r
  induction r with
  | nil =>
    intro i hd _ k hik hk
    have : tr0.length ≤ i := List.drop_eq_nil_iff.1 hd
    obtain rfl : k = i := by omega
    rfl
  | cons s r ih =>
    intro i hd hst k hik hk
    have hi : i < tr0.length := by
      rcases Nat.lt_or_ge i tr0.length with h | h
      · exact h
      · rw [List.drop_eq_nil_of_le h] at hd; cases hd
    have hs : tr0[i] = s := by
      have := congrArg (fun l => l[0]?) hd
      simpa [hi] using this
    have hd' : tr0.drop (i + 1) = r := by
      have := congrArg (List.drop 1) hd
      simpa [List.drop_drop] using this
    simp only [tD]
    by_cases hlt : i < k
    · have h1 := hst i hi
      rw [hs] at h1
      have h2 : (stAt fin tr0 i).t = s.t := by simp [stAt, hi, hs]
      simp only [hlt, decide_true, if_true, h2]
      have h3 := ih (i + 1) hd' hst k (by omega) hk
      rw [h1] at h3
      exact h3
    · obtain rfl : k = i := by omega
      simp only [Nat.lt_irrefl, decide_false, Bool.false_eq_true, if_false]
      have nothing : ∀ (r : List Stp) (i : Nat) (t : List V), k < i → tD (fun j => decide (j < k)) r i t = t := by
        intro r
        induction r with
        | nil => intro i t _; rfl
        | cons s r ih => intro i t h; simp only [tD]; rw [if_neg (by simp; omega)]; exact ih _ _ (by omega)
      exact nothing r (k + 1) _ (by omega)

section
variable {P : Program} {T : TypeId → Option TI} {bad : Nat → Prop} {bs : Nat}

theorem stAt_lt {fin : St} {tr : List Stp} {k : Nat} (hk : k < tr.length) : stAt fin tr k = ⟨tr[k].t, tr[k].h, tr[k].c⟩ := by simp [stAt, hk]
theorem stAt_end {fin : St} {tr : List Stp} : stAt fin tr tr.length = fin := by simp [stAt]

/-- Between two places of the text with no effect between, the blocks are the same. -/
theorem heap_same {fin : St} {tr : List Stp} (hst : ∀ k (hk : k < tr.length), stAt fin tr (k + 1) = ⟨putT tr[k].t tr[k].o.dst tr[k].v, tr[k].h', tr[k].c'⟩) (hne : ∀ k (hk : k < tr.length), tr[k].eff = false → tr[k].h' = tr[k].h ∧ tr[k].c' = tr[k].c) :
    ∀ (d k : Nat), k + d ≤ tr.length → (∀ j (hj : j < tr.length), k ≤ j → j < k + d → tr[j].eff = false) → (stAt fin tr (k + d)).h = (stAt fin tr k).h ∧ (stAt fin tr (k + d)).c = (stAt fin tr k).c
  | 0, k, _, _ => ⟨rfl, rfl⟩
  | d + 1, k, hk, hno => by
    obtain ⟨h1, h2⟩ := heap_same hst hne d k (by omega) fun j hj a b => hno j hj a (by omega)
    have hlt : k + d < tr.length := by omega
    obtain ⟨h3, h4⟩ := hne (k + d) hlt (hno _ hlt (by omega) (by omega))
    rw [show k + (d + 1) = k + d + 1 by omega, hst _ hlt]
    rw [stAt_lt hlt] at h1 h2
    exact ⟨h3.trans h1, h4.trans h2⟩

/-- Between two places of the text, a block that no effect between writes is the same. -/
theorem get_same {fin : St} {tr : List Stp} (hst : ∀ k (hk : k < tr.length), stAt fin tr (k + 1) = ⟨putT tr[k].t tr[k].o.dst tr[k].v, tr[k].h', tr[k].c'⟩) (hne : ∀ k (hk : k < tr.length), tr[k].eff = false → tr[k].h' = tr[k].h ∧ tr[k].c' = tr[k].c)
    (hwr : ∀ k (hk : k < tr.length), tr[k].eff = true → ∀ b, b ∉ tr[k].wr → tr[k].h'.get b = tr[k].h.get b) (b : Nat) :
    ∀ (d k : Nat), k + d ≤ tr.length → (∀ j (hj : j < tr.length), k ≤ j → j < k + d → tr[j].eff = true → b ∉ tr[j].wr) → (stAt fin tr (k + d)).h.get b = (stAt fin tr k).h.get b
  | 0, k, _, _ => rfl
  | d + 1, k, hk, hno => by
    have h1 := get_same hst hne hwr b d k (by omega) fun j hj a b => hno j hj a (by omega)
    have hlt : k + d < tr.length := by omega
    rw [show k + (d + 1) = k + d + 1 by omega, hst _ hlt]
    rw [stAt_lt hlt] at h1
    rw [← h1]
    cases he : tr[k + d].eff with
    | false => rw [(hne _ hlt he).1]
    | true => exact hwr _ hlt he b (hno _ hlt (by omega) (by omega) he)

theorem meetsL_of {a b : List Nat} {x : Nat} (h1 : x ∈ a) (h2 : x ∈ b) : meetsL a b = true := by
  simp only [meetsL, List.any_eq_true]
  exact ⟨x, h1, by simpa using h2⟩

theorem looksAt_operand {ops : Array Oper} {o : Oper} {x : Tmp} (h : .tmp x ∈ o.op.operands.toList) : x ∈ namesOf ops o := by
  refine List.mem_append_right _ (List.mem_append_left _ (List.mem_filterMap.2 ⟨.tmp x, h, rfl⟩))

theorem evGuard_congr {ops : Array Oper} {o : Oper} {t t2 : List V} (h : ∀ x ∈ namesOf ops o, t2[x]? = t[x]?) : evGuard t2 ops o = evGuard t ops o := by
  unfold evGuard
  split
  · rfl
  · rename_i j want hg
    split
    · rfl
    · rename_i d hd
      rw [h d (List.mem_append_right _ (List.mem_append_right _ (by simp [hg, hd])))]

theorem evalO_congr {t t2 : List V} {x : Operand} (h : ∀ k, x = .tmp k → t2[k]? = t[k]?) : evalO t2 x = evalO t x := by
  cases x <;> simp only [evalO]
  rename_i k
  rw [List.getD_eq_getElem?_getD, List.getD_eq_getElem?_getD, h k rfl]

/-- A region whose order is open: whatever the order. -/
def WAny (bs : Nat) (P : Program) (bad : Nat → Prop) (ops : Array Oper) (st : St) (Q : Exit → St → Prop) : Prop :=
  ∀ a w m, SR bs bad st a w m → wpAny P .any ops (Lift bs bad Q w m st.c) ops.size (Array.replicate ops.size false) a w.drew

/-- THE LAW: whatever order is drawn; of a region whose last operations all come behind the others, these are left to the hypothesis. -/
theorem WAny_drawT (hT : TabOk P T) (hm : P.follows .mixedOrders = true) {ops : Array Oper} {st fin : St} {tr : List Stp} (hn : tr.length ≤ ops.size) (hop : ∀ i (hi : i < tr.length), ops[i]? = some tr[i].o) (hg : ∀ s ∈ tr, s.Good P T bad ops) (hch : Chain fin tr st.t st.h st.c)
    (hany : ∀ i (hi : i < tr.length), tr[i].on = true → tr[i].eff = false → localOp tr[i].o.op = true → tr[i].rd = rdOf tr[i].t tr[i].o.op ∨ ∀ k, k ≤ tr.length → (∀ j (hj : j < tr.length), tr[j].eff = true → i ∈ (clos ops).getD j [] → k ≤ j) → evOper P T true tr[i].t tr[i].o (stAt fin tr k).h (stAt fin tr k).c = some (tr[i].v, (stAt fin tr k).h, (stAt fin tr k).c))
    (hed : edgesOk ops = true) (hpr : pairsOk ops (clos ops) tr = true) {Q : Exit → St → Prop} (hbar : ∀ i, tr.length ≤ i → i < ops.size → ∀ j, j < tr.length → j ∈ (clos ops).getD i [])
    (tail : ∀ (w : World) (m : MM) (listed : Array Bool) (a' : Act) (w' : World) (m' : MM), listed.size = ops.size → (∀ i, listed.getD i false = decide (i < tr.length)) → SR bs bad fin a' w' m' → Le w m st.c w' m' fin.c → wpAny P .any ops (Lift bs bad Q w m st.c) (ops.size - tr.length) listed a' w') : WAny bs P bad ops st Q := by
  intro a w m hs
  obtain ⟨hst0, hst⟩ := chain_step hch
  have hgood : ∀ i (hi : i < tr.length), tr[i].Good P T bad ops := fun i hi => hg _ (List.getElem_mem hi)
  have hne : ∀ k (hk : k < tr.length), tr[k].eff = false → tr[k].h' = tr[k].h ∧ tr[k].c' = tr[k].c := fun k hk => (hgood k hk).2.1
  have hwr : ∀ k (hk : k < tr.length), tr[k].eff = true → ∀ b, b ∉ tr[k].wr → tr[k].h'.get b = tr[k].h.get b := fun k hk => (hgood k hk).2.2.2.1
  have hpair : ∀ i j (hi : i < tr.length) (hj : j < tr.length), i < j → conflict ops tr[i] tr[j] = true → i ∈ (clos ops).getD j [] := fun i j hi hj hij hc => by
    have h1 := List.all_eq_true.1 hpr (tr[j], j) (by rw [List.mem_zipIdx_iff_getElem?]; simp [hj])
    have h2 := List.all_eq_true.1 h1 (tr[i], i) (by rw [List.mem_zipIdx_iff_getElem?]; simp [hi])
    simpa [hij, hc] using h2
  have hedge : ∀ i o, ops[i]? = some o → ∀ e ∈ o.after, Region.binds .any e = true → e.on < i := fun i o hi e he hb => by
    have h1 := List.all_eq_true.1 hed (o, i) (by rw [List.mem_zipIdx_iff_getElem?]; simpa using hi)
    have h2 := List.all_eq_true.1 h1 e (by simpa using he)
    simpa [hb] using h2
  obtain ⟨led, hhd⟩ := hs.h.drew
  -- what holds on the way
  have key : ∀ (fuel : Nat) (listed : Array Bool) (L : List Nat) (k : Nat) (a' : Act) (w' : World) (m' : MM), listed.size = ops.size → L.Nodup → L.length = fuel → (∀ i, i ∈ L ↔ i < tr.length ∧ listed.getD i false = false) →
      (∀ i o, listed.getD i false = true → ops[i]? = some o → ∀ e ∈ o.after, Region.binds .any e = true → listed.getD e.on false = true) → k ≤ tr.length → (∀ j (hj : j < tr.length), tr[j].eff = true → (listed.getD j false = true ↔ j < k)) →
      a'.defers = a.defers → HeapRep bad (stAt fin tr k).h w' m' (stAt fin tr k).c → RepT bad w' m' (stAt fin tr k).c (tD (fun i => listed.getD i false) tr 0 st.t) a'.tmps → Le w m st.c w' m' (stAt fin tr k).c →
      (∀ i, tr.length ≤ i → listed.getD i false = false) →
      wpAny P .any ops (Lift bs bad Q w m st.c) (fuel + (ops.size - tr.length)) listed a' w' := by
    intro fuel
    induction fuel with
    | zero =>
      intro listed L k a' w' m' hsz hnd hlen hL hcl hk hk2 hd hh ht hle hout
      have hL0 : L = [] := List.length_eq_zero_iff.1 hlen
      subst hL0
      have hall : ∀ i, i < tr.length → listed.getD i false = true := fun i hi => by
        have := (hL i).2
        cases h : listed.getD i false with
        | true => rfl
        | false => exact absurd (this ⟨hi, h⟩) (by simp)
      rw [Nat.zero_add]
      refine tail w m listed a' w' m' hsz (fun i => ?_) ⟨?_, ?_, by rw [hd]; exact DM.le hs.h hle hs.d⟩ ?_
      · by_cases hi : i < tr.length
        · simp [hi, hall i hi]
        · simp [hi, hout i (by omega)]
      · have hfin := heap_same hst hne (tr.length - k) k (by omega) fun j hj h1 h2 => by
          cases h : tr[j].eff with
          | false => rfl
          | true => have := (hk2 j hj h).1 (hall j hj); omega
        rw [show k + (tr.length - k) = tr.length by omega, stAt_end] at hfin
        have h1 : tD (fun i => listed.getD i false) tr 0 st.t = fin.t := by
          have h2 := tD_text (fin := fin) tr 0 (by simp) hst tr.length (Nat.zero_le _) (Nat.le_refl _)
          rw [stAt_end, hst0] at h2
          rw [← h2]
          refine List.ext_getElem? fun x => tD_congr x tr 0 _ _ rfl rfl fun j hj _ => ?_
          simp only [Nat.zero_add]
          rw [hall j hj]; simp [hj]
        rw [h1] at ht
        rw [hfin.2]; exact ht
      · have hfin := heap_same hst hne (tr.length - k) k (by omega) fun j hj h1 h2 => by
          cases h : tr[j].eff with
          | false => rfl
          | true => have := (hk2 j hj h).1 (hall j hj); omega
        rw [show k + (tr.length - k) = tr.length by omega, stAt_end] at hfin
        rw [hfin.1, hfin.2]; exact hh
      · have hfin := heap_same hst hne (tr.length - k) k (by omega) fun j hj h1 h2 => by
          cases h : tr[j].eff with
          | false => rfl
          | true => have := (hk2 j hj h).1 (hall j hj); omega
        rw [show k + (tr.length - k) = tr.length by omega, stAt_end] at hfin
        rw [hfin.2]; exact hle
    | succ fuel ih =>
      intro listed L k a' w' m' hsz hnd hlen hL hcl hk hk2 hd hh ht hle hout
      rw [Nat.succ_add]
      have hex : ∃ i, i < tr.length ∧ listed.getD i false = false := by
        cases L with
        | nil => simp at hlen
        | cons x r => exact ⟨x, (hL x).1 (List.mem_cons_self ..)⟩
      refine ⟨fun hr => ?_, fun i hi => ?_⟩
      · -- one of those that are left is ready: the least
        exfalso
        have hleast : ∀ n i, i < n → i < tr.length → listed.getD i false = false → ∃ j, j < tr.length ∧ listed.getD j false = false ∧ ∀ q, q < j → listed.getD q false = true := by
          intro n
          induction n with
          | zero => intro i h; omega
          | succ n ihn =>
            intro i h1 h2 h3
            by_cases h4 : ∃ q, q < i ∧ listed.getD q false = false
            · obtain ⟨q, h5, h6⟩ := h4
              exact ihn q (by omega) (by omega) h6
            · refine ⟨i, h2, h3, fun q hq => ?_⟩
              cases h7 : listed.getD q false with
              | true => rfl
              | false => exact absurd ⟨q, hq, h7⟩ h4
        obtain ⟨i0, h1, h2⟩ := hex
        obtain ⟨j, hj1, hj2, hj3⟩ := hleast (i0 + 1) i0 (by omega) h1 h2
        have hjs : j < listed.size := by omega
        have : j ∈ Region.ready .any ops listed := mem_ready.2 ⟨by simpa [hjs] using hj2, tr[j].o, hop j hj1, fun e he hb => hj3 _ (hedge j _ (hop j hj1) e he hb)⟩
        rw [hr] at this; cases this
      · obtain ⟨hun, o, hoi, hpre⟩ := mem_ready.1 hi
        have hi' : i < ops.size := (Array.getElem?_eq_some_iff.1 hoi).1
        have hclos := clos_ready (D := fun i => listed.getD i false) hcl hoi hpre
        have hit : i < tr.length := Nat.lt_of_not_le fun hge => by
          obtain ⟨j, hj1, hj2⟩ := hex
          have := hclos j (hbar i hge hi' j hj1)
          rw [hj2] at this; cases this
        have hDi : listed.getD i false = false := by
          have hjs : i < listed.size := by omega
          simpa [hjs] using hun
        obtain rfl : o = tr[i].o := by rw [hop i hit] at hoi; exact (Option.some.inj hoi).symm
        have hdone : ∀ j, listed.getD j false = true → ∀ q ∈ (clos ops).getD j [], listed.getD q false = true := clos_done (D := fun i => listed.getD i false) hcl
        -- who is done
        have before : ∀ j (hj : j < tr.length), j < i → conflict ops tr[j] tr[i] = true → listed.getD j false = true := fun j hj hji hc => hclos j (hpair j i hj hit hji hc)
        have behind : ∀ j (hj : j < tr.length), i < j → conflict ops tr[i] tr[j] = true → listed.getD j false = false := fun j hj hij hc => by
          cases h : listed.getD j false with
          | false => rfl
          | true => have := hdone j h i (hpair i j hit hj hij hc); rw [hDi] at this; cases this
        -- the slots that it looks at
        have hslot : ∀ x ∈ namesOf ops tr[i].o, (tD (fun i => listed.getD i false) tr 0 st.t)[x]? = tr[i].t[x]? := fun x hx => by
          have h2 := tD_text (fin := fin) tr 0 (by simp) hst i (Nat.zero_le _) (by omega)
          rw [hst0, stAt_lt hit] at h2
          simp only at h2
          rw [← h2]
          refine tD_congr x tr 0 _ _ rfl rfl fun j hj hxj => ?_
          simp only [Nat.zero_add]
          have hxm : x ∈ tr[j].o.dst.toList := by rw [hxj]; simp
          rcases Nat.lt_trichotomy j i with h3 | h3 | h3
          · rw [before j hj h3 (by simp [conflict, meetsL_of hxm hx])]; simp [h3]
          · subst h3; rw [hDi]; simp
          · rw [behind j hj h3 (by simp [conflict, meetsL_of hxm hx])]; simp; omega
        have hopnd : ∀ x ∈ tr[i].o.op.operands.toList, evalO (tD (fun i => listed.getD i false) tr 0 st.t) x = evalO tr[i].t x := fun x hx => evalO_congr fun q hq => hslot q (looksAt_operand (hq ▸ hx))
        -- what is next
        have hD' : ∀ j, (listed.setIfInBounds i true).getD j false = if j = i then true else listed.getD j false := fun j => by
          have hjs : i < listed.size := by omega
          by_cases h : j = i
          · subst h; simp [hjs]
          · rw [if_neg h, getD_set_ne false (Ne.symm h)]
        have hput : tD (fun j => (listed.setIfInBounds i true).getD j false) tr 0 st.t = putT (tD (fun i => listed.getD i false) tr 0 st.t) tr[i].o.dst tr[i].v := by
          refine List.ext_getElem? fun x => ?_
          rw [putT_get]
          split
          · rename_i hx
            refine tD_last tr 0 st.t i hit (by simp [hD']) hx.1 (by rw [tD_length] at hx; exact hx.2) fun j hj hij hxj => ?_
            simp only [Nat.zero_add, hD']
            rw [if_neg (by omega)]
            exact behind j hj hij (by simp [conflict, meetsL_of (show x ∈ tr[j].o.dst.toList by rw [hxj]; simp) (show x ∈ namesOf ops tr[i].o from List.mem_append_left _ (by rw [hx.1]; simp))])
          · rename_i hx
            by_cases hlt : x < st.t.length
            · refine tD_congr x tr 0 _ _ rfl rfl fun j hj hxj => ?_
              simp only [Nat.zero_add, hD']
              rw [if_neg]
              rintro rfl
              exact hx ⟨hxj, by rw [tD_length]; exact hlt⟩
            · rw [List.getElem?_eq_none (by rw [tD_length]; omega), List.getElem?_eq_none (by rw [tD_length]; omega)]
        have hcl' : ∀ j o, (listed.setIfInBounds i true).getD j false = true → ops[j]? = some o → ∀ e ∈ o.after, Region.binds .any e = true → (listed.setIfInBounds i true).getD e.on false = true := fun j o hj hoj e he hb => by
          have hup : ∀ q, listed.getD q false = true → (listed.setIfInBounds i true).getD q false = true := fun q hq => by rw [hD']; split <;> simp_all
          rw [hD'] at hj
          split at hj
          · rename_i h; subst h
            rw [hop j hit] at hoj; cases hoj
            exact hup _ (hpre e he hb)
          · exact hup _ (hcl j o hj hoj e he hb)
        have hiL : i ∈ L := (hL i).2 ⟨hit, hDi⟩
        have next : ∀ (k' : Nat) (a2 : Act) (w2 : World) (m2 : MM), k' ≤ tr.length → (∀ j (hj : j < tr.length), tr[j].eff = true → ((listed.setIfInBounds i true).getD j false = true ↔ j < k')) → a2.defers = a.defers →
            HeapRep bad (stAt fin tr k').h w2 m2 (stAt fin tr k').c → RepT bad w2 m2 (stAt fin tr k').c (putT (tD (fun i => listed.getD i false) tr 0 st.t) tr[i].o.dst tr[i].v) a2.tmps → Le w m st.c w2 m2 (stAt fin tr k').c →
            wpAny P .any ops (Lift bs bad Q w m st.c) (fuel + (ops.size - tr.length)) (listed.setIfInBounds i true) a2 w2 := fun k' a2 w2 m2 h1 h2 h3 h4 h5 h6 => by
          refine ih (listed.setIfInBounds i true) (L.erase i) k' a2 w2 m2 (by simpa using hsz) (hnd.erase i) (by rw [List.length_erase_of_mem hiL]; omega) (fun j => ?_) hcl' h1 h2 h3 h4 (by rw [hput]; exact h5) h6 (fun j hj => by rw [hD', if_neg (by omega)]; exact hout j hj)
          rw [hnd.mem_erase_iff, hL, hD']
          by_cases h : j = i
          · simp [h]
          · simp [h]
        have hkeepk : tr[i].eff = false → ∀ j (hj : j < tr.length), tr[j].eff = true → ((listed.setIfInBounds i true).getD j false = true ↔ j < k) := fun he j hj hej => by
          rw [hD']
          split
          · rename_i h; subst h; rw [he] at hej; cases hej
          · exact hk2 j hj hej
        -- the blocks at its turn, if it is an effect
        have hturn : tr[i].eff = true → (stAt fin tr k).h = tr[i].h ∧ (stAt fin tr k).c = tr[i].c := fun he => by
          have e0 : stAt fin tr i = ⟨tr[i].t, tr[i].h, tr[i].c⟩ := stAt_lt hit
          have hD : ∀ j (hj : j < tr.length), tr[j].eff = true → (listed.getD j false = true ↔ j < i) := fun j hj hej => by
            rcases Nat.lt_trichotomy j i with h3 | h3 | h3
            · rw [before j hj h3 (by simp [conflict, hej, he])]; simp [h3]
            · subst h3; rw [hDi]; simp
            · rw [behind j hj h3 (by simp [conflict, hej, he])]; simp; omega
          rcases Nat.le_total k i with h3 | h3
          · have := heap_same hst hne (i - k) k (by omega) fun j hj h4 h5 => by
              cases h6 : tr[j].eff with
              | false => rfl
              | true =>
                have h7 := (hk2 j hj h6).1 ((hD j hj h6).2 (by omega))
                omega
            rw [show k + (i - k) = i by omega, e0] at this
            exact ⟨this.1.symm, this.2.symm⟩
          · have := heap_same hst hne (k - i) i (by omega) fun j hj h4 h5 => by
              cases h6 : tr[j].eff with
              | false => rfl
              | true =>
                have h7 := (hD j hj h6).1 ((hk2 j hj h6).2 (by omega))
                omega
            rw [show i + (k - i) = k by omega, e0] at this
            exact this
        have heffk : tr[i].eff = true → ∀ j (hj : j < tr.length), tr[j].eff = true → ((listed.setIfInBounds i true).getD j false = true ↔ j < i + 1) := fun he j hj hej => by
          rw [hD']
          split
          · rename_i h; subst h; simp
          · rename_i h
            rcases Nat.lt_trichotomy j i with h3 | h3 | h3
            · rw [before j hj h3 (by simp [conflict, hej, he])]; simp; omega
            · exact absurd h3 h
            · rw [behind j hj h3 (by simp [conflict, hej, he])]; simp; omega
        obtain ⟨g1, _, g3, _, g5⟩ := hgood i hit
        have hguard : Region.wanted tr[i].o (yielded ops a'.tmps) = tr[i].on := evGuard_sound ht (by rw [evGuard_congr hslot]; exact g1)
        unfold wpOp
        simp only [hop i hit, hguard]
        have put_def : ∀ (d : Option Tmp) (v : Value), (a'.put d v).defers = a.defers := fun d v => by cases d <;> simpa [Act.put] using hd
        have put_rep : ∀ {w2 : World} {m2 : MM} {c2 : Nat} {v : V} {x : Value}, RepT bad w2 m2 c2 (tD (fun i => listed.getD i false) tr 0 st.t) a'.tmps → Rep bad w2 m2 c2 v x → RepT bad w2 m2 c2 (putT (tD (fun i => listed.getD i false) tr 0 st.t) tr[i].o.dst v) (a'.put tr[i].o.dst x).tmps := fun h1 h2 => by
          have := h1.put (a := a') h2 tr[i].o.dst
          generalize tr[i].o.dst = d at this ⊢
          cases d <;> exact this
        cases hon : tr[i].on with
        | false =>
          simp only [Bool.false_eq_true, if_false]
          obtain ⟨he, hv⟩ := g3 hon
          exact next k _ w' m' hk (hkeepk he) (put_def _ _) hh (put_rep ht (by rw [hv]; exact .pure (.p _))) hle
        | true =>
          simp only [if_true]
          rcases g5 hon with ⟨he, hloc, hev⟩ | ⟨he, cl, g, vs, hcl, htg, hen, hc⟩ | ⟨he, hev⟩
          · -- it reads, or reckons
            have hrds : tr[i].rd = rdOf tr[i].t tr[i].o.op → ∀ b ∈ rdOf tr[i].t tr[i].o.op, (stAt fin tr k).h.get b = tr[i].h.get b := fun hrd b hb => by
              have e0 : stAt fin tr i = ⟨tr[i].t, tr[i].h, tr[i].c⟩ := stAt_lt hit
              rw [← hrd] at hb
              rcases Nat.le_total k i with h3 | h3
              · have := get_same hst hne hwr b (i - k) k (by omega) fun j hj h4 h5 h6 h7 => by
                  have h8 := before j hj (by omega) (by simp [conflict, h6, meetsL_of hb h7])
                  have := (hk2 j hj h6).1 h8
                  omega
                rw [show k + (i - k) = i by omega, e0] at this
                exact this.symm
              · have := get_same hst hne hwr b (k - i) i (by omega) fun j hj h4 h5 h6 h7 => by
                  have hji : j ≠ i := by rintro rfl; rw [he] at h6; cases h6
                  have h8 := behind j hj (by omega) (by simp [conflict, h6, meetsL_of hb h7])
                  have := (hk2 j hj h6).2 (by omega)
                  rw [h8] at this; cases this
                rw [show i + (k - i) = k by omega, e0] at this
                exact this
            have e3 : evOper P T true (tD (fun i => listed.getD i false) tr 0 st.t) tr[i].o (stAt fin tr k).h (stAt fin tr k).c = some (tr[i].v, (stAt fin tr k).h, (stAt fin tr k).c) := by
              rcases hany i hit hon he hloc with hrd | hall
              · exact (evOper_local (h2 := (stAt fin tr k).h) (c2 := (stAt fin tr k).c) hloc hev ((hgood i hit).2.1 he).2 hopnd (hrds hrd)).2.2
              · exact (evOper_local (h2 := (stAt fin tr k).h) (c2 := (stAt fin tr k).c) hloc (hall k hk fun j hj hej hij => Nat.le_of_not_lt fun hjk => by
                  have h8 := hdone j ((hk2 j hj hej).2 hjk) i hij
                  rw [hDi] at h8; cases h8) rfl hopnd (fun _ _ => rfl)).2.2
            obtain ⟨r, w2, m2, hrun, hr, le2, hh2⟩ := evOper_sound hT hh ht e3
            refine .inl ?_
            rcases hr with ⟨x, rfl, hv⟩ | ⟨rfl, hv⟩
            · simp only [Oper.wp, hrun, Oper.upon]
              exact next k _ w2 m2 hk (hkeepk he) (put_def _ _) hh2 (put_rep (ht.mono le2) hv) (hle.trans le2)
            · simp only [Oper.wp, hrun, Oper.upon]
              exact next k _ w2 m2 hk (hkeepk he) (put_def _ _) hh2 (put_rep (ht.mono le2) (by rw [hv]; exact .pure (.p _))) (hle.trans le2)
          · -- a call that turns no block
            have htg2 : evTarget (tD (fun i => listed.getD i false) tr 0 st.t) cl = some (g, vs) := by
              rw [evTarget_congr fun x hx => hopnd x (by rw [hcl]; exact hx)]; exact htg
            obtain ⟨xs, hrun, hl, hr⟩ := call_run ht htg2 hen tr[i].o hcl
            refine .inl ?_
            simp only [Oper.wp, hrun, Oper.upon]
            refine (hc _ _ w' m' xs hh hl hr).mono ?_
            rintro e w2 ⟨x, m2, rfl, hv, le2, hh2⟩
            exact next k _ w2 m2 hk (hkeepk he) (put_def _ _) hh2 (put_rep (ht.mono le2) hv) (hle.trans le2)
          · -- it writes, or calls
            obtain ⟨t1, t2⟩ := hturn he
            rw [t1, t2] at hh
            rw [t2] at ht hle
            have e1 : stAt fin tr (i + 1) = ⟨putT tr[i].t tr[i].o.dst tr[i].v, tr[i].h', tr[i].c'⟩ := hst i hit
            rcases hev with ⟨hwo, hev⟩ | ⟨cl, g, vs, hcl, htg, hen, hc⟩
            · have hev2 : evOper P T true (tD (fun i => listed.getD i false) tr 0 st.t) tr[i].o tr[i].h tr[i].c = some (tr[i].v, tr[i].h', tr[i].c') := by
                rw [evOper_effect hwo hopnd]; exact hev
              obtain ⟨r, w2, m2, hrun, hr, le2, hh2⟩ := evOper_sound hT hh ht hev2
              refine .inl ?_
              rcases hr with ⟨x, rfl, hv⟩ | ⟨rfl, hv⟩
              · simp only [Oper.wp, hrun, Oper.upon]
                exact next (i + 1) _ w2 m2 (by omega) (heffk he) (put_def _ _) (by rw [e1]; exact hh2) (by rw [e1]; exact put_rep (ht.mono le2) hv) (by rw [e1]; exact hle.trans le2)
              · simp only [Oper.wp, hrun, Oper.upon]
                exact next (i + 1) _ w2 m2 (by omega) (heffk he) (put_def _ _) (by rw [e1]; exact hh2) (by rw [e1]; exact put_rep (ht.mono le2) (by rw [hv]; exact .pure (.p _))) (by rw [e1]; exact hle.trans le2)
            · have htg2 : evTarget (tD (fun i => listed.getD i false) tr 0 st.t) cl = some (g, vs) := by
                rw [evTarget_congr fun x hx => hopnd x (by rw [hcl]; exact hx)]; exact htg
              obtain ⟨xs, hrun, hl, hr⟩ := call_run ht htg2 hen tr[i].o hcl
              refine .inl ?_
              simp only [Oper.wp, hrun, Oper.upon]
              refine (hc w' m' xs hh hl hr).mono ?_
              rintro e w2 ⟨x, m2, rfl, hv, le2, hh2⟩
              exact next (i + 1) _ w2 m2 (by omega) (heffk he) (put_def _ _) (by rw [e1]; exact hh2) (by rw [e1]; exact put_rep (ht.mono le2) hv) (by rw [e1]; exact hle.trans le2)
  have hinit : ∀ i, (Array.replicate ops.size false).getD i false = false := fun i => by
    by_cases h : i < ops.size <;> simp [h]
  have htD : ∀ (r : List Stp) (i : Nat) (t : List V), tD (fun i => (Array.replicate ops.size false).getD i false) r i t = t := by
    intro r
    induction r with
    | nil => intro i t; rfl
    | cons s r ih =>
      intro i t
      unfold tD
      rw [if_neg (by rw [hinit]; simp)]
      exact ih _ _
  rw [show ops.size = tr.length + (ops.size - tr.length) by omega]
  have := key tr.length (Array.replicate ops.size false) (List.range tr.length) 0 a w.drew m (by simp) List.nodup_range (by simp) (fun i => by rw [List.mem_range, hinit]; simp) (fun i o h => by rw [hinit] at h; cases h) (Nat.zero_le _) (fun j hj _ => by rw [hinit]; simp) rfl (by rw [hst0]; exact hhd) (by rw [hst0, htD]; exact hs.t.mono led) (by rw [hst0]; exact led) (fun i _ => hinit i)
  rw [show tr.length + (ops.size - tr.length) = ops.size by omega] at this ⊢
  exact this

/-- THE LAW: whatever order is drawn. -/
theorem WAny_draw (hT : TabOk P T) (hm : P.follows .mixedOrders = true) {ops : Array Oper} {st fin : St} {tr : List Stp} (ho : tr.map (·.o) = ops.toList) (hg : ∀ s ∈ tr, s.Good P T bad ops) (hch : Chain fin tr st.t st.h st.c)
    (hany : ∀ i (hi : i < tr.length), tr[i].on = true → tr[i].eff = false → localOp tr[i].o.op = true → tr[i].rd = rdOf tr[i].t tr[i].o.op ∨ ∀ k, k ≤ tr.length → (∀ j (hj : j < tr.length), tr[j].eff = true → i ∈ (clos ops).getD j [] → k ≤ j) → evOper P T true tr[i].t tr[i].o (stAt fin tr k).h (stAt fin tr k).c = some (tr[i].v, (stAt fin tr k).h, (stAt fin tr k).c))
    (hed : edgesOk ops = true) (hpr : pairsOk ops (clos ops) tr = true) {Q : Exit → St → Prop} (hQ : Q .normal fin) : WAny bs P bad ops st Q := by
  have hn : tr.length = ops.size := by have := congrArg List.length ho; simpa using this
  have hop : ∀ i (hi : i < tr.length), ops[i]? = some tr[i].o := fun i hi => by
    have := congrArg (fun l => l[i]?) ho
    simp only [List.getElem?_map, List.getElem?_eq_getElem hi, Option.map_some, Array.getElem?_toList] at this
    exact this.symm
  refine WAny_drawT hT hm (by omega) hop hg hch hany hed hpr (fun i h1 h2 => by omega) fun w m listed a' w' m' hsz hall hs hle => ?_
  rw [hn, Nat.sub_self]
  refine ⟨?_, fin, m', hQ, hs, hle⟩
  refine List.eq_nil_iff_forall_not_mem.2 fun i hi => ?_
  obtain ⟨h1, o, h2, _⟩ := mem_ready.1 hi
  have hi' : i < ops.size := (Array.getElem?_eq_some_iff.1 h2).1
  have := hall i
  simp [hsz, hi', hn] at h1 this
  rw [h1] at this; cases this

/-- A step of such a region. -/
theorem any_step (hT : TabOk P T) {ops : Array Oper} {i : Nat} {o : Oper} (ho : ops[i]? = some o) (hg : o.guard = none) {st : St} {a : Act} {w : World} {m : MM} (hs : SR bs bad st a w m) {v : V} {h' : Hp} {c' : Nat} (he : evOper P T true st.t o st.h st.c = some (v, h', c')) {Q : Exit → Act → World → Prop} {K : Act → World → Prop}
    (hk : ∀ a' w' m', SR bs bad ⟨putT st.t o.dst v, h', c'⟩ a' w' m' → Le w m st.c w' m' c' → K a' w') : wpOp P ops Q i K a w := by
  have hguard : Region.wanted o (yielded ops a.tmps) = true := evGuard_sound hs.t (by simp [evGuard, hg])
  unfold wpOp
  simp only [ho, hguard, if_true]
  obtain ⟨r, w2, m2, hrun, hr, le2, hh2⟩ := evOper_sound hT hs.h hs.t he
  refine .inl ?_
  rcases hr with ⟨x, rfl, hv⟩ | ⟨rfl, hv⟩
  · simp only [Oper.wp, hrun, Oper.upon]
    exact hk _ w2 m2 (hs.put le2 hh2 hv o.dst) le2
  · simp only [Oper.wp, hrun, Oper.upon]
    exact hk _ w2 m2 (hs.put le2 hh2 (by rw [hv]; exact .pure (.p _)) o.dst) le2

theorem HeapRep.alike {bad : Nat → Prop} {h h2 : Hp} {w : World} {m : MM} {c : Nat} (hh : HeapRep bad h w m c) (he : ∀ b, h2.get b = h.get b) : HeapRep bad h2 w m c :=
  ⟨fun b B hb => hh.get b B (by rw [← he]; exact hb), fun b hb => hh.non b (by rw [← he]; exact hb), hh.lt, hh.nb, hh.inj⟩

theorem WC_draw (hT : TabOk P T) (hm : P.follows .mixedOrders = true) {id : Nat} {ops : Array Oper} {st : St} {Q : Exit → St → Prop} (h : WAny bs P bad ops st Q) : WC bs P bad (.region id ops true) st Q :=
  fun a w m hs => wp_region_any hm (h a w m hs)

end
end Go.Mx
