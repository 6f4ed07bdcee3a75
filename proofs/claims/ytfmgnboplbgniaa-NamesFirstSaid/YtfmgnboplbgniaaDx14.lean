/-
  Equality of arrays, and structs, of scalars; a store at a place of an array that a number names.
-/
import Derived.Test.YtfmgnboplbgniaaDx13
import Derived.Laws.StructEq
namespace Go.Mx
set_option linter.unusedVariables false
set_option linter.unusedSimpArgs false

/-- An array with one element anew. -/
def selA {α : Type} (n : Int) (k : Nat) (x old : α) : α := bif Nat.beq n.toNat k then x else old
def selL {α : Type} (n : Int) (x : α) : Nat → List α → List α
  | _, [] => []
  | k, a :: r => selA n k x a :: selL n x (k + 1) r

theorem selL_set {α : Type} (n : Int) (x : α) : ∀ (l : List α) (k : Nat), selL n x k l = if k ≤ n.toNat then l.set (n.toNat - k) x else l := by
  intro l
  induction l with
  | nil => intro k; simp [selL]
  | cons a r ih =>
    intro k
    rw [selL, ih (k + 1)]
    unfold selA
    by_cases h : n.toNat = k
    · have e : Nat.beq n.toNat k = true := by simpa using h
      rw [e, cond_true, if_neg (by omega), if_pos (by omega), show n.toNat - k = 0 by omega]; rfl
    · have e : Nat.beq n.toNat k = false := by
        cases hb : Nat.beq n.toNat k with
        | false => rfl
        | true => exact absurd (Nat.eq_of_beq_eq_true hb) h
      rw [e, cond_false]
      by_cases h2 : k ≤ n.toNat
      · rw [if_pos (by omega), if_pos h2, show n.toNat - k = (n.toNat - (k + 1)) + 1 by omega]; rfl
      · rw [if_neg (by omega), if_neg h2]

/-- Two cells that are held against each other. -/
inductive EC where
  | int (k : IntKind) (a b : Int)
  | bool (a b : Bool)
  | str (a b : ByteArray)
def EC.x : EC → Value
  | .int k a _ => .int k a
  | .bool a _ => .bool a
  | .str a _ => .string a
def EC.y : EC → Value
  | .int k _ b => .int k b
  | .bool _ b => .bool b
  | .str _ b => .string b
def EC.b : EC → Bool
  | .int _ a b => a == b
  | .bool a b => a == b
  | .str a b => bytesEq a b
def EC.fits : EC → TypeDesc → Bool
  | .int _ _ _, .int _ => true
  | .bool _ _, .bool => true
  | .str _ _, .string => true
  | _, _ => false
def andL : List Bool → Bool
  | [] => true
  | b :: r => b && andL r

theorem still_bind {α β : Type} (P : Program) (s : Sem α) (k : α → Sem β) : still P (s >>= k) = (still P s).bind fun a => still P (k a) := by
  show still P (Sem.bind s k) = _
  induction s with
  | pure a => rfl
  | program f ih => exact ih P
  | _ => rfl
theorem still_pure {α : Type} (P : Program) (a : α) : still P (pure a : Sem α) = some a := rfl
theorem still_underlying {P : Program} {t : TypeId} {D : TypeDesc} (h : P.underlying t = some D) : still P (underlying t) = some D := by
  simp only [underlying, still_bind]
  simp [program, still, h]
  rfl

section
variable {P : Program} {T : TypeId → Option TI}

theorem EC.eq (c : EC) {e : TypeId} {D : TypeDesc} (hu : P.underlying e = some D) (hf : c.fits D = true) (d : Nat) : still P (Op.equalIn (d + 1) e c.x c.y) = some c.b := by
  cases c <;> cases D <;> simp [EC.fits] at hf <;> simp only [Op.equalIn, still_bind, still_underlying hu, Option.bind_some, EC.x, EC.y, EC.b, if_true, still_pure]
  rw [bytesEq_eq, beq_toListBytes]

theorem still_part {e : TypeId} (ha : still P (isAgg e) = some false) {cs : Array Value} {off : Nat} {v : Value} (h : cs[off]? = some v) : still P (part e cs off) = some v := by
  simp only [part, still_bind, ha, Option.bind_some, Bool.false_eq_true, if_false, h, still_pure]

theorem eqlArr (cs : List EC) (e : TypeId) (D : TypeDesc) (t : TypeId) (hu : P.underlying t = some (.array cs.length e)) (he : P.underlying e = some D) (hz : still P (sizeOf e) = some 1) (ha : still P (isAgg e) = some false) (hf : cs.all (fun c => c.fits D) = true) (d : Nat) :
    still P (Op.equalIn (d + 2) t (.agg (cs.map EC.x).toArray) (.agg (cs.map EC.y).toArray)) = some (andL (cs.map EC.b)) := by
  rw [Op.equalIn]
  simp only [still_bind, still_underlying hu, Option.bind_some, hz, Nat.mul_one]
  simp only [Std.Legacy.Range.forIn_eq_forIn_range', Std.Legacy.Range.size, Nat.sub_zero, Nat.add_one_sub_one, Nat.div_one]
  have key : ∀ (suf : List EC) (k : Nat), (∀ i, i < suf.length → cs[k + i]? = suf[i]?) →
      still P (forIn (List.range' k suf.length) ((none, ()) : Option Bool × Unit) fun i __s => do
            let __do_lift ← part e (List.map EC.x cs).toArray i
            let __do_lift_1 ← part e (List.map EC.y cs).toArray i
            let __do_lift ← Op.equalIn (d + 1) e __do_lift __do_lift_1
            if (!__do_lift) = true then pure (ForInStep.done (some false, ()))
              else pure (ForInStep.yield (none, ()))) = some (if andL (suf.map EC.b) then (none, ()) else (some false, ())) := by
    intro suf
    induction suf with
    | nil => intro k _; simp [andL, still_pure]
    | cons a r ih =>
      intro k hk
      have h0 : cs[k]? = some a := by simpa using hk 0 (by simp)
      have hx : (cs.map EC.x).toArray[k]? = some a.x := by simp [h0]
      have hy : (cs.map EC.y).toArray[k]? = some a.y := by simp [h0]
      have hfa : a.fits D = true := List.all_eq_true.1 hf a (List.mem_of_getElem? h0)
      rw [List.length_cons, List.range'_succ, List.forIn_cons, still_bind]
      simp only [still_bind, still_part ha hx, still_part ha hy, Option.bind_some, EC.eq a he hfa d]
      cases hb : a.b
      · simp [andL, hb, still_pure]
      · simp only [Bool.not_true, Bool.false_eq_true, if_false, still_pure, Option.bind_some, List.map_cons, andL, hb, Bool.true_and]
        exact ih (k + 1) fun i hi => by
          have := hk (i + 1) (by simp; omega)
          rw [show k + 1 + i = k + (i + 1) by omega, this]; simp
  rw [key cs 0 (by simp)]
  cases andL (cs.map EC.b) <;> rfl

/-- The fields of a struct of scalars, against two cells each. -/
def fieldsOk (P : Program) : List Field → List EC → Nat → Bool
  | [], [], _ => true
  | f :: fs, c :: cs, i => (f.name != "_") && (f.offset == i) && (still P (isAgg f.type) == some false) && (match P.underlying f.type with | some D => c.fits D | none => false) && fieldsOk P fs cs (i + 1)
  | _, _, _ => false

theorem eqlStruct (cs : List EC) (t : TypeId) {fs : Array Field} (hu : P.underlying t = some (.struct fs)) (hs : P.stoodInHeld t = false) (hf : fieldsOk P fs.toList cs 0 = true) (d : Nat) :
    still P (Op.equalIn (d + 2) t (.agg (cs.map EC.x).toArray) (.agg (cs.map EC.y).toArray)) = some (andL (cs.map EC.b)) := by
  rw [Op.equalIn]
  simp only [still_bind, still_underlying hu, Option.bind_some]
  have hp : still P (program : Sem Program) = some P := rfl
  simp only [hp, Option.bind_some, hs, Bool.false_eq_true, if_false]
  rw [← Array.forIn_toList]
  rw [still_bind]
  have key : ∀ (gs : List Field) (suf : List EC) (k : Nat), fieldsOk P gs suf k = true → (∀ i, i < suf.length → cs[k + i]? = suf[i]?) →
      still P (forIn gs ((none, ()) : Option Bool × Unit) fun f __s =>
            if f.name ≠ "_" then do
              let __do_lift ← part f.type (List.map EC.x cs).toArray f.offset
              let __do_lift_1 ← part f.type (List.map EC.y cs).toArray f.offset
              let __do_lift ← Op.equalIn (d + 1) f.type __do_lift __do_lift_1
              if (!__do_lift) = true then pure (ForInStep.done (some false, ())) else pure (ForInStep.yield (none, ()))
            else pure (ForInStep.yield (none, ()))) = some (if andL (suf.map EC.b) then (none, ()) else (some false, ())) := by
    intro gs
    induction gs with
    | nil =>
      intro suf k h hk
      cases suf with
      | nil => simp [andL, still_pure]
      | cons a r => simp [fieldsOk] at h
    | cons f gs ih =>
      intro suf k h hk
      cases suf with
      | nil => simp [fieldsOk] at h
      | cons a r =>
        simp only [fieldsOk, Bool.and_eq_true, bne_iff_ne, beq_iff_eq] at h
        obtain ⟨⟨⟨⟨hn, ho⟩, ha⟩, hd⟩, hr⟩ := h
        have h0 : cs[k]? = some a := by simpa using hk 0 (by simp)
        have hx : (cs.map EC.x).toArray[f.offset]? = some a.x := by simp [ho, h0]
        have hy : (cs.map EC.y).toArray[f.offset]? = some a.y := by simp [ho, h0]
        cases hu' : P.underlying f.type with
        | none => rw [hu'] at hd; cases hd
        | some D =>
          rw [hu'] at hd
          rw [List.forIn_cons, still_bind, if_pos hn]
          simp only [still_bind, still_part ha hx, still_part ha hy, Option.bind_some, EC.eq a hu' hd d]
          cases hb : a.b
          · simp [andL, hb, still_pure]
          · simp only [Bool.not_true, Bool.false_eq_true, if_false, still_pure, Option.bind_some, List.map_cons, andL, hb, Bool.true_and]
            exact ih r (k + 1) hr fun i hi => by
              have := hk (i + 1) (by simp; omega)
              rw [show k + 1 + i = k + (i + 1) by omega, this]; simp
  rw [key fs.toList cs 0 hf (by simp)]
  cases andL (cs.map EC.b) <;> rfl

theorem still_eqGuard {op : BinOp} {t : TypeId} {x y : Operand} {xs ys : Array Value} (hm : P.eqGuardType P.depth t = false) : still P (eqGuard op t x y (.agg xs) (.agg ys)) = some () := by
  have hp : still P (program : Sem Program) = some P := rfl
  cases op <;> simp [eqGuard, still_bind, hp, hm, still_pure]

variable {ρ : Operand → V} {dr : Bool} {h : Hp} {c : Nat} {d : Option Tmp} {t t' ty : TypeId} {pos : String} {af : Array Edge} {g : Option (Nat × Bool)} {x y : Operand}

theorem ev_eqlA (cs : List EC) (hx : toVal (ρ x) = some (.agg (cs.map EC.x).toArray)) (hy : toVal (ρ y) = some (.agg (cs.map EC.y).toArray))
    (h1 : ∀ d, still P (Op.equalIn (d + 2) t (.agg (cs.map EC.x).toArray) (.agg (cs.map EC.y).toArray)) = some (andL (cs.map EC.b))) (hm : P.eqGuardType P.depth t = false) :
    evOperF P T dr ρ ⟨d, .binOp .eql t x y t', ty, pos, af, g⟩ h c = some (.p (.bool (andL (cs.map EC.b))), h, c) := by
  have h8 : still P (do eqGuard .eql t x y (.agg (cs.map EC.x).toArray) (.agg (cs.map EC.y).toArray); binOp .eql t (.agg (cs.map EC.x).toArray) (.agg (cs.map EC.y).toArray) : Sem Value) = some (.bool (andL (cs.map EC.b))) := by
    simp only [still_bind, still_eqGuard hm, Option.bind_some]
    show still P (do pure (.bool (← Op.equal t _ _)) : Sem Value) = _
    simp only [still_bind, Op.equal, Op.maxDepth, h1 9998, Option.bind_some, still_pure]
  simp only [evOperF, evBin, hx, hy, fastBin, h8, Option.map_some]
theorem ev_neqA (cs : List EC) (hx : toVal (ρ x) = some (.agg (cs.map EC.x).toArray)) (hy : toVal (ρ y) = some (.agg (cs.map EC.y).toArray))
    (h1 : ∀ d, still P (Op.equalIn (d + 2) t (.agg (cs.map EC.x).toArray) (.agg (cs.map EC.y).toArray)) = some (andL (cs.map EC.b))) (hm : P.eqGuardType P.depth t = false) :
    evOperF P T dr ρ ⟨d, .binOp .neq t x y t', ty, pos, af, g⟩ h c = some (.p (.bool !(andL (cs.map EC.b))), h, c) := by
  have h8 : still P (do eqGuard .neq t x y (.agg (cs.map EC.x).toArray) (.agg (cs.map EC.y).toArray); binOp .neq t (.agg (cs.map EC.x).toArray) (.agg (cs.map EC.y).toArray) : Sem Value) = some (.bool !(andL (cs.map EC.b))) := by
    simp only [still_bind, still_eqGuard hm, Option.bind_some]
    show still P (do pure (.bool (!(← Op.equal t _ _))) : Sem Value) = _
    simp only [still_bind, Op.equal, Op.maxDepth, h1 9998, Option.bind_some, still_pure]
  simp only [evOperF, evBin, hx, hy, fastBin, h8, Option.map_some]

theorem ev_storeA {α : Type} (f : α → V) (l : List α) (b s : Nat) (B : Blk) (n : Int) (x' : α) {a : α} (i1 : TI) (ha : idx l n = some a) (hx : ρ x = .box b s 0 n.toNat) (hg : h.get b = some B)
    (hs : B.s = s) (hv : B.var = true) (hes : B.es = [.agg (l.map f)]) (hy : ρ y = f x') (hc : ∀ a, (f a).cells = [f a]) (hn : ∀ a, (f a).isAgg = false) (ho : ∀ a, (f a).one = true) (he : T t = some i1) (hz : i1.size = 1) :
    evOperF P T dr ρ ⟨d, .store t x y, ty, pos, af, g⟩ h c = some (.p Go.undef, h.set b { B with es := [.agg ((selL n x' 0 l).map f)] }, c) := by
  obtain ⟨hn0, ha'⟩ := idx_some ha
  have h3 : n.toNat < l.length := (List.getElem?_eq_some_iff.1 ha').1
  have e : (selL n x' 0 l).map f = (l.map f).take n.toNat ++ [f x'] ++ (l.map f).drop (n.toNat + 1) := by
    rw [selL_set, if_pos (Nat.zero_le _), Nat.sub_zero, List.map_set, List.set_eq_take_append_cons_drop]
    simp [h3]
  have hca : ∀ vs, (V.agg vs).cells = vs := fun _ => rfl
  have hag : ∀ vs, (V.agg vs).isAgg = true := fun _ => rfl
  simp only [evOperF, evStore, he, hx, hg, hv, if_true, hes, hs, hz, hy, hc, hca, hag, hn, List.length_map, List.length_singleton, List.getElem?_cons_zero, List.all_cons, List.all_nil, ho, Bool.and_true, Bool.false_eq_true, false_and, and_false, if_false, List.set_cons_zero]
  rw [if_pos ⟨trivial, trivial, by omega, trivial, by omega, trivial⟩, e]
  rfl
end
end Go.Mx
