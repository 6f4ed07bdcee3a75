/-
  The threads of all statements.
-/
import Derived.Test.YtogllinpkijkpaaPlTree
namespace Go.Su.Ytogllinpkijkpaa
open Go.Mx Go.Proofs
set_option linter.unusedVariables false
set_option linter.unusedSimpArgs false
set_option maxHeartbeats 4000000

theorem wrapu (x : Nat) (h : x < 4294967296) : IntKind.u64.wrap (x : Int) = x := by
  simp only [IntKind.wrap, IntKind.bits, IntKind.signed, Bool.false_and, Bool.false_eq_true, if_false]
  omega
theorem mask32 (x : Nat) (h : x < 4294967296) : (BitVec.ofInt 64 (x : Int) &&& BitVec.ofInt 64 4294967295).toNat = x := by
  have e1 : (BitVec.ofInt 64 (x : Int)).toNat = x := by
    rw [BitVec.toNat_ofInt]; omega
  have e2 : (BitVec.ofInt 64 4294967295).toNat = 2 ^ 32 - 1 := rfl
  rw [BitVec.toNat_and, e1, e2, Nat.and_two_pow_sub_one_eq_mod]; omega
theorem shr32 (x : Nat) (h : x < 4294967296) : ishr .u64 (x : Int) 32 = some 0 := by
  have e : (x : Int).fdiv (2 ^ min (32 : Int).toNat IntKind.u64.bits) = 0 := by
    have : ((2 : Int) ^ min (32 : Int).toNat IntKind.u64.bits) = 4294967296 := rfl
    rw [this, Int.fdiv_eq_ediv_of_nonneg _ (by omega)]; omega
  unfold ishr
  rw [e]; rfl
theorem mul_ev (n m : Nat) (h : m ≤ 1000000) : math_bits_Mul n (IntKind.u64.wrap (1 : Int)) (IntKind.u64.wrap (m : Int)) = some (0, (m : Int)) := by
  have w1 : IntKind.u64.wrap (1 : Int) = ((1 : Nat) : Int) := rfl
  have wm := wrapu m (by omega)
  have w0 : IntKind.u64.wrap (0 : Int) = ((0 : Nat) : Int) := rfl
  have m1 := mask32 1 (by omega)
  have mm := mask32 m (by omega)
  have m0 := mask32 0 (by omega)
  have s1 := shr32 1 (by omega)
  have sm := shr32 m (by omega)
  have s0 := shr32 0 (by omega)
  rw [w1, wm]
  have z : ((0 : Nat) : Int) = 0 := rfl
  have o : ((1 : Nat) : Int) = 1 := rfl
  have e1 : math_bits_Mul64 n ((1 : Nat) : Int) (m : Int) = some (0, (m : Int)) := by
    unfold math_bits_Mul64
    simp only [s1, sm, Option.bind_some, m1, mm, w1, wm, o, Int.one_mul, Int.zero_mul, Int.add_zero, Int.zero_add, w0, s0, z, m0]
    have := mask32 0 (by omega)
    simp_all
  unfold math_bits_Mul
  rw [e1]; rfl

theorem rcopy_rep {k : Int} {l : List Int} {i m : Nat} (hl : l.length = m) (ht : l.take i = List.replicate i k) (hi : i ≤ m) : (rcopy l i).take (i + min i (m - i)) = List.replicate (i + min i (m - i)) k ∧ (rcopy l i).length = m := by
  refine ⟨?_, by rw [rcopy_length, hl]⟩
  unfold rcopy lov
  rw [ht, hl]
  have h1 : (List.replicate i k).take (min i (m - i)) = List.replicate (min i (m - i)) k := by rw [List.take_replicate]; congr 1; omega
  rw [h1]
  rw [← List.replicate_append_replicate, List.take_append_of_le_length (by simp), List.take_of_length_le (by simp)]

theorem repeat_L0 (k : Int) (a1 : Int) (r1 : Int × Int) (b2 : Bool) (m : Nat) (hm : m ≤ 1000000) : ∀ (j i : Nat) (l : List Int), m - i ≤ j → l.length = m → l.take i = List.replicate i k → 1 ≤ i → i ≤ m →
    Ev (fun n => Repeat_int_L0 n [k] a1 r1 b2 l (i : Int)) (List.replicate m k) := by
  intro j
  induction j with
  | zero =>
    intro i l hj hl ht h1 hi
    have : i = m := by omega
    subst this
    have e : l = List.replicate i k := by rw [← ht, List.take_of_length_le (by omega)]
    refine Ev.step (Ev.of_eq (g := fun n => some l) (fun n => ?_) (by rw [e]; exact Ev.ret _))
    have l1 : decide ((i : Int) < ln l) = false := decide_eq_false (by show ¬ (i : Int) < (l.length : Int); omega)
    simp only [Repeat_int_L0, l1, cond_false]
  | succ j ih =>
    intro i l hj hl ht h1 hi
    by_cases hlt : i < m
    · have l1 : decide ((i : Int) < ln l) = true := decide_eq_true (by show (i : Int) < (l.length : Int); omega)
      have l2 : inR (i : Int) l.length = true := by unfold inR; simp; omega
      have hr := rcopy_rep hl ht hi
      have e : wr ((i : Int) + ((min (i : Int).toNat (l.length - (i : Int).toNat) : Nat) : Int)) = ((i + min i (m - i) : Nat) : Int) := by
        rw [show (i : Int).toNat = i by omega, hl, wr_of (by omega)]; omega
      refine Ev.step (Ev.of_eq (g := fun n => Repeat_int_L0 n [k] a1 r1 b2 (rcopy l i) ((i + min i (m - i) : Nat) : Int)) (fun n => ?_) (ih _ _ (by omega) hr.2 hr.1 (by omega) (by omega)))
      simp only [Repeat_int_L0, l1, l2, cond_true, e]
      rw [show (i : Int).toNat = i by omega]
    · have : i = m := by omega
      subst this
      have e : l = List.replicate i k := by rw [← ht, List.take_of_length_le (by omega)]
      refine Ev.step (Ev.of_eq (g := fun n => some l) (fun n => ?_) (by rw [e]; exact Ev.ret _))
      have l1 : decide ((i : Int) < ln l) = false := decide_eq_false (by show ¬ (i : Int) < (l.length : Int); omega)
      simp only [Repeat_int_L0, l1, cond_false]

theorem repeat_ev (k : Int) (m : Nat) (hm : m ≤ 1000000) : Ev (fun n => Repeat_int n [k] (m : Int)) (List.replicate m k) := by
  have hneg : decide ((m : Int) < 0) = false := decide_eq_false (by omega)
  have hw : wr (m : Int) = (m : Int) := wr_of (by omega)
  have hroom : mroom s_int.i1.bytes (m : Int) = true := by
    have : s_int.i1.bytes = 8 := rfl
    unfold mroom roomB
    rw [this]; simp; omega
  have hb : decide ((0 : Int) > 0) = false := rfl
  have hb2 : decide ((m : Int) > 9223372036854775807) = false := decide_eq_false (by omega)
  refine Ev.of_eq (g := fun n => Repeat_int_L0 n [k] (m : Int) (0, (m : Int)) false (lcopy (List.replicate m (0 : Int)) [k]) ((min 1 m : Nat) : Int)) (fun n => ?_) ?_
  · have := mul_ev n m hm
    have e2 : IntKind.u64.wrap (ln [k]) = IntKind.u64.wrap (1 : Int) := rfl
    simp only [Repeat_int, hneg, cond_false, e2, this, Option.bind_some, jn, hb, hb2, hw, hroom, cond_true, List.length_replicate]
    rw [show (m : Int).toNat = m by omega]; rfl
  · rcases Nat.eq_zero_or_pos m with rfl | hp
    · exact Ev.step (Ev.of_eq (g := fun n => some []) (fun n => by simp only [Repeat_int_L0]; rfl) (Ev.ret _))
    · have e : min 1 m = 1 := by omega
      rw [e]
      refine repeat_L0 k _ _ _ m hm m 1 _ (by omega) (by rw [lcopy_length]; simp) ?_ (by omega) hp
      unfold lcopy lov
      simp only [List.length_singleton, List.length_replicate, e, List.take_zero, List.nil_append]
      simp

def thr : Nat → List (List Stmt) → List Int
  | _, [] => []
  | k, t :: r => List.replicate (flat t).length (k : Int) ++ thr (k + 1) r
theorem thr_len : ∀ (ts : List (List Stmt)) (k : Nat), (thr k ts).length = (flats ts).length
  | [], k => rfl
  | t :: r, k => by rw [thr, flats, List.length_append, List.length_append, List.length_replicate, thr_len r]

theorem Threads_L0 (D : List Decl) (ts : List (List Stmt)) (hz : szT ts ≤ 1000000) : ∀ (l pre : List (List Stmt)) (acc : List Int), ts = pre ++ l → acc ++ thr pre.length l = thr 0 ts → acc.length + szT l ≤ 1000000 → Ev (fun n => tree_Threads_L0 n ⟨D, ts⟩ acc pre.length) (thr 0 ts)
  | [], pre, acc, e, ea, h => by
    rw [thr, List.append_nil] at ea
    subst ea
    rw [List.append_nil] at e
    refine Ev.step (Ev.of_eq (g := fun n => some (thr 0 ts)) (fun n => ?_) (Ev.ret _))
    have l1 : decide ((pre.length : Int) < ln ts) = false := by rw [e]; exact ix_ge _
    simp only [tree_Threads_L0, l1, cond_false, Clip_int, sub_all, Option.bind_some]
  | t :: r, pre, acc, e, ea, h => by
    have hts := len_T ts
    rw [szT] at h
    have hp : pre.length + 1 ≤ ts.length := by rw [e]; simp
    have hf := flat_len.2 t
    refine Ev.step (Ev.of_eq (g := fun n => (tree_listed_n n t).bind fun r4 => (Repeat_int n [(pre.length : Int)] (ln r4)).bind fun r5 => bif room s_int.i1.bytes acc.length r5.length then tree_Threads_L0 n ⟨D, ts⟩ (acc ++ r5) ((pre ++ [t]).length) else none) (fun n => ?_) (Ev.bind (listedn_ev t (by omega)) (Ev.bind (repeat_ev _ _ (by omega)) ?_)))
    · have l1 : decide ((pre.length : Int) < ln ts) = true := by rw [e]; exact ix_lt _ _ _
      have l2 : idx ts (pre.length : Int) = some t := by rw [e]; exact ix_get _ _ _
      simp only [tree_Threads_L0, l1, l2, cond_true, Option.bind_some]
      rw [ix_wr pre t (by omega)]
    · have hr : room s_int.i1.bytes acc.length (List.replicate (flat t).length (pre.length : Int)).length = true := room_of (by
        have : s_int.i1.bytes = 8 := rfl
        rw [this, List.length_replicate]; omega)
      simp only [hr, cond_true]
      exact Threads_L0 D ts hz r (pre ++ [t]) _ (by rw [e]; exact ix_cons _ _ _) (by rw [← ea, thr]; simp) (by rw [List.length_append, List.length_replicate]; omega)

theorem Threads_ev (D : List Decl) (ts : List (List Stmt)) (hz : szT ts ≤ 1000000) : Ev (fun n => tree_Threads n ⟨D, ts⟩) (thr 0 ts) :=
  Ev.of_eq (fun n => by simp only [tree_Threads]; rfl) (Threads_L0 D ts hz ts [] [] rfl rfl (by simpa using hz))

end Go.Su.Ytogllinpkijkpaa
