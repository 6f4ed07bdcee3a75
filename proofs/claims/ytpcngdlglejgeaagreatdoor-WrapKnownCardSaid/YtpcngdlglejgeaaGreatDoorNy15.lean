/-
  Calls to which blocks are lent.
-/
import Derived.Test.YtpcngdlglejgeaaGreatDoorNy14
namespace Go.Mx
set_option linter.unusedVariables false
set_option linter.unusedSimpArgs false

/-- Where the first entry that is told by 'p' has its place. -/
def lookE : List (Nat × Nat × Nat) → Nat → Option (Nat × Nat)
  | [], _ => none
  | (a, b, s) :: r, k => if a = k then some (b, s) else lookE r k

def revE : List (Nat × Nat × Nat) → Nat → Option (Nat × Nat)
  | [], _ => none
  | (a, b, s) :: r, k => if b = k then some (a, s) else revE r k

theorem revE_mem {E : List (Nat × Nat × Nat)} {k a s : Nat} (h : revE E k = some (a, s)) : (a, k, s) ∈ E := by
  induction E with
  | nil => simp [revE] at h
  | cons x r ih =>
    obtain ⟨a', b', s'⟩ := x
    simp only [revE] at h
    split at h
    · rename_i e; cases h; subst e; exact List.mem_cons_self ..
    · exact List.mem_cons_of_mem _ (ih h)

theorem revE_of {E : List (Nat × Nat × Nat)} (hd : (E.map fun x => x.2.1).Nodup) {a k s : Nat} (h : (a, k, s) ∈ E) : revE E k = some (a, s) := by
  induction E with
  | nil => cases h
  | cons x r ih =>
    obtain ⟨a', b', s'⟩ := x
    simp only [List.map_cons, List.nodup_cons] at hd
    simp only [revE]
    rcases List.mem_cons.1 h with h | h
    · cases h; simp
    · split
      · rename_i e; subst e
        exact absurd (List.mem_map.2 ⟨_, h, rfl⟩) hd.1
      · exact ih hd.2 h

theorem lookE_mem {E : List (Nat × Nat × Nat)} {k b s : Nat} (h : lookE E k = some (b, s)) : (k, b, s) ∈ E := by
  induction E with
  | nil => simp [lookE] at h
  | cons x r ih =>
    obtain ⟨a', b', s'⟩ := x
    simp only [lookE] at h
    split at h
    · rename_i e; cases h; subst e; exact List.mem_cons_self ..
    · exact List.mem_cons_of_mem _ (ih h)

/-- The blocks that entries name, under their new names. -/
def moveH (h : Hp) (κ : Nat → Option (Nat × Nat)) (bor : List Nat) : List (Nat × Nat × Nat) → Option Hp
  | [] => some []
  | (a, b, s) :: r => match h.get a with
    | some B => match (if B.var then mapO (trV h κ bor 12) B.es else some B.es), moveH h κ bor r with
      | some es, some r' => some ((b, { B with s := s, es := es }) :: r')
      | _, _ => none
    | none => none

theorem moveH_get {h : Hp} {κ : Nat → Option (Nat × Nat)} {bor : List Nat} : ∀ {E : List (Nat × Nat × Nat)} {h' : Hp}, moveH h κ bor E = some h' → ∀ k,
    (revE E k = none → h'.get k = none) ∧ ∀ a s, revE E k = some (a, s) → ∃ B es, h.get a = some B ∧ (if B.var then mapO (trV h κ bor 12) B.es else some B.es) = some es ∧ h'.get k = some { B with s := s, es := es }
  | [], h', hm, k => by
    simp only [moveH, Option.some.injEq] at hm
    subst hm
    exact ⟨fun _ => rfl, fun a s h => by simp [revE] at h⟩
  | (a, b, s) :: r, h', hm, k => by
    simp only [moveH] at hm
    split at hm
    · rename_i B hB
      split at hm
      · rename_i es r' hes hr
        cases hm
        obtain ⟨h1, h2⟩ := moveH_get hr k
        simp only [revE, Hp.get]
        by_cases e : b = k
        · subst e
          simp only [if_true]
          exact ⟨fun h => by simp at h, fun a' s' h => by cases h; exact ⟨B, es, hB, hes, rfl⟩⟩
        · simp only [if_neg e]
          exact ⟨h1, h2⟩
      · cases hm
    · cases hm

def moveM (m : MM) (E : List (Nat × Nat × Nat)) : MM := fun k => match revE E k with
  | some (a, s) => (m a).map fun l => { l with s := s }
  | none => none

section
variable {P : Program} {T : TypeId → Option TI} {bad bad' : Nat → Prop}

/-- The content of a block under its new name. -/
theorem move_content {w : World} {m m' : MM} {c c' : Nat} {h : Hp} (hh : HeapRep bad h w m c) (hok : ∀ β, okOf bad w m β → okOf bad' w m' β) {κ : Nat → Option (Nat × Nat)} {bor : List Nat}
    (hκ : ∀ b b' s', κ b = some (b', s') → s' < c' ∧ ∀ l, m b = some l → m' b' = some { l with s := s' }) (hbor : ∀ b ∈ bor, κ b = none → ∀ l β, m b = some l → l.blk = some β → okOf bad' w m' β)
    {a : Nat} {B : Blk} (hg : h.get a = some B) {es : List V} (hes : (if B.var then mapO (trV h κ bor 12) B.es else some B.es) = some es) {s : Nat} (hs : s < c') {l : Loc} (hm : m a = some l) :
    HoldsB bad' w m' c' { l with s := s } { B with s := s, es := es } := by
  obtain ⟨l', h1, h2, h3, h4, h5, h6⟩ := hh.get a B hg
  rw [hm] at h1; cases h1
  refine ⟨rfl, h3, h4, hs, ?_⟩
  rcases h6 with ⟨n1, n2, n3⟩ | ⟨n1, n2, n3, β, ents, clk, n4, n5, n6, n7⟩ | ⟨n1, β, cs, n2, n3, n4, n5, n6, n7⟩
  · refine .inl ⟨n1, n2, ?_⟩
    rw [n3] at hes
    split at hes
    · simp only [mapO, Option.some.injEq] at hes; exact hes.symm
    · cases hes; rfl
  · refine .inr <| .inl ⟨n1, n2, n3, β, ents, clk, n4, n5, ?_⟩
    simp only [n3, if_true] at hes
    obtain ⟨e1, e2⟩ := mapO_spec hes
    refine ⟨by simp only [e1]; exact n6, fun i hi hi2 => ?_⟩
    have hi' : i < B.es.length := by simp only [] at hi; omega
    obtain ⟨k, v, q1, q2, q3⟩ := n7 i hi' hi2
    have q4 := e2 i hi' hi
    rw [q1] at q4
    have q5 : (mapO (trV h κ bor 11) [.p (.int .i64 k), v]).map V.tup = some es[i] := q4
    rw [Option.map_eq_some_iff] at q5
    obtain ⟨us, q6, q7⟩ := q5
    obtain ⟨r1, r2⟩ := mapO_spec q6
    match us, r1, r2, q7 with
    | [a1, a2], _, r2, q7 =>
      have r3 := r2 0 (by simp) (by simp)
      have r4 := r2 1 (by simp) (by simp)
      simp only [List.getElem_cons_zero, List.getElem_cons_succ] at r3 r4
      have r5 : a1 = .p (.int .i64 k) := by simpa [trV] using r3.symm
      subst r5
      exact ⟨k, a2, q7.symm, q2, trV_sound hh hok hκ hbor 11 _ _ _ q3 r4⟩
  · refine .inr <| .inr ⟨n1, β, cs, n2, n3, n4, ?_⟩
    cases hv : B.var with
    | false =>
      simp only [hv] at hes
      cases hes
      refine ⟨n5, n6, fun i hi j hj => ?_⟩
      obtain ⟨x, hx, hr⟩ := n7 i hi j hj
      refine ⟨x, hx, ?_⟩
      simp only [hv, RepC] at hr ⊢
      exact hr.mono fun γ hγ => ⟨hok γ hγ, fun _ => rfl⟩
    | true =>
      simp only [hv, if_true] at hes
      obtain ⟨e1, e2⟩ := mapO_spec hes
      have cell : ∀ i (hi : i < es.length) (hi' : i < B.es.length), es[i].cells.length = B.es[i].cells.length ∧ ∀ j (hj : j < es[i].cells.length) (hj' : j < B.es[i].cells.length) x, Rep bad w m c B.es[i].cells[j] x → Rep bad' w m' c' es[i].cells[j] x := by
        intro i hi hi'
        have h7 := e2 i hi' hi
        generalize B.es[i] = e at h7
        generalize es[i] = e' at h7
        cases e with
        | agg vs =>
          simp only [trV, Option.map_eq_some_iff] at h7
          obtain ⟨vs', h8, rfl⟩ := h7
          obtain ⟨a1, a2⟩ := mapO_spec h8
          exact ⟨a1, fun j hj hj' x hr => trV_sound hh hok hκ hbor 11 _ _ x hr (a2 j hj' hj)⟩
        | _ =>
          have single : e'.cells = [e'] → e'.cells.length = 1 ∧ ∀ j (hj : j < e'.cells.length), j = 0 ∧ e'.cells[j] = e' := fun h9 => by
            refine ⟨by rw [h9]; rfl, fun j hj => ?_⟩
            have : j = 0 := by rw [h9] at hj; simpa using hj
            subst this
            exact ⟨rfl, by simp [h9]⟩
          have h10 : e'.cells = [e'] := trV_notAgg h7 rfl
          obtain ⟨s1, s2⟩ := single h10
          refine ⟨s1, fun j hj hj' x hr => ?_⟩
          obtain ⟨rfl, s3⟩ := s2 j hj
          rw [s3]
          exact trV_sound hh hok hκ hbor 12 _ _ x (by simpa [V.cells] using hr) h7
      refine ⟨by simp only [e1]; exact n5, fun i hi => by rw [(cell i hi (by simp only [] at hi; omega)).1]; exact n6 i (by simp only [] at hi; omega), fun i hi j hj => ?_⟩
      have hi' : i < B.es.length := by simp only [] at hi; omega
      obtain ⟨c1, c2⟩ := cell i hi hi'
      have hj' : j < B.es[i].cells.length := by rw [← c1]; exact hj
      obtain ⟨x, hx, hr⟩ := n7 i hi' j hj'
      exact ⟨x, hx, c2 j hj hj' x hr.rep⟩

theorem eraseAll_get : ∀ (bs : List Nat) {h : Hp} {k : Nat} {B : Blk}, (eraseAll h bs).get k = some B → h.get k = some B ∧ k ∉ bs
  | [], h, k, B, hk => ⟨hk, by simp⟩
  | b :: r, h, k, B, hk => by
    obtain ⟨h1, h2⟩ := eraseAll_get r hk
    rw [Hp.get_erase] at h1
    split at h1
    · cases h1
    · rename_i hne
      exact ⟨h1, by simp [h2, Ne.symm hne]⟩

theorem Hp.get_append (h1 h2 : Hp) (k : Nat) : (h1 ++ h2 : Hp).get k = (h1.get k).or (h2.get k) := by
  induction h1 with
  | nil => simp [Hp.get]
  | cons x r ih =>
    obtain ⟨b, B⟩ := x
    simp only [List.cons_append, Hp.get, ih]
    split <;> simp

/-- A CALL TO WHICH BLOCKS ARE LENT: E1: caller's name, callee's name, 0 · E2: callee's name, caller's name, stamp: what comes back. -/
theorem CallsA_lend {g : FuncId} {h : Hp} {c : Nat} {vs vs' : List V} {E1 E2 : List (Nat × Nat × Nat)} {hA hr hB : Hp} {r r' : V} {cr c2 : Nat} {bor : List Nat}
    (hvs : mapO (trV h (lookE E1) bor 12) vs = some vs') (hA' : moveH h (lookE E1) bor E1 = some hA) (hz : ∀ x ∈ E1, x.2.2 = 0) (hd1 : (E1.map (·.1)).Nodup) (hd2 : (E1.map fun x => x.2.1).Nodup)
    (hg : ∀ bad, CallsA P bad hA 1 g vs' r hr cr) (hr' : trV hr (lookE E2) [] 12 r = some r') (hB' : moveH hr (lookE E2) [] E2 = some hB) (hd3 : (E2.map (·.1)).Nodup) (hd4 : (E2.map fun x => x.2.1).Nodup) (hc2 : c ≤ c2)
    (hE2 : ∀ x ∈ E2, (c ≤ x.2.2 ∧ x.2.2 < c2) ∨ (∃ B, hr.get x.1 = some B ∧ B.s = 0) ∧ (x.2.1, x.1, 0) ∈ E1 ∧ ∃ B, h.get x.2.1 = some B ∧ B.s = x.2.2) :
    CallsA P bad h c g vs r' (hB ++ eraseAll h (E1.map (·.1) ++ bor)) c2 := by
  intro w m xs hh hl hrep
  obtain ⟨hl', htr⟩ := mapO_spec hvs
  let lent := E1.map (·.1)
  let bad' : Nat → Prop := fun β => bad β ∨ ∃ b l, b ∉ lent ∧ b ∉ bor ∧ m b = some l ∧ l.blk = some β
  let mA : MM := moveM m E1
  have mA_of : ∀ k l, mA k = some l → ∃ a l0, (a, k, 0) ∈ E1 ∧ m a = some l0 ∧ l = { l0 with s := 0 } := fun k l hk => by
    simp only [mA, moveM] at hk
    split at hk
    · rename_i a s hv
      have hmem := revE_mem hv
      have := hz _ hmem
      simp only at this
      subst this
      simp only [Option.map_eq_some_iff] at hk
      obtain ⟨l0, h1, rfl⟩ := hk
      exact ⟨a, l0, hmem, h1, rfl⟩
    · cases hk
  have mem_lent : ∀ {a k s}, (a, k, s) ∈ E1 → a ∈ lent := fun hm => List.mem_map.2 ⟨_, hm, rfl⟩
  have key_inj : ∀ {a k k'}, (a, k, 0) ∈ E1 → (a, k', 0) ∈ E1 → k = k' := fun {a k k'} h1 h2 => by
    have : ∀ (E : List (Nat × Nat × Nat)), (E.map (·.1)).Nodup → (a, k, 0) ∈ E → (a, k', 0) ∈ E → k = k' := by
      intro E
      induction E with
      | nil => intro _ h; cases h
      | cons x t ih =>
        intro hn h1 h2
        simp only [List.map_cons, List.nodup_cons] at hn
        rcases List.mem_cons.1 h1 with h1 | h1 <;> rcases List.mem_cons.1 h2 with h2 | h2
        · rw [← h1] at h2; cases h2; rfl
        · exact absurd (List.mem_map.2 ⟨_, h2, by rw [← h1]⟩) hn.1
        · exact absurd (List.mem_map.2 ⟨_, h1, by rw [← h2]⟩) hn.1
        · exact ih hn.2 h1 h2
    exact this E1 hd1 h1 h2
  have hok : ∀ β, okOf bad w m β → okOf bad' w mA β := fun β hβ => ⟨hβ.1, fun h1 => by
    rcases h1 with h1 | ⟨b, l, _, _, h1, h2⟩
    · exact hβ.2.1 h1
    · exact hβ.2.2 b l h1 h2, fun k l h1 h2 => by
    obtain ⟨a, l0, _, h3, rfl⟩ := mA_of k l h1
    exact hβ.2.2 a l0 h3 h2⟩
  have hκ : ∀ b b' s', lookE E1 b = some (b', s') → s' < 1 ∧ ∀ l, m b = some l → mA b' = some { l with s := s' } := fun b b' s' hk => by
    have hmem := lookE_mem hk
    have h0 := hz _ hmem
    simp only at h0
    subst h0
    refine ⟨by omega, fun l hl => ?_⟩
    simp only [mA, moveM, revE_of hd2 hmem, hl, Option.map_some]
  have hbor : ∀ b ∈ bor, lookE E1 b = none → ∀ l β, m b = some l → l.blk = some β → okOf bad' w mA β := fun b hb hk l β h1 h2 => by
    refine ⟨hh.blk_lt h1 h2, fun h3 => ?_, fun k l' h3 h4 => ?_⟩
    · rcases h3 with h3 | ⟨b2, l2, _, h5, h6, h7⟩
      · exact hh.nb b l β h1 h2 h3
      · exact h5 (hh.inj b b2 l l2 β h1 h6 h2 h7 ▸ hb)
    · obtain ⟨a, l0, h5, h6, rfl⟩ := mA_of k l' h3
      have : b = a := hh.inj b a l l0 β h1 h6 h2 h4
      subst this
      have : ∀ (E : List (Nat × Nat × Nat)), (b, k, 0) ∈ E → lookE E b ≠ none := by
        intro E
        induction E with
        | nil => intro h; cases h
        | cons x t ih =>
          intro h
          obtain ⟨x1, x2, x3⟩ := x
          simp only [lookE]
          split
          · simp
          · rcases List.mem_cons.1 h with h | h
            · cases h; rename_i e; exact absurd rfl e
            · exact ih h
      exact this E1 h5 hk
  -- the callee's blocks
  have hhA : HeapRep bad' hA w mA 1 := by
    refine ⟨fun k B hk => ?_, fun k hk => ?_, fun β hβ => ?_, fun k l β h1 h2 h3 => ?_, fun k k' l l' β h1 h2 h3 h4 => ?_⟩
    · obtain ⟨g1, g2⟩ := moveH_get hA' k
      cases hv : revE E1 k with
      | none => rw [g1 hv] at hk; cases hk
      | some y =>
        obtain ⟨a, s⟩ := y
        obtain ⟨B0, es, g3, g4, g5⟩ := g2 a s hv
        rw [g5] at hk; cases hk
        obtain ⟨l, hm, _⟩ := hh.get a B0 g3
        have h0 := hz _ (revE_mem hv)
        simp only at h0
        subst h0
        exact ⟨{ l with s := 0 }, by simp [mA, moveM, hv, hm], move_content hh hok hκ hbor g3 g4 (by omega) hm⟩
    · obtain ⟨g1, g2⟩ := moveH_get hA' k
      cases hv : revE E1 k with
      | none => simp [mA, moveM, hv]
      | some y =>
        obtain ⟨a, s⟩ := y
        obtain ⟨B0, es, g3, g4, g5⟩ := g2 a s hv
        rw [g5] at hk; cases hk
    · rcases hβ with h1 | ⟨b, l, _, _, h1, h2⟩
      · exact hh.lt β h1
      · exact hh.blk_lt h1 h2
    · obtain ⟨a, l0, h5, h6, rfl⟩ := mA_of k l h1
      rcases h3 with h3 | ⟨b2, l2, h7, _, h8, h9⟩
      · exact hh.nb a l0 β h6 h2 h3
      · exact h7 (hh.inj a b2 l0 l2 β h6 h8 h2 h9 ▸ mem_lent h5)
    · obtain ⟨a, l0, h5, h6, rfl⟩ := mA_of k l h1
      obtain ⟨a', l0', h5', h6', rfl⟩ := mA_of k' l' h2
      have : a = a' := hh.inj a a' l0 l0' β h6 h6' h3 h4
      subst this
      exact key_inj h5 h5'
  refine (hg bad' w mA xs hhA (by omega) fun i h1 h2 => trV_sound hh hok hκ hbor 12 _ _ _ (hrep i (by omega) h2) (htr i (by omega) h1)).mono ?_
  rintro e w' ⟨x, mr, rfl, hrx, hle, hhr⟩
  -- back in the caller
  let m2 : MM := fun k => match revE E2 k with
    | some (a, s) => (mr a).map fun l => { l with s := s }
    | none => dropM m (lent ++ bor) k
  have m2_of : ∀ k l, m2 k = some l → (∃ a l0 s, (a, k, s) ∈ E2 ∧ mr a = some l0 ∧ l = { l0 with s := s }) ∨ (k ∉ lent ∧ k ∉ bor ∧ m k = some l) := fun k l hk => by
    simp only [m2] at hk
    split at hk
    · rename_i a s hv
      simp only [Option.map_eq_some_iff] at hk
      obtain ⟨l0, h1, rfl⟩ := hk
      exact .inl ⟨a, l0, s, revE_mem hv, h1, rfl⟩
    · unfold dropM at hk
      split at hk
      · cases hk
      · rename_i h1
        simp only [List.mem_append, not_or] at h1
        exact .inr ⟨h1.1, h1.2, hk⟩
  have keep : ∀ β, β < w.heap.size → (∀ b l, m b = some l → l.blk = some β → b ∉ lent) → w'.heap[β]? = w.heap[β]? := fun β hβ hno => hle.keep β hβ fun k l h1 h2 => by
    obtain ⟨a, l0, h5, h6, rfl⟩ := mA_of k l h1
    exact hno a l0 h6 h2 (mem_lent h5)
  have mr_range : ∀ a l0 β, mr a = some l0 → l0.blk = some β → w.heap.size ≤ β ∨ ∃ b l, b ∈ lent ∧ m b = some l ∧ l.blk = some β := fun a l0 β h1 h2 => by
    rcases hle.range a l0 β h1 h2 with h3 | ⟨k, l, h3, h4⟩
    · exact .inl h3
    · obtain ⟨b, l1, h5, h6, rfl⟩ := mA_of k l h3
      exact .inr ⟨b, l1, mem_lent h5, h6, h4⟩
  have hle2 : Le w m c w' m2 c2 := by
    refine ⟨hc2, fun k l h1 h2 => ?_, fun β hβ hno => keep β hβ fun b l h1 h2 => absurd h2 (hno b l h1), hle.size, hle.os, hle.output, hle.tape, fun k l β h1 h2 => ?_⟩
    · rcases m2_of k l h1 with ⟨a, l0, s, h3, h4, rfl⟩ | ⟨_, _, h3⟩
      · rcases hE2 _ h3 with ⟨h5, _⟩ | ⟨⟨B, h5, h6⟩, h7, B', h8, h9⟩
        · simp only at h2 h5; omega
        · -- a block that was lent
          simp only at h5 h7 h8 h9
          obtain ⟨l1, h10, h11, _⟩ := hhr.get a B h5
          rw [h4] at h10; cases h10
          have h12 := hle.hm a l0 h4 (by omega)
          obtain ⟨b, l2, h13, h14, rfl⟩ := mA_of a l0 h12
          have h15 := revE_of hd2 h13
          rw [revE_of hd2 h7] at h15
          cases h15
          obtain ⟨l3, h16, h17, _⟩ := hh.get k B' h8
          rw [h14] at h16; cases h16
          rw [h14, ← h9, ← h17]
      · exact h3
    · rcases m2_of k l h1 with ⟨a, l0, s, h3, h4, rfl⟩ | ⟨_, _, h3⟩
      · rcases mr_range a l0 β h4 h2 with h5 | ⟨b, l1, _, h5, h6⟩
        · exact .inl h5
        · exact .inr ⟨b, l1, h5, h6⟩
      · exact .inr ⟨k, l, h3, h2⟩
  have hokB : ∀ β, okOf bad' w' mr β → okOf bad w' m2 β := fun β hβ => ⟨hβ.1, fun h1 => hβ.2.1 (.inl h1), fun k l h1 h2 => by
    rcases m2_of k l h1 with ⟨a, l0, s, _, h4, rfl⟩ | ⟨h3, h4, h5⟩
    · exact hβ.2.2 a l0 h4 h2
    · exact hβ.2.1 (.inr ⟨k, l, h3, h4, h5, h2⟩)⟩
  have stamp : ∀ {a k s}, (a, k, s) ∈ E2 → s < c2 := fun hm => by
    rcases hE2 _ hm with ⟨_, h1⟩ | ⟨_, _, B, h1, h2⟩
    · exact h1
    · simp only at h1 h2
      obtain ⟨l, _, _, _, _, h3, _⟩ := hh.get _ B h1
      omega
  have hκB : ∀ b b' s', lookE E2 b = some (b', s') → s' < c2 ∧ ∀ l, mr b = some l → m2 b' = some { l with s := s' } := fun b b' s' hk => by
    have hmem := lookE_mem hk
    refine ⟨stamp hmem, fun l hl => ?_⟩
    simp only [m2, revE_of hd4 hmem, hl, Option.map_some]
  have hborB : ∀ b ∈ ([] : List Nat), lookE E2 b = none → ∀ l β, mr b = some l → l.blk = some β → okOf bad w' m2 β := fun b hb => by cases hb
  obtain ⟨leE, hhE⟩ := eraseAll_sound (bad := bad) (lent ++ bor) hh
  refine ⟨x, m2, rfl, trV_sound hhr hokB hκB hborB 12 _ _ _ hrx hr', hle2, ?_⟩
  refine ⟨fun k B hk => ?_, fun k hk => ?_, fun β hβ => Nat.lt_of_lt_of_le (hh.lt β hβ) hle.size, fun k l β h1 h2 h3 => ?_, fun k k' l l' β h1 h2 h3 h4 => ?_⟩
  · rw [Hp.get_append] at hk
    obtain ⟨g1, g2⟩ := moveH_get hB' k
    cases hv : revE E2 k with
    | none =>
      rw [g1 hv] at hk
      simp only [Option.none_or] at hk
      obtain ⟨hk1, hk2⟩ := eraseAll_get _ hk
      obtain ⟨l, h1, h2⟩ := hh.get k B hk1
      have h3 : k ∉ lent := fun h => hk2 (List.mem_append_left _ h)
      refine ⟨l, by simp only [m2, hv, dropM]; rw [if_neg (show ¬ k ∈ lent ++ bor from hk2)]; exact h1, h2.mono hle2 fun β hβ => keep β (hh.blk_lt h1 hβ) fun b l1 h6 h7 h8 => h3 (hh.inj k b l l1 β h1 h6 hβ h7 ▸ h8)⟩
    | some y =>
      obtain ⟨a, s⟩ := y
      obtain ⟨B0, es, g3, g4, g5⟩ := g2 a s hv
      rw [g5] at hk
      simp only [Option.some_or] at hk
      cases hk
      obtain ⟨l, hm, _⟩ := hhr.get a B0 g3
      exact ⟨{ l with s := s }, by simp [m2, hv, hm], move_content hhr hokB hκB hborB g3 g4 (stamp (revE_mem hv)) hm⟩
  · rw [Hp.get_append] at hk
    obtain ⟨g1, g2⟩ := moveH_get hB' k
    cases hv : revE E2 k with
    | none =>
      rw [g1 hv] at hk
      simp only [Option.none_or] at hk
      simp only [m2, hv]
      exact hhE.non k hk
    | some y =>
      obtain ⟨a, s⟩ := y
      obtain ⟨B0, es, g3, g4, g5⟩ := g2 a s hv
      rw [g5] at hk
      simp at hk
  · rcases m2_of k l h1 with ⟨a, l0, s, _, h5, rfl⟩ | ⟨_, _, h5⟩
    · exact hhr.nb a l0 β h5 h2 (.inl h3)
    · exact hh.nb k l β h5 h2 h3
  · rcases m2_of k l h1 with ⟨a, l0, s, e1, f1, rfl⟩ | ⟨n1, n2, f1⟩ <;> rcases m2_of k' l' h2 with ⟨a', l0', s', e2, f2, rfl⟩ | ⟨n1', n2', f2⟩
    · have : a = a' := hhr.inj a a' l0 l0' β f1 f2 h3 h4
      subst this
      have : ∀ (E : List (Nat × Nat × Nat)), (E.map (·.1)).Nodup → (a, k, s) ∈ E → (a, k', s') ∈ E → k = k' := by
        intro E
        induction E with
        | nil => intro _ h; cases h
        | cons x t ih =>
          intro hn h1 h2
          simp only [List.map_cons, List.nodup_cons] at hn
          rcases List.mem_cons.1 h1 with h1 | h1 <;> rcases List.mem_cons.1 h2 with h2 | h2
          · rw [← h1] at h2; cases h2; rfl
          · exact absurd (List.mem_map.2 ⟨_, h2, by rw [← h1]⟩) hn.1
          · exact absurd (List.mem_map.2 ⟨_, h1, by rw [← h2]⟩) hn.1
          · exact ih hn.2 h1 h2
      exact this E2 hd3 e1 e2
    · exfalso
      rcases mr_range a l0 β f1 h3 with h5 | ⟨b, l1, h5, h6, h7⟩
      · have := hh.blk_lt f2 h4; omega
      · exact n1' (hh.inj b k' l1 l' β h6 f2 h7 h4 ▸ h5)
    · exfalso
      rcases mr_range a' l0' β f2 h4 with h5 | ⟨b, l1, h5, h6, h7⟩
      · have := hh.blk_lt f1 h3; omega
      · exact n1 (hh.inj b k l1 l β h6 f1 h7 h3 ▸ h5)
    · exact hh.inj k k' l l' β f1 f2 h3 h4

end
end Go.Mx
