/-
  What a state may be read zs: less, under other names, let go.
-/
import Derived.Test.YtfmgnboplbgniaaDx1
namespace Go.Mx
set_option linter.unusedVariables false
set_option linter.unusedSimpArgs false

/-- v may be read zs v'. -/
def VLe (v v' : V) : Prop := ∀ (w : World) (ok : Nat → Prop) (x : Value), RepP w ok v x → RepP w ok v' x

theorem VLe.refl (v : V) : VLe v v := fun _ _ _ h => h
theorem VLe.undef (v : V) : VLe v .undef := fun _ _ x _ => .undef x
theorem VLe.trans {a b d : V} (h : VLe a b) (k : VLe b d) : VLe a d := fun w ok x hx => k w ok x (h w ok x hx)
theorem VLe.nil_opt : VLe (.ps .nil []) (.ps .opt []) := fun w ok x h => by
  cases h with
  | psNil => exact .psNil (by simp)
  | ps hn => exact absurd rfl hn
theorem VLe.nil_fopt : VLe (.ps .nil []) (.ps .fopt []) := fun w ok x h => by
  cases h with
  | psNil => exact .psNil (by simp)
  | ps hn => exact absurd rfl hn
theorem VLe.any_opt {xs : List V} : VLe (.ps .any xs) (.ps .opt xs) := fun w ok x h => by
  cases h with
  | psNil h => simp at h
  | ps hn a b c d e f g => exact .ps (by simp) a (by simp) c d e f g
theorem VLe.full_fopt {xs : List V} : VLe (.ps .full xs) (.ps .fopt xs) := fun w ok x h => by
  cases h with
  | psNil h => simp at h
  | ps hn a b c d e f g => exact .ps (by simp) a (fun _ => b (.inl rfl)) c d e f g
theorem VLe.fopt_opt {xs : List V} : VLe (.ps .fopt xs) (.ps .opt xs) := fun w ok x h => by
  cases h with
  | psNil h => exact .psNil (by simp)
  | ps hn a b c d e f g => exact .ps (by simp) a (by simp) c d e f g
theorem VLe.full_opt {xs : List V} : VLe (.ps .full xs) (.ps .opt xs) := VLe.full_fopt.trans VLe.fopt_opt
def VLes : List V → List V → Prop
  | [], [] => True
  | a :: r, b :: q => VLe a b ∧ VLes r q
  | _, _ => False
theorem VLes.get : ∀ {l m : List V}, VLes l m → l.length = m.length ∧ ∀ i (h1 : i < l.length) (h2 : i < m.length), VLe l[i] m[i]
  | [], [], _ => ⟨rfl, fun i h => by simp at h⟩
  | a :: r, b :: q, ⟨h, k⟩ => by
    obtain ⟨h1, h2⟩ := k.get
    refine ⟨by simp [h1], fun i a b => ?_⟩
    cases i with
    | zero => exact h
    | succ i => simpa using h2 i (by simpa using a) (by simpa using b)
  | [], _ :: _, h => h.elim
  | _ :: _, [], h => h.elim
theorem VLe.agg {l m : List V} (h : VLes l m) : VLe (.agg l) (.agg m) := fun w ok x hx => by
  obtain ⟨h1, h2⟩ := h.get
  cases hx with
  | agg hl hr => exact .agg (by omega) fun i a b => h2 i (by omega) a w ok _ (hr i (by omega) b)
theorem VLe.tup {l m : List V} (h : VLes l m) : VLe (.tup l) (.tup m) := fun w ok x hx => by
  obtain ⟨h1, h2⟩ := h.get
  cases hx with
  | tup hl hr => exact .tup (by omega) fun i a b => h2 i (by omega) a w ok _ (hr i (by omega) b)

/-- The same of what may hold blocks of the frame: v may be read zs v'. -/
def VLf (v v' : V) : Prop := ∀ (bad : Nat → Prop) (w : World) (m : MM) (c : Nat) (x : Value), Rep bad w m c v x → Rep bad w m c v' x

theorem VLe.f {v v' : V} (h : VLe v v') (hp : pur 6 v = true) : VLf v v' := fun bad w m c x hx => .pure (h w _ x (pur_sound 6 hp hx))
theorem VLf.refl (v : V) : VLf v v := fun _ _ _ _ _ h => h
theorem VLf.undef (v : V) : VLf v .undef := fun _ _ _ _ x _ => .pure (.undef x)
def VLfs : List V → List V → Prop
  | [], [] => True
  | a :: r, b :: q => VLf a b ∧ VLfs r q
  | _, _ => False
theorem VLfs.get : ∀ {l m : List V}, VLfs l m → l.length = m.length ∧ ∀ i (h1 : i < l.length) (h2 : i < m.length), VLf l[i] m[i]
  | [], [], _ => ⟨rfl, fun i h => by simp at h⟩
  | a :: r, b :: q, ⟨h, k⟩ => by
    obtain ⟨h1, h2⟩ := k.get
    refine ⟨by simp [h1], fun i a b => ?_⟩
    cases i with
    | zero => exact h
    | succ i => simpa using h2 i (by simpa using a) (by simpa using b)
  | [], _ :: _, h => h.elim
  | _ :: _, [], h => h.elim
theorem VLf.agg {l m : List V} (h : VLfs l m) : VLf (.agg l) (.agg m) := fun bad w m c x hx => by
  obtain ⟨h1, h2⟩ := h.get
  obtain ⟨cs, rfl, hsz, hr⟩ := rep_agg hx
  exact .agg (by omega) fun i a b => h2 i (by omega) a _ _ _ _ _ (hr i (by omega) b)

section
variable {P : Program} {T : TypeId → Option TI} {bad : Nat → Prop} {E : Ent} {N : Nat}

theorem Weak.refl (s : SA) : Weak bad E N s s := fun a w m hs hl => ⟨m, hs, hl⟩
theorem Weak.trans {s t u : SA} (h : Weak bad E N s t) (k : Weak bad E N t u) : Weak bad E N s u := fun a w m hs hl => by
  obtain ⟨m', h1, h2⟩ := h a w m hs hl
  exact k a w m' h1 h2
theorem Weak.eq {s t : SA} (h : s = t) : Weak bad E N s t := h ▸ Weak.refl s

/-- Slots, one by one, may read zs less. -/
def SLe : List (Nat × V) → List (Nat × V) → Prop
  | _, [] => True
  | A, (k, v') :: r => VLf (lkA A k) v' ∧ SLe A r

theorem SLe.get {A : List (Nat × V)} : ∀ {B : List (Nat × V)}, SLe A B → ∀ k, VLf (lkA A k) (lkA B k)
  | [], _, k => VLf.undef _
  | (j, v') :: r, ⟨h, h'⟩, k => by
    rw [lkA_cons]
    split
    · rename_i e; subst e; exact h
    · exact h'.get k

theorem Weak_le {s : SA} {B : List (Nat × V)} (hk : keysLt N B = true) (h : SLe s.A B) : Weak bad E N s ⟨B, s.h, s.c⟩ :=
  fun a w m hs hl => ⟨m, hs.slots hk fun k x hr => h.get k _ _ _ _ _ hr, hl⟩

/-- One slot may read zs less. -/
theorem Weak_val {s : SA} (k : Nat) {v v' : V} (h : lkA s.A k = v) (hv : VLf v v') (hk : Nat.blt k N = true) (hs : keysLt N s.A = true) : Weak bad E N s ⟨(k, v') :: s.A, s.h, s.c⟩ :=
  fun a w m hs hl => ⟨m, hs.slots (by simp only [keysLt, hk, hs.1, Bool.true_and]) fun j x hr => by
    rw [lkA_cons]
    split
    · rename_i e; subst e; subst h; exact hv _ _ _ _ _ hr
    · exact hr, hl⟩

/-- A nil slice is a row of the frame's own. -/
theorem Weak_own {s : SA} (k b : Nat) (e : TypeId) (wd : Nat) (h : lkA s.A k = .ps .nil []) (hb : s.h.get b = none) (hk : Nat.blt k N = true) (hc : Nat.ble E.c s.c = true) :
    Weak bad E N s ⟨(k, .sl b s.c 0 0 true) :: s.A, (b, ⟨s.c, e, wd, false, true, []⟩) :: s.h, s.c + 1⟩ := by
  intro a w m hs hl
  have hc' : E.c ≤ s.c := Nat.le_of_ble_eq_true hc
  have hmb : m b = none := hs.2.h.non b hb
  have hle : Le w m s.c w (upd m b (some ⟨s.c, e, wd, 0, none⟩)) (s.c + 1) := by
    refine ⟨by omega, fun j l hj hlt => ?_, fun _ _ _ => rfl, Nat.le_refl _, rfl, rfl, rfl, fun j l β hj hβ => ?_⟩
    · unfold upd at hj; split at hj
      · cases hj; exact absurd hlt (Nat.lt_irrefl _)
      · exact hj
    · unfold upd at hj; split at hj
      · cases hj; cases hβ
      · exact .inr ⟨j, l, hj, hβ⟩
  refine ⟨upd m b (some ⟨s.c, e, wd, 0, none⟩), ?_, hl.trans hle⟩
  have hx := hs.2.t.2 k
  simp only [SA.st] at hx
  rw [mkT_getD hs.1, h] at hx
  have hx' : a.tmps.getD k Go.undef = .slice none 0 0 := by
    cases hx with
    | pure hp =>
      generalize a.tmps.getD k Go.undef = y at hp
      cases hp with
      | psNil => rfl
      | ps hn => exact absurd rfl hn
  refine ⟨by simp only [keysLt, hk, hs.1, Bool.true_and], ⟨⟨by simpa [SA.st, mkT_length] using hs.2.t.1, fun i => ?_⟩, ?_, hs.2.d⟩⟩
  · have h1 := hs.2.t.2 i
    simp only [SA.st] at h1 ⊢
    rw [mkT_getD hs.1] at h1
    rw [mkT_getD (by simp only [keysLt, hk, hs.1, Bool.true_and]), lkA_cons]
    split
    · rename_i hki; subst hki
      rw [hx']
      refine .sl (Nat.lt_succ_self _) rfl fun l hl1 hl2 => ?_
      simp only [upd, if_true, Option.some.injEq] at hl1
      subst hl1
      exact .inl ⟨rfl, rfl, rfl, rfl⟩
    · exact h1.mono hle
  · refine ⟨fun j B hj => ?_, fun j hj => ?_, hs.2.h.lt, fun j l β hj hβ => ?_, fun j j' l l' β hj hj' hβ hβ' => ?_⟩
    · simp only [SA.st, Hp.get] at hj
      split at hj
      · rename_i e; subst e; cases hj
        exact ⟨⟨s.c, e, wd, 0, none⟩, by simp only [upd, if_true], rfl, rfl, rfl, Nat.lt_succ_self _, .inl ⟨rfl, rfl, rfl⟩⟩
      · rename_i hne
        obtain ⟨l, h1, h2⟩ := hs.2.h.get j B hj
        exact ⟨l, by simp only [upd, if_neg (Ne.symm hne)]; exact h1, h2.mono hle fun _ _ => rfl⟩
    · simp only [SA.st, Hp.get] at hj
      split at hj
      · cases hj
      · rename_i hne; simp only [upd, if_neg (Ne.symm hne)]; exact hs.2.h.non j hj
    · unfold upd at hj; split at hj
      · cases hj; cases hβ
      · exact hs.2.h.nb j l β hj hβ
    · unfold upd at hj hj'
      split at hj
      · cases hj; cases hβ
      · split at hj'
        · cases hj'; cases hβ'
        · exact hs.2.h.inj j j' l l' β hj hj' hβ hβ'

def trA (h : Hp) (κ : Nat → Option (Nat × Nat)) : List (Nat × V) → Option (List (Nat × V))
  | [] => some []
  | (k, v) :: r => match trV h κ [] 5 v, trA h κ r with
    | some v', some r' => some ((k, v') :: r')
    | _, _ => none

theorem trA_get {h : Hp} {κ : Nat → Option (Nat × Nat)} : ∀ {A A' : List (Nat × V)}, trA h κ A = some A' → ∀ k, trV h κ [] 5 (lkA A k) = some (lkA A' k)
  | [], A', ha, k => by
    simp only [trA, Option.some.injEq] at ha
    subst ha; rfl
  | (j, v) :: r, A', ha, k => by
    simp only [trA] at ha
    split at ha
    · rename_i v' r' h1 h2
      cases ha
      rw [lkA_cons, lkA_cons]
      split
      · exact h1
      · exact trA_get h2 k
    · cases ha

theorem trA_keys {h : Hp} {κ : Nat → Option (Nat × Nat)} : ∀ {A A' : List (Nat × V)}, trA h κ A = some A' → keysLt N A = true → keysLt N A' = true
  | [], A', ha, _ => by
    simp only [trA, Option.some.injEq] at ha
    subst ha; rfl
  | (j, v) :: r, A', ha, hk => by
    simp only [trA] at ha
    split at ha
    · rename_i v' r' h1 h2
      cases ha
      simp only [keysLt, Bool.and_eq_true] at hk ⊢
      exact ⟨hk.1, trA_keys h2 hk.2⟩
    · cases ha

def nodupB : List Nat → Bool
  | [] => true
  | x :: r => !(r.any (Nat.beq x)) && nodupB r

theorem nodupB_ok : ∀ {l : List Nat}, nodupB l = true → l.Nodup
  | [], _ => List.nodup_nil
  | x :: r, h => by
    simp only [nodupB, Bool.and_eq_true, Bool.not_eq_true', List.any_eq_false] at h
    refine List.nodup_cons.2 ⟨fun hm => ?_, nodupB_ok h.2⟩
    exact h.1 x hm (Nat.beq_refl x)

/-- Each entry's stamp is new, or the block is left zs it is. -/
def renOk (h : Hp) (c0 c' : Nat) (L : List (Nat × Nat × Nat)) : Bool :=
  Nat.ble c0 c' && nodupB (L.map (·.1)) && nodupB (L.map fun x => x.2.1) && L.all fun x => Nat.blt x.2.2 c' && (Nat.ble c0 x.2.2 || (Nat.beq x.1 x.2.1 && match h.get x.1 with
    | some B => Nat.beq B.s x.2.2
    | none => false))

/-- Blocks under other names; those without a name are forgotten. -/
theorem Weak_ren {s : SA} (L : List (Nat × Nat × Nat)) (s' : SA) (hA : trA s.h (lookE L) s.A = some s'.A) (hB : moveH s.h (lookE L) [] L = some s'.h) (hc : renOk s.h E.c s'.c L = true) : Weak bad E N s s' := by
  obtain ⟨A', h', c'⟩ := s'
  simp only at hA hB hc
  intro a w m hs hl
  simp only [renOk, Bool.and_eq_true, List.all_eq_true, Bool.or_eq_true] at hc
  obtain ⟨⟨⟨hc0, hd1⟩, hd2⟩, hall⟩ := hc
  replace hc0 : E.c ≤ c' := Nat.le_of_ble_eq_true hc0
  replace hd1 := nodupB_ok hd1
  replace hd2 := nodupB_ok hd2
  have hst : ∀ {x y z}, (x, y, z) ∈ L → z < c' := fun hm => by
    have := (hall _ hm).1
    simpa using this
  have hh := hs.2.h
  simp only [SA.st] at hh
  let m' : MM := moveM m L
  have m'_of : ∀ k l, m' k = some l → ∃ b l0 z, (b, k, z) ∈ L ∧ m b = some l0 ∧ l = { l0 with s := z } := fun k l hk => by
    simp only [m', moveM] at hk
    split at hk
    · rename_i b z hv
      simp only [Option.map_eq_some_iff] at hk
      obtain ⟨l0, h1, rfl⟩ := hk
      exact ⟨b, l0, z, revE_mem hv, h1, rfl⟩
    · cases hk
  have key_inj : ∀ {b k k' z z'}, (b, k, z) ∈ L → (b, k', z') ∈ L → k = k' := fun {b k k' z z'} h1 h2 => by
    have : ∀ (G : List (Nat × Nat × Nat)), (G.map (·.1)).Nodup → (b, k, z) ∈ G → (b, k', z') ∈ G → k = k' := by
      intro G
      induction G with
      | nil => intro _ h; cases h
      | cons x t ih =>
        intro hn h1 h2
        simp only [List.map_cons, List.nodup_cons] at hn
        rcases List.mem_cons.1 h1 with h1 | h1 <;> rcases List.mem_cons.1 h2 with h2 | h2
        · rw [← h1] at h2; cases h2; rfl
        · exact absurd (List.mem_map.2 ⟨_, h2, by rw [← h1]⟩) hn.1
        · exact absurd (List.mem_map.2 ⟨_, h1, by rw [← h2]⟩) hn.1
        · exact ih hn.2 h1 h2
    exact this L hd1 h1 h2
  have hok : ∀ β, okOf bad w m β → okOf bad w m' β := fun β hβ => ⟨hβ.1, hβ.2.1, fun k l h1 h2 => by
    obtain ⟨b, l0, z, _, h3, rfl⟩ := m'_of k l h1
    exact hβ.2.2 b l0 h3 h2⟩
  have hκ : ∀ b b' z, lookE L b = some (b', z) → z < c' ∧ ∀ l, m b = some l → m' b' = some { l with s := z } := fun b b' z hk => by
    have hmem := lookE_mem hk
    refine ⟨hst hmem, fun l hl => ?_⟩
    simp only [m', moveM, revE_of hd2 hmem, hl, Option.map_some]
  have hbor : ∀ b ∈ ([] : List Nat), lookE L b = none → ∀ l β, m b = some l → l.blk = some β → okOf bad w m' β := fun b hb => by cases hb
  have hle : E.le w m' c' := by
    refine ⟨hc0, fun k l h1 h2 => ?_, fun β hβ hno => hl.keep β hβ hno, hl.size, hl.os, hl.output, hl.tape, fun k l β h1 h2 => ?_⟩
    · obtain ⟨b, l0, z, h3, h4, rfl⟩ := m'_of k l h1
      rcases (hall _ h3).2 with h5 | h5
      · have := Nat.le_of_ble_eq_true h5
        simp only at this h2
        omega
      · obtain ⟨h5, h6⟩ := h5
        split at h6
        · rename_i B hB'
          have e1 : b = k := Nat.eq_of_beq_eq_true h5
          have e2 : B.s = z := Nat.eq_of_beq_eq_true h6
          subst e1
          obtain ⟨l1, h7, h8, _⟩ := hh.get b B hB'
          rw [h4] at h7; cases h7
          have e3 : ({ l0 with s := z } : Loc) = l0 := by rw [← e2, ← h8]
          rw [e3] at h2 ⊢
          exact hl.hm b l0 h4 h2
        · cases h6
    · obtain ⟨b, l0, z, h3, h4, rfl⟩ := m'_of k l h1
      exact hl.range b l0 β h4 h2
  refine ⟨m', ⟨trA_keys hA hs.1, ⟨⟨by simpa [SA.st, mkT_length] using hs.2.t.1, fun i => ?_⟩, ?_, hs.2.d⟩⟩, hle⟩
  · have h1 := hs.2.t.2 i
    simp only [SA.st] at h1 ⊢
    rw [mkT_getD hs.1] at h1
    rw [mkT_getD (trA_keys hA hs.1)]
    exact trV_sound hh hok hκ hbor 5 _ _ _ h1 (trA_get hA i)
  · simp only [SA.st]
    refine ⟨fun k B hk => ?_, fun k hk => ?_, hh.lt, fun k l β h1 h2 h3 => ?_, fun k k' l l' β h1 h2 h3 h4 => ?_⟩
    · obtain ⟨g1, g2⟩ := moveH_get hB k
      cases hv : revE L k with
      | none => rw [g1 hv] at hk; cases hk
      | some y =>
        obtain ⟨b, z⟩ := y
        obtain ⟨B0, es, g3, g4, g5⟩ := g2 b z hv
        rw [g5] at hk; cases hk
        obtain ⟨l, hm, _⟩ := hh.get b B0 g3
        exact ⟨{ l with s := z }, by simp [m', moveM, hv, hm], move_content hh hok hκ hbor g3 g4 (hst (revE_mem hv)) hm⟩
    · obtain ⟨g1, g2⟩ := moveH_get hB k
      cases hv : revE L k with
      | none => simp [m', moveM, hv]
      | some y =>
        obtain ⟨b, z⟩ := y
        obtain ⟨B0, es, g3, g4, g5⟩ := g2 b z hv
        rw [g5] at hk; cases hk
    · obtain ⟨b, l0, z, _, h6, rfl⟩ := m'_of k l h1
      exact hh.nb b l0 β h6 h2 h3
    · obtain ⟨b, l0, z, h5, h6, rfl⟩ := m'_of k l h1
      obtain ⟨b', l0', z', h5', h6', rfl⟩ := m'_of k' l' h2
      have : b = b' := hh.inj b b' l0 l0' β h6 h6' h3 h4
      subst this
      exact key_inj h5 h5'

/-- A row that is let go: what leads to it, reads zs a slice that stays. -/
inductive FzV (b s : Nat) (es : List V) : V → V → Prop
  | hit (tip : Bool) : FzV b s es (.sl b s 0 es.length tip) (.ps .opt es)
  | keep (v : V) : FzV b s es v v
  | agg {vs vs' : List V} (h : vs.length = vs'.length) (hv : ∀ i (h1 : i < vs.length) (h2 : i < vs'.length), FzV b s es vs[i] vs'[i]) : FzV b s es (.agg vs) (.agg vs')
  | tup {vs vs' : List V} (h : vs.length = vs'.length) (hv : ∀ i (h1 : i < vs.length) (h2 : i < vs'.length), FzV b s es vs[i] vs'[i]) : FzV b s es (.tup vs) (.tup vs')

def Fzs (b s : Nat) (es : List V) : List V → List V → Prop
  | [], [] => True
  | a :: r, d :: q => FzV b s es a d ∧ Fzs b s es r q
  | _, _ => False

theorem Fzs.get {b s : Nat} {es : List V} : ∀ {l m : List V}, Fzs b s es l m → l.length = m.length ∧ ∀ i (h1 : i < l.length) (h2 : i < m.length), FzV b s es l[i] m[i]
  | [], [], _ => ⟨rfl, fun i h => by simp at h⟩
  | a :: r, d :: q, ⟨h, k⟩ => by
    obtain ⟨h1, h2⟩ := k.get
    refine ⟨by simp [h1], fun i a b => ?_⟩
    cases i with
    | zero => exact h
    | succ i => simpa using h2 i (by simpa using a) (by simpa using b)
  | [], _ :: _, h => h.elim
  | _ :: _, [], h => h.elim

theorem FzV.aggs {b s : Nat} {es l m : List V} (h : Fzs b s es l m) : FzV b s es (.agg l) (.agg m) := .agg h.get.1 h.get.2
theorem FzV.tups {b s : Nat} {es l m : List V} (h : Fzs b s es l m) : FzV b s es (.tup l) (.tup m) := .tup h.get.1 h.get.2

def FzA (b s : Nat) (es : List V) : List (Nat × V) → List (Nat × V) → Prop
  | [], [] => True
  | (k, v) :: r, (k', v') :: r' => k = k' ∧ FzV b s es v v' ∧ FzA b s es r r'
  | _, _ => False

theorem FzA.get {b s : Nat} {es : List V} : ∀ {A A' : List (Nat × V)}, FzA b s es A A' → ∀ k, FzV b s es (lkA A k) (lkA A' k)
  | [], [], _, k => .keep _
  | (j, v) :: r, (j', v') :: r', ⟨h1, h2, h3⟩, k => by
    subst h1
    rw [lkA_cons, lkA_cons]
    split
    · exact h2
    · exact h3.get k
  | [], _ :: _, h, _ => h.elim
  | _ :: _, [], h, _ => h.elim

theorem FzA.keys {b s : Nat} {es : List V} : ∀ {A A' : List (Nat × V)}, FzA b s es A A' → keysLt N A = true → keysLt N A' = true
  | [], [], _, _ => rfl
  | (j, v) :: r, (j', v') :: r', ⟨h1, h2, h3⟩, hk => by
    subst h1
    simp only [keysLt, Bool.and_eq_true] at hk ⊢
    exact ⟨hk.1, h3.keys hk.2⟩
  | [], _ :: _, h, _ => h.elim
  | _ :: _, [], h, _ => h.elim

theorem FzV.sound {w : World} {m : MM} {c : Nat} {h : Hp} (hh : HeapRep bad h w m c) {b s : Nat} {B : Blk} (hg : h.get b = some B) (hs : B.s = s) (hv : B.var = false) {v v' : V} (hf : FzV b s B.es v v') :
    ∀ {x : Value}, Rep bad w m c v x → Rep bad w (upd m b none) c v' x := by
  induction hf with
  | hit tip =>
    intro x hx
    obtain ⟨l, hm, hls, _, _, _, hd⟩ := hh.get b B hg
    rcases hd with ⟨_, hblk, hes⟩ | ⟨_, β1, cs1, hblk, _⟩
    · cases hx with
      | pure hp => cases hp
      | sl _ _ hb =>
        rcases hb l hm (hls.trans hs) with ⟨_, _, h3, rfl⟩ | ⟨β, _, h1, _⟩
        · rw [hes]; exact .pure (.psNil (by simp))
        · rw [hblk] at h1; cases h1
    · have := frz_rowX hh hg hs hv (fun l1 hl1 _ => by rw [hm] at hl1; cases hl1; rw [hblk]; simp) (by omega) hx
      simp only [List.drop_zero, List.take_length] at this
      exact .pure (VLe.any_opt _ _ _ this)
  | keep v => intro x hx; exact hx.mono (hh.erase b).1
  | agg hl hvs ih =>
    intro x hx
    obtain ⟨cs, rfl, hsz, hr⟩ := rep_agg hx
    exact .agg (by omega) fun i a b => ih i (by omega) a (hr i (by omega) b)
  | tup hl hvs ih =>
    intro x hx
    cases hx with
    | pure hp => cases hp with
      | tup hl' hr => exact .tup (by omega) fun i a b => ih i (by omega) a (.pure (hr i (by omega) b))
    | tup hl' hr => exact .tup (by omega) fun i a b => ih i (by omega) a (hr i (by omega) b)

theorem FzV.cells {b s : Nat} {es : List V} {v v' : V} (h : FzV b s es v v') : v.cells.length = v'.cells.length ∧ ∀ j (h1 : j < v.cells.length) (h2 : j < v'.cells.length), FzV b s es v.cells[j] v'.cells[j] := by
  cases h with
  | hit tip => exact ⟨rfl, fun j h1 h2 => by
      have : j = 0 := by simpa [V.cells] using h1
      subst this; exact .hit tip⟩
  | keep v => exact ⟨rfl, fun j h1 h2 => .keep _⟩
  | agg hl hv => exact ⟨hl, hv⟩
  | tup hl hv => exact ⟨rfl, fun j h1 h2 => by
      have : j = 0 := by simpa [V.cells] using h1
      subst this; exact .tup hl hv⟩

/-- The other blocks, read so. -/
def FzH (b s : Nat) (es : List V) : Hp → Hp → Prop
  | [], [] => True
  | (k, B) :: r, (k', B') :: r' => k = k' ∧ (B = B' ∨ (B.var = true ∧ B' = { B with es := B'.es } ∧ Fzs b s es B.es B'.es)) ∧ FzH b s es r r'
  | _, _ => False

theorem FzH.get {b s : Nat} {es : List V} : ∀ {h h' : Hp}, FzH b s es h h' → ∀ k, (h.get k = none ∧ h'.get k = none) ∨ ∃ B B', h.get k = some B ∧ h'.get k = some B' ∧ (B = B' ∨ (B.var = true ∧ B' = { B with es := B'.es } ∧ Fzs b s es B.es B'.es))
  | [], [], _, k => .inl ⟨rfl, rfl⟩
  | (j, B) :: r, (j', B') :: r', ⟨h1, h2, h3⟩, k => by
    subst h1
    simp only [Hp.get]
    by_cases e : j = k
    · simp only [e, if_true]; exact .inr ⟨B, B', rfl, rfl, h2⟩
    · simp only [if_neg e]; exact h3.get k
  | [], _ :: _, h, _ => h.elim
  | _ :: _, [], h, _ => h.elim

theorem Weak_frz {s : SA} (b st : Nat) (B : Blk) (hg : s.h.get b = some B) (hs : B.s = st) (hv : B.var = false) (A' : List (Nat × V)) (h' : Hp) (hA : FzA b st B.es s.A A') (hH : FzH b st B.es (s.h.erase b) h') : Weak bad E N s ⟨A', h', s.c⟩ := by
  intro a w m hsr hl
  have hh := hsr.2.h
  simp only [SA.st] at hh
  obtain ⟨h1, h2⟩ := hh.erase b
  refine ⟨upd m b none, ⟨hA.keys hsr.1, ⟨⟨by simpa [SA.st, mkT_length] using hsr.2.t.1, fun i => ?_⟩, ?_, hsr.2.d⟩⟩, hl.trans h1⟩
  · have h3 := hsr.2.t.2 i
    simp only [SA.st] at h3 ⊢
    rw [mkT_getD hsr.1] at h3
    rw [mkT_getD (hA.keys hsr.1)]
    exact FzV.sound hh hg hs hv (hA.get i) h3
  · simp only [SA.st]
    refine ⟨fun k B1 hk => ?_, fun k hk => ?_, h2.lt, h2.nb, h2.inj⟩
    · rcases hH.get k with ⟨_, e2⟩ | ⟨B0, B0', e1, e2, e3⟩
      · rw [e2] at hk; cases hk
      · rw [e2] at hk; cases hk
        rcases e3 with rfl | ⟨e4, e5, e6⟩
        · exact h2.get k B0 e1
        · have hne : b ≠ k := by
            intro e; subst e
            rw [Hp.get_erase, if_pos rfl] at e1; cases e1
          rw [Hp.get_erase, if_neg hne] at e1
          obtain ⟨l, p1, p2, p3, p4, p5, p6⟩ := hh.get k B0 e1
          obtain ⟨q1, q2⟩ := e6.get
          refine ⟨l, by simp [upd, Ne.symm hne, p1], ?_⟩
          rw [e5]
          refine ⟨p2, p3, p4, p5, ?_⟩
          rcases p6 with ⟨r1, r2, r3⟩ | ⟨r1, β, cs, r2, r3, r4, r5, r6, r7⟩
          · exact .inl ⟨r1, r2, by rw [r3] at q1; exact List.length_eq_zero_iff.1 q1.symm⟩
          · refine .inr ⟨trivial, β, cs, r2, r3, r4, by simp only; rw [← q1]; exact r5, fun i hi => ?_, fun i hi j hj => ?_⟩
            · simp only at hi
              rw [← (q2 i (by omega) hi).cells.1]; exact r6 i (by omega)
            · simp only at hi hj
              obtain ⟨c1, c2⟩ := (q2 i (by omega) hi).cells
              obtain ⟨x, hx, hr⟩ := r7 i (by omega) j (by rw [c1]; exact hj)
              refine ⟨x, hx, ?_⟩
              simp only [e4, RepC, if_true] at hr ⊢
              exact FzV.sound hh hg hs hv (c2 j (by rw [c1]; exact hj) hj) hr
    · rcases hH.get k with ⟨e1, _⟩ | ⟨B0, B0', e1, e2, e3⟩
      · exact h2.non k e1
      · rw [e2] at hk; cases hk

end
end Go.Mx
