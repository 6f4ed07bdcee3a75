/-
  The abstract machine's operations are sound: new blocks, blocks let go, stores.
-/
import Derived.Test.YtpcngdlglejgeaaGreatDoorNy4
import Derived.Laws.MakeOwn
namespace Go.Mx
set_option linter.unusedVariables false
set_option linter.unusedSimpArgs false

def upd (m : MM) (b : Nat) (l : Option Loc) : MM := fun k => if k = b then l else m k

section
variable {P : Program} {T : TypeId → Option TI} {w : World} {m : MM} {c : Nat} {bad : Nat → Prop}

theorem HeapRep.get_of {h : Hp} (hh : HeapRep bad h w m c) {b : Nat} {l : Loc} (hm : m b = some l) : ∃ B, h.get b = some B ∧ HoldsB bad w m c l B := by
  cases hg : h.get b with
  | none => rw [hh.non b hg] at hm; cases hm
  | some B =>
    obtain ⟨l', h1, h2⟩ := hh.get b B hg
    rw [hm] at h1; cases h1
    exact ⟨B, rfl, h2⟩

theorem HeapRep.blk_lt {h : Hp} (hh : HeapRep bad h w m c) {b : Nat} {l : Loc} {β : Nat} (hm : m b = some l) (hb : l.blk = some β) : β < w.heap.size := by
  obtain ⟨B, _, _, _, _, _, h⟩ := hh.get_of hm
  rcases h with ⟨_, h, _⟩ | ⟨_, _, _, β', ents, clk, h1, h2, _⟩ | ⟨_, β', cs, h1, h2, _⟩
  · rw [hb] at h; cases h
  · rw [hb] at h1; cases h1
    exact (Array.getElem?_eq_some_iff.1 h2).1
  · rw [hb] at h1; cases h1
    exact (Array.getElem?_eq_some_iff.1 h2).1

theorem HeapRep.s_lt {h : Hp} (hh : HeapRep bad h w m c) {b : Nat} {l : Loc} (hm : m b = some l) : l.s < c := by
  obtain ⟨B, _, h1, _, _, h2, _⟩ := hh.get_of hm
  omega

/-- What a block holds, in a later world in which it is zs it was. -/
theorem HoldsM.mono {w' : World} {m' : MM} {c' : Nat} {l : Loc} {B : Blk} (hle : Le w m c w' m' c') (h : HoldsM bad w m c l B) (hk : ∀ β, l.blk = some β → w'.heap[β]? = w.heap[β]?) : HoldsM bad w' m' c' l B := by
  obtain ⟨h1, h2, h3, β, ents, clk, h4, h5, h6, h7⟩ := h
  refine ⟨h1, h2, h3, β, ents, clk, h4, by rw [hk β h4]; exact h5, h6, fun i hi hi2 => ?_⟩
  obtain ⟨k, v, e1, e2, e3⟩ := h7 i hi hi2
  exact ⟨k, v, e1, e2, e3.mono hle⟩

theorem HoldsB.mono {w' : World} {m' : MM} {c' : Nat} {l : Loc} {B : Blk} (hle : Le w m c w' m' c') (h : HoldsB bad w m c l B) (hk : ∀ β, l.blk = some β → w'.heap[β]? = w.heap[β]?) : HoldsB bad w' m' c' l B := by
  obtain ⟨h1, h2, h3, h4, h5⟩ := h
  refine ⟨h1, h2, h3, Nat.lt_of_lt_of_le h4 hle.hc, ?_⟩
  rcases h5 with h5 | h5 | ⟨h5, β, cs, h6, h7, h8, h9, h10, h11⟩
  · exact .inl h5
  · exact .inr (.inl (h5.mono hle hk))
  · refine .inr <| .inr ⟨h5, β, cs, h6, by rw [hk β h6]; exact h7, h8, h9, h10, fun i hi j hj => ?_⟩
    obtain ⟨x, hx, hr⟩ := h11 i hi j hj
    exact ⟨x, hx, hr.mono hle⟩

/-- The world went on, of the frame's blocks none was touched. -/
theorem HeapRep.world {h : Hp} (hh : HeapRep bad h w m c) {w' : World} (hk : ∀ β, β < w.heap.size → w'.heap[β]? = w.heap[β]?) (hs : w.heap.size ≤ w'.heap.size) (ho : w'.os = w.os) (hp : w'.output = w.output) (ht : w'.tape = w.tape) :
    Le w m c w' m c ∧ HeapRep bad h w' m c := by
  have hle : Le w m c w' m c := ⟨Nat.le_refl _, fun _ _ h _ => h, fun β hβ _ => hk β hβ, hs, ho, hp, ht, fun b l β h h' => .inr ⟨b, l, h, h'⟩⟩
  refine ⟨hle, ?_, hh.non, fun β hβ => Nat.lt_of_lt_of_le (hh.lt β hβ) hs, hh.nb, hh.inj⟩
  intro b B hg
  obtain ⟨l, h1, h2⟩ := hh.get b B hg
  exact ⟨l, h1, h2.mono hle fun β hβ => hk β (hh.blk_lt h1 hβ)⟩

theorem HeapRep.drew {h : Hp} (hh : HeapRep bad h w m c) : Le w m c w.drew m c ∧ HeapRep bad h w.drew m c :=
  hh.world (fun _ _ => rfl) (Nat.le_refl _) rfl rfl rfl

/-- A block is let go: from now on it stays zs it is. -/
theorem HeapRep.erase {h : Hp} (hh : HeapRep bad h w m c) (b : Nat) : Le w m c w (upd m b none) c ∧ HeapRep bad (h.erase b) w (upd m b none) c := by
  have sub : ∀ k l, upd m b none k = some l → m k = some l ∧ k ≠ b := fun k l hk => by
    unfold upd at hk; split at hk
    · cases hk
    · exact ⟨hk, by assumption⟩
  have hle : Le w m c w (upd m b none) c := ⟨Nat.le_refl _, fun k l h _ => (sub k l h).1, fun _ _ _ => rfl, Nat.le_refl _, rfl, rfl, rfl, fun k l β h h' => .inr ⟨k, l, (sub k l h).1, h'⟩⟩
  refine ⟨hle, ?_, ?_, hh.lt, fun k l β h => hh.nb k l β (sub k l h).1, fun k k' l l' β h h' => hh.inj k k' l l' β (sub k l h).1 (sub k' l' h').1⟩
  · intro k B hg
    rw [Hp.get_erase] at hg
    split at hg
    · cases hg
    · rename_i hne
      obtain ⟨l, h1, h2⟩ := hh.get k B hg
      exact ⟨l, by simp [upd, Ne.symm hne, h1], h2.mono hle fun _ _ => rfl⟩
  · intro k hg
    rw [Hp.get_erase] at hg
    unfold upd
    split at hg
    · rename_i e; simp [e]
    · rename_i hne
      rw [if_neg (Ne.symm hne)]; exact hh.non k hg

/-- A new block of the frame's own. -/
theorem HeapRep.new {h : Hp} (hh : HeapRep bad h w m c) (d : Nat) {w' : World} (hk : ∀ β, β < w.heap.size → w'.heap[β]? = w.heap[β]?) (ho : w'.os = w.os) (hp : w'.output = w.output) (ht : w'.tape = w.tape)
    {β0 : Nat} (h0 : w.heap.size ≤ β0) {e : TypeId} {wd : Nat} {var : Bool} {es : List V} {cs : Array Value} (hc : w'.heap[β0]? = some (.cells cs e (0, 0))) (hl : es.length * wd ≤ cs.size)
    (hw : ∀ i (h : i < es.length), es[i].cells.length = wd) (hr : ∀ i (h : i < es.length) j (h2 : j < es[i].cells.length), ∃ x, cs[i * wd + j]? = some x ∧ RepC bad var w m c es[i].cells[j] x) :
    Le w m c w' (upd m d (some ⟨c, e, wd, cs.size, some β0⟩)) (c + 1) ∧ HeapRep bad (h.set d ⟨c, e, wd, var, false, es⟩) w' (upd m d (some ⟨c, e, wd, cs.size, some β0⟩)) (c + 1) := by
  have hs : w.heap.size ≤ w'.heap.size := by
    have := (Array.getElem?_eq_some_iff.1 hc).1
    omega
  have split' : ∀ k l, upd m d (some ⟨c, e, wd, cs.size, some β0⟩) k = some l → (k = d ∧ l = ⟨c, e, wd, cs.size, some β0⟩) ∨ (k ≠ d ∧ m k = some l) := fun k l hk => by
    unfold upd at hk; split at hk
    · exact .inl ⟨by assumption, by cases hk; rfl⟩
    · exact .inr ⟨by assumption, hk⟩
  have hle : Le w m c w' (upd m d (some ⟨c, e, wd, cs.size, some β0⟩)) (c + 1) := by
    refine ⟨by omega, fun k l h hlt => ?_, fun β hβ _ => hk β hβ, hs, ho, hp, ht, fun k l β h h' => ?_⟩
    · rcases split' k l h with ⟨_, rfl⟩ | ⟨_, h⟩
      · simp at hlt
      · exact h
    · rcases split' k l h with ⟨_, rfl⟩ | ⟨_, h⟩
      · cases h'; exact .inl h0
      · exact .inr ⟨k, l, h, h'⟩
  refine ⟨hle, ?_, ?_, fun β hβ => Nat.lt_of_lt_of_le (hh.lt β hβ) hs, fun k l β h h' => ?_, fun k k' l l' β h h' g g' => ?_⟩
  · intro k B hg
    rw [Hp.get_set] at hg
    split at hg
    · rename_i e'; subst e'; cases hg
      refine ⟨⟨c, e, wd, cs.size, some β0⟩, by simp [upd], rfl, rfl, rfl, by simp, .inr <| .inr ⟨fun h => by simp at h, β0, cs, rfl, hc, rfl, hl, hw, fun i hi j hj => ?_⟩⟩
      obtain ⟨x, hx, hr'⟩ := hr i hi j hj
      exact ⟨x, hx, hr'.mono hle⟩
    · rename_i hne
      obtain ⟨l, h1, h2⟩ := hh.get k B hg
      exact ⟨l, by simp [upd, Ne.symm hne, h1], h2.mono hle fun β hβ => hk β (hh.blk_lt h1 hβ)⟩
  · intro k hg
    rw [Hp.get_set] at hg
    split at hg
    · cases hg
    · rename_i hne
      unfold upd; rw [if_neg (Ne.symm hne)]; exact hh.non k hg
  · rcases split' k l h with ⟨_, rfl⟩ | ⟨_, h⟩
    · cases h'; intro hb; have := hh.lt _ hb; omega
    · exact hh.nb k l β h h'
  · rcases split' k l h with ⟨e1, rfl⟩ | ⟨_, h⟩ <;> rcases split' k' l' h' with ⟨e2, rfl⟩ | ⟨_, h'⟩
    · rw [e1, e2]
    · cases g; have := hh.blk_lt h' g'; omega
    · cases g'; have := hh.blk_lt h g; omega
    · exact hh.inj k k' l l' β h h' g g'

/-- A block of the frame's own is written. -/
theorem HeapRep.write {h : Hp} (hh : HeapRep bad h w m c) {b : Nat} {B : Blk} (hg : h.get b = some B) {l : Loc} {β : Nat} (hm : m b = some l) (hβ : l.blk = some β) {cs cs' : Array Value}
    (hcs : w.heap[β]? = some (.cells cs B.T (0, 0))) (hsz : cs'.size = cs.size) {es : List V} (hl : es.length = B.es.length) (hw : ∀ i (h : i < es.length), es[i].cells.length = B.w)
    (hr : ∀ i (h : i < es.length) j (h2 : j < es[i].cells.length), ∃ x, cs'[i * B.w + j]? = some x ∧ RepC bad B.var w m c es[i].cells[j] x) :
    Le w m c (w.setRow β cs') m c ∧ HeapRep bad (h.set b { B with es := es }) (w.setRow β cs') m c := by
  have hle : Le w m c (w.setRow β cs') m c := ⟨Nat.le_refl _, fun _ _ h _ => h, fun γ hγ hno => setRow_other w β γ cs' (fun e => hno b l hm (e ▸ hβ)), by simp, rfl, rfl, rfl, fun k l β h h' => .inr ⟨k, l, h, h'⟩⟩
  refine ⟨hle, ?_, ?_, fun γ hγ => by simpa using hh.lt γ hγ, hh.nb, hh.inj⟩
  · intro k B' hk
    rw [Hp.get_set] at hk
    split at hk
    · rename_i e; subst e; cases hk
      obtain ⟨l', h1, h2, h3, h4, h5, h6⟩ := hh.get b B hg
      rw [hm] at h1; cases h1
      refine ⟨l, hm, h2, h3, h4, h5, ?_⟩
      rcases h6 with ⟨_, h6, _⟩ | ⟨_, _, _, β', ents, clk, h7, h8, _⟩ | ⟨h6, β', cs0, h7, h8, h9, h10, h11, h12⟩
      · rw [hβ] at h6; cases h6
      · rw [hβ] at h7; cases h7
        rw [hcs] at h8; cases h8
      · rw [hβ] at h7; cases h7
        rw [hcs] at h8; cases h8
        refine .inr <| .inr ⟨h6, β, cs', hβ, setRow_heap w β cs cs' _ _ hcs, by omega, by simp only [hl]; exact h10, hw, fun i hi j hj => ?_⟩
        obtain ⟨x, hx, hr'⟩ := hr i hi j hj
        exact ⟨x, hx, hr'.mono hle⟩
    · rename_i hne
      obtain ⟨l', h1, h2⟩ := hh.get k B' hk
      exact ⟨l', h1, h2.mono hle fun γ hγ => setRow_other w β γ cs' (fun e => hne (hh.inj b k l l' β hm h1 hβ (e ▸ hγ)))⟩
  · intro k hk
    rw [Hp.get_set] at hk
    split at hk
    · cases hk
    · exact hh.non k hk

/-- A map of the frame's own is written. -/
theorem HeapRep.writeM {h : Hp} (hh : HeapRep bad h w m c) {b : Nat} {B : Blk} (hg : h.get b = some B) {l : Loc} {β : Nat} (hm : m b = some l) (hβ : l.blk = some β) {ents ents' : Array MapEntry} {clk clk' : Nat}
    (hcs : w.heap[β]? = some (.map ents clk)) (h1 : B.nl = true) (h2 : B.w = 0) (h3 : B.var = true) {es : List V} (hl : es.length = ents'.size)
    (hr : ∀ i (h : i < es.length) (h2 : i < ents'.size), ∃ k v, es[i] = .tup [.p (.int .i64 k), v] ∧ ents'[i].key = .int .i64 k ∧ Rep bad w m c v ents'[i].val) :
    Le w m c { w with heap := w.heap.setIfInBounds β (.map ents' clk') } m c ∧ HeapRep bad (h.set b { B with es := es }) { w with heap := w.heap.setIfInBounds β (.map ents' clk') } m c := by
  obtain ⟨hset, hother⟩ := MapKept.heap_set (o' := Obj.map ents' clk') hcs
  have hle : Le w m c { w with heap := w.heap.setIfInBounds β (.map ents' clk') } m c := ⟨Nat.le_refl _, fun _ _ h _ => h, fun γ hγ hno => hother γ (fun e => hno b l hm (e ▸ hβ)), by simp, rfl, rfl, rfl, fun k l β h h' => .inr ⟨k, l, h, h'⟩⟩
  refine ⟨hle, ?_, ?_, fun γ hγ => by simpa using hh.lt γ hγ, hh.nb, hh.inj⟩
  · intro k B' hk
    rw [Hp.get_set] at hk
    split at hk
    · rename_i e; subst e; cases hk
      obtain ⟨l', a1, a2, a3, a4, a5, a6⟩ := hh.get b B hg
      rw [hm] at a1; cases a1
      refine ⟨l, hm, a2, a3, a4, a5, .inr (.inl ⟨h1, h2, h3, β, ents', clk', hβ, hset, hl, fun i hi hi2 => ?_⟩)⟩
      obtain ⟨q, v, e1, e2, e3⟩ := hr i hi hi2
      exact ⟨q, v, e1, e2, e3.mono hle⟩
    · rename_i hne
      obtain ⟨l', a1, a2⟩ := hh.get k B' hk
      exact ⟨l', a1, a2.mono hle fun γ hγ => hother γ (fun e => hne (hh.inj b k l l' β hm a1 hβ (e ▸ hγ)))⟩
  · intro k hk
    rw [Hp.get_set] at hk
    split at hk
    · cases hk
    · exact hh.non k hk

/-- A map of the frame's own is made. -/
theorem HeapRep.newM {h : Hp} (hh : HeapRep bad h w m c) (d : Nat) (t : TypeId) :
    Le w m c (w.alloc (.map #[] 0)) (upd m d (some ⟨c, t, 0, 0, some w.heap.size⟩)) (c + 1) ∧ HeapRep bad (h.set d ⟨c, t, 0, true, true, []⟩) (w.alloc (.map #[] 0)) (upd m d (some ⟨c, t, 0, 0, some w.heap.size⟩)) (c + 1) := by
  have hk : ∀ β, β < w.heap.size → (w.alloc (.map #[] 0)).heap[β]? = w.heap[β]? := (MapKept.heap_alloc w _).2
  have hnew := (MapKept.heap_alloc w (.map #[] 0)).1
  have hs : w.heap.size ≤ (w.alloc (.map #[] 0)).heap.size := by simp
  have split' : ∀ k l, upd m d (some ⟨c, t, 0, 0, some w.heap.size⟩) k = some l → (k = d ∧ l = ⟨c, t, 0, 0, some w.heap.size⟩) ∨ (k ≠ d ∧ m k = some l) := fun k l hk => by
    unfold upd at hk; split at hk
    · exact .inl ⟨by assumption, by cases hk; rfl⟩
    · exact .inr ⟨by assumption, hk⟩
  have hle : Le w m c (w.alloc (.map #[] 0)) (upd m d (some ⟨c, t, 0, 0, some w.heap.size⟩)) (c + 1) := by
    refine ⟨by omega, fun k l h hlt => ?_, fun β hβ _ => hk β hβ, hs, rfl, rfl, rfl, fun k l β h h' => ?_⟩
    · rcases split' k l h with ⟨_, rfl⟩ | ⟨_, h⟩
      · simp at hlt
      · exact h
    · rcases split' k l h with ⟨_, rfl⟩ | ⟨_, h⟩
      · cases h'; exact .inl (Nat.le_refl _)
      · exact .inr ⟨k, l, h, h'⟩
  refine ⟨hle, ?_, ?_, fun β hβ => Nat.lt_of_lt_of_le (hh.lt β hβ) hs, fun k l β h h' => ?_, fun k k' l l' β h h' g g' => ?_⟩
  · intro k B hg
    rw [Hp.get_set] at hg
    split at hg
    · rename_i e'; subst e'; cases hg
      exact ⟨⟨c, t, 0, 0, some w.heap.size⟩, by simp [upd], rfl, rfl, rfl, by simp, .inr <| .inl ⟨rfl, rfl, rfl, w.heap.size, #[], 0, rfl, hnew, rfl, fun i hi => by simp at hi⟩⟩
    · rename_i hne
      obtain ⟨l, h1, h2⟩ := hh.get k B hg
      exact ⟨l, by simp [upd, Ne.symm hne, h1], h2.mono hle fun β hβ => hk β (hh.blk_lt h1 hβ)⟩
  · intro k hg
    rw [Hp.get_set] at hg
    split at hg
    · cases hg
    · rename_i hne
      unfold upd; rw [if_neg (Ne.symm hne)]; exact hh.non k hg
  · rcases split' k l h with ⟨_, rfl⟩ | ⟨_, h⟩
    · cases h'; intro hb; have := hh.lt _ hb; omega
    · exact hh.nb k l β h h'
  · rcases split' k l h with ⟨e1, rfl⟩ | ⟨_, h⟩ <;> rcases split' k' l' h' with ⟨e2, rfl⟩ | ⟨_, h'⟩
    · rw [e1, e2]
    · cases g; have := hh.blk_lt h' g'; omega
    · cases g'; have := hh.blk_lt h g; omega
    · exact hh.inj k k' l l' β h h' g g'

theorem ofC_cells_rep (ok : Nat → Prop) (z : Value) : z.cells.size = (ofC z).cells.length ∧ ∀ j (h1 : j < (ofC z).cells.length) (h2 : j < z.cells.size), RepP w ok (ofC z).cells[j] z.cells[j] := by
  unfold ofC
  split
  · exact ⟨rfl, fun j h1 h2 => by
      have : j = 0 := by simpa [V.cells] using h1
      subst this; exact .psNil (by simp)⟩
  · exact ⟨by simp [V.cells, Value.cells], fun j h1 h2 => by simpa [V.cells, Value.cells] using repC0 ok _⟩
  · rename_i h1 h2
    have hz : z.cells = #[z] := by
      cases z <;> first | rfl | exact absurd rfl (h2 _)
    exact ⟨by rw [hz]; rfl, fun j a b => by
      have : j = 0 := by simpa [V.cells] using a
      subst this
      have : z.cells[0] = z := by simp [hz]
      rw [this]; exact .p _⟩

theorem RepC.of_p {var : Bool} {v : V} {x : Value} (h : RepP w (okOf bad w m) v x) : RepC bad var w m c v x := by
  cases var
  · exact h
  · exact .pure h

theorem alloc_old (w : World) (o : Obj) (β : Nat) (h : β < w.heap.size) : (w.alloc o).heap[β]? = w.heap[β]? := by
  show (w.heap.push o)[β]? = _
  rw [Array.getElem?_push, if_neg (by omega)]

theorem evAlloc_sound (hT : TabOk P T) {h : Hp} (hh : HeapRep bad h w m c) {e : TypeId} {i : TI} (hTe : T e = some i) (d : Nat) :
    ∃ y w' m', (Instr.alloc e true (.tuple #[])).run P w = .ok y w' ∧ Rep bad w' m' (c + 1) (.box d c 0 0) y ∧ Le w m c w' m' (c + 1) ∧ HeapRep bad (h.set d ⟨c, e, i.size, true, false, [i.zero]⟩) w' m' (c + 1) := by
  obtain ⟨info, z, hi, hsz, _, hu, hz, hzv, hzs, _⟩ := hT e i hTe
  obtain ⟨hcl, hcr⟩ := ofC_cells_rep (w := w) (okOf bad w m) z
  rw [← hzv] at hcl hcr
  have hnew := hh.new d (w' := w.alloc (.cells z.cells e)) (fun β hβ => alloc_old w _ β hβ) rfl rfl rfl (β0 := w.heap.size) (Nat.le_refl _) (e := e) (wd := i.size) (var := true) (es := [i.zero]) (cs := z.cells)
    (by simpa using heap_alloc_new w (.cells z.cells e)) (by simp; omega) (fun k hk => by
      have : k = 0 := by simpa using hk
      subst this; simp; omega) (fun k hk j hj => by
      have : k = 0 := by simpa using hk
      subst this
      simp at hj
      refine ⟨z.cells[j]'(by omega), by simp [show j < z.cells.size by omega], RepC.of_p ?_⟩
      simpa using hcr j hj (by omega))
  refine ⟨.pointer (some ⟨w.heap.size, 0, none⟩), _, _, by simp [Instr.alloc, zeroValue, typeInfo, hi, hz, newVar, newRow], ?_, hnew.1, hnew.2⟩
  exact mk_box (c := c + 1) (l := ⟨c, e, i.size, z.cells.size, some w.heap.size⟩) (β := w.heap.size) (by simp) (by simp [upd]) rfl rfl (by simp)

theorem evBox_sound {h : Hp} (hh : HeapRep bad h w m c) {e : TypeId} {v : V} {x : Value} (hr : Rep bad w m c v x) (h1 : v.cells.all V.one = true) (d : Nat) :
    ∃ y w' m', (Instr.box e x).run P w = .ok y w' ∧ Rep bad w' m' (c + 1) (.box d c 0 0) y ∧ Le w m c w' m' (c + 1) ∧ HeapRep bad (h.set d ⟨c, e, v.cells.length, true, false, [v]⟩) w' m' (c + 1) := by
  obtain ⟨hcl, hcr⟩ := hr.cells h1
  have hnew := hh.new d (w' := w.alloc (.cells x.cells e)) (fun β hβ => alloc_old w _ β hβ) rfl rfl rfl (β0 := w.heap.size) (Nat.le_refl _) (e := e) (wd := v.cells.length) (var := true) (es := [v]) (cs := x.cells)
    (by simpa using heap_alloc_new w (.cells x.cells e)) (by simp; omega) (fun k hk => by
      have : k = 0 := by simpa using hk
      subst this; simp) (fun k hk j hj => by
      have : k = 0 := by simpa using hk
      subst this
      simp at hj
      exact ⟨x.cells[j]'(by omega), by simp [show j < x.cells.size by omega], by simpa [RepC] using hcr j hj (by omega)⟩)
  refine ⟨.pointer (some ⟨w.heap.size, 0, none⟩), _, _, by simp [Instr.box, newVar, newRow], ?_, hnew.1, hnew.2⟩
  exact mk_box (c := c + 1) (l := ⟨c, e, v.cells.length, x.cells.size, some w.heap.size⟩) (β := w.heap.size) (by simp) (by simp [upd]) rfl rfl (by simp)

/-- What a slice's elements are in memory. -/
structure RepS (w : World) (ok : Nat → Prop) (xs : List V) (β o k : Nat) (val : Nat → Nat → Value) : Prop where
  hβ : ok β
  hw : ∀ i (h : i < xs.length), xs[i].cells.length = k
  hc : ∀ i j, i < xs.length → j < k → w.cell? ⟨β, o + i * k + j, none⟩ = some (val i j)
  hr : ∀ i (h : i < xs.length) j (h2 : j < xs[i].cells.length), RepP w ok (xs[i].cells[j]) (val i j)

theorem sub_list {xs : List V} {off len i : Nat} (h : off + len ≤ xs.length) (hi : i < ((xs.drop off).take len).length) : ∃ h', ((xs.drop off).take len)[i] = xs[off + i]'h' := by
  simp only [List.length_take, List.length_drop] at hi
  exact ⟨by omega, by simp⟩

/-- A row that is let go reads zs a slice that stays. -/
theorem frz_rowX {h : Hp} (hh : HeapRep bad h w m c) {b s off len : Nat} {tip : Bool} {x : Value} {B : Blk} (hg : h.get b = some B) (hs : B.s = s) (hv : B.var = false) (hn : ∀ l, m b = some l → l.s = s → l.blk ≠ none) (hle : off + len ≤ B.es.length)
    (hr : Rep bad w m c (.sl b s off len tip) x) : RepP w (okOf bad w (upd m b none)) (.ps .any ((B.es.drop off).take len)) x := by
  obtain ⟨l, β, cs, hm, hls, hlw, hlT, hblk, hcs, hsz, hle', hwd, hall⟩ := rep_blockX hh hg hs (.inl hv) hn
  have hlen : ((B.es.drop off).take len).length = len := by simp; omega
  cases hr with
  | pure hr => cases hr
  | sl hs' hx hb =>
    rcases hb l hm hls with ⟨h0, _⟩ | ⟨β', cap, h1, rfl, h2, _⟩
    · rw [hblk] at h0; cases h0
    · rw [hblk] at h1; cases h1
      have hok : okOf bad w (upd m b none) β := by
        refine ⟨hh.blk_lt hm hblk, hh.nb b l β hm hblk, fun k l' hk hk' => ?_⟩
        unfold upd at hk
        split at hk
        · cases hk
        · rename_i hne; exact hne (hh.inj k b l' l β hk hm hk' hblk)
      have hmono : ∀ γ, okOf bad w m γ → okOf bad w (upd m b none) γ ∧ ∀ o, w.cell? ⟨γ, o, none⟩ = w.cell? ⟨γ, o, none⟩ := fun γ hγ => ⟨((hh.erase b).1.hok hγ).1, fun _ => rfl⟩
      have key := RepP.ps (w := w) (ok := okOf bad w (upd m b none)) (c := .any) (xs := (B.es.drop off).take len) (β := β) (o := off * l.w) (k := B.w) (cap := cap) (val := fun i j => (cs[(off + i) * B.w + j]?).getD Go.undef)
        (by simp) (by omega) (by simp) (fun _ => hok) (fun i hi => by
          obtain ⟨h', e⟩ := sub_list hle hi
          rw [e]; exact hwd _ _) (fun i j hi hj => by
          obtain ⟨h', e⟩ := sub_list hle hi
          obtain ⟨y, hy, _⟩ := hall (off + i) h' j (by rw [hwd]; exact hj)
          rw [cell_of_row w β _ cs _ _ hcs, hlw, show off * B.w + i * B.w + j = (off + i) * B.w + j by rw [Nat.add_mul], hy]; rfl) (fun i hi j hj => by
          obtain ⟨h', e⟩ := sub_list hle hi
          have hj' : j < B.es[off + i].cells.length := by rw [← e]; exact hj
          obtain ⟨y, hy, hr'⟩ := hall (off + i) h' j hj'
          rw [hy]
          simp only [hv, RepC] at hr'
          have e2 : ((B.es.drop off).take len)[i].cells[j] = B.es[off + i].cells[j] := by simp [e]
          rw [e2]
          exact RepP.mono hmono hr') (q := none) (by simp)
      rw [hlen] at key
      exact key


theorem frz_row {h : Hp} (hh : HeapRep bad h w m c) {b s off len : Nat} {tip : Bool} {x : Value} {B : Blk} (hg : h.get b = some B) (hs : B.s = s) (hv : B.var = false) (hn : B.nl = false) (hle : off + len ≤ B.es.length)
    (hr : Rep bad w m c (.sl b s off len tip) x) : RepP w (okOf bad w (upd m b none)) (.ps .any ((B.es.drop off).take len)) x :=
  frz_rowX hh hg hs hv (fun l hl _ => by
    obtain ⟨l', β, cs, hm, _, _, _, hblk, _⟩ := rep_block hh hg hs hn
    rw [hm] at hl; cases hl; rw [hblk]; simp) hle hr

end
end Go.Mx
