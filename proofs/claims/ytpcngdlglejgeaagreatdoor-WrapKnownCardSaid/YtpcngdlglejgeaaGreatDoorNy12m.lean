/-
  Book-keeping blocks (of ranges over functions) turn: what is read stays; a function with marks among its deferred calls ends.
-/
import Derived.Test.YtpcngdlglejgeaaGreatDoorNy12
import Derived.RangeFuncRecord
namespace Go.Mx
set_option linter.unusedVariables false
set_option linter.unusedSimpArgs false

def bookO : Option Obj → Bool
  | some (.deferred _) => true
  | some (.loop _) => true
  | _ => false

/-- The same world, but for book-keeping blocks. -/
structure OffC (w w' : World) : Prop where
  size : w'.heap.size = w.heap.size
  os : w'.os = w.os
  output : w'.output = w.output
  tape : w'.tape = w.tape
  same : ∀ β : Nat, w'.heap[β]? = w.heap[β]? ∨ (bookO w.heap[β]? = true ∧ bookO w'.heap[β]? = true)

theorem OffC.refl (w : World) : OffC w w := ⟨rfl, rfl, rfl, rfl, fun _ => .inl rfl⟩
theorem OffC.trans {a b c : World} (h : OffC a b) (k : OffC b c) : OffC a c :=
  ⟨k.size.trans h.size, k.os.trans h.os, k.output.trans h.output, k.tape.trans h.tape, fun β => by
    rcases h.same β with h1 | ⟨h1, h2⟩ <;> rcases k.same β with k1 | ⟨k1, k2⟩
    · exact .inl (k1.trans h1)
    · rw [h1] at k1; exact .inr ⟨k1, k2⟩
    · rw [← k1] at h2; exact .inr ⟨h1, h2⟩
    · exact .inr ⟨h1, k2⟩⟩
theorem OffC.put (w : World) {r : Nat} {o o' : Obj} (h : w.heap[r]? = some o) (h1 : bookO (some o) = true) (h2 : bookO (some o') = true) : OffC w (w.putObj r o') :=
  ⟨by simp, rfl, rfl, rfl, fun β => by
    by_cases e : β = r
    · subst e
      right
      rw [h, World.putObj_heap_same (Array.getElem?_eq_some_iff.1 h).1]
      exact ⟨h1, h2⟩
    · left; exact World.putObj_heap_other e⟩

theorem OffC.cell {w w' : World} (h : OffC w w') (β off : Nat) : w'.cell? ⟨β, off, none⟩ = w.cell? ⟨β, off, none⟩ := by
  rcases h.same β with h1 | ⟨h1, h2⟩
  · exact cell_of_heap h1 off
  · simp only [World.cell?]
    cases ho : w.heap[β]? with
    | none => rw [ho] at h1; simp [bookO] at h1
    | some o =>
      cases ho' : w'.heap[β]? with
      | none => rw [ho'] at h2; simp [bookO] at h2
      | some o' =>
        rw [ho] at h1; rw [ho'] at h2
        cases o <;> simp [bookO] at h1 <;> cases o' <;> simp [bookO] at h2 <;> rfl

section
variable {bad : Nat → Prop} {w w' : World} {m : MM} {c : Nat}
theorem OffC.ok (h : OffC w w') {β : Nat} (hb : okOf bad w m β) : okOf bad w' m β := ⟨by rw [h.size]; exact hb.1, hb.2.1, hb.2.2⟩
theorem OffC.repP (h : OffC w w') {v : V} {x : Value} (hr : RepP w (okOf bad w m) v x) : RepP w' (okOf bad w' m) v x := hr.mono fun β hβ => ⟨h.ok hβ, h.cell β⟩
theorem OffC.rep (h : OffC w w') {v : V} {x : Value} (hr : Rep bad w m c v x) : Rep bad w' m c v x := by
  induction hr with
  | pure hr => exact .pure (h.repP hr)
  | agg hl _ ih => exact .agg hl ih
  | tup hl _ ih => exact .tup hl ih
  | fn hl hl' _ _ ih ih' => exact .fn hl hl' ih ih'
  | box hs hx h => exact .box hs hx h
  | sl hs hx h => exact .sl hs hx h
  | mp hs hx h => exact .mp hs hx h
theorem OffC.repC (h : OffC w w') {var : Bool} {v : V} {x : Value} (hr : RepC bad var w m c v x) : RepC bad var w' m c v x := by
  cases var
  · exact h.repP hr
  · exact h.rep hr
theorem OffC.heap (h : OffC w w') {hp : Hp} (hh : HeapRep bad hp w m c) : HeapRep bad hp w' m c := by
  refine ⟨fun b B hg => ?_, hh.non, fun β hβ => by rw [h.size]; exact hh.lt β hβ, hh.nb, hh.inj⟩
  obtain ⟨l, h1, h2, h3, h4, h5, h6⟩ := hh.get b B hg
  refine ⟨l, h1, h2, h3, h4, h5, ?_⟩
  rcases h6 with e | ⟨e1, e2, e3, β, ents, clock, q1, q2, q3, q4⟩ | ⟨e1, β, cs, q1, q2, q3, q4, q5, q6⟩
  · exact .inl e
  · refine .inr (.inl ⟨e1, e2, e3, β, ents, clock, q1, ?_, q3, fun i a b => ?_⟩)
    · rcases h.same β with g | ⟨g, _⟩
      · rw [g]; exact q2
      · rw [q2] at g; simp [bookO] at g
    · obtain ⟨k, v, a1, a2, a3⟩ := q4 i a b
      exact ⟨k, v, a1, a2, h.rep a3⟩
  · refine .inr (.inr ⟨e1, β, cs, q1, ?_, q3, q4, q5, fun i hi j hj => ?_⟩)
    · rcases h.same β with g | ⟨g, _⟩
      · rw [g]; exact q2
      · rw [q2] at g; simp [bookO] at g
    · obtain ⟨x, hx, hr⟩ := q6 i hi j hj
      exact ⟨x, hx, h.repC hr⟩
/-- What lay when the frame began stays. -/
theorem OffC.le {w0 : World} {m0 : MM} {c0 : Nat} (h : OffC w w') (hle : Le w0 m0 c0 w m c) (hn : ∀ β, β < w0.heap.size → w'.heap[β]? = w.heap[β]?) : Le w0 m0 c0 w' m c :=
  ⟨hle.hc, hle.hm, fun β hβ hm => (hn β hβ).trans (hle.keep β hβ hm), by rw [h.size]; exact hle.size, h.os.trans hle.os, h.output.trans hle.output, h.tape.trans hle.tape, hle.range⟩
end

theorem DM0.put {bs D : Nat} {w : World} (o : Obj) : ∀ {ds : List Deferred}, DM0 bs ds w → (∀ d ∈ ds, d ≠ { target := .collected D, args := #[] }) → DM0 bs ds (w.putObj D o)
  | [], _, _ => trivial
  | d :: r, ⟨⟨D', h1, h2, h3, h4⟩, h5⟩, hn => ⟨⟨D', h1, h2, by
      rw [World.putObj_heap_other]
      · exact h3
      · intro e; subst e; exact hn d (List.mem_cons_self ..) h1, h4⟩, DM0.put o h5 fun x hx => hn x (List.mem_cons_of_mem _ hx)⟩

/-- A function ends, with marks: each block is shut. -/
theorem leaves_marks {P : Program} {fn : Func} {tmps : Array Value} {R : Ending → World → Prop} {bs : Nat} : ∀ (ds : List Deferred) (w : World), DM0 bs ds w →
    (∀ w', OffC w w' → (∀ β, β < bs → w'.heap[β]? = w.heap[β]?) → ∃ x, (results fn tmps).run P w' = .ok x w' ∧ R (.returned x) w') → LeavesInM Fence.wide 0 P fn tmps R ds .returning w
  | [], w, _, hR => hR w (OffC.refl w) fun _ _ => rfl
  | d :: r, w, ⟨⟨D, h1, h2, h3, h4⟩, h5⟩, hR => by
    subst h1
    refine ⟨by simp, .inl ⟨D, _, rfl, run_takeDeferred h3, ?_⟩⟩
    refine leaves_marks r _ (DM0.put _ h5 h4) fun w' ho hk => hR w' ((OffC.put w h3 rfl rfl).trans ho) fun β hβ => (hk β hβ).trans (World.putObj_heap_other (by omega))

end Go.Mx
