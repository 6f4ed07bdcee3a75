/-
  A range over a slice from its end on: the statement's rounds, each from the state that the one ahead of it left.
-/
import Derived.Test.YtpcngdlglejgeaaGreatDoorNy16
import Derived.RangeFuncFrom
import Derived.Below
namespace Go.Mx
set_option linter.unusedVariables false
set_option linter.unusedSimpArgs false

def noDef (ops : Array Oper) : Bool := ops.all fun o => match o.op with
  | .defer _ => false
  | _ => true

theorem noDef_at {ops : Array Oper} (h : noDef ops = true) {i : Nat} {o : Oper} (ho : ops[i]? = some o) : ∀ c, o.op ≠ .defer c := by
  intro c e
  have := (Array.all_eq_true.1 h) i (Array.getElem?_eq_some_iff.1 ho).1
  rw [(Array.getElem?_eq_some_iff.1 ho).2, e] at this
  simp at this

section
variable {P : Program} {l : Nat}

theorem rowsIn_round {row : String} {args : Array Value} {w : World} {R : Value → World → Prop} (h : Rows P row args w R) : RowsIn (Fence.wide.inRound l) 0 P row args w R :=
  fun c cs _ => let ⟨v, w', r, s⟩ := h c cs; ⟨v, w', r, stepsIn_wide.2 s⟩

theorem callsIn_round {f : FuncId} {args : Array Value} {w : World} {R : Ending → World → Prop} (h : Calls P f args w R) : CallsIn (Fence.wide.inRound l) 0 P f args w R :=
  (callsIn_wide (n := 0)).2 h

theorem operIn_round {o : Oper} {a : Act} {w : World} {K : Act → World → Prop} {Q : Exit → Act → World → Prop} (hnd : ∀ c, o.op ≠ .defer c) (h : o.wp P a w K Q) : o.wpIn (Fence.wide.inRound l) 0 P a w K Q := by
  refine ⟨fun _ _ => trivial, ?_⟩
  rw [Oper.semAt_eq _ _ _ hnd]
  unfold Oper.wp at h
  cases hr : (execOp a.eval o).run P w with
  | ok r w' =>
    rw [hr] at h
    cases r with
    | value v => exact h
    | skip => exact h
    | defer d => exact h
    | enter f args => exact ⟨fun h => by simp [Fence.inRound, Fence.wide] at h, callsIn_round h⟩
    | row row args => exact ⟨fun h => by simp [Fence.inRound, Fence.wide] at h, rowsIn_round h⟩
    | _ => exact h.elim
  | halt r w' =>
    rw [hr] at h
    cases r with
    | panic v => exact h
    | _ => exact h.elim

theorem operIn_mono {F : Fence} {o : Oper} {a : Act} {w : World} {K K' : Act → World → Prop} {Q : Exit → Act → World → Prop} (hk : ∀ a w, K a w → K' a w) (h : o.wpIn F 0 P a w K Q) : o.wpIn F 0 P a w K' Q := by
  refine ⟨h.1, ?_⟩
  have h2 := h.2
  cases hr : (o.semAt F.round a.eval).run P w with
  | ok r w' =>
    rw [hr] at h2
    cases r with
    | value v => exact hk _ _ h2
    | skip => exact hk _ _ h2
    | defer d => exact hk _ _ h2
    | enter f args => exact ⟨h2.1, h2.2.mono fun e w'' he => by cases e <;> first | exact hk _ _ he | exact he⟩
    | row row args => exact ⟨h2.1, h2.2.mono fun v w'' he => hk _ _ he⟩
    | round l f tmps assign body => exact ⟨h2.1, h2.2.mono fun e w'' he => by cases e <;> first | exact hk _ _ he | exact he⟩
    | _ => exact h2
  | halt r w' =>
    rw [hr] at h2
    cases r with
    | panic v => exact h2
    | _ => exact h2.elim

theorem opsIn_round {ops : Array Oper} (hnd : noDef ops = true) {Q : Exit → Act → World → Prop} (hno : ¬ LetsOut Q) : ∀ (is : List Nat) (a : Act) (w : World), wpOps P ops Q is a w → wpOpsIn (Fence.wide.inRound l) 0 P ops Q is a w
  | [], a, w, h => h
  | i :: r, a, w, h => by
    have ih := opsIn_round hnd hno r
    simp only [wpOps] at h
    simp only [wpOpsIn]
    cases ho : ops[i]? with
    | none => rw [ho] at h; exact ih a w h
    | some o =>
      rw [ho] at h
      simp only at h ⊢
      split at h
      · rename_i hw
        rw [if_pos hw]
        rcases h with h | h
        · exact operIn_mono ih (operIn_round (noDef_at hnd ho) h)
        · exact absurd h.2 hno
      · rename_i hw
        rw [if_neg hw]
        exact ⟨fun _ _ => trivial, ih _ _ h⟩

/-- What a function that a range goes over must do: it asks for a round for each number, from the last on, and ends. -/
def BackF (P : Program) (f : FuncId) : Prop :=
  ∀ (ns : List Int) (k : SC) (cap : Value) (l : Nat) (J : Nat → World → Prop) (W : World), ns.length < 4294967296 →
    (∀ j W W', J j W → Le W noM 0 W' noM 0 → J j W') → (∀ j W, J j W → RepP W (fun β => β < W.heap.size) (.ref (.ps k (ns.map fun x => V.p (.int .i64 x))) 0) cap) →
    (∀ j W, J j W → (hj : j < ns.length) → ∃ fn tmps assign body, (Instr.yield l #[.int .i64 ((ns.length - 1 - j : Nat) : Int), .int .i64 (ns[ns.length - 1 - j])]).run P W = .ok (.round l fn tmps assign body) W ∧
      RoundIn Fence.wide 0 P l fn tmps assign body W (fun e W' => e = .returned (.bool true) ∧ J (j + 1) W')) →
    J 0 W → CallsIn Fence.wide 0 P f #[.func (.yield l) #[] #[], cap] W (fun e W' => (∃ v, e = .returned v) ∧ J ns.length W')

/-- A region, in the order of the text or in an open one. -/
def WReg (bs : Nat) (P : Program) (bad : Nat → Prop) (ops : Array Oper) (dr : Bool) (st : St) (K : St → Prop) : Prop :=
  if dr then WAny bs P bad ops st (fun e s => e = .normal ∧ K s) else WOps bs P bad ops (List.range ops.size) st K

def WRounds (P : Program) (bad : Nat → Prop) (opsA opsB : Array Oper) (dB : Bool) (p0 p1 : Tmp) (t : List V) : List (Int × Int) → Hp → Nat → (Hp → Nat → Prop) → Prop
  | [], h, c, K => K h c
  | (i, x) :: r, h, c, K => WOps 0 P bad opsA (List.range opsA.size) ⟨putT (putT t (some p0) (.p (.int .i64 i))) (some p1) (.p (.int .i64 x)), h, c⟩ fun s1 =>
      WReg 0 P bad opsB dB s1 fun s2 => WRounds P bad opsA opsB dB p0 p1 t r s2.h s2.c K

/-- The numbers, from the last on. -/
def backs (ns : List Int) : List (Int × Int) := (List.range ns.length).map fun j => (((ns.length - 1 - j : Nat) : Int), ns.getD (ns.length - 1 - j) 0)

theorem DM0_off {bs : Nat} {w : World} {l : Nat} {r : Loop} (hl : w.heap[l]? = some (.loop r)) (o : Obj) : ∀ {ds : List Deferred}, DM0 bs ds w → DM0 bs ds (w.putObj l o)
  | [], _ => trivial
  | d :: q, ⟨⟨D, h1, h2, h3, h4⟩, h5⟩ => ⟨⟨D, h1, h2, by
      rw [World.putObj_heap_other (fun e => by subst e; rw [hl] at h3; cases h3)]
      exact h3, h4⟩, DM0_off hl o h5⟩

variable {bs : Nat} {bad : Nat → Prop}

theorem not_outA {st : St} {w : World} {m : MM} {c : Nat} {K : St → Prop} : ¬ LetsOut (Lift bs bad (fun e s => e = .normal ∧ K s) w m c) := by
  rintro ⟨a, w', st', m', ⟨h, _⟩, _⟩; cases h

/-- A region, in a round. -/
theorem regIn_round {id : Nat} {ops : Array Oper} {dr : Bool} {st : St} {K : St → Prop} (hm : P.follows .mixedOrders = true) (hnd : noDef ops = true) (h : WReg bs P bad ops dr st K) {a : Act} {w : World} {m : MM} (hs : SR bs bad st a w m) :
    (Code.region id ops dr).wpIn (Fence.wide.inRound l) 0 P (Lift bs bad (fun e s => e = .normal ∧ K s) w m st.c) a w := by
  unfold WReg at h
  cases dr with
  | true =>
    rw [if_pos rfl] at h
    refine wpIn_region_draw fun t => opsIn_round hnd (not_outA (st := st)) _ _ _ ?_
    simp only [Region.schedule, hm, Bool.true_or, if_true]
    exact wpAny_sound ops.size t _ a _ (h a w m hs)
  | false =>
    rw [if_neg (by simp)] at h
    refine wpIn_region (opsIn_round hnd (not_outA (st := st)) _ _ _ ?_)
    exact h a w m hs _ fun st' a' w' m' h1 h2 h3 => ⟨st', m', ⟨rfl, h1⟩, h2, h3⟩

theorem backs_length (ns : List Int) : (backs ns).length = ns.length := by simp [backs]
theorem backs_get (ns : List Int) (j : Nat) (hj : j < ns.length) : (backs ns)[j]? = some (((ns.length - 1 - j : Nat) : Int), ns[ns.length - 1 - j]) := by
  have h : ns.length - 1 - j < ns.length := by omega
  simp [backs, hj, List.getD_eq_getElem?_getD, List.getElem?_eq_getElem h]

theorem WC_rangeB (hm : P.follows .mixedOrders = true) {f : FuncId} (hen : Enters P f) (hbk : BackF P f) {g : Operand} {p0 p1 : Tmp} {ia ib ir : Nat} {opsA opsB : Array Oper} {dB : Bool} {st : St} {Q : Exit → St → Prop} {k : SC} {ns : List Int}
    (hg : evalO st.t g = .fn f [] [.ref (.ps k (ns.map fun x => V.p (.int .i64 x))) 0]) (hA : noDef opsA = true) (hB : noDef opsB = true) (hlen : ns.length < 4294967296)
    (hr : WRounds P bad opsA opsB dB p0 p1 st.t (backs ns) st.h st.c (fun h c => Q .normal ⟨st.t, h, c⟩)) :
    WC bs P bad (.rangeFunc g #[p0, p1] (.region ia opsA false) (.block ib (.region ir opsB dB))) st Q := by
  intro a w m hs
  refine wpIn_wide (n := 0).1 (wpIn_rangeFunc ?_)
  intro fn _
  -- the function, and what it holds
  have hgv := hs.t.eval g
  rw [hg] at hgv
  obtain ⟨cap, hev, hcap⟩ : ∃ cap, a.eval g = .func (.func f) #[] #[cap] ∧ RepP w (okOf bad w m) (.ref (.ps k (ns.map fun x => V.p (.int .i64 x))) 0) cap := by
    obtain ⟨cs, ds, e, h1, h2, _, h4⟩ := rep_fn hgv
    have hc0 : cs = #[] := by
      apply Array.eq_empty_of_size_eq_zero
      simpa using h1.symm
    have hd1 : ds.size = 1 := by simpa using h2.symm
    refine ⟨ds[0], ?_, ?_⟩
    · rw [e, hc0]; congr 1
      apply Array.ext
      · simp [hd1]
      · intro i h1 h2
        have : i = 0 := by simp at h2; omega
        subst this; rfl
    · have := h4 0 (by simp) (by omega)
      cases this with
      | pure hp => exact hp
  obtain ⟨rec, hrec⟩ : ∃ rec : LoopState → Loop, rec = fun s => { state := s, pending := none, fn, tmps := a.tmps, params := #[p0, p1], assign := .region ia opsA false, body := .block ib (.region ir opsB dB), defers := w.heap.size } := ⟨_, rfl⟩
  obtain ⟨W1, hW1⟩ : ∃ W1, (w.alloc (.deferred (some []))).alloc (.loop (rec .ready)) = W1 := ⟨_, rfl⟩
  have hL1 : W1.heap[w.heap.size + 1]? = some (.loop (rec .ready)) := by
    rw [← hW1]; have := World.alloc_heap_new (w.alloc (.deferred (some []))) (.loop (rec .ready)); rwa [World.size_alloc] at this
  have hD1 : W1.heap[w.heap.size]? = some (.deferred (some [])) := by
    rw [← hW1]; exact (RowKit.Below.heap_alloc _ _ _ (by simp)).trans (World.alloc_heap_new w _)
  have hkeep1 : ∀ β, β < w.heap.size → W1.heap[β]? = w.heap[β]? := fun β hβ => by
    rw [← hW1]; exact (RowKit.Below.heap_alloc _ _ _ (by simp; omega)).trans (RowKit.Below.heap_alloc _ _ _ hβ)
  obtain ⟨le1, hh1⟩ := hs.h.world (w' := W1) hkeep1 (by rw [← hW1]; simp; omega) (by rw [← hW1]; rfl) (by rw [← hW1]; rfl) (by rw [← hW1]; rfl)
  -- what holds between two rounds
  let J : Nat → World → Prop := fun j W => ∃ m' h' c', HeapRep bad h' W m' c' ∧ Le w m st.c W m' c' ∧ WRounds P bad opsA opsB dB p0 p1 st.t ((backs ns).drop j) h' c' (fun h c => Q .normal ⟨st.t, h, c⟩) ∧
    W.heap[w.heap.size + 1]? = some (.loop (rec .ready)) ∧ W.heap[w.heap.size]? = some (.deferred (some [])) ∧ DM0 bs a.defers W
  have hJ0 : J 0 W1 := ⟨m, st.h, st.c, hh1, le1, hr, hL1, hD1, DM0.le hs.h le1 hs.d.2⟩
  refine ⟨w.heap.size + 1, [{ target := .collected w.heap.size, args := #[] }], W1, { target := .fn (.func f) #[cap], args := #[.func (.yield (w.heap.size + 1)) #[] #[]] }, W1, f,
    #[.func (.yield (w.heap.size + 1)) #[] #[], cap], W1, ?_, ?_, fun _ _ => trivial, ?_, fun h => by simp [Fence.wide] at h, ?_⟩
  · rw [← hW1, hrec]; exact run_enterLoop_outer _ _ _ _ _
  · simp only [resolve, hev]
    simp [go_sem]
  · have := callFunc_run hen
    simp [invoke, go_sem, this]
  refine (hbk ns k cap (w.heap.size + 1) J W1 hlen ?_ ?_ ?_ hJ0).mono ?_
  · -- the world grows
    rintro j W W' ⟨m', h', c', a1, a2, a3, a4, a5, a6⟩ hle
    have hk : ∀ β, β < W.heap.size → W'.heap[β]? = W.heap[β]? := fun β hβ => hle.keep β hβ fun b l h => by simp [noM] at h
    obtain ⟨le2, hh2⟩ := a1.world hk hle.size hle.os hle.output hle.tape
    exact ⟨m', h', c', hh2, a2.trans le2, a3, (hk _ (Array.getElem?_eq_some_iff.1 a4).1).trans a4, (hk _ (Array.getElem?_eq_some_iff.1 a5).1).trans a5, DM0.le a1 le2 a6⟩
  · -- what the function holds
    rintro j W ⟨m', h', c', a1, a2, _⟩
    exact hcap.mono fun β hβ => ⟨(a2.hok hβ).1.1, a2.cell hβ⟩
  · -- a round
    rintro j W ⟨m', h', c', a1, a2, a3, a4, a5, a6⟩ hj
    have hdr : (backs ns).drop j = (((ns.length - 1 - j : Nat) : Int), ns[ns.length - 1 - j]) :: (backs ns).drop (j + 1) := by
      have h1 := backs_get ns j hj
      have h2 : j < (backs ns).length := by rw [backs_length]; exact hj
      rw [List.drop_eq_getElem_cons h2]
      rw [List.getElem?_eq_getElem h2] at h1
      rw [Option.some.inj h1]
    rw [hdr] at a3
    simp only [WRounds] at a3
    have hy := run_yield (P := P) (args := #[.int .i64 ((ns.length - 1 - j : Nat) : Int), .int .i64 (ns[ns.length - 1 - j])]) a4 (by rw [hrec]; rfl)
    refine ⟨_, _, _, _, hy, ?_⟩
    have hrdy : (rec .ready).state = .ready := by rw [hrec]
    have e1 : (rec .ready).assign = .region ia opsA false := by rw [hrec]
    have e2 : (rec .ready).body = .block ib (.region ir opsB dB) := by rw [hrec]
    have e3 : (((rec .ready).params.zip #[Value.int .i64 ((ns.length - 1 - j : Nat) : Int), .int .i64 (ns[ns.length - 1 - j])]).foldl (fun tmps (t, a) => tmps.setIfInBounds t a) (rec .ready).tmps) = (a.tmps.setIfInBounds p0 (.int .i64 ((ns.length - 1 - j : Nat) : Int))).setIfInBounds p1 (.int .i64 (ns[ns.length - 1 - j])) := by rw [hrec]; simp
    rw [e1, e2, e3]
    have hT0 : RepT bad W m' c' st.t a.tmps := hs.t.mono a2
    have hT1 := (hT0.put (a := { a with defers := [] }) (.pure (.p (.int .i64 ((ns.length - 1 - j : Nat) : Int)))) (some p0))
    have hT2 := (RepT.put (a := ({ a with defers := [] } : Act).put (some p0) _) hT1 (.pure (.p (.int .i64 (ns[ns.length - 1 - j])))) (some p1))
    refine roundIn_of_wpIn (F := Fence.wide) (n := 0) trivial ?_
    have hS0 : SR 0 bad ⟨putT (putT st.t (some p0) (.p (.int .i64 ((ns.length - 1 - j : Nat) : Int)))) (some p1) (.p (.int .i64 (ns[ns.length - 1 - j]))), h', c'⟩ { tmps := (a.tmps.setIfInBounds p0 (.int .i64 ((ns.length - 1 - j : Nat) : Int))).setIfInBounds p1 (.int .i64 (ns[ns.length - 1 - j])), defers := [] } W m' := ⟨hT2, a1, Nat.zero_le _, trivial⟩
    have hreg := regIn_round (id := ia) (l := w.heap.size + 1) hm hA (dr := false) (by unfold WReg; rw [if_neg (by simp)]; exact a3) hS0
    refine wpIn_mono hreg ?_
    rintro e a1' w1 ⟨s1, m1, ⟨rfl, hK⟩, hs1, hle1⟩
    -- the record is busy
    have hl1 : w1.heap[w.heap.size + 1]? = some (.loop (rec .ready)) := by rw [hle1.keep _ (Array.getElem?_eq_some_iff.1 a4).1 (own_not a1 a4 rfl)]; exact a4
    have hd1 : w1.heap[w.heap.size]? = some (.deferred (some [])) := by rw [hle1.keep _ (Array.getElem?_eq_some_iff.1 a5).1 (own_not a1 a5 rfl)]; exact a5
    refine ⟨_, run_beginRound hl1 hrdy, ?_⟩
    have ho1 : OffC w1 (w1.putObj (w.heap.size + 1) (.loop { rec .ready with state := .busy })) := OffC.put w1 hl1 rfl rfl
    have hlW1 : Le w m st.c w1 m1 s1.c := a2.trans hle1
    have hkp : ∀ (W0 : World) (o : Obj), ∀ β, β < w.heap.size → (W0.putObj (w.heap.size + 1) o).heap[β]? = W0.heap[β]? := fun W0 o β hβ => World.putObj_heap_other (by omega)
    have hS1 : SR 0 bad s1 a1' (w1.putObj (w.heap.size + 1) (.loop { rec .ready with state := .busy })) m1 := ⟨⟨hs1.t.1, fun i => ho1.rep (hs1.t.2 i)⟩, ho1.heap hs1.h, Nat.zero_le _, DM0_off hl1 _ hs1.d.2⟩
    have hl2 : (w1.putObj (w.heap.size + 1) (.loop { rec .ready with state := .busy })).heap[w.heap.size + 1]? = some (.loop { rec .ready with state := .busy }) := World.putObj_heap_same (Array.getElem?_eq_some_iff.1 hl1).1
    have hd2 : (w1.putObj (w.heap.size + 1) (.loop { rec .ready with state := .busy })).heap[w.heap.size]? = some (.deferred (some [])) := (World.putObj_heap_other (by omega)).trans hd1
    have hDM1 : DM0 bs a.defers (w1.putObj (w.heap.size + 1) (.loop { rec .ready with state := .busy })) := DM0_off hl1 _ (DM0.le a1 hle1 a6)
    refine wpIn_block (wpIn_mono (regIn_round (id := ir) hm hB hK hS1) ?_)
    rintro e a2' w2 ⟨s2, m2, ⟨rfl, hK2⟩, hs2, hle2⟩
    have hl3 : w2.heap[w.heap.size + 1]? = some (.loop { rec .ready with state := .busy }) := by rw [hle2.keep _ (Array.getElem?_eq_some_iff.1 hl2).1 (own_not hS1.h hl2 rfl)]; exact hl2
    have hd3 : w2.heap[w.heap.size]? = some (.deferred (some [])) := by rw [hle2.keep _ (Array.getElem?_eq_some_iff.1 hd2).1 (own_not hS1.h hd2 rfl)]; exact hd2
    refine ⟨_, _, run_endRound none hl3, rfl, ?_⟩
    have ho2 : OffC w2 (w2.putObj (w.heap.size + 1) (.loop { rec .ready with state := .ready, pending := none })) := OffC.put w2 hl3 rfl rfl
    have hrr : ({ rec .ready with state := .ready, pending := none } : Loop) = rec .ready := by rw [hrec]
    refine ⟨m2, s2.h, s2.c, ho2.heap hs2.h, ?_, hK2, ?_, ?_, ?_⟩
    · exact ho2.le ((ho1.le hlW1 (hkp _ _)).trans hle2) (hkp _ _)
    · show (w2.putObj (w.heap.size + 1) (.loop { rec .ready with state := .ready, pending := none })).heap[w.heap.size + 1]? = _
      rw [World.putObj_heap_same (Array.getElem?_eq_some_iff.1 hl3).1, hrr]
    · exact (World.putObj_heap_other (by omega)).trans hd3
    · exact DM0_off hl3 _ (DM0.le hS1.h hle2 hDM1)
  · -- behind the rounds
    rintro e W2 ⟨⟨v, rfl⟩, m', h', c', a1, a2, a3, a4, a5, a6⟩
    have hnb : (rec .ready).state ≠ .busy := by rw [hrec]; simp
    refine ⟨_, _, run_endLoop a4 hnb, ?_⟩
    have hdr : (backs ns).drop ns.length = [] := by rw [List.drop_eq_nil_iff, backs_length]; exact Nat.le_refl _
    rw [hdr] at a3
    have ho : OffC W2 (W2.putObj (w.heap.size + 1) (.loop { rec .ready with state := .exhausted })) := OffC.put W2 a4 rfl rfl
    have hle : Le w m st.c (W2.putObj (w.heap.size + 1) (.loop { rec .ready with state := .exhausted })) m' c' := ho.le a2 fun β hβ => World.putObj_heap_other (by omega)
    have hD4 : (W2.putObj (w.heap.size + 1) (.loop { rec .ready with state := .exhausted })).heap[w.heap.size]? = some (.deferred (some [])) := (World.putObj_heap_other (by omega)).trans a5
    have hM4 : DM0 bs a.defers (W2.putObj (w.heap.size + 1) (.loop { rec .ready with state := .exhausted })) := DM0_off a4 _ a6
    generalize W2.putObj (w.heap.size + 1) (.loop { rec .ready with state := .exhausted }) = W4 at ho hle hD4 hM4 ⊢
    rw [show (rec .ready).pending = none by rw [hrec]]
    refine ⟨⟨st.t, h', c'⟩, m', a3, ⟨?_, ho.heap a1, ?_, ⟨w.heap.size, rfl, hs.d.1, hD4, ?_⟩, hM4⟩, hle⟩
    · exact ⟨hs.t.1, fun i => ho.rep ((hs.t.mono a2).2 i)⟩
    · exact Nat.le_trans hs.d.1 hle.size
    · -- the mark is new
      intro d' hd' e
      have : ∀ {ds : List Deferred}, DM0 bs ds w → d' ∈ ds → False := by
        intro ds
        induction ds with
        | nil => intro _ h; cases h
        | cons x r ih =>
          rintro ⟨⟨D, q1, q2, q3, q4⟩, q5⟩ h
          rcases List.mem_cons.1 h with rfl | h
          · rw [e] at q1
            simp only [Deferred.mk.injEq, Target.collected.injEq, and_true] at q1
            have := (Array.getElem?_eq_some_iff.1 q3).1
            omega
          · exact ih q5 h
      exact this hs.d.2 hd'

end
end Go.Mx
