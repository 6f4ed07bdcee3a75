/-
  Calls: what is passed is read by the callee zs its own; what it gives is read by the caller zs its own.
-/
import Derived.Test.YtpcngdlglejgeaaGreatDoorNy13
namespace Go.Mx
set_option linter.unusedVariables false
set_option linter.unusedSimpArgs false

def mapO (f : V → Option V) : List V → Option (List V)
  | [] => some []
  | v :: r => match f v, mapO f r with
    | some v', some r' => some (v' :: r')
    | _, _ => none

theorem mapO_spec {f : V → Option V} : ∀ {vs vs' : List V}, mapO f vs = some vs' → vs'.length = vs.length ∧ ∀ i (h1 : i < vs.length) (h2 : i < vs'.length), f vs[i] = some vs'[i]
  | [], vs', h => by
    simp only [mapO, Option.some.injEq] at h
    subst h
    exact ⟨rfl, fun i h1 => by simp at h1⟩
  | v :: r, vs', h => by
    simp only [mapO] at h
    split at h
    · rename_i v1 r1 h1 h2
      cases h
      obtain ⟨a, b⟩ := mapO_spec h2
      refine ⟨by simp [a], fun i h3 h4 => ?_⟩
      cases i with
      | zero => exact h1
      | succ i => simpa using b i (by simpa using h3) (by simpa using h4)
    · cases h

/-- What is not pure is not told. -/
def pureOr (v : V) : V := if pur 3 v = true then v else .undef

/-- A value, read with the blocks under other names; what is not named so is read zs memory that stays. -/
def trV (h : Hp) (κ : Nat → Option (Nat × Nat)) (bor : List Nat) : Nat → V → Option V
  | 0, _ => none
  | n + 1, v => match v with
    | .sl b s off len tip => match h.get b with
      | some B => if B.s = s then (match κ b with
          | some (b', s') => some (.sl b' s' off len tip)
          | none => if bor.contains b = true ∧ B.var = false then (if B.nl then none else if off + len ≤ B.es.length then some (.ps .any ((B.es.drop off).take len)) else none)
            else if bor.contains b = true ∧ B.nl = false ∧ off + len ≤ B.es.length then (match mapO (trV h κ bor n) ((B.es.drop off).take len) with
              | some es => if es.all (fun e => e.cells.all (pur 3)) = true then some (.ps .any es) else none
              | none => none) else none) else none
      | none => none
    | .box b s i off => match h.get b with
      | some B => if B.s = s ∧ B.nl = false then (match κ b with
          | some (b', s') => some (.box b' s' i off)
          | none => if bor.contains b = true then (match B.es[i]? with
              | some e => if e.cells.all (pur 3) = true ∧ off < e.cells.length then some (.ref e off) else
                  if e.isAgg = false ∧ off = 0 then (match trV h κ bor n e with
                    | some e' => if pur 3 e' = true ∧ e'.isAgg = false then some (.ref e' 0) else none
                    | none => none) else if e.isAgg = true ∧ off < e.cells.length then some (.ref (.agg (e.cells.map pureOr)) off) else none
              | none => none) else none) else none
      | none => none
    | .mp b s => match h.get b with
      | some B => if B.s = s then (match κ b with
          | some (b', s') => some (.mp b' s')
          | none => none) else none
      | none => none
    | .agg vs => (mapO (trV h κ bor n) vs).map .agg
    | .tup vs => (mapO (trV h κ bor n) vs).map .tup
    | .fn f zs bs => match mapO (trV h κ bor n) zs, mapO (trV h κ bor n) bs with
      | some zs', some bs' => some (.fn f zs' bs')
      | _, _ => none
    | v => some v

theorem trV_notAgg {h : Hp} {κ : Nat → Option (Nat × Nat)} {bor : List Nat} {n : Nat} {v v' : V} (he : trV h κ bor (n + 1) v = some v') (hv : v.isAgg = false) : v'.cells = [v'] := by
  cases v with
  | agg vs => simp [V.isAgg] at hv
  | p y => simp only [trV, Option.some.injEq] at he; subst he; rfl
  | undef => simp only [trV, Option.some.injEq] at he; subst he; rfl
  | ref u o => simp only [trV, Option.some.injEq] at he; subst he; rfl
  | ps k xs => simp only [trV, Option.some.injEq] at he; subst he; rfl
  | tup vs =>
    simp only [trV, Option.map_eq_some_iff] at he
    obtain ⟨_, _, rfl⟩ := he; rfl
  | fn f zs bs =>
    simp only [trV] at he
    split at he
    · cases he; rfl
    · cases he
  | sl b s off len tip =>
    simp only [trV] at he
    split at he
    · split at he
      · split at he
        · cases he; rfl
        · split at he
          · split at he
            · cases he
            · split at he
              · cases he; rfl
              · cases he
          · split at he
            · split at he
              · split at he
                · cases he; rfl
                · cases he
              · cases he
            · cases he
      · cases he
    · cases he
  | mp b s =>
    simp only [trV] at he
    split at he
    · split at he
      · split at he
        · cases he; rfl
        · cases he
      · cases he
    · cases he
  | box b s i off =>
    simp only [trV] at he
    split at he
    · split at he
      · split at he
        · cases he; rfl
        · split at he
          · split at he
            · split at he
              · cases he; rfl
              · split at he
                · split at he
                  · split at he
                    · cases he; rfl
                    · cases he
                  · cases he
                · split at he
                  · cases he; rfl
                  · cases he
            · cases he
          · cases he
      · cases he
    · cases he

section
variable {P : Program} {T : TypeId → Option TI} {bad bad' : Nat → Prop}

theorem rep_fn {w : World} {m : MM} {c : Nat} {f : FuncId} {zs bs : List V} {x : Value} (h : Rep bad w m c (.fn f zs bs) x) : ∃ cs ds, x = .func (.func f) cs ds ∧ zs.length = cs.size ∧ bs.length = ds.size ∧
    (∀ i (h1 : i < zs.length) (h2 : i < cs.size), Rep bad w m c zs[i] cs[i]) ∧ ∀ i (h1 : i < bs.length) (h2 : i < ds.size), Rep bad w m c bs[i] ds[i] := by
  cases h with
  | pure h => cases h with
    | fn a b p q => exact ⟨_, _, rfl, a, b, fun i h1 h2 => .pure (p i h1 h2), fun i h1 h2 => .pure (q i h1 h2)⟩
  | fn a b p q => exact ⟨_, _, rfl, a, b, p, q⟩

theorem trV_sound {w : World} {m m' : MM} {c c' : Nat} {h : Hp} (hh : HeapRep bad h w m c) (hok : ∀ β, okOf bad w m β → okOf bad' w m' β) {κ : Nat → Option (Nat × Nat)} {bor : List Nat}
    (hκ : ∀ b b' s', κ b = some (b', s') → s' < c' ∧ ∀ l, m b = some l → m' b' = some { l with s := s' }) (hbor : ∀ b ∈ bor, κ b = none → ∀ l β, m b = some l → l.blk = some β → okOf bad' w m' β) :
    ∀ (n : Nat) (v v' : V) (x : Value), Rep bad w m c v x → trV h κ bor n v = some v' → Rep bad' w m' c' v' x := by
  have mono : ∀ {v : V} {x : Value}, RepP w (okOf bad w m) v x → RepP w (okOf bad' w m') v x := fun h => h.mono fun β hβ => ⟨hok β hβ, fun _ => rfl⟩
  intro n
  induction n with
  | zero => intro v v' x _ he; simp [trV] at he
  | succ n ih =>
    intro v v' x hr he
    have leaf : (∀ y, v = .p y → v' = v → Rep bad' w m' c' v' x) ∧ (v = .undef → v' = v → Rep bad' w m' c' v' x) ∧ (∀ u o, v = .ref u o → v' = v → Rep bad' w m' c' v' x) ∧ (∀ k xs, v = .ps k xs → v' = v → Rep bad' w m' c' v' x) := by
      refine ⟨?_, ?_, ?_, ?_⟩
      · rintro y rfl rfl; cases hr with | pure h => exact .pure (mono h)
      · rintro rfl rfl; exact .pure (.undef _)
      · rintro u o rfl rfl; cases hr with | pure h => exact .pure (mono h)
      · rintro k xs rfl rfl; cases hr with | pure h => exact .pure (mono h)
    cases v with
    | p y => simp only [trV, Option.some.injEq] at he; exact leaf.1 y rfl he.symm
    | undef => simp only [trV, Option.some.injEq] at he; exact leaf.2.1 rfl he.symm
    | ref u o => simp only [trV, Option.some.injEq] at he; exact leaf.2.2.1 u o rfl he.symm
    | ps k xs => simp only [trV, Option.some.injEq] at he; exact leaf.2.2.2 k xs rfl he.symm
    | agg vs =>
      simp only [trV, Option.map_eq_some_iff] at he
      obtain ⟨vs', hm, rfl⟩ := he
      obtain ⟨hl, hp⟩ := mapO_spec hm
      obtain ⟨cs, rfl, hsz, hr'⟩ := rep_agg hr
      exact .agg (by omega) fun i h1 h2 => ih _ _ _ (hr' i (by omega) h2) (hp i (by omega) h1)
    | tup vs =>
      simp only [trV, Option.map_eq_some_iff] at he
      obtain ⟨vs', hm, rfl⟩ := he
      obtain ⟨hl, hp⟩ := mapO_spec hm
      obtain ⟨cs, rfl, hsz, hr'⟩ := rep_tup hr
      exact .tup (by omega) fun i h1 h2 => ih _ _ _ (hr' i (by omega) h2) (hp i (by omega) h1)
    | fn f zs bs =>
      simp only [trV] at he
      split at he
      · rename_i zs' bs' h1 h2
        cases he
        obtain ⟨hl, hp⟩ := mapO_spec h1
        obtain ⟨hl', hp'⟩ := mapO_spec h2
        obtain ⟨cs, ds, rfl, hsz, hsz', hra, hrb⟩ := rep_fn hr
        exact .fn (by omega) (by omega) (fun i h1 h2 => ih _ _ _ (hra i (by omega) h2) (hp i (by omega) h1)) fun i h1 h2 => ih _ _ _ (hrb i (by omega) h2) (hp' i (by omega) h1)
      · cases he
    | sl b s off len tip =>
      simp only [trV] at he
      split at he
      · rename_i B hg
        split at he
        · rename_i hs
          split at he
          · rename_i b' s' hk
            cases he
            obtain ⟨hsc, hm⟩ := hκ b b' s' hk
            obtain ⟨l, hml, hls, _⟩ := hh.get b B hg
            cases hr with
            | pure hr => cases hr
            | sl _ hx hb =>
              refine .sl hsc hx fun l' hl' hs' => ?_
              rw [hm l hml] at hl'; cases hl'
              exact hb l hml (hls.trans hs)
          · rename_i hk
            split at he
            · rename_i hcond
              obtain ⟨hcb, hv⟩ := hcond
              have hbm : b ∈ bor := by simpa using hcb
              split at he
              · rename_i hn
                cases he
              · rename_i hn
                split at he
                · rename_i hle
                  cases he
                  have hn' : B.nl = false := by simpa using hn
                  obtain ⟨l, β, cs, hm, _, _, _, hblk, _⟩ := rep_block hh hg hs hn'
                  have h1 := frz_row hh hg hs hv hn' hle hr
                  have h2 := hbor b hbm hk l β hm hblk
                  refine .pure (h1.mono fun γ hγ => ⟨?_, fun _ => rfl⟩)
                  by_cases hγβ : γ = β
                  · subst hγβ; exact h2
                  · refine hok γ ⟨hγ.1, hγ.2.1, fun k l' hk' hl' => ?_⟩
                    by_cases hkb : k = b
                    · subst hkb
                      rw [hm] at hk'; cases hk'
                      rw [hblk] at hl'; cases hl'; exact hγβ rfl
                    · exact hγ.2.2 k l' (by simp [upd, hkb, hk']) hl'
                · cases he
            · split at he
              · rename_i hcond
                obtain ⟨hcb, hn, hle⟩ := hcond
                have hbm : b ∈ bor := by simpa using hcb
                split at he
                · rename_i es hes
                  split at he
                  · rename_i hpu
                    cases he
                    obtain ⟨l, β, cs, hm, hls, hlw, hlT, hblk, hcs, hsz, hle', hwd, hall⟩ := rep_block hh hg hs hn
                    obtain ⟨e1, e2⟩ := mapO_spec hes
                    have hlen : ((B.es.drop off).take len).length = len := by simp; omega
                    cases hr with
                    | pure hr => cases hr
                    | sl _ hx hb =>
                      rcases hb l hm hls with ⟨h0, _⟩ | ⟨β', cap, h1, rfl, h2, _⟩
                      · rw [hblk] at h0; cases h0
                      · rw [hblk] at h1; cases h1
                        have cell : ∀ i (hi : i < es.length), es[i].cells.length = B.w ∧ ∀ j (hj : j < es[i].cells.length), ∃ y, cs[(off + i) * B.w + j]? = some y ∧ Rep bad' w m' c' es[i].cells[j] y := fun i hi => by
                          have hi' : i < ((B.es.drop off).take len).length := by omega
                          obtain ⟨hlt, he0⟩ := sub_list hle hi'
                          have h7 := e2 i hi' hi
                          rw [he0] at h7
                          have hw0 := hwd (off + i) hlt
                          have ha0 := hall (off + i) hlt
                          generalize B.es[off + i] = e at h7 hw0 ha0
                          generalize es[i] = e' at h7
                          have hv : ∀ j (hj : j < e.cells.length), cs[(off + i) * B.w + j]? = some ((cs[(off + i) * B.w + j]?).getD Go.undef) ∧ Rep bad w m c e.cells[j] ((cs[(off + i) * B.w + j]?).getD Go.undef) := fun j hj => by
                            obtain ⟨y, hy, hry⟩ := ha0 j hj
                            rw [hy]; exact ⟨rfl, hry.rep⟩
                          cases n with
                          | zero => simp [trV] at h7
                          | succ n =>
                            cases e with
                            | agg vs =>
                              have h0 := h7
                              simp only [trV, Option.map_eq_some_iff] at h0
                              obtain ⟨vs', h8, rfl⟩ := h0
                              obtain ⟨a1, a2⟩ := mapO_spec h8
                              have hra : Rep bad w m c (.agg vs) (.agg ((List.range vs.length).map fun j => (cs[(off + i) * B.w + j]?).getD Go.undef).toArray) :=
                                .agg (by simp) fun j h1 h2 => by simpa [V.cells] using (hv j h1).2
                              obtain ⟨cs', q1, q2, q3⟩ := rep_agg (ih _ _ _ hra h7)
                              cases q1
                              refine ⟨a1.trans hw0, fun j hj => ?_⟩
                              have hj' : j < vs.length := by have : j < vs'.length := hj; omega
                              exact ⟨_, (hv j hj').1, by
                                have h12 := q3 j hj (by simpa using hj')
                                rw [List.getElem_toArray, List.getElem_map, List.getElem_range] at h12
                                exact h12⟩
                            | _ =>
                              have h10 : e'.cells = [e'] := trV_notAgg h7 rfl
                              have h11 := ih _ _ _ (hv 0 (by simp [V.cells])).2 h7
                              refine ⟨by rw [h10]; exact hw0, fun j hj => ?_⟩
                              have hj0 : j = 0 := by rw [h10] at hj; simpa using hj
                              subst hj0
                              refine ⟨_, (hv 0 (by simp [V.cells])).1, ?_⟩
                              simpa only [h10, List.getElem_cons_zero] using h11
                        refine .pure ?_
                        have key := RepP.ps (w := w) (ok := okOf bad' w m') (c := .any) (xs := es) (β := β) (o := off * l.w) (k := B.w) (cap := cap) (val := fun i j => (cs[(off + i) * B.w + j]?).getD Go.undef)
                          (by simp) (by omega) (by simp) (fun _ => hbor b hbm hk l β hm hblk) (fun i hi => (cell i hi).1) (fun i j hi hj => by
                            obtain ⟨y, hy, _⟩ := (cell i hi).2 j (by rw [(cell i hi).1]; exact hj)
                            rw [cell_of_row w β _ cs _ _ hcs, hlw, show off * B.w + i * B.w + j = (off + i) * B.w + j by rw [Nat.add_mul], hy]; rfl) (fun i hi j hj => by
                            obtain ⟨y, hy, hr'⟩ := (cell i hi).2 j hj
                            rw [hy]
                            exact pur_sound 3 (List.all_eq_true.1 (List.all_eq_true.1 hpu _ (List.getElem_mem hi)) _ (List.getElem_mem hj)) hr') (q := none) (by simp)
                        rw [e1, hlen] at key
                        exact key
                  · cases he
                · cases he
              · cases he
        · cases he
      · cases he
    | mp b s =>
      simp only [trV] at he
      split at he
      · rename_i B hg
        split at he
        · rename_i hs
          split at he
          · rename_i b' s' hk
            cases he
            obtain ⟨hsc, hm⟩ := hκ b b' s' hk
            obtain ⟨l, hml, hls, _⟩ := hh.get b B hg
            cases hr with
            | pure hr => cases hr
            | mp _ hx hb =>
              refine .mp hsc hx fun l' hl' hs' => ?_
              rw [hm l hml] at hl'; cases hl'
              exact hb l hml (hls.trans hs)
          · cases he
        · cases he
      · cases he
    | box b s i off =>
      simp only [trV] at he
      split at he
      · rename_i B hg
        split at he
        · rename_i hcond
          obtain ⟨hs, hn⟩ := hcond
          obtain ⟨l, β, cs, hm, hls, hlw, hlT, hblk, hcs, hsz, hle', hwd, hall⟩ := rep_block hh hg hs hn
          split at he
          · rename_i b' s' hk
            cases he
            obtain ⟨hsc, hm'⟩ := hκ b b' s' hk
            cases hr with
            | pure hr => cases hr
            | box _ hx hb =>
              refine .box hsc hx fun l' hl' hs' => ?_
              rw [hm' l hm] at hl'; cases hl'
              exact hb l hm hls
          · rename_i hk
            split at he
            · rename_i hcb
              have hbm : b ∈ bor := by simpa using hcb
              split at he
              · rename_i e hei
                split at he
                · rename_i hpe
                  obtain ⟨hpe, hoff⟩ := hpe
                  cases he
                  obtain ⟨hlt, hv⟩ := List.getElem?_eq_some_iff.1 hei
                  cases hr with
                  | pure hr => cases hr
                  | box _ hx hb =>
                    obtain ⟨β', h1, rfl⟩ := hb l hm hls
                    rw [hblk] at h1; cases h1
                    refine .pure ?_
                    rw [hlw]
                    refine .ref (hbor b hbm hk l β hm hblk) hoff (val := fun j => (cs[i * B.w + j]?).getD Go.undef) (fun j hj => ?_) fun j hj => ?_
                    · obtain ⟨y, hy, _⟩ := hall i hlt j (by rw [hv]; exact hj)
                      rw [cell_of_row w β _ cs _ _ hcs, hy]; rfl
                    · obtain ⟨y, hy, hr⟩ := hall i hlt j (by rw [hv]; exact hj)
                      rw [hy]
                      subst hv
                      exact mono (pur_sound 3 (List.all_eq_true.1 hpe _ (List.getElem_mem hj)) hr.rep)
                · split at he
                  · rename_i hone
                    obtain ⟨hag, hoff⟩ := hone
                    subst hoff
                    split at he
                    · rename_i e' he2
                      split at he
                      · rename_i hpe
                        obtain ⟨hpe, hag'⟩ := hpe
                        cases he
                        obtain ⟨hlt, hv⟩ := List.getElem?_eq_some_iff.1 hei
                        have hc1 : e.cells = [e] := by cases e <;> simp_all [V.cells, V.isAgg]
                        have hc2 : e'.cells = [e'] := by cases e' <;> simp_all [V.cells, V.isAgg]
                        cases hr with
                        | pure hr => cases hr
                        | box _ hx hb =>
                          obtain ⟨β', h1, rfl⟩ := hb l hm hls
                          rw [hblk] at h1; cases h1
                          refine .pure ?_
                          rw [hlw]
                          have hc3 : B.es[i].cells = [e] := by rw [hv]; exact hc1
                          obtain ⟨y, hy, hry⟩ := hall i hlt 0 (by rw [hc3]; simp)
                          have hr0 : Rep bad w m c e y := by
                            have := hry.rep
                            simpa only [hc3, List.getElem_cons_zero] using this
                          have h5 := pur_sound 3 hpe (ih _ _ _ hr0 he2)
                          refine .ref (hbor b hbm hk l β hm hblk) (by rw [hc2]; simp) (val := fun j => (cs[i * B.w + j]?).getD Go.undef) (fun j hj => ?_) fun j hj => ?_
                          · rw [hc2] at hj
                            obtain rfl : j = 0 := by simp at hj; omega
                            rw [cell_of_row w β _ cs _ _ hcs, hy]; rfl
                          · have hj0 : j = 0 := by rw [hc2] at hj; simp at hj; omega
                            subst hj0
                            rw [hy]
                            simpa only [hc2, List.getElem_cons_zero, Option.getD_some] using h5
                      · cases he
                    · cases he
                  · split at he
                    · rename_i hpt
                      obtain ⟨hag, hoff⟩ := hpt
                      cases he
                      obtain ⟨hlt, hv⟩ := List.getElem?_eq_some_iff.1 hei
                      cases hr with
                      | pure hr => cases hr
                      | box _ hx hb =>
                        obtain ⟨β', h1, rfl⟩ := hb l hm hls
                        rw [hblk] at h1; cases h1
                        refine .pure ?_
                        rw [hlw]
                        refine .ref (hbor b hbm hk l β hm hblk) (by simpa [V.cells] using hoff) (val := fun j => (cs[i * B.w + j]?).getD Go.undef) (fun j hj => ?_) fun j hj => ?_
                        · have hj' : j < e.cells.length := by simpa [V.cells] using hj
                          obtain ⟨y, hy, _⟩ := hall i hlt j (by rw [hv]; exact hj')
                          rw [cell_of_row w β _ cs _ _ hcs, hy]; rfl
                        · have hj' : j < e.cells.length := by simpa [V.cells] using hj
                          obtain ⟨y, hy, hr⟩ := hall i hlt j (by rw [hv]; exact hj')
                          rw [hy]
                          subst hv
                          have e2 : (V.agg (B.es[i].cells.map pureOr)).cells[j] = pureOr B.es[i].cells[j] := by simp [V.cells]
                          rw [e2]
                          unfold pureOr
                          split
                          · rename_i hpp; exact mono (pur_sound 3 hpp hr.rep)
                          · exact .undef _
                    · cases he
              · cases he
            · cases he
        · cases he
      · cases he

def eraseAll (h : Hp) : List Nat → Hp
  | [] => h
  | b :: r => eraseAll (h.erase b) r

def dropM (m : MM) (bs : List Nat) : MM := fun b => if b ∈ bs then none else m b

theorem dropM_cons (m : MM) (b : Nat) (r : List Nat) : dropM (upd m b none) r = dropM m (b :: r) := by
  funext k
  simp only [dropM, upd, List.mem_cons]
  by_cases h1 : k ∈ r <;> by_cases h2 : k = b <;> simp [h1, h2]

theorem eraseAll_sound {w : World} {c : Nat} : ∀ (bs : List Nat) {h : Hp} {m : MM}, HeapRep bad h w m c → Le w m c w (dropM m bs) c ∧ HeapRep bad (eraseAll h bs) w (dropM m bs) c
  | [], h, m, hh => by
    have : dropM m [] = m := by funext k; simp [dropM]
    rw [this]; exact ⟨Le.refl _ _ _, hh⟩
  | b :: r, h, m, hh => by
    obtain ⟨h1, h2⟩ := hh.erase b
    obtain ⟨h3, h4⟩ := eraseAll_sound r h2
    rw [dropM_cons] at h3 h4
    exact ⟨h1.trans h3, h4⟩

/-- It holds no address. -/
def scal : Nat → V → Bool
  | 0, _ => false
  | n + 1, v => match v with
    | .p _ => true
    | .agg vs | .tup vs => vs.all (scal n)
    | .ps _ [] => true
    | _ => false

theorem scal_rep {w w' : World} {ok ok' : Nat → Prop} : ∀ (n : Nat) {v : V} {x : Value}, scal n v = true → RepP w ok v x → RepP w' ok' v x := by
  intro n
  induction n with
  | zero => intro v x h; simp [scal] at h
  | succ n ih =>
    intro v x h hr
    cases hr with
    | p x => exact .p x
    | agg hl hr => simp only [scal, List.all_eq_true] at h; exact .agg hl fun i h1 h2 => ih (h _ (List.getElem_mem h1)) (hr i h1 h2)
    | tup hl hr => simp only [scal, List.all_eq_true] at h; exact .tup hl fun i h1 h2 => ih (h _ (List.getElem_mem h1)) (hr i h1 h2)
    | psNil hn => exact .psNil hn
    | @ps c xs β o k cap q val hn hcap hfull hβ hw hc hr2 hq =>
      cases xs with
      | nil => exact .ps (k := k) (val := val) hn hcap hfull (fun h => absurd rfl h) (fun i h => absurd h (by simp)) (fun i j h => absurd h (by simp)) (fun i h => absurd h (by simp)) hq
      | cons a r => simp [scal] at h
    | _ => simp [scal] at h

theorem rep_noM {w : World} {c : Nat} {v : V} {x : Value} (h : Rep bad w noM c v x) : ∀ (_ : pur 6 v = true), RepP w (okOf bad w noM) v x := fun hp => pur_sound 6 hp h

/-- A call of a pure function. -/
theorem CallsA_pure {g : FuncId} {h : Hp} {c : Nat} {vs vs' : List V} {r : V} {bor : List Nat} {dep : Nat} (ht : mapO (trV h (fun _ => none) bor dep) vs = some vs') (hpu : vs'.all (pur 6) = true) (hp : PT P g vs' r) (keep : Bool) (hk : keep = true → scal 4 r = true) :
    CallsA P bad h c g vs r (if keep then h else eraseAll h bor) c := by
  intro w m xs hh hl hr
  obtain ⟨hl', htr⟩ := mapO_spec ht
  let bad' : Nat → Prop := fun β => bad β ∨ ∃ b l, b ∉ bor ∧ m b = some l ∧ l.blk = some β
  have hbad' : ∀ β, bad' β → β < w.heap.size := fun β hβ => by
    rcases hβ with h1 | ⟨b, l, _, h1, h2⟩
    · exact hh.lt β h1
    · exact hh.blk_lt h1 h2
  have hok : ∀ β, okOf bad w m β → okOf bad' w noM β := fun β hβ => ⟨hβ.1, fun h1 => by
    rcases h1 with h1 | ⟨b, l, _, h1, h2⟩
    · exact hβ.2.1 h1
    · exact hβ.2.2 b l h1 h2, fun b l h1 => by simp [noM] at h1⟩
  have hargs : ∀ i (h1 : i < vs'.length) (h2 : i < xs.size), RepP w (okOf bad' w noM) vs'[i] xs[i] := fun i h1 h2 => by
    have := trV_sound (bad' := bad') (m' := noM) (c' := c) hh hok (κ := fun _ => none) (bor := bor) (fun b b' s' h => by cases h) (fun b hb _ l β h3 h4 => ⟨hh.blk_lt h3 h4, fun h5 => by
      rcases h5 with h5 | ⟨b2, l2, h6, h7, h8⟩
      · exact hh.nb b l β h3 h4 h5
      · exact h6 (hh.inj b b2 l l2 β h3 h7 h4 h8 ▸ hb), fun b l h1 => by simp [noM] at h1⟩) dep _ _ _ (hr i (by omega) h2) (htr i (by omega) h1)
    exact rep_noM this (List.all_eq_true.1 hpu _ (List.getElem_mem h1))
  refine (hp bad' w xs hbad' (by omega) hargs).mono ?_
  rintro e w' ⟨x, rfl, hrx, hle⟩
  have hkeep : ∀ β, β < w.heap.size → w'.heap[β]? = w.heap[β]? := fun β hβ => hle.keep β hβ fun b l h1 => by simp [noM] at h1
  cases keep with
  | true =>
    obtain ⟨le1, hh1⟩ := hh.world hkeep hle.size hle.os hle.output hle.tape
    exact ⟨x, m, rfl, .pure (scal_rep 4 (hk rfl) hrx), le1, hh1⟩
  | false =>
    obtain ⟨le1, hh1⟩ := eraseAll_sound (bad := bad) bor hh
    obtain ⟨le2, hh2⟩ := hh1.world hkeep hle.size hle.os hle.output hle.tape
    refine ⟨x, _, rfl, .pure (hrx.mono fun β hβ => ⟨⟨hβ.1, fun h1 => hβ.2.1 (.inl h1), fun b l h1 h2 => ?_⟩, fun _ => rfl⟩), le1.trans le2, hh2⟩
    unfold dropM at h1
    split at h1
    · cases h1
    · rename_i h3
      exact hβ.2.1 (.inr ⟨b, l, h3, h1, h2⟩)

end
end Go.Mx
