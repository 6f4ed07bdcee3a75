/-
  The abstract machine's operations are sound: freezing, stores, append.
-/
import Derived.Test.YtpcngdlglejgeaaGreatDoorNy5
namespace Go.Mx
set_option linter.unusedVariables false
set_option linter.unusedSimpArgs false

section
variable {P : Program} {T : TypeId → Option TI} {w : World} {c : Nat} {bad : Nat → Prop}

theorem RepP.le {m m' : MM} (hle : Le w m c w m' c) {v : V} {x : Value} (h : RepP w (okOf bad w m) v x) : RepP w (okOf bad w m') v x :=
  h.mono fun β hβ => ⟨(hle.hok hβ).1, fun _ => rfl⟩

theorem pur_sound {m : MM} : ∀ (n : Nat) {v : V} {x : Value}, pur n v = true → Rep bad w m c v x → RepP w (okOf bad w m) v x := by
  intro n
  induction n with
  | zero => intro v x h; simp [pur] at h
  | succ n ih =>
    intro v x h hr
    cases hr with
    | pure h => exact h
    | agg hl hr =>
      simp only [pur, List.all_eq_true] at h
      exact .agg hl fun i h1 h2 => ih (h _ (List.getElem_mem h1)) (hr i h1 h2)
    | tup hl hr =>
      simp only [pur, List.all_eq_true] at h
      exact .tup hl fun i h1 h2 => ih (h _ (List.getElem_mem h1)) (hr i h1 h2)
    | fn hl hl' hr hr' =>
      simp only [pur, Bool.and_eq_true, List.all_eq_true] at h
      exact .fn hl hl' (fun i h1 h2 => ih (h.1 _ (List.getElem_mem h1)) (hr i h1 h2)) fun i h1 h2 => ih (h.2 _ (List.getElem_mem h1)) (hr' i h1 h2)
    | box => simp [pur] at h
    | sl => simp [pur] at h
    | mp => simp [pur] at h

/-- What 'frz' owes. -/
def Fz (bad : Nat → Prop) (w : World) (c : Nat) (f : Hp → V → Option (V × Hp)) : Prop :=
  ∀ h v v' h' m x, HeapRep bad h w m c → f h v = some (v', h') → Rep bad w m c v x → ∃ m', Le w m c w m' c ∧ HeapRep bad h' w m' c ∧ RepP w (okOf bad w m') v' x

theorem mapH_sound {f : Hp → V → Option (V × Hp)} (hf : Fz bad w c f) : ∀ (vs : List V) (h : Hp) (vs' : List V) (h' : Hp) (m : MM) (xs : List Value), HeapRep bad h w m c → mapH f h vs = some (vs', h') →
    vs.length = xs.length → (∀ i (h1 : i < vs.length) (h2 : i < xs.length), Rep bad w m c vs[i] xs[i]) →
    ∃ m', Le w m c w m' c ∧ HeapRep bad h' w m' c ∧ vs'.length = vs.length ∧ ∀ i (h1 : i < vs'.length) (h2 : i < xs.length), RepP w (okOf bad w m') vs'[i] xs[i] := by
  intro vs
  induction vs with
  | nil =>
    intro h vs' h' m xs hh he hl hr
    simp only [mapH, Option.some.injEq, Prod.mk.injEq] at he
    obtain ⟨rfl, rfl⟩ := he
    exact ⟨m, Le.refl _ _ _, hh, rfl, fun i h1 _ => by simp at h1⟩
  | cons v r ih =>
    intro h vs' h' m xs hh he hl hr
    obtain ⟨x, xs, rfl⟩ : ∃ x l, xs = x :: l := by cases xs <;> simp_all
    simp only [mapH] at he
    split at he
    · rename_i v1 h1 hf1
      split at he
      · rename_i r' h2 hm2
        simp only [Option.some.injEq, Prod.mk.injEq] at he
        obtain ⟨rfl, rfl⟩ := he
        obtain ⟨m1, le1, hh1, hp1⟩ := hf _ _ _ _ _ x hh hf1 (hr 0 (by simp) (by simp))
        obtain ⟨m2, le2, hh2, hl2, hp2⟩ := ih h1 r' h2 m1 xs hh1 hm2 (by simpa using hl) (fun i a b => by
          have := hr (i + 1) (by simp; omega) (by simp; omega)
          simp only [List.getElem_cons_succ] at this
          exact this.mono le1)
        refine ⟨m2, le1.trans le2, hh2, by simp [hl2], fun i a b => ?_⟩
        cases i with
        | zero => exact RepP.le le2 hp1
        | succ i => simpa using hp2 i (by simpa using a) (by simpa using b)
      · cases he
    · cases he

theorem mapH_shape {f : Hp → V → Option (V × Hp)} {g : V → Nat × Bool} (hf : ∀ h v v' h', f h v = some (v', h') → g v' = g v) : ∀ (vs : List V) (h : Hp) (vs' : List V) (h' : Hp), mapH f h vs = some (vs', h') → vs'.map g = vs.map g
  | [], h, vs', h', he => by simp only [mapH, Option.some.injEq, Prod.mk.injEq] at he; rw [← he.1]
  | v :: r, h, vs', h', he => by
    simp only [mapH] at he
    split at he
    · rename_i v1 h1 hf1
      split at he
      · rename_i r' h2 hm2
        simp only [Option.some.injEq, Prod.mk.injEq] at he
        rw [← he.1, List.map_cons, List.map_cons, hf _ _ _ _ hf1, mapH_shape hf r h1 r' h2 hm2]
      · cases he
    · cases he

theorem mapH_len {f : Hp → V → Option (V × Hp)} : ∀ (vs : List V) (h : Hp) (vs' : List V) (h' : Hp), mapH f h vs = some (vs', h') → vs'.length = vs.length := fun vs h vs' h' he => by
  have := mapH_shape (g := fun _ => (0, false)) (fun _ _ _ _ _ => rfl) vs h vs' h' he
  simpa using congrArg List.length this

theorem frz_shape : ∀ (n : Nat) (h : Hp) (v v' : V) (h' : Hp), frz n h v = some (v', h') → (v'.cells.length, v'.isAgg) = (v.cells.length, v.isAgg) := by
  intro n
  cases n with
  | zero => intro h v v' h' he; simp [frz] at he
  | succ n =>
    intro h v v' h' he
    cases v with
    | p y => simp only [frz, Option.some.injEq, Prod.mk.injEq] at he; rw [← he.1]
    | undef => simp only [frz, Option.some.injEq, Prod.mk.injEq] at he; rw [← he.1]
    | ref u off => simp only [frz, Option.some.injEq, Prod.mk.injEq] at he; rw [← he.1]
    | ps k xs => simp only [frz, Option.some.injEq, Prod.mk.injEq] at he; rw [← he.1]
    | box b s i off =>
      simp only [frz] at he
      split at he
      · split at he
        · split at he
          · simp only [Option.some.injEq, Prod.mk.injEq] at he; rw [← he.1]; rfl
          · cases he
        · cases he
      · cases he
    | mp b s => simp [frz] at he
    | sl b s off len tip =>
      simp only [frz] at he
      split at he
      · split at he
        · split at he
          · cases he
          · split at he
            · simp only [Option.some.injEq, Prod.mk.injEq] at he; rw [← he.1]; rfl
            · cases he
        · split at he
          · simp only [Option.map_eq_some_iff, Prod.mk.injEq] at he
            obtain ⟨x, _, rfl, _⟩ := he; rfl
          · cases he
      · cases he
    | agg vs =>
      simp only [frz, Option.map_eq_some_iff, Prod.mk.injEq] at he
      obtain ⟨x, hm, rfl, _⟩ := he
      have := mapH_len _ _ _ _ hm
      simp [V.cells, V.isAgg, this]
    | tup vs =>
      simp only [frz, Option.map_eq_some_iff, Prod.mk.injEq] at he
      obtain ⟨x, hm, rfl, _⟩ := he; rfl
    | fn f zs bs =>
      simp only [frz] at he
      split at he
      · simp only [Option.map_eq_some_iff, Prod.mk.injEq] at he
        obtain ⟨x, hm, rfl, _⟩ := he; rfl
      · cases he

theorem cells_nonagg {v : V} (h : v.isAgg = false) : v.cells = [v] := by cases v <;> first | rfl | simp [V.isAgg] at h

/-- A row whose elements hold rows of the frame's own, let go with all of these. -/
theorem frz_deep {n : Nat} (ih : Fz bad w c (frz n)) {h : Hp} {m : MM} (hh : HeapRep bad h w m c) {b s off len : Nat} {tip : Bool} {x : Value} {B : Blk} (hg : h.get b = some B) (hs : B.s = s) (hn : B.nl = false) (hle : off + len ≤ B.es.length)
    (hr : Rep bad w m c (.sl b s off len tip) x) {vs' : List V} {h' : Hp} (he : mapH (frz n) (h.erase b) ((B.es.drop off).take len) = some (vs', h')) :
    ∃ m', Le w m c w m' c ∧ HeapRep bad h' w m' c ∧ RepP w (okOf bad w m') (.ps .any vs') x := by
  obtain ⟨l, β, cs, hm, hls, hlw, hlT, hblk, hcs, hsz, hle', hwd, hall⟩ := rep_block hh hg hs hn
  obtain ⟨le1, hh1⟩ := hh.erase b
  have hlen : ((B.es.drop off).take len).length = len := by simp; omega
  let val : Nat → Nat → Value := fun i j => (cs[(off + i) * B.w + j]?).getD Go.undef
  let es := (B.es.drop off).take len
  have hes : ∀ i (hi : i < es.length), es[i].cells.length = B.w ∧ ∀ j (hj : j < es[i].cells.length), cs[(off + i) * B.w + j]? = some (val i j) ∧ Rep bad w (upd m b none) c es[i].cells[j] (val i j) := fun i hi => by
    obtain ⟨h', e⟩ := sub_list hle hi
    have h1 : es[i] = B.es[off + i] := e
    have hw0 := hwd (off + i) h'
    have ha0 := hall (off + i) h'
    rw [← h1] at hw0 ha0
    refine ⟨hw0, fun j hj => ?_⟩
    obtain ⟨y, hy, hry⟩ := ha0 j hj
    simp only [val, hy]
    exact ⟨rfl, hry.rep.mono le1⟩
  let vals : List Value := (List.range es.length).map fun i => match es[i]? with
    | some e => if e.isAgg then .agg ((List.range e.cells.length).map fun j => val i j).toArray else val i 0
    | none => Go.undef
  have hvl : vals.length = es.length := by simp [vals]
  have hvi : ∀ i (hi : i < es.length) (hv : i < vals.length), vals[i] = if es[i].isAgg then .agg ((List.range es[i].cells.length).map fun j => val i j).toArray else val i 0 := fun i hi hv => by
    simp only [vals, List.getElem_map, List.getElem_range, List.getElem?_eq_getElem hi]
  obtain ⟨m', le2, hh2, hl2, hp2⟩ := mapH_sound ih es (h.erase b) vs' h' _ vals hh1 he hvl.symm (fun i h1 h2 => by
    rw [hvi i h1 h2]
    obtain ⟨e1, e2⟩ := hes i h1
    generalize es[i] = e at e1 e2
    cases hag : e.isAgg with
    | true =>
      simp only [if_true]
      cases e with
      | agg us =>
        exact .agg (by simp [V.cells]) fun j a1 a2 => by
          rw [List.getElem_toArray, List.getElem_map, List.getElem_range]
          exact (e2 j a1).2
      | _ => simp [V.isAgg] at hag
    | false =>
      simp only [Bool.false_eq_true, if_false]
      have h3 := cells_nonagg hag
      have h4 := (e2 0 (by rw [h3]; simp)).2
      simpa only [h3, List.getElem_cons_zero] using h4)
  have hshape := mapH_shape (g := fun v => (v.cells.length, v.isAgg)) (fun _ _ _ _ h => frz_shape n _ _ _ _ h) _ _ _ _ he
  have hvlen : vs'.length = len := hl2.trans hlen
  have helen : es.length = len := hlen
  refine ⟨m', le1.trans le2, hh2, ?_⟩
  cases hr with
  | pure hr => cases hr
  | sl hs' hx hb =>
    rcases hb l hm hls with ⟨h0, _⟩ | ⟨β', cap, h1, rfl, h2, _⟩
    · rw [hblk] at h0; cases h0
    · rw [hblk] at h1; cases h1
      have hok : okOf bad w (upd m b none) β := by
        refine ⟨hh.blk_lt hm hblk, hh.nb b l β hm hblk, fun k l' hk hk' => ?_⟩
        unfold upd at hk
        split at hk
        · cases hk
        · rename_i hne; exact hne (hh.inj k b l' l β hk hm hk' hblk)
      have hsh : ∀ i (hi : i < vs'.length), vs'[i].cells.length = (es[i]'(by omega)).cells.length ∧ vs'[i].isAgg = (es[i]'(by omega)).isAgg := fun i hi => by
        have h3 : (vs'.map fun v : V => (v.cells.length, v.isAgg))[i]? = (es.map fun v : V => (v.cells.length, v.isAgg))[i]? := by rw [hshape]
        have hi2 : i < es.length := by omega
        simp only [List.getElem?_map, List.getElem?_eq_getElem hi, List.getElem?_eq_getElem hi2, Option.map_some, Option.some.injEq, Prod.mk.injEq] at h3
        exact h3
      have key := RepP.ps (w := w) (ok := okOf bad w m') (c := .any) (xs := vs') (β := β) (o := off * l.w) (k := B.w) (cap := cap) (val := val)
        (by simp) (by omega) (by simp) (fun _ => (le2.hok hok).1) (fun i hi => by rw [(hsh i hi).1]; exact (hes i (by omega)).1) (fun i j hi hj => by
          have hi2 : i < es.length := by omega
          have h3 := ((hes i hi2).2 j (by rw [(hes i hi2).1]; exact hj)).1
          rw [cell_of_row w β _ cs _ _ hcs, hlw, show off * B.w + i * B.w + j = (off + i) * B.w + j by rw [Nat.add_mul], h3]) (fun i hi j hj => by
          have hi2 : i < es.length := by omega
          have h3 := hp2 i hi (by omega)
          rw [hvi i hi2 (by omega)] at h3
          obtain ⟨q1, q2⟩ := hsh i hi
          generalize vs'[i] = e' at h3 q1 q2 hj
          generalize es[i] = e at h3 q1 q2
          cases hag : e.isAgg with
          | true =>
            rw [hag] at h3 q2
            simp only [if_true] at h3
            cases e' <;> simp [V.isAgg] at q2
            cases h3 with
            | agg hl hrr =>
              have h5 := hrr j hj (by simp; rw [← q1]; exact hj)
              rw [List.getElem_toArray, List.getElem_map, List.getElem_range] at h5
              exact h5
          | false =>
            rw [hag] at h3 q2
            simp only [Bool.false_eq_true, if_false] at h3
            have h4 := cells_nonagg q2
            have hj0 : j = 0 := by rw [h4] at hj; simpa using hj
            subst hj0
            simpa only [h4, List.getElem_cons_zero] using h3) (q := none) (by simp)
      rw [hvlen] at key
      exact key

theorem frz_sound : ∀ n, Fz bad w c (frz n) := by
  intro n
  induction n with
  | zero => intro h v v' h' m x _ he; simp [frz] at he
  | succ n ih =>
    intro h v v' h' m x hh he hr
    have leaf : ∀ u, v = u → (v', h') = (u, h) → RepP w (okOf bad w m) u x → ∃ m', Le w m c w m' c ∧ HeapRep bad h' w m' c ∧ RepP w (okOf bad w m') v' x := by
      rintro u rfl h0 hp
      simp only [Prod.mk.injEq] at h0
      obtain ⟨rfl, rfl⟩ := h0
      exact ⟨m, Le.refl _ _ _, hh, hp⟩
    cases v with
    | p y =>
      simp only [frz, Option.some.injEq] at he
      exact leaf _ rfl he.symm (by cases hr with | pure h => exact h)
    | undef =>
      simp only [frz, Option.some.injEq] at he
      exact leaf _ rfl he.symm (.undef _)
    | ref u off =>
      simp only [frz, Option.some.injEq] at he
      exact leaf _ rfl he.symm (by cases hr with | pure h => exact h)
    | ps k xs =>
      simp only [frz, Option.some.injEq] at he
      exact leaf _ rfl he.symm (by cases hr with | pure h => exact h)
    | box b s i off =>
      simp only [frz] at he
      split at he
      · rename_i B hg
        split at he
        · rename_i e hei
          split at he
          · rename_i hcond
            obtain ⟨hs, hn, hoff, hpe⟩ := hcond
            simp only [Option.some.injEq, Prod.mk.injEq] at he
            obtain ⟨rfl, rfl⟩ := he
            obtain ⟨le, hh'⟩ := hh.erase b
            refine ⟨_, le, hh', ?_⟩
            obtain ⟨l, β, cs, hm, hls, hlw, hlT, hblk, hcs, hsz, hle', hwd, hall⟩ := rep_block hh hg hs hn
            obtain ⟨hlt, hv⟩ := List.getElem?_eq_some_iff.1 hei
            have hok : okOf bad w (upd m b none) β := by
              refine ⟨hh.blk_lt hm hblk, hh.nb b l β hm hblk, fun k l' hk hk' => ?_⟩
              unfold upd at hk
              split at hk
              · cases hk
              · rename_i hne; exact hne (hh.inj k b l' l β hk hm hk' hblk)
            cases hr with
            | pure hr => cases hr
            | box _ hx hb =>
              obtain ⟨β', h1, rfl⟩ := hb l hm hls
              rw [hblk] at h1; cases h1
              rw [hlw]
              refine .ref hok hoff (val := fun j => (cs[i * B.w + j]?).getD Go.undef) (fun j hj => ?_) fun j hj => ?_
              · obtain ⟨y, hy, _⟩ := hall i hlt j (by rw [hv]; exact hj)
                rw [cell_of_row w β _ cs _ _ hcs, hy]; rfl
              · obtain ⟨y, hy, hr⟩ := hall i hlt j (by rw [hv]; exact hj)
                rw [hy]
                subst hv
                exact RepP.le le (pur_sound 6 (List.all_eq_true.1 hpe _ (List.getElem_mem hj)) hr.rep)
          · cases he
        · cases he
      · cases he
    | mp b s => simp [frz] at he
    | sl b s off len tip =>
      simp only [frz] at he
      split at he
      · rename_i B hg
        split at he
        · rename_i hc
          split at he
          · rename_i hn
            cases he
          · rename_i hn
            split at he
            · rename_i hle
              simp only [Option.some.injEq, Prod.mk.injEq] at he
              obtain ⟨rfl, rfl⟩ := he
              obtain ⟨le, hh'⟩ := hh.erase b
              exact ⟨_, le, hh', frz_row hh hg hc.1 hc.2 (by simpa using hn) hle hr⟩
            · cases he
        · split at he
          · rename_i hc
            simp only [Option.map_eq_some_iff] at he
            obtain ⟨⟨vs', h1⟩, hm, he⟩ := he
            simp only [Prod.mk.injEq] at he
            obtain ⟨rfl, rfl⟩ := he
            exact frz_deep ih hh hg hc.1 hc.2.1 hc.2.2 hr hm
          · cases he
      · cases he
    | agg vs =>
      simp only [frz, Option.map_eq_some_iff] at he
      obtain ⟨⟨vs', h1⟩, hm, he⟩ := he
      simp only [Prod.mk.injEq] at he
      obtain ⟨rfl, rfl⟩ := he
      obtain ⟨cs, rfl, hl, hr'⟩ := rep_agg hr
      obtain ⟨m', le, hh', hl', hp⟩ := mapH_sound ih vs h vs' h1 m cs.toList hh hm (by simpa using hl) (fun i a b => by simpa using hr' i a (by simpa using b))
      exact ⟨m', le, hh', .agg (by omega) fun i a b => hp i a (by simpa using b)⟩
    | tup vs =>
      simp only [frz, Option.map_eq_some_iff] at he
      obtain ⟨⟨vs', h1⟩, hm, he⟩ := he
      simp only [Prod.mk.injEq] at he
      obtain ⟨rfl, rfl⟩ := he
      obtain ⟨cs, rfl, hl, hr'⟩ := rep_tup hr
      obtain ⟨m', le, hh', hl', hp⟩ := mapH_sound ih vs h vs' h1 m cs.toList hh hm (by simpa using hl) (fun i a b => by simpa using hr' i a (by simpa using b))
      exact ⟨m', le, hh', .tup (by omega) fun i a b => hp i a (by simpa using b)⟩
    | fn f zs bs =>
      simp only [frz] at he
      split at he
      · rename_i zs' h1 hm1
        simp only [Option.map_eq_some_iff] at he
        obtain ⟨⟨bs', h2⟩, hm, he⟩ := he
        simp only [Prod.mk.injEq] at he
        obtain ⟨rfl, rfl⟩ := he
        obtain ⟨cs, ds, rfl, hl, hlb, hra, hrb⟩ : ∃ cs ds, x = .func (.func f) cs ds ∧ zs.length = cs.size ∧ bs.length = ds.size ∧ (∀ i (h1 : i < zs.length) (h2 : i < cs.size), Rep bad w m c zs[i] cs[i]) ∧ ∀ i (h1 : i < bs.length) (h2 : i < ds.size), Rep bad w m c bs[i] ds[i] := by
          cases hr with
          | pure h => cases h with
            | fn a b p q => exact ⟨_, _, rfl, a, b, fun i h1 h2 => .pure (p i h1 h2), fun i h1 h2 => .pure (q i h1 h2)⟩
          | fn a b p q => exact ⟨_, _, rfl, a, b, p, q⟩
        obtain ⟨m1, le1, hh1, hl1, hp1⟩ := mapH_sound ih zs h zs' h1 m cs.toList hh hm1 (by simpa using hl) (fun i a b => by simpa using hra i a (by simpa using b))
        obtain ⟨m2, le2, hh2, hl2, hp2⟩ := mapH_sound ih bs h1 bs' h2 m1 ds.toList hh1 hm (by simpa using hlb) (fun i a b => by simpa using (hrb i a (by simpa using b)).mono le1)
        exact ⟨m2, le1.trans le2, hh2, .fn (by omega) (by omega) (fun i a b => RepP.le le2 (hp1 i a (by simpa using b))) fun i a b => hp2 i a (by simpa using b)⟩
      · cases he

theorem splice_get (cur vs : List Value) (o p : Nat) (h : o + vs.length ≤ cur.length) :
    (cur.take o ++ vs ++ cur.drop (o + vs.length))[p]? = if p < o then cur[p]? else if p < o + vs.length then vs[p - o]? else cur[p]? := by
  have ho : (cur.take o).length = o := by simp; omega
  by_cases h1 : p < o
  · rw [if_pos h1, List.append_assoc, List.getElem?_append_left (by omega), List.getElem?_take_of_lt h1]
  · rw [if_neg h1]
    by_cases h2 : p < o + vs.length
    · rw [if_pos h2, List.append_assoc, List.getElem?_append_right (by omega), ho, List.getElem?_append_left (by omega)]
    · rw [if_neg h2, List.getElem?_append_right (by simp; omega), List.getElem?_drop]
      congr 1
      simp; omega

theorem mul_apart {a b w i j k n : Nat} (hi : i < w) (hj : j + n ≤ w) (hne : a ≠ b) : ¬ (b * w + j ≤ a * w + i ∧ a * w + i < b * w + j + n) := by
  rcases Nat.lt_or_gt_of_ne hne with h | h
  · have := Nat.mul_le_mul_right w (show a + 1 ≤ b from h)
    rw [Nat.add_mul] at this
    omega
  · have := Nat.mul_le_mul_right w (show b + 1 ≤ a from h)
    rw [Nat.add_mul] at this
    omega

theorem optV_repS {w : World} {ok : Nat → Prop} {v : V} {x : Value} (h : RepP w ok v x) : RepP w ok (optV v) x := h

theorem evStore_sound {m : MM} (hT : TabOk P T) {h : Hp} (hh : HeapRep bad h w m c) {t : TypeId} {pv xv : V} {px x : Value} (hrp : Rep bad w m c pv px) (hrx : Rep bad w m c xv x) {h' : Hp} (he : evStore T h t pv xv = some h') :
    ∃ w' m', (Instr.storeAt t px x).run P w = .ok () w' ∧ Le w m c w' m' c ∧ HeapRep bad h' w' m' c := by
  unfold evStore at he
  split at he
  · rename_i i b s j off hTi
    obtain ⟨info, z, hi, hsz, _, hu, _⟩ := hT t i hTi
    split at he
    · rename_i B0 hg0
      split at he
      · rename_i x' h1 hx
        obtain ⟨m1, le1, hh1, hrc⟩ : ∃ m1, Le w m c w m1 c ∧ HeapRep bad h1 w m1 c ∧ RepC bad B0.var w m1 c x' x := by
          split at hx
          · rename_i hv
            simp only [Option.some.injEq, Prod.mk.injEq] at hx
            obtain ⟨rfl, rfl⟩ := hx
            exact ⟨m, Le.refl _ _ _, hh, by simpa [RepC, hv] using hrx⟩
          · rename_i hv
            rw [Option.map_eq_some_iff] at hx
            obtain ⟨⟨y, h2⟩, hx, he2⟩ := hx
            simp only [Prod.mk.injEq] at he2
            obtain ⟨rfl, rfl⟩ := he2
            obtain ⟨m1, a, b', c'⟩ := frz_sound 4 h xv y h2 m x hh hx hrx
            have c2 : RepP w (okOf bad w m1) y x := by simpa [RepC, hv] using c'
            exact ⟨m1, a, b', by simpa [RepC, hv] using optV_repS c2⟩
        split at he
        · rename_i B hg
          split at he
          · rename_i e hej
            split at he
            · rename_i hcond
              obtain ⟨⟨hs, hvar, hpos, hxl, hoff, hone⟩, hBw0⟩ := hcond
              cases he
              obtain ⟨l, β, cs, hm, hls, hlw, hlT, hblk, hcs, hcsz, hle', hwd, hall⟩ := rep_blockX hh1 hg hs (.inr hBw0) (box_blk (hrp.mono le1))
              obtain ⟨hjlt, hejv⟩ := List.getElem?_eq_some_iff.1 hej
              have hew : e.cells.length = B.w := by rw [← hejv]; exact hwd j hjlt
              have hfit : j * B.w + B.w ≤ B.es.length * B.w := by
                have := Nat.mul_le_mul_right B.w (show j + 1 ≤ B.es.length from hjlt)
                rw [Nat.add_mul] at this; omega
              have hrp1 := hrp.mono le1
              cases hrp1 with
              | pure hr => cases hr
              | box hs' hx' hb =>
                obtain ⟨β', h2, rfl⟩ := hb l hm hls
                rw [hblk] at h2; cases h2
                obtain ⟨hxs, hxr⟩ : x.cells.size = x'.cells.length ∧ ∀ k (a : k < x'.cells.length) (b : k < x.cells.size), RepC bad B0.var w m1 c x'.cells[k] x.cells[k] := by
                  unfold RepC at hrc ⊢
                  split at hrc
                  · rename_i hv; simp only [hv, if_true]; exact hrc.cells hone
                  · rename_i hv; simp only [hv]; exact hrc.cells hone
                have honec : ∀ u ∈ x.cells.toList, u.oneCell' = true := by
                  intro u hu
                  obtain ⟨k, hk, rfl⟩ := List.getElem_of_mem hu
                  simp only [Array.length_toList] at hk
                  have h3 : k < x'.cells.length := by omega
                  have h4 := (hxr k h3 hk).rep
                  have h5 : x'.cells[k].one = true := List.all_eq_true.1 hone _ (List.getElem_mem h3)
                  simpa using h4.one h5
                have hst := run_storeCells_at (P := P) β (j * l.w + off) B.T x.cells.toList 0 cs w hcs (by simp; rw [hlw]; omega) honec
                simp only [Nat.add_zero] at hst
                let vs := x.cells.toList
                have hvl : vs.length = i.size := by simp [vs]; omega
                have hfull : j * l.w + off + vs.length ≤ cs.toList.length := by rw [hvl, hlw]; simp; omega
                let cs' := (cs.toList.take (j * l.w + off) ++ vs ++ cs.toList.drop (j * l.w + off + vs.length)).toArray
                have hcs' : cs'.size = cs.size := by simp [cs']; rw [hvl, hlw] at *; omega
                -- the new element's cells
                generalize he' : (if off = 0 ∧ e.isAgg = true ∧ x'.isAgg = true ∧ e.cells.length = i.size then x'
                  else if e.isAgg = true then V.agg (e.cells.take off ++ x'.cells ++ e.cells.drop (off + i.size)) else (x'.cells.headD .undef)) = e'
                have hec : e'.cells = e.cells.take off ++ x'.cells ++ e.cells.drop (off + i.size) := by
                  subst he'
                  split
                  · rename_i h6
                    obtain ⟨rfl, _, _, h7⟩ := h6
                    rw [Nat.zero_add, ← h7]; simp
                  · split
                    · rfl
                    · rename_i h7
                      have h8 : e.cells = [e] := by cases e <;> first | rfl | simp [V.isAgg] at h7
                      rw [h8] at hoff ⊢
                      simp only [List.length_singleton] at hoff
                      have h9 : off = 0 := by omega
                      have h10 : i.size = 1 := by omega
                      subst h9
                      rw [h10] at hxl ⊢
                      obtain ⟨y, hy⟩ := List.length_eq_one_iff.1 hxl
                      have h11 : y.one = true := List.all_eq_true.1 hone y (by rw [hy]; simp)
                      rw [hy]
                      simp only [List.headD_cons, List.take_zero, List.nil_append]
                      cases y <;> first | rfl | simp [V.one] at h11
                have hecl : e'.cells.length = B.w := by rw [hec]; simp; omega
                have key := hh1.write hg hm hblk hcs (cs' := cs') hcs' (es := B.es.set j e') (by simp) (fun k hk => by
                  rw [List.getElem_set]
                  split
                  · exact hecl
                  · exact hwd k (by simpa using hk)) (fun k hk q hq => by
                  have hk' : k < B.es.length := by simpa using hk
                  have hget : ∀ p, cs'[p]? = if p < j * l.w + off then cs[p]? else if p < j * l.w + off + vs.length then vs[p - (j * l.w + off)]? else cs[p]? := fun p => by
                    have := splice_get cs.toList vs (j * l.w + off) p hfull
                    simpa [cs'] using this
                  by_cases hkj : j = k
                  · subst hkj
                    simp only [List.getElem_set_self] at hq ⊢
                    rw [hecl] at hq
                    rw [hget, hlw, hvl]
                    by_cases q1 : q < off
                    · rw [if_pos (by omega)]
                      obtain ⟨y, hy, hr⟩ := hall j hk' q (by rw [hwd]; exact hq)
                      refine ⟨y, hy, ?_⟩
                      have : e'.cells[q]'(by omega) = B.es[j].cells[q]'(by rw [hwd]; exact hq) := by
                        simp only [hec, hejv]
                        rw [List.getElem_append_left (by simp; omega), List.getElem_append_left (by simp; omega)]
                        simp
                      rw [this]; exact hr
                    · rw [if_neg (by omega)]
                      by_cases q2 : q < off + i.size
                      · rw [if_pos (by omega)]
                        have q3 : q - off < x.cells.size := by omega
                        refine ⟨x.cells[q - off], ?_, ?_⟩
                        · rw [show j * B.w + q - (j * B.w + off) = q - off by omega]
                          simp [vs, q3]
                        · have : e'.cells[q]'(by omega) = x'.cells[q - off]'(by omega) := by
                            simp only [hec]
                            rw [List.getElem_append_left (by simp; omega), List.getElem_append_right (by simp; omega)]
                            congr 1
                            simp; omega
                          rw [this, hvar]
                          exact hxr _ (by omega) q3
                      · rw [if_neg (by omega)]
                        obtain ⟨y, hy, hr⟩ := hall j hk' q (by rw [hwd]; exact hq)
                        refine ⟨y, hy, ?_⟩
                        have : e'.cells[q]'(by omega) = B.es[j].cells[q]'(by rw [hwd]; exact hq) := by
                          simp only [hec, hejv]
                          rw [List.getElem_append_right (by simp; omega)]
                          simp only [List.getElem_drop]
                          congr 1
                          simp; omega
                        rw [this]; exact hr
                  · simp only [List.getElem_set_ne hkj] at hq ⊢
                    obtain ⟨y, hy, hr⟩ := hall k hk' q hq
                    refine ⟨y, ?_, hr⟩
                    have hqw : q < B.w := by rw [← hwd k hk']; exact hq
                    have := mul_apart (a := k) (b := j) (w := B.w) (i := q) (j := off) (n := i.size) (k := 0) hqw (by omega) (Ne.symm hkj)
                    rw [hget, hlw, hvl]
                    split
                    · exact hy
                    · split
                      · exfalso; apply this; constructor <;> omega
                      · exact hy)
                refine ⟨_, m1, ?_, le1.trans key.1, ?_⟩
                · simp [Instr.storeAt, Instr.sureAddr, storeVar, sizeOf_run hi, hsz, show x.cells.size = i.size by omega]
                  exact hst
                · exact key.2
            · cases he
          · cases he
        · cases he
      · cases he
    · cases he
  · cases he

end
end Go.Mx
