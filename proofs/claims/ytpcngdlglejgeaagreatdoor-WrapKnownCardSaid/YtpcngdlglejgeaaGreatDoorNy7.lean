/-
  The abstract machine's operations are sound: append, what is built, what is cut.
-/
import Derived.Test.YtpcngdlglejgeaaGreatDoorNy6
import Derived.Deep.Upon
namespace Go.Mx
set_option linter.unusedVariables false
set_option maxHeartbeats 4000000
set_option linter.unusedSimpArgs false

section
variable {P : Program} {T : TypeId → Option TI} {w : World} {m : MM} {c : Nat} {bad : Nat → Prop}

/-- The elements of a slice, in memory. -/
theorem elems_sound {h : Hp} (hh : HeapRep bad h w m c) {v : V} {x : Value} {xs : List V} (hr : Rep bad w m c v x) (he : elems h v = some xs) :
    (xs = [] ∧ x = .slice none 0 0) ∨ (xs = [] ∧ ∃ a cap, x = .slice (some a) 0 cap) ∨
    ∃ (β o k cap : Nat) (val : Nat → Nat → Value), x = .slice (some ⟨β, o, none⟩) xs.length cap ∧ (∀ i (h : i < xs.length), xs[i].cells.length = k) ∧ (∀ i j, i < xs.length → j < k → w.cell? ⟨β, o + i * k + j, none⟩ = some (val i j)) ∧
      (∀ i (h : i < xs.length) j (h2 : j < xs[i].cells.length), RepP w (okOf bad w m) (xs[i].cells[j]) (val i j)) := by
  cases v <;> simp only [elems] at he <;> try (cases he; done)
  case ps k xs' =>
    cases he
    cases hr with
    | pure hr => cases hr with
      | psNil => exact .inl ⟨rfl, rfl⟩
      | ps hn hcap hfull hβ hw hc hr hq =>
        rename_i β o k' cap q val
        cases q with
        | none => exact .inr (.inr ⟨_, _, _, _, _, rfl, hw, hc, hr⟩)
        | some z =>
          have h0 := hq (by simp)
          have h1 : xs = [] := List.length_eq_zero_iff.1 (by omega)
          subst h1
          exact .inr (.inl ⟨rfl, _, _, rfl⟩)
  case sl b s off len tip =>
    split at he
    · rename_i B hg
      split at he
      · rename_i hcond
        obtain ⟨hs, hv, hle⟩ := hcond
        cases he
        obtain ⟨l0, hm0, hls0, _, _, _, hd⟩ := hh.get b B hg
        rcases Option.eq_none_or_eq_some l0.blk |>.symm with hb0 | hb0
        · obtain ⟨β0, hb0⟩ := hb0
          obtain ⟨l, β, cs, hm, hls, hlw, hlT, hblk, hcs, hsz, hle', hwd, hall⟩ := rep_blockX hh hg hs (.inl hv) (fun l1 hl1 _ => by rw [hm0] at hl1; cases hl1; rw [hb0]; simp)
          have hlen : ((B.es.drop off).take len).length = len := by simp; omega
          cases hr with
          | pure hr => cases hr
          | sl hs' hx hb =>
            rcases hb l hm hls with ⟨h0, _⟩ | ⟨β', cap, h1, rfl, h2, _⟩
            · rw [hblk] at h0; cases h0
            · rw [hblk] at h1; cases h1
              refine .inr (.inr ⟨β, off * l.w, B.w, cap, fun i j => (cs[(off + i) * B.w + j]?).getD Go.undef, by rw [hlen], fun i hi => ?_, fun i j hi hj => ?_, fun i hi j hj => ?_⟩)
              · obtain ⟨h', e⟩ := sub_list hle hi
                rw [e]; exact hwd _ _
              · obtain ⟨h', e⟩ := sub_list hle hi
                obtain ⟨y, hy, _⟩ := hall (off + i) h' j (by rw [hwd]; exact hj)
                rw [cell_of_row w β _ cs _ _ hcs, hlw, show off * B.w + i * B.w + j = (off + i) * B.w + j by rw [Nat.add_mul], hy]; simp [hy]
              · obtain ⟨h', e⟩ := sub_list hle hi
                have hj' : j < B.es[off + i].cells.length := by rw [← e]; exact hj
                obtain ⟨y, hy, hr'⟩ := hall (off + i) h' j hj'
                show RepP w (okOf bad w m) _ ((cs[(off + i) * B.w + j]?).getD Go.undef)
                rw [hy]
                simp only [hv, RepC] at hr'
                have e2 : ((B.es.drop off).take len)[i].cells[j] = B.es[off + i].cells[j] := by simp [e]
                rw [e2]
                exact hr'
        · rcases hd with ⟨_, hblk, hes⟩ | ⟨_, _, _, β1, _, _, hblk1, _⟩ | ⟨_, β1, cs1, hblk1, _⟩
          · cases hr with
            | pure hr => cases hr
            | sl _ _ hb =>
              rcases hb l0 hm0 (hls0.trans hs) with ⟨_, _, _, rfl⟩ | ⟨β, _, h1, _⟩
              · exact .inl ⟨by rw [hes]; simp, rfl⟩
              · rw [hblk] at h1; cases h1
          · rw [hb0] at hblk1; cases hblk1
          · rw [hb0] at hblk1; cases hblk1
      · cases he
    · cases he

/-- The cells of elements, one behind the other. -/
def flatV (xs : List V) : List V := xs.flatMap V.cells

theorem flat_get {α β : Type} (f : α → List β) (k : Nat) : ∀ (xs : List α) (hk : ∀ x ∈ xs, (f x).length = k) (i : Nat) (hi : i < xs.length) (j : Nat) (hj : j < k), (xs.flatMap f)[i * k + j]? = (f xs[i])[j]? := by
  intro xs
  induction xs with
  | nil => intro _ i hi; simp at hi
  | cons x r ih =>
    intro hk i hi j hj
    have hx := hk x (by simp)
    cases i with
    | zero => simp only [Nat.zero_mul, Nat.zero_add, List.flatMap_cons, List.getElem_cons_zero]; rw [List.getElem?_append_left (by omega)]
    | succ i =>
      rw [List.flatMap_cons, List.getElem?_append_right (by rw [hx, Nat.add_mul]; omega), hx, show (i + 1) * k + j - k = i * k + j by rw [Nat.add_mul]; omega]
      simpa using ih (fun y hy => hk y (by simp [hy])) i (by simpa using hi) j hj

theorem flat_length {α β : Type} (f : α → List β) (k : Nat) (xs : List α) (hk : ∀ x ∈ xs, (f x).length = k) : (xs.flatMap f).length = xs.length * k := by
  induction xs with
  | nil => simp
  | cons x r ih => rw [List.flatMap_cons, List.length_append, hk x (by simp), ih (fun y hy => hk y (by simp [hy])), List.length_cons, Nat.add_mul]; omega

/-- The values of n elements of k cells, in a list. -/
def flatC (n k : Nat) (val : Nat → Nat → Value) : List Value := (List.range n).flatMap fun i => (List.range k).map (val i)

theorem flatC_length (n k : Nat) (val : Nat → Nat → Value) : (flatC n k val).length = n * k := by
  unfold flatC
  rw [flat_length _ k _ (by simp)]
  simp

theorem flatC_get (n k : Nat) (val : Nat → Nat → Value) (i j : Nat) (hi : i < n) (hj : j < k) : (flatC n k val)[i * k + j]? = some (val i j) := by
  unfold flatC
  rw [flat_get _ k _ (by simp) i (by simpa using hi) j hj]
  simp [hj]

theorem flatC_mem {n k : Nat} {val : Nat → Nat → Value} {u : Value} (h : u ∈ flatC n k val) : ∃ i j, i < n ∧ j < k ∧ u = val i j := by
  unfold flatC at h
  simp only [List.mem_flatMap, List.mem_range, List.mem_map] at h
  obtain ⟨i, hi, j, hj, rfl⟩ := h
  exact ⟨i, j, hi, hj, rfl⟩

theorem flatC_ix {n k : Nat} (val : Nat → Nat → Value) {p : Nat} {u : Value} (h : (flatC n k val)[p]? = some u) : p / k < n ∧ p % k < k ∧ u = val (p / k) (p % k) ∧ p = p / k * k + p % k := by
  obtain ⟨hlt, _⟩ := List.getElem?_eq_some_iff.1 h
  rw [flatC_length] at hlt
  have hk : 0 < k := by
    rcases Nat.eq_zero_or_pos k with h0 | h0
    · subst h0; simp at hlt
    · exact h0
  have h1 : p / k < n := (Nat.div_lt_iff_lt_mul hk).2 hlt
  have h2 : p % k < k := Nat.mod_lt _ hk
  have h3 : p = p / k * k + p % k := by have := Nat.div_add_mod p k; rw [Nat.mul_comm] at this; omega
  refine ⟨h1, h2, ?_, h3⟩
  rw [h3, flatC_get n k val _ _ h1 h2] at h
  exact (Option.some.inj h).symm

/-- A block of the frame's own goes on under another name: its row was written. -/
theorem HeapRep.take {h : Hp} (hh : HeapRep bad h w m c) {b : Nat} {l : Loc} {β : Nat} (hm : m b = some l) (hβ : l.blk = some β) (d : Nat) {w' : World} (hk : ∀ γ, γ < w.heap.size → γ ≠ β → w'.heap[γ]? = w.heap[γ]?) (hs : w.heap.size ≤ w'.heap.size)
    (ho : w'.os = w.os) (hp : w'.output = w.output) (ht : w'.tape = w.tape) {e : TypeId} {wd : Nat} {es : List V} {cs : Array Value} (hc : w'.heap[β]? = some (.cells cs e (0, 0))) (hl : es.length * wd ≤ cs.size)
    (hw : ∀ i (h : i < es.length), es[i].cells.length = wd) (hr : ∀ i (h : i < es.length) j (h2 : j < es[i].cells.length), ∃ x, cs[i * wd + j]? = some x ∧ RepP w (okOf bad w m) es[i].cells[j] x) :
    Le w m c w' (upd (upd m b none) d (some ⟨c, e, wd, cs.size, some β⟩)) (c + 1) ∧ HeapRep bad ((h.erase b).set d ⟨c, e, wd, false, false, es⟩) w' (upd (upd m b none) d (some ⟨c, e, wd, cs.size, some β⟩)) (c + 1) := by
  have split' : ∀ k l', upd (upd m b none) d (some ⟨c, e, wd, cs.size, some β⟩) k = some l' → (k = d ∧ l' = ⟨c, e, wd, cs.size, some β⟩) ∨ (k ≠ d ∧ k ≠ b ∧ m k = some l') := fun k l' hk => by
    unfold upd at hk; split at hk
    · exact .inl ⟨by assumption, by cases hk; rfl⟩
    · split at hk
      · cases hk
      · exact .inr ⟨by assumption, by assumption, hk⟩
  have hle : Le w m c w' (upd (upd m b none) d (some ⟨c, e, wd, cs.size, some β⟩)) (c + 1) := by
    refine ⟨by omega, fun k l' h hlt => ?_, fun γ hγ hno => hk γ hγ (fun e => hno b l hm (e ▸ hβ)), hs, ho, hp, ht, fun k l' γ h h' => ?_⟩
    · rcases split' k l' h with ⟨_, rfl⟩ | ⟨_, _, h⟩
      · simp at hlt
      · exact h
    · rcases split' k l' h with ⟨_, rfl⟩ | ⟨_, _, h⟩
      · cases h'; exact .inr ⟨b, l, hm, hβ⟩
      · exact .inr ⟨k, l', h, h'⟩
  have other : ∀ k l', k ≠ b → m k = some l' → ∀ γ, l'.blk = some γ → γ ≠ β := fun k l' hne hk γ hγ e => hne (hh.inj k b l' l β hk hm (e ▸ hγ) hβ)
  refine ⟨hle, ?_, ?_, fun γ hγ => Nat.lt_of_lt_of_le (hh.lt γ hγ) hs, fun k l' γ h h' => ?_, fun k k' l1 l2 γ h h' g g' => ?_⟩
  · intro k B hg
    rw [Hp.get_set] at hg
    split at hg
    · rename_i e'; subst e'; cases hg
      refine ⟨⟨c, e, wd, cs.size, some β⟩, by simp [upd], rfl, rfl, rfl, by simp, .inr <| .inr ⟨fun h => by simp at h, β, cs, rfl, hc, rfl, hl, hw, fun i hi j hj => ?_⟩⟩
      obtain ⟨x, hx, hr'⟩ := hr i hi j hj
      exact ⟨x, hx, RepC.mono (var := false) hle hr'⟩
    · rename_i hne
      rw [Hp.get_erase] at hg
      split at hg
      · cases hg
      · rename_i hne2
        obtain ⟨l', h1, h2⟩ := hh.get k B hg
        exact ⟨l', by simp [upd, Ne.symm hne, Ne.symm hne2, h1], h2.mono hle fun γ hγ => hk γ (hh.blk_lt h1 hγ) (other k l' (Ne.symm hne2) h1 γ hγ)⟩
  · intro k hg
    rw [Hp.get_set] at hg
    split at hg
    · cases hg
    · rename_i hne
      rw [Hp.get_erase] at hg
      unfold upd; rw [if_neg (Ne.symm hne)]
      split at hg
      · rename_i e'; simp [e']
      · rename_i hne2; rw [if_neg (Ne.symm hne2)]; exact hh.non k hg
  · rcases split' k l' h with ⟨_, rfl⟩ | ⟨_, _, h⟩
    · cases h'; exact hh.nb b l β hm hβ
    · exact hh.nb k l' γ h h'
  · rcases split' k l1 h with ⟨e1, rfl⟩ | ⟨_, n1, h⟩ <;> rcases split' k' l2 h' with ⟨e2, rfl⟩ | ⟨_, n2, h'⟩
    · rw [e1, e2]
    · cases g; exact absurd rfl (other k' l2 n2 h' _ g')
    · cases g'; exact absurd rfl (other k l1 n1 h _ g)
    · exact hh.inj k k' l1 l2 γ h h' g g'

theorem rep_slNew {d n cap : Nat} {w' : World} {e : TypeId} {wd sz β : Nat} (hcap : n ≤ cap) (hsz : cap * wd = sz) (hmx : cap ≤ maxLen) {m0 : MM} :
    Rep bad w' (upd m0 d (some ⟨c, e, wd, sz, some β⟩)) (c + 1) (.sl d c 0 n true) (.slice (some ⟨β, 0, none⟩) n cap) := by
  refine .sl (by omega) rfl fun l hl _ => ?_
  simp only [upd, if_true, Option.some.injEq] at hl
  subst hl
  exact .inr ⟨β, cap, rfl, by simp, hcap, by simp [hsz], hmx, fun _ => ⟨rfl, hsz⟩⟩

theorem roomB_max {n b : Nat} (hb : 0 < b) (h : n * b ≤ roomB) : n ≤ maxLen := by
  have : n ≤ n * b := Nat.le_mul_of_pos_right _ hb
  unfold roomB at h; unfold maxLen; omega

/-- A row that grows into a new block: the cells are there. -/
theorem grown_row {olds : List V} {ov : List Value} {xs : List V} {sz : Nat} {val : Nat → Nat → Value} {zs : Array Value} {ok : Nat → Prop} (how : ∀ i (h : i < olds.length), olds[i].cells.length = sz) (hol : ov.length = olds.length * sz)
    (hor : ∀ i (h : i < olds.length) j (h2 : j < olds[i].cells.length), ∃ x, ov[i * sz + j]? = some x ∧ RepP w ok olds[i].cells[j] x)
    (hw : ∀ i (h : i < xs.length), xs[i].cells.length = sz) (hr : ∀ i (h : i < xs.length) j (h2 : j < xs[i].cells.length), RepP w ok (xs[i].cells[j]) (val i j)) :
    (∀ i (h : i < (olds ++ xs).length), (olds ++ xs)[i].cells.length = sz) ∧
    ∀ i (h : i < (olds ++ xs).length) j (h2 : j < (olds ++ xs)[i].cells.length), ∃ x, ((ov ++ flatC xs.length sz val).toArray ++ zs)[i * sz + j]? = some x ∧ RepP w ok (olds ++ xs)[i].cells[j] x := by
  have hw' : ∀ i (h : i < (olds ++ xs).length), (olds ++ xs)[i].cells.length = sz := fun i h => by
    rw [List.getElem_append]
    split
    · exact how _ _
    · exact hw _ _
  refine ⟨hw', fun i h j h2 => ?_⟩
  have hj : j < sz := by rw [← hw' i h]; exact h2
  by_cases hi : i < olds.length
  · have e1 : (olds ++ xs)[i] = olds[i] := List.getElem_append_left hi
    have hj' : j < olds[i].cells.length := by rw [← e1]; exact h2
    obtain ⟨x, hx, hx'⟩ := hor i hi j hj'
    refine ⟨x, ?_, by simpa [e1] using hx'⟩
    have hlt : i * sz + j < ov.length := (List.getElem?_eq_some_iff.1 hx).1
    rw [Array.getElem?_append_left (by simp; omega), List.getElem?_toArray, List.getElem?_append_left hlt]
    exact hx
  · have hi' : i - olds.length < xs.length := by simp at h; omega
    have e1 : (olds ++ xs)[i] = xs[i - olds.length] := List.getElem_append_right (by omega)
    have hj' : j < xs[i - olds.length].cells.length := by rw [← e1]; exact h2
    have hmul : i * sz = olds.length * sz + (i - olds.length) * sz := by rw [← Nat.add_mul]; congr 1; omega
    have hlt : (i - olds.length) * sz + j < xs.length * sz := by
      have := Nat.mul_le_mul_right sz (show i - olds.length + 1 ≤ xs.length from hi')
      rw [Nat.add_mul] at this; omega
    refine ⟨val (i - olds.length) j, ?_, by simpa [e1] using hr _ hi' j hj'⟩
    rw [Array.getElem?_append_left (by simp [flatC_length]; omega), List.getElem?_toArray, List.getElem?_append_right (by omega), hol, show i * sz + j - olds.length * sz = (i - olds.length) * sz + j by omega]
    exact flatC_get _ _ _ _ _ hi' hj

theorem rep_tip {d s off n : Nat} {tip : Bool} {w' : World} {m' : MM} {x : Value} (h : Rep bad w' m' c (.sl d s off n true) x) : Rep bad w' m' c (.sl d s off n tip) x := by
  cases h with
  | pure h => cases h
  | sl hs hx hb =>
    refine .sl hs hx fun l h1 h2 => ?_
    rcases hb l h1 h2 with e | ⟨β, cap, e1, e2, e3, e4, e5, e6⟩
    · exact .inl e
    · exact .inr ⟨β, cap, e1, e2, e3, e4, e5, fun _ => e6 rfl⟩

theorem rep_slTip {d n cap : Nat} {w' : World} {e : TypeId} {wd sz β : Nat} {tip : Bool} (hcap : n ≤ cap) (hsz : cap * wd ≤ sz) (hT : tip = true → cap * wd = sz) (hmx : cap ≤ maxLen) {m0 : MM} :
    Rep bad w' (upd m0 d (some ⟨c, e, wd, sz, some β⟩)) (c + 1) (.sl d c 0 n tip) (.slice (some ⟨β, 0, none⟩) n cap) := by
  refine .sl (by omega) rfl fun l hl _ => ?_
  simp only [upd, if_true, Option.some.injEq] at hl
  subst hl
  exact .inr ⟨β, cap, rfl, by simp, hcap, by simpa using hsz, hmx, fun ht => ⟨rfl, hT ht⟩⟩

theorem evAppend0_sound (hT : TabOk P T) {h : Hp} (hh : HeapRep bad h w m c) {dst : Tmp} {t ty : TypeId} {s x v : V} {sv xv : Value} (hrs : Rep bad w m c s sv) (hrx : Rep bad w m c x xv) {h' : Hp} {c' : Nat}
    (he : evAppend0 T dst t s x h c = some (v, h', c')) :
    ∃ y w' m', (Builtin.append_ #[t, t] ty #[sv, xv]).run P w = .ok y w' ∧ Rep bad w' m' c' v y ∧ Le w m c w' m' c' ∧ HeapRep bad h' w' m' c' := by
  unfold evAppend0 at he
  split at he
  · rename_i _ _ e _ hTt
    obtain ⟨_, _, _, _, _, hu, _⟩ := hT t _ hTt
    simp only [] at hu
    split at he
    · rename_i i xs hTe hel
      obtain ⟨info, z, hi, hsz, hby, _, hz, _, hzs, _⟩ := hT e i hTe
      split at he
      · rename_i hcond
        obtain ⟨hall, hpos, hbpos⟩ := hcond
        have hxw : ∀ k (hk : k < xs.length), xs[k].cells.length = i.size ∧ xs[k].cells.all V.one = true := fun k hk => by
          have := List.all_eq_true.1 hall _ (List.getElem_mem hk)
          simpa using this
        have hsrc := elems_sound hh hrx hel
        -- nothing is appended
        have none' : ∀ base sLen sCap, xs = [] → sv = .slice base sLen sCap → sLen ≤ sCap → (Builtin.append_ #[t, t] ty #[sv, xv]).run P w = .ok sv w := by
          rintro base sLen sCap rfl rfl hle
          rcases hsrc with ⟨_, rfl⟩ | ⟨_, a, cap, rfl⟩ | ⟨β, o, k, cap, val, rfl, _⟩
          · exact run_append_nothing w t t ty e info hu hi base sLen sCap hle _ (Src.ofNil w hu 0)
          · exact run_append_nothing w t t ty e info hu hi base sLen sCap hle _ (Src.ofSlice w hu _ 0 cap [] (by simp) (by simp) (by simp))
          · exact run_append_nothing w t t ty e info hu hi base sLen sCap hle _ (Src.ofSlice w hu _ 0 cap [] (by simp) (by simp) (by simp))
        -- something is
        have some' : xs ≠ [] → ∃ (val : Nat → Nat → Value) (a : Addr) (cap : Nat), xv = .slice (some a) xs.length cap ∧ (∀ j u, (flatC xs.length i.size val)[j]? = some u → w.cell? (a.add j) = some u) ∧ (∀ u ∈ flatC xs.length i.size val, u.oneCell' = true) ∧
            Src P i.size t xv xs.length (flatC xs.length i.size val) w ∧
            (∀ k (hk : k < xs.length) j (h2 : j < xs[k].cells.length), RepP w (okOf bad w m) (xs[k].cells[j]) (val k j)) := by
          intro hne
          rcases hsrc with ⟨rfl, _⟩ | ⟨rfl, _⟩ | ⟨β, o, k, cap, val, rfl, hw, hc, hr⟩
          · exact absurd rfl hne
          · exact absurd rfl hne
          · have h0 : 0 < xs.length := by cases xs <;> simp_all
            have hk : k = i.size := by rw [← hw 0 h0]; exact (hxw 0 h0).1
            subst hk
            have h1 : ∀ u ∈ flatC xs.length i.size val, u.oneCell' = true := fun u hu => by
              obtain ⟨p, q, hp, hq, rfl⟩ := flatC_mem hu
              have hq' : q < xs[p].cells.length := by rw [hw]; exact hq
              exact (hr p hp q hq').one (List.all_eq_true.1 (hxw p hp).2 _ (List.getElem_mem hq'))
            have h2 : ∀ j u, (flatC xs.length i.size val)[j]? = some u → w.cell? ((⟨β, o, none⟩ : Addr).add j) = some u := fun j u hu => by
              obtain ⟨a1, a2, rfl, a4⟩ := flatC_ix val hu
              have := hc _ _ a1 a2
              rw [Addr.add_lit]
              rwa [show o + j = o + j / i.size * i.size + j % i.size by omega]
            exact ⟨val, ⟨β, o, none⟩, cap, rfl, h2, h1, Src.ofSlice w hu _ xs.length cap _ (flatC_length _ _ _) h2 h1, hr⟩
        have hzz : ∀ n, (Builtin.zeroCells z.cells n).size = n * i.size := fun n => by rw [size_zeroCells, hzs]
        -- a new row
        have grow : ∀ (h1 : Hp) (m1 : MM) (le1 : Le w m c w m1 c) (hh1 : HeapRep bad h1 w m1 c) (base : Option Addr) (sCap : Nat) (olds : List V) (ov : List Value), sv = .slice base olds.length sCap → xs ≠ [] →
            (∀ i' (h : i' < olds.length), olds[i'].cells.length = i.size) → ov.length = olds.length * i.size →
            (∀ i' (h : i' < olds.length) j (h2 : j < olds[i'].cells.length), ∃ x, ov[i' * i.size + j]? = some x ∧ RepP w (okOf bad w m) olds[i'].cells[j] x) →
            (Builtin.firstCells info.size olds.length (.slice base olds.length sCap)).run P w.drew = .ok ov.toArray w.drew → sCap < olds.length + xs.length → (olds.length + xs.length) * i.bytes ≤ roomB →
            ∃ y w' m', (Builtin.append_ #[t, t] ty #[sv, xv]).run P w = .ok y w' ∧ Rep bad w' m' (c + 1) (.sl dst c 0 (olds.length + xs.length) true) y ∧ Le w m c w' m' (c + 1) ∧
              HeapRep bad (h1.set dst ⟨c, e, i.size, false, false, olds ++ xs⟩) w' m' (c + 1) := by
          intro h1 m1 le1 hh1 base sCap olds ov hsv hne how hol hor hfirst hg hroom
          subst hsv
          obtain ⟨val, a, cap, hxv, hcell, hone, hsrc', hr⟩ := some' hne
          have hmax := roomB_max hbpos hroom
          have hmax' := hmax
          unfold maxLen at hmax'
          have hrun := run_append_grow_src (P := P) w t t ty e info z hu hi hz base olds.length sCap ov hfirst xv xs.length (flatC xs.length i.size val) (by rw [hsz]; exact hsrc') hg (by omega)
            (by rw [hby]; exact growslice_fits hg (by unfold roomB at hroom; omega))
          have hge := grownCap_ge w (olds.length + xs.length) sCap e
          obtain ⟨hg1, hg2⟩ := grown_row (w := w) (zs := Builtin.zeroCells z.cells (grownCap w (olds.length + xs.length) sCap e - (olds.length + xs.length))) how hol hor (fun k hk => (hxw k hk).1) hr
          have hsize : ((ov ++ flatC xs.length i.size val).toArray ++ Builtin.zeroCells z.cells (grownCap w (olds.length + xs.length) sCap e - (olds.length + xs.length))).size = grownCap w (olds.length + xs.length) sCap e * i.size := by
            simp only [Array.size_append, List.size_toArray, List.length_append, flatC_length, hol, hzz, ← Nat.add_mul]
            congr 1; omega
          obtain ⟨le2, hh2⟩ := hh1.drew
          have hnew := hh2.new dst (w' := w.drew.alloc (.cells ((ov ++ flatC xs.length i.size val).toArray ++ Builtin.zeroCells z.cells (grownCap w (olds.length + xs.length) sCap e - (olds.length + xs.length))) e))
            (fun β hβ => alloc_old _ _ β hβ) rfl rfl rfl (β0 := w.drew.heap.size) (Nat.le_refl _) (e := e) (wd := i.size) (var := false) (es := olds ++ xs) (by simpa using heap_alloc_new w.drew _)
            (by rw [hsize]; exact Nat.mul_le_mul_right _ (by simpa using hge)) hg1 (fun k hk j hj => by
              obtain ⟨y, hy, hr'⟩ := hg2 k hk j hj
              exact ⟨y, hy, RepC.mono (var := false) (le1.trans le2) hr'⟩)
          refine ⟨_, _, _, hrun, ?_, (le1.trans le2).trans hnew.1, hnew.2⟩
          exact rep_slNew hge hsize.symm (grownCap_le_maxLen w _ sCap e hmax)
        split at he
        · -- onto nil
          obtain rfl : sv = .slice none 0 0 := by
            cases hrs with
            | pure h => cases h with
              | psNil => rfl
              | ps hn => exact absurd rfl hn
          split at he
          · rename_i hemp
            simp only [Option.some.injEq, Prod.mk.injEq] at he
            obtain ⟨rfl, rfl, rfl⟩ := he
            exact ⟨_, w, m, none' none 0 0 (by simpa using hemp) rfl (Nat.le_refl _), .pure (.psNil (by simp)), Le.refl _ _ _, hh⟩
          · rename_i hemp
            split at he
            · rename_i hroom
              simp only [Option.some.injEq, Prod.mk.injEq] at he
              obtain ⟨rfl, rfl, rfl⟩ := he
              have hne : xs ≠ [] := by simpa using hemp
              have hpos' : 0 < xs.length := by cases xs <;> simp_all
              have := grow h m (Le.refl _ _ _) hh none 0 [] [] rfl hne (by simp) (by simp) (by simp) (run_firstCells_none _ _ _ _ _) (by simpa using hpos') (by simpa using hroom)
              simpa using this
            · cases he
        · -- onto a slice that is full
          rename_i k ys _
          split at he
          · rename_i hcond2
            obtain ⟨hk, hyall⟩ := hcond2
            have hyw : ∀ j (hj : j < ys.length), ys[j].cells.length = i.size := fun j hj => by
              have := List.all_eq_true.1 hyall _ (List.getElem_mem hj)
              simpa using this
            cases hrs with
            | pure hrp =>
              split at he
              · rename_i hemp
                simp only [Option.some.injEq, Prod.mk.injEq] at he
                obtain ⟨rfl, rfl, rfl⟩ := he
                have hemp' : xs = [] := by simpa using hemp
                cases hrp with
                | psNil hn => exact ⟨_, w, m, none' none 0 0 hemp' rfl (Nat.le_refl _), .pure (.psNil hn), Le.refl _ _ _, hh⟩
                | ps hn hcap hfull hβ hw hc hr hq => exact ⟨_, w, m, none' _ _ _ hemp' rfl hcap, .pure (.ps hn hcap hfull hβ hw hc hr hq), Le.refl _ _ _, hh⟩
              · rename_i hemp
                have hne : xs ≠ [] := by simpa using hemp
                have hpos' : 0 < xs.length := by cases xs <;> simp_all
                split at he
                · rename_i hroom
                  simp only [Option.some.injEq, Prod.mk.injEq] at he
                  obtain ⟨rfl, rfl, rfl⟩ := he
                  cases hrp with
                  | psNil hn =>
                    have := grow h m (Le.refl _ _ _) hh none 0 [] [] rfl hne (by simp) (by simp) (by simp) (run_firstCells_none _ _ _ _ _) (by simpa using hpos') (by simpa using hroom)
                    simpa using this
                  | ps hn hcap hfull hβ hw hc hr hq =>
                    rename_i β o k' cap q val
                    have hcap' : cap = ys.length := hfull hk
                    subst hcap'
                    have hkk : ∀ j, j < ys.length → k' = i.size := fun j hj => by rw [← hw j hj]; exact hyw j hj
                    refine grow h m (Le.refl _ _ _) hh (some ⟨β, o, q⟩) ys.length ys (flatC ys.length i.size val) rfl hne hyw (flatC_length _ _ _) (fun a ha q hq => ?_) ?_ (by omega) hroom
                    · have hq' : q < i.size := by rw [← hyw a ha]; exact hq
                      exact ⟨_, flatC_get _ _ _ _ _ ha hq', hr a ha q hq⟩
                    · refine run_firstCells_some w.drew _ _ _ _ _ _ (by rw [hsz]; exact flatC_length _ _ _) fun j u hu => ?_
                      obtain ⟨a1, a2, rfl, a4⟩ := flatC_ix val hu
                      have hk' := hkk _ a1
                      subst hk'
                      obtain rfl : q = none := by
                        cases q with
                        | none => rfl
                        | some z => rw [hq (by simp)] at a1; exact absurd a1 (Nat.not_lt_zero _)
                      have := hc _ _ a1 a2
                      rw [Addr.add_lit, World.cell?_drew]
                      rwa [show o + j = o + j / i.size * i.size + j % i.size by omega]
                · cases he
          · cases he
        · -- onto a row of the frame's own
          rename_i b st off len tip
          split at he
          · rename_i B hg
            split at he
            · rename_i hcond
              obtain ⟨hs, hv, hoff, hlen⟩ := hcond
              subst hoff
              have hsv : (True ∧ sv = .slice none 0 0 ∧ len = 0 ∧ B.es = []) ∨ (True ∧ ∃ l β cs cap, m b = some l ∧ l.w = B.w ∧ l.blk = some β ∧ sv = .slice (some ⟨β, 0, none⟩) len cap ∧ len ≤ cap ∧ (cap * B.w ≤ cs.size ∧ (tip = true → cap * B.w = cs.size)) ∧ cap ≤ maxLen ∧
                  w.heap[β]? = some (.cells cs B.T (0, 0)) ∧ (∀ i (h : i < B.es.length), B.es[i].cells.length = B.w) ∧ ∀ i (h : i < B.es.length) j (h2 : j < B.es[i].cells.length), ∃ x, cs[i * B.w + j]? = some x ∧ RepP w (okOf bad w m) B.es[i].cells[j] x) := by
                obtain ⟨l0, hm0, hls0, _, _, _, hd⟩ := hh.get b B hg
                rcases Option.eq_none_or_eq_some l0.blk |>.symm with hb0 | hb0
                · obtain ⟨β0, hb0⟩ := hb0
                  obtain ⟨l, β, cs, hm, hls, hlw, hlT, hblk, hcs, hcsz, hle', hwd, hall⟩ := rep_blockX hh hg hs (.inl hv) (fun l1 hl1 _ => by rw [hm0] at hl1; cases hl1; rw [hb0]; simp)
                  cases hrs with
                  | pure hr => cases hr
                  | sl hs' hx hb =>
                    rcases hb l hm hls with ⟨h0, _⟩ | ⟨β', cap, h1, rfl, h2, h3, h4, h5⟩
                    · rw [hblk] at h0; cases h0
                    · rw [hblk] at h1; cases h1
                      refine .inr ⟨trivial, l, β, cs, cap, hm, hlw, hblk, by simp, h2, ⟨by rw [← hlw, hcsz]; simpa using h3, fun ht => by rw [← hlw, hcsz]; exact (h5 ht).2⟩, h4, hcs, hwd, fun i' hi' j hj => ?_⟩
                      obtain ⟨y, hy, hr⟩ := hall i' hi' j hj
                      exact ⟨y, hy, by simpa [RepC, hv] using hr⟩
                · rcases hd with ⟨_, hblk, hes⟩ | ⟨_, _, _, β1, _, _, hblk1, _⟩ | ⟨_, β1, cs1, hblk1, _⟩
                  · cases hrs with
                    | pure hr => cases hr
                    | sl _ _ hb =>
                      rcases hb l0 hm0 (hls0.trans hs) with ⟨_, _, h3, rfl⟩ | ⟨β, _, h1, _⟩
                      · exact .inl ⟨trivial, rfl, h3, hes⟩
                      · rw [hblk] at h1; cases h1
                  · rw [hb0] at hblk1; cases hblk1
                  · rw [hb0] at hblk1; cases hblk1
              split at he
              · rename_i hemp
                simp only [Option.some.injEq, Prod.mk.injEq] at he
                obtain ⟨rfl, rfl, rfl⟩ := he
                have hemp' : xs = [] := by simpa using hemp
                rcases hsv with ⟨_, rfl, rfl, _⟩ | ⟨_, l, β, cs, cap, _, _, _, rfl, hle, _⟩
                · exact ⟨_, w, m, none' none 0 0 hemp' rfl (Nat.le_refl _), hrs, Le.refl _ _ _, hh⟩
                · exact ⟨_, w, m, none' _ _ _ hemp' rfl hle, hrs, Le.refl _ _ _, hh⟩
              · rename_i hemp
                have hne : xs ≠ [] := by simpa using hemp
                have hpos' : 0 < xs.length := by cases xs <;> simp_all
                split at he
                · rename_i hroom
                  obtain ⟨hroom, hor⟩ := hroom
                  simp only [Option.some.injEq, Prod.mk.injEq] at he
                  obtain ⟨rfl, rfl, rfl⟩ := he
                  obtain ⟨le1, hh1⟩ := hh.erase b
                  rcases hsv with ⟨_, rfl, rfl, hes⟩ | ⟨hn, l, β, cs, cap, hm, hlw, hblk, rfl, hle, ⟨hcap, hcapT⟩, hcmax, hcs, hwd, hall⟩
                  · have := grow (h.erase b) _ le1 hh1 none 0 [] [] rfl hne (by simp) (by simp) (by simp) (run_firstCells_none _ _ _ _ _) (by simpa using hpos') (by simpa using hroom)
                    rw [hes]
                    obtain ⟨y, w', m', q1, q2, q3, q4⟩ := this
                    exact ⟨y, w', m', q1, rep_tip (by simpa using q2), q3, by simpa using q4⟩
                  · obtain ⟨hBw, hBT⟩ := hor
                    rw [hBw] at hcap hcapT hwd hall
                    rw [hBT] at hcs
                    subst hlen
                    by_cases hfit : B.es.length + xs.length ≤ cap
                    · -- in place
                      obtain ⟨val, a, cap', hxv, hcell, hone, hsrc', hr⟩ := some' hne
                      subst hxv
                      have hfull : B.es.length * i.size + (flatC xs.length i.size val).length ≤ cs.toList.length := by
                        rw [flatC_length, ← Nat.add_mul]
                        simp only [Array.length_toList]
                        exact Nat.le_trans (Nat.mul_le_mul_right _ hfit) hcap
                      have hrun := run_append_room (P := P) w t ty e info hu hi β B.es.length cap cs hcs a xs.length cap' (flatC xs.length i.size val) (by rw [hsz]; exact flatC_length _ _ _) hcell hone hfit (by rw [hsz]; simpa using hfull)
                      rw [hsz] at hrun
                      let cs' := (cs.toList.take (B.es.length * i.size) ++ flatC xs.length i.size val ++ cs.toList.drop (B.es.length * i.size + (flatC xs.length i.size val).length)).toArray
                      have hcs' : cs'.size = cs.size := by simp [cs']; simp at hfull; omega
                      have hget : ∀ p, cs'[p]? = if p < B.es.length * i.size then cs[p]? else if p < B.es.length * i.size + (flatC xs.length i.size val).length then (flatC xs.length i.size val)[p - B.es.length * i.size]? else cs[p]? := fun p => by
                        have := splice_get cs.toList (flatC xs.length i.size val) (B.es.length * i.size) p hfull
                        simpa [cs'] using this
                      have hbnd : ∀ {p q N : Nat}, p < N → q < i.size → p * i.size + q < N * i.size := fun {p q N} h1 h2 => by
                        have := Nat.mul_le_mul_right i.size (show p + 1 ≤ N from h1)
                        rw [Nat.add_mul] at this; omega
                      have hww : ∀ k (hk : k < (B.es ++ xs).length), (B.es ++ xs)[k].cells.length = i.size := fun k hk => by
                        rw [List.getElem_append]
                        split
                        · exact hwd _ _
                        · exact (hxw _ _).1
                      have key := hh.take hm hblk dst (w' := w.setRow β cs') (fun γ _ hne => setRow_other w β γ cs' hne) (by simp) rfl rfl rfl (e := e) (wd := i.size) (es := B.es ++ xs) (cs := cs') (setRow_heap w β cs cs' _ _ hcs)
                        (by rw [hcs']; exact Nat.le_trans (Nat.mul_le_mul_right _ (by simpa using hfit)) hcap) hww (fun k hk q hq => by
                          have hq' : q < i.size := by rw [← hww k hk]; exact hq
                          rw [hget]
                          by_cases hk1 : k < B.es.length
                          · have e1 : (B.es ++ xs)[k] = B.es[k] := List.getElem_append_left hk1
                            have hq1 : q < B.es[k].cells.length := by rw [← e1]; exact hq
                            rw [if_pos (hbnd hk1 hq')]
                            obtain ⟨y, hy, hr'⟩ := hall k hk1 q hq1
                            exact ⟨y, hy, by simpa [e1] using hr'⟩
                          · have hk2 : k - B.es.length < xs.length := by simp at hk; omega
                            have e1 : (B.es ++ xs)[k] = xs[k - B.es.length] := List.getElem_append_right (by omega)
                            have hq1 : q < xs[k - B.es.length].cells.length := by rw [← e1]; exact hq
                            have hmul : k * i.size = B.es.length * i.size + (k - B.es.length) * i.size := by rw [← Nat.add_mul]; congr 1; omega
                            have := hbnd hk2 hq'
                            rw [if_neg (by omega), if_pos (by rw [flatC_length]; omega), show k * i.size + q - B.es.length * i.size = (k - B.es.length) * i.size + q by omega]
                            exact ⟨_, flatC_get _ _ _ _ _ hk2 hq', by simpa [e1] using hr _ hk2 q hq1⟩)
                      refine ⟨_, _, _, hrun, ?_, key.1, key.2⟩
                      exact rep_slTip hfit (by rw [hcs']; exact hcap) (fun ht => by rw [hcs']; exact hcapT ht) hcmax
                    · -- a new row
                      have hfl : (cs.toList.take (B.es.length * i.size)).length = B.es.length * i.size := by
                        simp only [List.length_take, Array.length_toList]
                        have := Nat.mul_le_mul_right i.size hle
                        omega
                      suffices hsuf : ∃ y w' m', (Builtin.append_ #[t, t] ty #[.slice (some ⟨β, 0, none⟩) B.es.length cap, xv]).run P w = .ok y w' ∧ Rep bad w' m' (c + 1) (.sl dst c 0 (B.es.length + xs.length) true) y ∧ Le w m c w' m' (c + 1) ∧ HeapRep bad ((h.erase b).set dst ⟨c, e, i.size, false, false, B.es ++ xs⟩) w' m' (c + 1) by
                        obtain ⟨y, w', m', q1, q2, q3, q4⟩ := hsuf
                        exact ⟨y, w', m', q1, rep_tip q2, q3, q4⟩
                      refine grow (h.erase b) _ le1 hh1 (some ⟨β, 0, none⟩) cap B.es (cs.toList.take (B.es.length * i.size)) rfl hne hwd hfl (fun k hk q hq => ?_) ?_ (by omega) hroom
                      · obtain ⟨y, hy, hr'⟩ := hall k hk q hq
                        refine ⟨y, ?_, hr'⟩
                        have hq' : q < i.size := by rw [← hwd k hk]; exact hq
                        have := Nat.mul_le_mul_right i.size (show k + 1 ≤ B.es.length from hk)
                        rw [Nat.add_mul] at this
                        rw [List.getElem?_take_of_lt (by omega)]
                        simpa using hy
                      · refine run_firstCells_some w.drew _ _ _ _ _ _ (by rw [hsz]; exact hfl) fun j u hu => ?_
                        have hj : j < B.es.length * i.size := by
                          have := (List.getElem?_eq_some_iff.1 hu).1
                          omega
                        rw [Addr.add_lit, Nat.zero_add, World.cell?_drew, cell_of_row w β _ cs _ _ hcs]
                        rw [List.getElem?_take_of_lt hj] at hu
                        simpa using hu
                · cases he
            · cases he
          · cases he
        · cases he
      · cases he
    · cases he
  · cases he

/-- A block of the frame's own goes on under another name: its row was written. -/
theorem HeapRep.takeC {h : Hp} (hh : HeapRep bad h w m c) {b : Nat} {l : Loc} {β : Nat} (hm : m b = some l) (hβ : l.blk = some β) (d : Nat) {w' : World} (hk : ∀ γ, γ < w.heap.size → γ ≠ β → w'.heap[γ]? = w.heap[γ]?) (hs : w.heap.size ≤ w'.heap.size)
    (ho : w'.os = w.os) (hp : w'.output = w.output) (ht : w'.tape = w.tape) {e : TypeId} {wd : Nat} {es : List V} {cs : Array Value} (hc : w'.heap[β]? = some (.cells cs e (0, 0))) (hl : es.length * wd ≤ cs.size)
    (hw : ∀ i (h : i < es.length), es[i].cells.length = wd) (var : Bool) (hr : ∀ i (h : i < es.length) j (h2 : j < es[i].cells.length), ∃ x, cs[i * wd + j]? = some x ∧ RepC bad var w m c es[i].cells[j] x) :
    Le w m c w' (upd (upd m b none) d (some ⟨c, e, wd, cs.size, some β⟩)) (c + 1) ∧ HeapRep bad ((h.erase b).set d ⟨c, e, wd, var, false, es⟩) w' (upd (upd m b none) d (some ⟨c, e, wd, cs.size, some β⟩)) (c + 1) := by
  have split' : ∀ k l', upd (upd m b none) d (some ⟨c, e, wd, cs.size, some β⟩) k = some l' → (k = d ∧ l' = ⟨c, e, wd, cs.size, some β⟩) ∨ (k ≠ d ∧ k ≠ b ∧ m k = some l') := fun k l' hk => by
    unfold upd at hk; split at hk
    · exact .inl ⟨by assumption, by cases hk; rfl⟩
    · split at hk
      · cases hk
      · exact .inr ⟨by assumption, by assumption, hk⟩
  have hle : Le w m c w' (upd (upd m b none) d (some ⟨c, e, wd, cs.size, some β⟩)) (c + 1) := by
    refine ⟨by omega, fun k l' h hlt => ?_, fun γ hγ hno => hk γ hγ (fun e => hno b l hm (e ▸ hβ)), hs, ho, hp, ht, fun k l' γ h h' => ?_⟩
    · rcases split' k l' h with ⟨_, rfl⟩ | ⟨_, _, h⟩
      · simp at hlt
      · exact h
    · rcases split' k l' h with ⟨_, rfl⟩ | ⟨_, _, h⟩
      · cases h'; exact .inr ⟨b, l, hm, hβ⟩
      · exact .inr ⟨k, l', h, h'⟩
  have other : ∀ k l', k ≠ b → m k = some l' → ∀ γ, l'.blk = some γ → γ ≠ β := fun k l' hne hk γ hγ e => hne (hh.inj k b l' l β hk hm (e ▸ hγ) hβ)
  refine ⟨hle, ?_, ?_, fun γ hγ => Nat.lt_of_lt_of_le (hh.lt γ hγ) hs, fun k l' γ h h' => ?_, fun k k' l1 l2 γ h h' g g' => ?_⟩
  · intro k B hg
    rw [Hp.get_set] at hg
    split at hg
    · rename_i e'; subst e'; cases hg
      refine ⟨⟨c, e, wd, cs.size, some β⟩, by simp [upd], rfl, rfl, rfl, by simp, .inr <| .inr ⟨fun h => by simp at h, β, cs, rfl, hc, rfl, hl, hw, fun i hi j hj => ?_⟩⟩
      obtain ⟨x, hx, hr'⟩ := hr i hi j hj
      exact ⟨x, hx, RepC.mono hle hr'⟩
    · rename_i hne
      rw [Hp.get_erase] at hg
      split at hg
      · cases hg
      · rename_i hne2
        obtain ⟨l', h1, h2⟩ := hh.get k B hg
        exact ⟨l', by simp [upd, Ne.symm hne, Ne.symm hne2, h1], h2.mono hle fun γ hγ => hk γ (hh.blk_lt h1 hγ) (other k l' (Ne.symm hne2) h1 γ hγ)⟩
  · intro k hg
    rw [Hp.get_set] at hg
    split at hg
    · cases hg
    · rename_i hne
      rw [Hp.get_erase] at hg
      unfold upd; rw [if_neg (Ne.symm hne)]
      split at hg
      · rename_i e'; simp [e']
      · rename_i hne2; rw [if_neg (Ne.symm hne2)]; exact hh.non k hg
  · rcases split' k l' h with ⟨_, rfl⟩ | ⟨_, _, h⟩
    · cases h'; exact hh.nb b l β hm hβ
    · exact hh.nb k l' γ h h'
  · rcases split' k l1 h with ⟨e1, rfl⟩ | ⟨_, n1, h⟩ <;> rcases split' k' l2 h' with ⟨e2, rfl⟩ | ⟨_, n2, h'⟩
    · rw [e1, e2]
    · cases g; exact absurd rfl (other k' l2 n2 h' _ g')
    · cases g'; exact absurd rfl (other k l1 n1 h _ g)
    · exact hh.inj k k' l1 l2 γ h h' g g'

/-- A row that grows into a new block: the cells are there. -/
theorem grown_rowR {olds : List V} {ov : List Value} {xs : List V} {sz : Nat} {val : Nat → Nat → Value} {zs : Array Value} {R : V → Value → Prop} (how : ∀ i (h : i < olds.length), olds[i].cells.length = sz) (hol : ov.length = olds.length * sz)
    (hor : ∀ i (h : i < olds.length) j (h2 : j < olds[i].cells.length), ∃ x, ov[i * sz + j]? = some x ∧ R olds[i].cells[j] x)
    (hw : ∀ i (h : i < xs.length), xs[i].cells.length = sz) (hr : ∀ i (h : i < xs.length) j (h2 : j < xs[i].cells.length), R (xs[i].cells[j]) (val i j)) :
    (∀ i (h : i < (olds ++ xs).length), (olds ++ xs)[i].cells.length = sz) ∧
    ∀ i (h : i < (olds ++ xs).length) j (h2 : j < (olds ++ xs)[i].cells.length), ∃ x, ((ov ++ flatC xs.length sz val).toArray ++ zs)[i * sz + j]? = some x ∧ R (olds ++ xs)[i].cells[j] x := by
  have hw' : ∀ i (h : i < (olds ++ xs).length), (olds ++ xs)[i].cells.length = sz := fun i h => by
    rw [List.getElem_append]
    split
    · exact how _ _
    · exact hw _ _
  refine ⟨hw', fun i h j h2 => ?_⟩
  have hj : j < sz := by rw [← hw' i h]; exact h2
  by_cases hi : i < olds.length
  · have e1 : (olds ++ xs)[i] = olds[i] := List.getElem_append_left hi
    have hj' : j < olds[i].cells.length := by rw [← e1]; exact h2
    obtain ⟨x, hx, hx'⟩ := hor i hi j hj'
    refine ⟨x, ?_, by simpa [e1] using hx'⟩
    have hlt : i * sz + j < ov.length := (List.getElem?_eq_some_iff.1 hx).1
    rw [Array.getElem?_append_left (by simp; omega), List.getElem?_toArray, List.getElem?_append_left hlt]
    exact hx
  · have hi' : i - olds.length < xs.length := by simp at h; omega
    have e1 : (olds ++ xs)[i] = xs[i - olds.length] := List.getElem_append_right (by omega)
    have hj' : j < xs[i - olds.length].cells.length := by rw [← e1]; exact h2
    have hmul : i * sz = olds.length * sz + (i - olds.length) * sz := by rw [← Nat.add_mul]; congr 1; omega
    have hlt : (i - olds.length) * sz + j < xs.length * sz := by
      have := Nat.mul_le_mul_right sz (show i - olds.length + 1 ≤ xs.length from hi')
      rw [Nat.add_mul] at this; omega
    refine ⟨val (i - olds.length) j, ?_, by simpa [e1] using hr _ hi' j hj'⟩
    rw [Array.getElem?_append_left (by simp [flatC_length]; omega), List.getElem?_toArray, List.getElem?_append_right (by omega), hol, show i * sz + j - olds.length * sz = (i - olds.length) * sz + j by omega]
    exact flatC_get _ _ _ _ _ hi' hj


/-- The elements that go over. -/
theorem elemsD_sound {h : Hp} (hh : HeapRep bad h w m c) {v : V} {x : Value} {xs : List V} {h1 : Hp} (hr : Rep bad w m c v x) (he : elemsD h v = some (xs, h1)) :
    ∃ m1, Le w m c w m1 c ∧ HeapRep bad h1 w m1 c ∧ ∃ (β o k cap : Nat) (val : Nat → Nat → Value), x = .slice (some ⟨β, o, none⟩) xs.length cap ∧ (∀ i (h : i < xs.length), xs[i].cells.length = k) ∧ (∀ i j, i < xs.length → j < k → w.cell? ⟨β, o + i * k + j, none⟩ = some (val i j)) ∧
      (∀ i (h : i < xs.length) j (h2 : j < xs[i].cells.length), Rep bad w m1 c (xs[i].cells[j]) (val i j)) := by
  cases v <;> simp only [elemsD] at he <;> try (cases he; done)
  case sl b s off len tip =>
    split at he
    · rename_i B hg
      split at he
      · rename_i hcond
        obtain ⟨hs, hv, hn, hle⟩ := hcond
        simp only [Option.some.injEq, Prod.mk.injEq] at he
        obtain ⟨rfl, rfl⟩ := he
        obtain ⟨l, β, cs, hm, hls, hlw, hlT, hblk, hcs, hsz, hle', hwd, hall⟩ := rep_block hh hg hs hn
        obtain ⟨le1, hh1⟩ := hh.erase b
        have hlen : ((B.es.drop off).take len).length = len := by simp; omega
        refine ⟨_, le1, hh1, ?_⟩
        cases hr with
        | pure hr => cases hr
        | sl hs' hx hb =>
          rcases hb l hm hls with ⟨h0, _⟩ | ⟨β', cap, h1, rfl, h2, _⟩
          · rw [hblk] at h0; cases h0
          · rw [hblk] at h1; cases h1
            refine ⟨β, off * l.w, B.w, cap, fun i j => (cs[(off + i) * B.w + j]?).getD Go.undef, by rw [hlen], fun i hi => ?_, fun i j hi hj => ?_, fun i hi j hj => ?_⟩
            · obtain ⟨h', e⟩ := sub_list hle hi
              rw [e]; exact hwd _ _
            · obtain ⟨h', e⟩ := sub_list hle hi
              obtain ⟨y, hy, _⟩ := hall (off + i) h' j (by rw [hwd]; exact hj)
              rw [cell_of_row w β _ cs _ _ hcs, hlw, show off * B.w + i * B.w + j = (off + i) * B.w + j by rw [Nat.add_mul], hy]; simp [hy]
            · obtain ⟨h', e⟩ := sub_list hle hi
              have hj' : j < B.es[off + i].cells.length := by rw [← e]; exact hj
              obtain ⟨y, hy, hr'⟩ := hall (off + i) h' j hj'
              show Rep bad w _ c _ ((cs[(off + i) * B.w + j]?).getD Go.undef)
              rw [hy]
              have e2 : ((B.es.drop off).take len)[i].cells[j] = B.es[off + i].cells[j] := by simp [e]
              rw [e2]
              exact hr'.rep.mono le1
      · cases he
    · cases he

theorem evAppendD_sound (hT : TabOk P T) {h : Hp} (hh : HeapRep bad h w m c) {dst : Tmp} {t ty : TypeId} {s x v : V} {sv xv : Value} (hrs : Rep bad w m c s sv) (hrx : Rep bad w m c x xv) {h' : Hp} {c' : Nat}
    (he : evAppendD T dst t s x h c = some (v, h', c')) :
    ∃ y w' m', (Builtin.append_ #[t, t] ty #[sv, xv]).run P w = .ok y w' ∧ Rep bad w' m' c' v y ∧ Le w m c w' m' c' ∧ HeapRep bad h' w' m' c' := by
  unfold evAppendD at he
  split at he
  · rename_i _ _ e _ hTt
    obtain ⟨_, _, _, _, _, hu, _⟩ := hT t _ hTt
    simp only [] at hu
    split at he
    · rename_i i xs h1 hTe hel
      obtain ⟨info, z, hi, hsz, hby, _, hz, _, hzs, _⟩ := hT e i hTe
      split at he
      · rename_i hcond
        obtain ⟨hall, hpos, hbpos, hemp⟩ := hcond
        have hxw : ∀ k (hk : k < xs.length), xs[k].cells.length = i.size ∧ xs[k].cells.all V.one = true := fun k hk => by
          have := List.all_eq_true.1 hall _ (List.getElem_mem hk)
          simpa using this
        obtain ⟨m1, le1, hh1, β, o, k, cap, val, hxv, hw, hc, hr⟩ := elemsD_sound hh hrx hel
        have hne : xs ≠ [] := by rintro rfl; simp at hemp
        have hpos' : 0 < xs.length := by cases xs <;> simp_all
        have hk : k = i.size := by rw [← hw 0 hpos']; exact (hxw 0 hpos').1
        subst hk
        have hone : ∀ u ∈ flatC xs.length i.size val, u.oneCell' = true := fun u hu => by
          obtain ⟨p, q, hp, hq, rfl⟩ := flatC_mem hu
          have hq' : q < xs[p].cells.length := by rw [hw]; exact hq
          exact (hr p hp q hq').one (List.all_eq_true.1 (hxw p hp).2 _ (List.getElem_mem hq'))
        have hcell : ∀ j u, (flatC xs.length i.size val)[j]? = some u → w.cell? ((⟨β, o, none⟩ : Addr).add j) = some u := fun j u hu => by
          obtain ⟨a1, a2, rfl, a4⟩ := flatC_ix val hu
          have := hc _ _ a1 a2
          rw [Addr.add_lit]
          rwa [show o + j = o + j / i.size * i.size + j % i.size by omega]
        have hsrc' : Src P i.size t xv xs.length (flatC xs.length i.size val) w := by
          rw [hxv]; exact Src.ofSlice w hu _ xs.length cap _ (flatC_length _ _ _) hcell hone
        have hzz : ∀ n, (Builtin.zeroCells z.cells n).size = n * i.size := fun n => by rw [size_zeroCells, hzs]
        have hrs1 := hrs.mono le1
        have grow : ∀ (hA : Hp) (mA : MM) (leA : Le w m1 c w mA c) (hhA : HeapRep bad hA w mA c) (base : Option Addr) (sCap : Nat) (olds : List V) (ov : List Value), sv = .slice base olds.length sCap →
            (∀ i' (h : i' < olds.length), olds[i'].cells.length = i.size) → ov.length = olds.length * i.size →
            (∀ i' (h : i' < olds.length) j (h2 : j < olds[i'].cells.length), ∃ x, ov[i' * i.size + j]? = some x ∧ Rep bad w mA c olds[i'].cells[j] x) →
            (Builtin.firstCells info.size olds.length (.slice base olds.length sCap)).run P w.drew = .ok ov.toArray w.drew → sCap < olds.length + xs.length → (olds.length + xs.length) * i.bytes ≤ roomB →
            ∃ y w' m', (Builtin.append_ #[t, t] ty #[sv, xv]).run P w = .ok y w' ∧ Rep bad w' m' (c + 1) (.sl dst c 0 (olds.length + xs.length) true) y ∧ Le w m c w' m' (c + 1) ∧
              HeapRep bad (hA.set dst ⟨c, e, i.size, true, false, olds ++ xs⟩) w' m' (c + 1) := by
          intro hA mA leA hhA base sCap olds ov hsv how hol hor hfirst hg hroom
          subst hsv
          have hmax := roomB_max hbpos hroom
          have hmax' := hmax
          unfold maxLen at hmax'
          have hrun := run_append_grow_src (P := P) w t t ty e info z hu hi hz base olds.length sCap ov hfirst xv xs.length (flatC xs.length i.size val) (by rw [hsz]; exact hsrc') hg (by omega)
            (by rw [hby]; exact growslice_fits hg (by unfold roomB at hroom; omega))
          have hge := grownCap_ge w (olds.length + xs.length) sCap e
          obtain ⟨hg1, hg2⟩ := grown_rowR (R := Rep bad w mA c) (zs := Builtin.zeroCells z.cells (grownCap w (olds.length + xs.length) sCap e - (olds.length + xs.length))) how hol hor (fun k hk => (hxw k hk).1) (fun a ha b hb => (hr a ha b hb).mono leA)
          have hsize : ((ov ++ flatC xs.length i.size val).toArray ++ Builtin.zeroCells z.cells (grownCap w (olds.length + xs.length) sCap e - (olds.length + xs.length))).size = grownCap w (olds.length + xs.length) sCap e * i.size := by
            simp only [Array.size_append, List.size_toArray, List.length_append, flatC_length, hol, hzz, ← Nat.add_mul]
            congr 1; omega
          obtain ⟨le2, hh2⟩ := hhA.drew
          have hnew := hh2.new dst (w' := w.drew.alloc (.cells ((ov ++ flatC xs.length i.size val).toArray ++ Builtin.zeroCells z.cells (grownCap w (olds.length + xs.length) sCap e - (olds.length + xs.length))) e))
            (fun β hβ => alloc_old _ _ β hβ) rfl rfl rfl (β0 := w.drew.heap.size) (Nat.le_refl _) (e := e) (wd := i.size) (var := true) (es := olds ++ xs) (by simpa using heap_alloc_new w.drew _)
            (by rw [hsize]; exact Nat.mul_le_mul_right _ (by simpa using hge)) hg1 (fun k hk j hj => by
              obtain ⟨y, hy, hr'⟩ := hg2 k hk j hj
              exact ⟨y, hy, by simpa [RepC] using hr'.mono le2⟩)
          refine ⟨_, _, _, hrun, ?_, ((le1.trans leA).trans le2).trans hnew.1, hnew.2⟩
          exact rep_slNew hge hsize.symm (grownCap_le_maxLen w _ sCap e hmax)
        split at he
        · -- onto nil
          obtain rfl : sv = .slice none 0 0 := by
            cases hrs with
            | pure h => cases h with
              | psNil => rfl
              | ps hn => exact absurd rfl hn
          split at he
          · rename_i hroom
            simp only [Option.some.injEq, Prod.mk.injEq] at he
            obtain ⟨rfl, rfl, rfl⟩ := he
            have := grow h1 m1 (Le.refl _ _ _) hh1 none 0 [] [] rfl (by simp) (by simp) (by simp) (run_firstCells_none _ _ _ _ _) (by simpa using hpos') (by simpa using hroom)
            simpa using this
          · cases he
        · -- onto such a row
          rename_i b st off len tip
          split at he
          · rename_i B hg
            split at he
            · rename_i hcond
              obtain ⟨hs, hv, hn, htip, hoff, hlen, hroom, hBw, hBT⟩ := hcond
              subst htip hoff
              simp only [Option.some.injEq, Prod.mk.injEq] at he
              obtain ⟨rfl, rfl, rfl⟩ := he
              obtain ⟨l, β2, cs, hm, hls, hlw, hlT, hblk, hcs, hcsz, hle', hwd, hall2⟩ := rep_block hh1 hg hs hn
              cases hrs1 with
              | pure hr => cases hr
              | sl hs' hx hb =>
                rcases hb l hm hls with ⟨h0, _⟩ | ⟨β', cap2, h1', hsv0, hle, h3, hcmax, h5⟩
                · rw [hblk] at h0; cases h0
                · rw [hblk] at h1'; cases h1'
                  rw [Nat.zero_mul] at hsv0
                  subst hsv0
                  have hcap : cap2 * i.size = cs.size := by rw [← hBw, ← hlw, hcsz]; exact (h5 rfl).2
                  rw [hBw] at hwd hall2
                  rw [hBT] at hcs
                  subst hlen
                  obtain ⟨le3, hh3⟩ := hh1.erase b
                  by_cases hfit : B.es.length + xs.length ≤ cap2
                  · -- in place
                    subst hxv
                    have hfull : B.es.length * i.size + (flatC xs.length i.size val).length ≤ cs.toList.length := by
                      rw [flatC_length, ← Nat.add_mul]
                      simp only [Array.length_toList, ← hcap]
                      exact Nat.mul_le_mul_right _ hfit
                    have hrun := run_append_room (P := P) w t ty e info hu hi β2 B.es.length cap2 cs hcs ⟨β, o, none⟩ xs.length cap (flatC xs.length i.size val) (by rw [hsz]; exact flatC_length _ _ _) hcell hone hfit (by rw [hsz]; simpa using hfull)
                    rw [hsz] at hrun
                    let cs' := (cs.toList.take (B.es.length * i.size) ++ flatC xs.length i.size val ++ cs.toList.drop (B.es.length * i.size + (flatC xs.length i.size val).length)).toArray
                    have hcs' : cs'.size = cs.size := by simp [cs']; simp at hfull; omega
                    have hget : ∀ p, cs'[p]? = if p < B.es.length * i.size then cs[p]? else if p < B.es.length * i.size + (flatC xs.length i.size val).length then (flatC xs.length i.size val)[p - B.es.length * i.size]? else cs[p]? := fun p => by
                      have := splice_get cs.toList (flatC xs.length i.size val) (B.es.length * i.size) p hfull
                      simpa [cs'] using this
                    have hbnd : ∀ {p q N : Nat}, p < N → q < i.size → p * i.size + q < N * i.size := fun {p q N} h1 h2 => by
                      have := Nat.mul_le_mul_right i.size (show p + 1 ≤ N from h1)
                      rw [Nat.add_mul] at this; omega
                    have hww : ∀ k (hk : k < (B.es ++ xs).length), (B.es ++ xs)[k].cells.length = i.size := fun k hk => by
                      rw [List.getElem_append]
                      split
                      · exact hwd _ _
                      · exact (hxw _ _).1
                    have key := hh1.takeC hm hblk dst (w' := w.setRow β2 cs') (fun γ _ hne => setRow_other w β2 γ cs' hne) (by simp) rfl rfl rfl (e := e) (wd := i.size) (es := B.es ++ xs) (cs := cs') (setRow_heap w β2 cs cs' _ _ hcs)
                      (by rw [hcs', ← hcap]; exact Nat.mul_le_mul_right _ (by simpa using hfit)) hww true (fun k hk q hq => by
                        have hq' : q < i.size := by rw [← hww k hk]; exact hq
                        rw [hget]
                        by_cases hk1 : k < B.es.length
                        · have e1 : (B.es ++ xs)[k] = B.es[k] := List.getElem_append_left hk1
                          have hq1 : q < B.es[k].cells.length := by rw [← e1]; exact hq
                          rw [if_pos (hbnd hk1 hq')]
                          obtain ⟨y, hy, hr'⟩ := hall2 k hk1 q hq1
                          exact ⟨y, hy, by simpa [e1, RepC] using hr'.rep⟩
                        · have hk2 : k - B.es.length < xs.length := by simp at hk; omega
                          have e1 : (B.es ++ xs)[k] = xs[k - B.es.length] := List.getElem_append_right (by omega)
                          have hq1 : q < xs[k - B.es.length].cells.length := by rw [← e1]; exact hq
                          have hmul : k * i.size = B.es.length * i.size + (k - B.es.length) * i.size := by rw [← Nat.add_mul]; congr 1; omega
                          have := hbnd hk2 hq'
                          rw [if_neg (by omega), if_pos (by rw [flatC_length]; omega), show k * i.size + q - B.es.length * i.size = (k - B.es.length) * i.size + q by omega]
                          exact ⟨_, flatC_get _ _ _ _ _ hk2 hq', by simpa [e1, RepC] using hr _ hk2 q hq1⟩)
                    refine ⟨_, _, _, hrun, ?_, le1.trans key.1, key.2⟩
                    exact rep_slNew hfit (by rw [hcs', hcap]) hcmax
                  · -- a new row
                    have hfl : (cs.toList.take (B.es.length * i.size)).length = B.es.length * i.size := by
                      simp only [List.length_take, Array.length_toList, ← hcap]
                      have := Nat.mul_le_mul_right i.size hle
                      omega
                    refine grow (h1.erase b) _ le3 hh3 (some ⟨β2, 0, none⟩) cap2 B.es (cs.toList.take (B.es.length * i.size)) (by simp) hwd hfl (fun k hk q hq => ?_) ?_ (by omega) hroom
                    · obtain ⟨y, hy, hr'⟩ := hall2 k hk q hq
                      refine ⟨y, ?_, hr'.rep.mono le3⟩
                      have hq' : q < i.size := by rw [← hwd k hk]; exact hq
                      have := Nat.mul_le_mul_right i.size (show k + 1 ≤ B.es.length from hk)
                      rw [Nat.add_mul] at this
                      rw [List.getElem?_take_of_lt (by omega)]
                      simpa using hy
                    · refine run_firstCells_some w.drew _ _ _ _ _ _ (by rw [hsz]; exact hfl) fun j u hu => ?_
                      have hj : j < B.es.length * i.size := by
                        have := (List.getElem?_eq_some_iff.1 hu).1
                        omega
                      rw [Addr.add_lit, Nat.zero_add, World.cell?_drew, cell_of_row w β2 _ cs _ _ hcs]
                      rw [List.getElem?_take_of_lt hj] at hu
                      simpa using hu
            · cases he
          · cases he
        · cases he
      · cases he
    · cases he
  · cases he

theorem evAppend_sound (hT : TabOk P T) {h : Hp} (hh : HeapRep bad h w m c) {dst : Tmp} {t ty : TypeId} {s x v : V} {sv xv : Value} (hrs : Rep bad w m c s sv) (hrx : Rep bad w m c x xv) {h' : Hp} {c' : Nat}
    (he : evAppend T dst t s x h c = some (v, h', c')) :
    ∃ y w' m', (Builtin.append_ #[t, t] ty #[sv, xv]).run P w = .ok y w' ∧ Rep bad w' m' c' v y ∧ Le w m c w' m' c' ∧ HeapRep bad h' w' m' c' := by
  unfold evAppend at he
  split at he
  · rename_i h0
    rw [he] at h0
    exact evAppend0_sound hT hh hrs hrx h0
  · exact evAppendD_sound hT hh hrs hrx he

end
end Go.Mx
