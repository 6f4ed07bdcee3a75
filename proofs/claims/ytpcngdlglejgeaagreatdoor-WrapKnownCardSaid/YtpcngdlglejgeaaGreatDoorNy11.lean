/-
  The abstract machine's operations are sound: every one of them; the frame's state; regions in the order of the text.
-/
import Derived.Test.YtpcngdlglejgeaaGreatDoorNy10
import Derived.Laws.BytesString
namespace Go.Mx
set_option linter.unusedVariables false
set_option linter.unusedSimpArgs false

section
variable {P : Program} {T : TypeId → Option TI} {w : World} {m : MM} {c : Nat} {bad : Nat → Prop}

/-- What an operation came to. -/
def Gives (bad : Nat → Prop) (P : Program) (w : World) (m : MM) (c : Nat) (s : Sem Next) (v : V) (h' : Hp) (c' : Nat) : Prop :=
  ∃ r w' m', s.run P w = .ok r w' ∧ ((∃ x, r = .value x ∧ Rep bad w' m' c' v x) ∨ (r = .skip ∧ v = .p Go.undef)) ∧ Le w m c w' m' c' ∧ HeapRep bad h' w' m' c'

theorem gives_pure {h : Hp} (hh : HeapRep bad h w m c) {s : Sem Next} {v : V} {x : Value} (hr : s.run P w = .ok (.value x) w) (hv : Rep bad w m c v x) : Gives bad P w m c s v h c :=
  ⟨_, w, m, hr, .inl ⟨x, rfl, hv⟩, Le.refl _ _ _, hh⟩

theorem optI_of {t : List V} {a : Act} (ht : RepT bad w m c t a.tmps) (x : Option Operand) : OptI bad w m c (x.map (evalO t)) (x.map a.eval) := by
  cases x with
  | none => trivial
  | some x => exact ht.eval x

theorem repPs_of {t : List V} {a : Act} (ht : RepT bad w m c t a.tmps) : ∀ (ps : List (Nat × Operand)), RepPs bad w m c (ps.map fun x => (x.1, evalO t x.2)) (ps.map fun x => (x.1, a.eval x.2))
  | [] => trivial
  | x :: r => ⟨rfl, ht.eval x.2, repPs_of ht r⟩

theorem repL_of {t : List V} {a : Act} (ht : RepT bad w m c t a.tmps) (xs : List Operand) : (xs.map (evalO t)).length = (xs.map a.eval).length ∧ ∀ i (h1 : i < (xs.map (evalO t)).length) (h2 : i < (xs.map a.eval).length), Rep bad w m c (xs.map (evalO t))[i] (xs.map a.eval)[i] :=
  ⟨by simp, fun i h1 h2 => by simpa using ht.eval _⟩

theorem toVals_rep {vs : List V} {xs ys : List Value} (h : toVals vs = some xs) (hl : vs.length = ys.length) (hr : ∀ i (h1 : i < vs.length) (h2 : i < ys.length), Rep bad w m c vs[i] ys[i]) : ys = xs := by
  have := toVals_spec h
  subst this
  apply List.ext_getElem
  · simpa using hl.symm
  · intro i h1 h2
    have := hr i (by simpa using h2) h1
    simp only [List.getElem_map] at this
    exact rep_p this

theorem evBuiltin_sound {b : Builtin} {argTypes : Array TypeId} {ty : TypeId} {consts : Array Bool} {vs : List V} {ys : List Value} (hl : vs.length = ys.length) (hr : ∀ i (h1 : i < vs.length) (h2 : i < ys.length), Rep bad w m c vs[i] ys[i]) {v : V}
    (he : evBuiltin P b argTypes ty consts vs = some v) : ∃ x, (builtin b argTypes ty consts ys.toArray).run P w = .ok (.value x) w ∧ Rep bad w m c v x := by
  unfold evBuiltin at he
  split at he
  · rename_i xs hx
    obtain rfl := toVals_rep hx hl hr
    obtain ⟨n, hn, hv⟩ := Option.bind_eq_some_iff.1 he
    cases n <;> simp [valueOf] at hv
    subst hv
    exact ⟨_, still_run P _ _ hn w, .pure (.p _)⟩
  · cases he

theorem repP_p {ok : Nat → Prop} {x y : Value} (h : RepP w ok (.p x) y) : y = x := by cases h; rfl

theorem evConvert_sound (hT : TabOk P T) {h : Hp} (hh : HeapRep bad h w m c) {src dst : TypeId} {v v' : V} {x : Value} (hr : Rep bad w m c v x) (he : evConvert P T h src dst v = some v') :
    ∃ y, (convert src dst x).run P w = .ok y w ∧ Rep bad w m c v' y := by
  unfold evConvert at he
  split at he
  · obtain rfl := rep_p hr
    simp only [Option.map_eq_some_iff] at he
    obtain ⟨r, hr, rfl⟩ := he
    exact ⟨r, still_run P _ _ hr w, .pure (.p _)⟩
  · split at he
    · rename_i _ _ e _ _ _ _ hTs hTd
      obtain ⟨_, _, _, _, _, hu, _⟩ := hT src _ hTs
      obtain ⟨_, _, _, _, _, hud, _⟩ := hT dst _ hTd
      simp only [] at hu hud
      split at he
      · rename_i _ _ xs hTe hel
        obtain ⟨info, _, hi, hsz, _, hue, _⟩ := hT e _ hTe
        simp only [] at hsz hue
        simp only [Option.map_eq_some_iff] at he
        obtain ⟨l, hl, rfl⟩ := he
        have hbytes : ∀ (xs : List V) (l : List UInt8), bytesOf xs = some l → ∃ ns : List Int, xs = ns.map (fun n => V.p (.int .u8 n)) ∧ l = ns.map fun n => UInt8.ofNat n.toNat := by
          intro xs
          induction xs with
          | nil => intro l h; simp only [bytesOf, Option.some.injEq] at h; subst h; exact ⟨[], rfl, rfl⟩
          | cons v r ih =>
            intro l h
            unfold bytesOf at h
            split at h
            · rename_i h0; cases h0
            · rename_i n r' h0
              cases h0
              simp only [Option.map_eq_some_iff] at h
              obtain ⟨l', h1, rfl⟩ := h
              obtain ⟨ns, rfl, rfl⟩ := ih l' h1
              exact ⟨n :: ns, rfl, rfl⟩
            · cases h
        obtain ⟨ns, rfl, rfl⟩ := hbytes xs l hl
        rcases elems_sound hh hr hel with ⟨h0, rfl⟩ | ⟨h0, a, cap, rfl⟩ | ⟨β, o, k, cap, val, rfl, hw, hc, hr'⟩
        · have : ns = [] := by simpa using h0
          subst this
          exact ⟨.string .empty, by simp [convert, run_underlying hu, run_underlying hud, run_underlying hue, Conv.bytesToString], .pure (.p _)⟩
        · have : ns = [] := by simpa using h0
          subst this
          have hload : (loadCells a 0).run P w = .ok #[] w := by
            have := run_loadCells_list (P := P) w a ([] : List Value) (fun j u hu => by simp at hu)
            simpa using this
          refine ⟨_, ?_, .pure (.p _)⟩
          rw [run_convert_bytes_string w src dst e _ _ _ hu hue hud, run_bytesToString w _ _ _ [] (by simpa using hload)]
          rfl
        · have hfold : ∀ (ns : List Int) (s : ByteArray), ns.foldl (fun r n => r.push (UInt8.ofNat n.toNat)) s = ⟨s.data ++ (ns.map fun n => UInt8.ofNat n.toNat).toArray⟩ := by
            intro ns
            induction ns with
            | nil => intro s; simp
            | cons n r ih => intro s; rw [List.foldl_cons, ih]; simp [ByteArray.push]
          have hload : (loadCells ⟨β, o, none⟩ (ns.map fun n => V.p (.int .u8 n)).length).run P w = .ok (ns.map (Value.int .u8)).toArray w := by
            have := run_loadCells_list (P := P) w ⟨β, o, none⟩ (ns.map (Value.int .u8)) fun j u hu => by
              obtain ⟨hj, rfl⟩ := List.getElem?_eq_some_iff.1 hu
              have hj' : j < ns.length := by simpa using hj
              have hk : k = 1 := by rw [← hw 0 (by simp; omega)]; simp [V.cells]
              subst hk
              have h3 := hr' j (by simpa using hj') 0 (by simp [V.cells])
              have h4 := hc j 0 (by simpa using hj') (by omega)
              simp only [List.getElem_map, V.cells, List.getElem_cons_zero] at h3
              have h5 : val j 0 = .int .u8 ns[j] := repP_p h3
              rw [Addr.add_lit]
              rw [h5] at h4
              simpa using h4
            simpa using this
          refine ⟨_, ?_, .pure (.p _)⟩
          rw [run_convert_bytes_string w src dst e _ _ _ hu hue hud, run_bytesToString w _ _ _ ns hload, hfold]
          have e0 : ByteArray.empty.data = #[] := rfl
          rw [e0, Array.empty_append]
      · cases he
    · cases he

theorem evOper_sound (hT : TabOk P T) {h : Hp} (hh : HeapRep bad h w m c) {t : List V} {a : Act} (ht : RepT bad w m c t a.tmps) {draw : Bool} {o : Oper} {v : V} {h' : Hp} {c' : Nat} (he : evOper P T draw t o h c = some (v, h', c')) :
    Gives bad P w m c (execOp a.eval o) v h' c' := by
  obtain ⟨dst, op, ty, pos, after, guard⟩ := o
  cases op <;> simp only [evOper, evOperF] at he <;> try (cases he; done)
  case move x => cases he; exact gives_pure hh rfl (ht.eval x)
  case assign x => cases he; exact gives_pure hh rfl (ht.eval x)
  case pick k x y =>
    have hk := ht.eval k
    split at he
    · rename_i hv
      cases he
      rw [hv] at hk
      exact gives_pure hh (by simp [execOp, rep_p hk, asBool]) (ht.eval x)
    · rename_i hv
      cases he
      rw [hv] at hk
      exact gives_pure hh (by simp [execOp, rep_p hk, asBool]) (ht.eval y)
    · cases he
  case alloc e =>
    split at he
    · rename_i d i hTe
      cases he
      obtain ⟨y, w', m', h1, h2, h3, h4⟩ := evAlloc_sound hT hh hTe d
      exact ⟨_, w', m', by simp [execOp, h1], .inl ⟨y, rfl, h2⟩, h3, h4⟩
    · cases he
  case box e x =>
    split at he
    · rename_i d
      split at he
      · rename_i hone
        cases he
        obtain ⟨y, w', m', h1, h2, h3, h4⟩ := evBox_sound (P := P) hh (e := e) (ht.eval x) hone d
        exact ⟨_, w', m', by simp [execOp, h1], .inl ⟨y, rfl, h2⟩, h3, h4⟩
      · cases he
    · cases he
  case build t' ps =>
    simp only [Option.map_eq_some_iff, Prod.mk.injEq] at he
    obtain ⟨v', he, rfl, rfl, rfl⟩ := he
    obtain ⟨y, h1, h2⟩ := evBuild_sound hT (qs := ps.map fun (i, x) => (i, a.eval x)) (by simpa using repPs_of ht ps.toList) he
    exact gives_pure hh (by simp only [execOp, Sem.run_bind, h1, Result.andThen_ok]; rfl) h2
  case buildSlice t' len ps =>
    split at he
    · rename_i d
      obtain ⟨y, w', m', h1, h2, h3, h4⟩ := evBuildSlice_sound hT hh (qs := ps.map fun (i, x) => (i, a.eval x)) (by simpa using repPs_of ht ps.toList) he
      exact ⟨_, w', m', by simp only [execOp, Sem.run_bind, h1, Result.andThen_ok]; rfl, .inl ⟨y, rfl, h2⟩, h3, h4⟩
    · cases he
  case load t' x =>
    simp only [Option.map_eq_some_iff, Prod.mk.injEq] at he
    obtain ⟨v', he, rfl, rfl, rfl⟩ := he
    obtain ⟨y, h1, h2⟩ := evLoad_sound hT hh (ht.eval x) he
    exact gives_pure hh (by simp [execOp, h1]) h2
  case store t' x y =>
    simp only [Option.map_eq_some_iff, Prod.mk.injEq] at he
    obtain ⟨h1', he, rfl, rfl, rfl⟩ := he
    obtain ⟨w', m', h1, h2, h3⟩ := evStore_sound hT hh (ht.eval x) (ht.eval y) he
    exact ⟨_, w', m', by simp [execOp, h1], .inr ⟨rfl, rfl⟩, h2, h3⟩
  case makeMap t' r =>
    cases r <;> simp only [] at he <;> try (cases he; done)
    split at he
    · rename_i d
      cases he
      obtain ⟨le1, hh1⟩ := hh.newM d t'
      refine ⟨.value (.map (some w.heap.size)), _, _, by simp [execOp, Instr.makeMap, Result.andThen], .inl ⟨.map (some w.heap.size), rfl, ?_⟩, le1, hh1⟩
      refine .mp (by omega) rfl fun l hl _ => ?_
      simp only [upd, if_true, Option.some.injEq] at hl
      subst hl
      exact ⟨_, rfl, rfl⟩
    · cases he
  case lookup t' x ix ok =>
    cases ok <;> simp only [] at he <;> try (cases he; done)
    simp only [Option.map_eq_some_iff, Prod.mk.injEq] at he
    obtain ⟨v', he, rfl, rfl, rfl⟩ := he
    obtain ⟨y, h1, h2⟩ := evLookup_sound hT hh (ht.eval x) (ht.eval ix) he
    exact gives_pure hh (by simp [execOp, h1]) h2
  case mapUpdate t' x k y =>
    simp only [Option.map_eq_some_iff, Prod.mk.injEq] at he
    obtain ⟨h1', he, rfl, rfl, rfl⟩ := he
    obtain ⟨w', h1, h2, h3⟩ := evMapUpd_sound hT hh (ht.eval x) (ht.eval k) (ht.eval y) he
    exact ⟨_, w', m, by simp [execOp, h1], .inr ⟨rfl, rfl⟩, h2, h3⟩
  case nilCheck x =>
    have hx := ht.eval x
    split at he
    · rename_i v0 off hv
      cases he
      rw [hv] at hx
      have hx' : ∃ ad, a.eval x = .pointer (some ad) := by
        generalize a.eval x = y at hx
        cases hx with
        | pure h => cases h with
          | ref hβ ho hc hr => exact ⟨_, rfl⟩
      obtain ⟨ad, e⟩ := hx'
      exact gives_pure hh (x := a.eval x) (by simp only [execOp]; rw [e]; rfl) hx
    · rename_i b s i off hv
      split at he
      · rename_i hl
        cases he
        rw [hv] at hx
        obtain ⟨_, l, β, _, _, _, e⟩ := rep_box hh hl hx
        exact gives_pure hh (x := a.eval x) (by simp only [execOp]; rw [e]; rfl) hx
      · cases he
    · cases he
  case binOp op xt x y yt =>
    simp only [Option.map_eq_some_iff, Prod.mk.injEq] at he
    obtain ⟨v', he, rfl, rfl, rfl⟩ := he
    obtain ⟨r, h1, h2⟩ := evBin_sound hT hh (ht.eval x) (ht.eval y) he
    exact gives_pure hh (by simp only [execOp, Sem.run_bind] at h1 ⊢; rw [h1]; rfl) h2
  case unOp op xt x =>
    simp only [Option.map_eq_some_iff, Prod.mk.injEq] at he
    obtain ⟨v', he, rfl, rfl, rfl⟩ := he
    have hx := ht.eval x
    unfold evUn at he
    split at he
    · rename_i y hv
      rw [hv] at hx
      simp only [Option.map_eq_some_iff] at he
      obtain ⟨r, hr, rfl⟩ := he
      exact gives_pure hh (by simp [execOp, rep_p hx, still_run P _ _ hr w]) (.pure (.p _))
    · cases he
  case convert src d x =>
    simp only [Option.map_eq_some_iff, Prod.mk.injEq] at he
    obtain ⟨v', he, rfl, rfl, rfl⟩ := he
    obtain ⟨y, h1, h2⟩ := evConvert_sound hT hh (ht.eval x) he
    exact gives_pure hh (by simp [execOp, h1]) h2
  case makeFunc fn first cap =>
    cases fn <;> simp only [] at he <;> try (cases he; done)
    rename_i f
    cases he
    refine gives_pure hh (x := .func (.func f) (first.map a.eval) (cap.map a.eval)) rfl (.fn (by simp) (by simp) (fun i h1 h2 => ?_) fun i h1 h2 => ?_)
    · simpa using ht.eval _
    · simpa using ht.eval _
  case makeSlice t' l k =>
    split at he
    · rename_i d
      obtain ⟨y, w', m', h1, h2, h3, h4⟩ := evMake_sound hT hh (ht.eval l) (ht.eval k) he
      exact ⟨_, w', m', by simp [execOp, h1], .inl ⟨y, rfl, h2⟩, h3, h4⟩
    · cases he
  case slice t' x lo hi mx =>
    split at he
    · cases he
    · rename_i hmh
      simp only [Option.map_eq_some_iff, Prod.mk.injEq] at he
      obtain ⟨v', he, rfl, rfl, rfl⟩ := he
      obtain ⟨y, h1, h2⟩ := evSlice_sound hT hh (ht.eval x) (optI_of ht lo) (optI_of ht hi) (optI_of ht mx) (by cases mx <;> cases hi <;> simp_all) he
      exact gives_pure hh (by simp [execOp, h1]) h2
  case fieldAddr s x f =>
    simp only [Option.map_eq_some_iff, Prod.mk.injEq] at he
    obtain ⟨v', he, rfl, rfl, rfl⟩ := he
    obtain ⟨y, h1, h2⟩ := evFieldAddr_sound hT hh (ht.eval x) he
    exact gives_pure hh (by simp [execOp, h1]) h2
  case field s x f =>
    simp only [Option.map_eq_some_iff, Prod.mk.injEq] at he
    obtain ⟨v', he, rfl, rfl, rfl⟩ := he
    obtain ⟨y, h1, h2⟩ := evField_sound hT (ht.eval x) he
    exact gives_pure hh (by simp [execOp, h1]) h2
  case indexAddr t' x ix =>
    simp only [Option.map_eq_some_iff, Prod.mk.injEq] at he
    obtain ⟨v', he, rfl, rfl, rfl⟩ := he
    obtain ⟨y, h1, h2⟩ := evIndexAddr_sound hT hh (ht.eval x) (ht.eval ix) he
    exact gives_pure hh (by simp [execOp, h1]) h2
  case index t' x ix =>
    simp only [Option.map_eq_some_iff, Prod.mk.injEq] at he
    obtain ⟨v', he, rfl, rfl, rfl⟩ := he
    obtain ⟨y, h1, h2⟩ := evIndex_sound hT (ht.eval x) (ht.eval ix) he
    exact gives_pure hh (by simp [execOp, h1]) h2
  case extract x i =>
    have hx := ht.eval x
    split at he
    · rename_i vs hv
      rw [hv] at hx
      simp only [Option.map_eq_some_iff, Prod.mk.injEq] at he
      obtain ⟨v', he, rfl, rfl, rfl⟩ := he
      obtain ⟨cs, hx', hl, hr⟩ := rep_tup hx
      obtain ⟨hlt, hv'⟩ := List.getElem?_eq_some_iff.1 he
      have hlt' : i < cs.size := by omega
      exact gives_pure hh (x := cs[i]) (by simp [execOp, hx', Instr.extract, hlt']) (by rw [← hv']; exact hr i hlt hlt')
    · cases he
  case call cl =>
    obtain ⟨callee, args, argTypes⟩ := cl
    cases callee with
    | value f => simp only [] at he; cases he
    | invoke r mm => simp only [] at he; cases he
    | builtin b =>
      have hbi : ∀ v' , evBuiltin P b argTypes ty (args.map fun | .const _ => true | _ => false) (args.toList.map (evalO t)) = some v' → v = v' → h' = h → c' = c →
          Gives bad P w m c (execOp a.eval ⟨dst, .call ⟨.builtin b, args, argTypes⟩, ty, pos, after, guard⟩) v h' c' := by
        rintro v' hv rfl rfl rfl
        obtain ⟨hl, hr⟩ := repL_of ht args.toList
        obtain ⟨x, h1, h2⟩ := evBuiltin_sound (P := P) hl hr hv
        refine gives_pure hh ?_ h2
        have e0 : (args.toList.map a.eval).toArray = args.map a.eval := by apply Array.ext'; simp
        rw [e0] at h1
        simp only [execOp, resolve, Sem.run_bind, Sem.run_pure, Result.andThen_ok, invoke]
        exact h1
      cases b <;> simp only [] at he <;> try (cases he; done)
      case append =>
        split at he
        · rename_i d s x t1 t2 ha hat
          split at he
          · rename_i htt
            subst htt
            obtain ⟨y, w', m', h1, h2, h3, h4⟩ := evAppend_sound (ty := ty) hT hh (ht.eval s) (ht.eval x) he
            have e1 : args = #[s, x] := by apply Array.ext'; simpa using ha
            have e2 : argTypes = #[t1, t1] := by apply Array.ext'; simpa using hat
            subst e1 e2
            exact ⟨_, w', m', by simp [execOp, resolve, invoke, builtin, h1], .inl ⟨y, rfl, h2⟩, h3, h4⟩
          · cases he
        · cases he
      case len =>
        split at he
        · rename_i x t1 ha hat
          simp only [Option.map_eq_some_iff, Prod.mk.injEq] at he
          obtain ⟨v', he, rfl, rfl, rfl⟩ := he
          obtain ⟨y, h1, h2⟩ := evLen_sound (ty := ty) hT hh (ht.eval x) he
          have e1 : args = #[x] := by apply Array.ext'; simpa using ha
          have e2 : argTypes = #[t1] := by apply Array.ext'; simpa using hat
          subst e1 e2
          exact gives_pure hh (by simp [execOp, resolve, invoke, builtin, h1]) h2
        · cases he
      case copy =>
        split at he
        · rename_i d x t1 t2 ha hat
          obtain ⟨y, w', m', h1, h2, h3, h4⟩ := evCopy_sound (ty := ty) (t2 := t2) hT hh (ht.eval d) (ht.eval x) he
          have e1 : args = #[d, x] := by apply Array.ext'; simpa using ha
          have e2 : argTypes = #[t1, t2] := by apply Array.ext'; simpa using hat
          subst e1 e2
          exact ⟨_, w', m', by simp [execOp, resolve, invoke, builtin, h1], .inl ⟨y, rfl, h2⟩, h3, h4⟩
        · cases he
      case clear =>
        split at he
        · rename_i x t1 ha hat
          obtain ⟨y, w', m', h1, h2, h3, h4⟩ := evClear_sound (ty := ty) hT hh (ht.eval x) he
          have e1 : args = #[x] := by apply Array.ext'; simpa using ha
          have e2 : argTypes = #[t1] := by apply Array.ext'; simpa using hat
          subst e1 e2
          exact ⟨_, w', m', by simp [execOp, resolve, invoke, builtin, h1], .inl ⟨y, rfl, h2⟩, h3, h4⟩
        · cases he
      all_goals
        simp only [Option.map_eq_some_iff, Prod.mk.injEq] at he
        obtain ⟨v', he, h1, h2, h3⟩ := he
        exact hbi v' he h1.symm h2.symm h3.symm

end
end Go.Mx
