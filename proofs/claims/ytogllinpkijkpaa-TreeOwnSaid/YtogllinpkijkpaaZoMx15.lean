/-
  Calls to which blocks are lent.
-/
import Derived.Test.YtogllinpkijkpaaZoMx13
namespace Go.Mx
set_option linter.unusedVariables false
set_option linter.unusedSimpArgs false
def mapO (f : V → Option V) : List V → Option (List V)
 | []=>some []
 | v :: r=>match f v,mapO f r with
  | some v',some r'=>some (v' :: r')
  | _,_=>none
theorem mapO_spec {f : V → Option V} : ∀ {vs vs' : List V},mapO f vs = some vs' → vs'.length = vs.length ∧ ∀ i (h1 : i < vs.length) (h2 : i < vs'.length),f vs[i] = some vs'[i]
 | [],vs',h=>by
  simp only [mapO,Option.some.injEq] at h
  subst h
  exact ⟨rfl,fun i h1=>by simp at h1⟩
 | v :: r,vs',h=>by
  simp only [mapO] at h
  split at h
  ·rename_i v1 r1 h1 h2
   cases h
   obtain ⟨a,b⟩:=mapO_spec h2
   refine ⟨by simp [a],fun i h3 h4=>?_⟩
   cases i with
   | zero=>exact h1
   | succ i=>simpa using b i (by simpa using h3) (by simpa using h4)
  ·cases h
def trV (h : Hp) (κ : Nat → Option (Nat × Nat)) (bor : List Nat) : Nat → V → Option V
 | 0,_=>none
 | n + 1,v=>match v with
  | .sl b s off len tip=>match h.get b with
   | some B=>if B.s = s then (match κ b with
     | some (b',s')=>some (.sl b' s' off len tip)
     | none=>if bor.contains b = true ∧ B.var = false then (if B.nl then none else if off + len ≤ B.es.length then some (.ps .any ((B.es.drop off).take len)) else none)
      else if bor.contains b = true ∧ B.nl = false ∧ off + len ≤ B.es.length then (match mapO (trV h κ bor n) ((B.es.drop off).take len) with
       | some es=>if es.all (fun e=>e.cells.all (pur 3)) = true then some (.ps .any es) else none
       | none=>none) else none) else none
   | none=>none
  | .box b s i off=>match h.get b with
   | some B=>if B.s = s ∧ B.nl = false then (match κ b with
     | some (b',s')=>some (.box b' s' i off)
     | none=>if bor.contains b = true then (match B.es[i]? with
       | some e=>if e.cells.all (pur 3) = true ∧ off < e.cells.length then some (.ref e off) else
         if e.isAgg = false ∧ off = 0 then (match trV h κ bor n e with
          | some e'=>if pur 3 e' = true ∧ e'.isAgg = false then some (.ref e' 0) else none
          | none=>none) else none
       | none=>none) else none) else none
   | none=>none
  | .agg vs=>(mapO (trV h κ bor n) vs).map .agg
  | .tup vs=>(mapO (trV h κ bor n) vs).map .tup
  | .fn f zs bs=>match mapO (trV h κ bor n) zs,mapO (trV h κ bor n) bs with
   | some zs',some bs'=>some (.fn f zs' bs')
   | _,_=>none
  | v=>some v
theorem trV_notAgg {h : Hp} {κ : Nat → Option (Nat × Nat)} {bor : List Nat} {n : Nat} {v v' : V} (he : trV h κ bor (n + 1) v = some v') (hv : v.isAgg = false) : v'.cells = [v']:=by
 cases v with
 | agg vs=>simp [V.isAgg] at hv
 | p y=>simp only [trV,Option.some.injEq] at he; subst he; rfl
 | undef=>simp only [trV,Option.some.injEq] at he; subst he; rfl
 | ref u o=>simp only [trV,Option.some.injEq] at he; subst he; rfl
 | ps k xs=>simp only [trV,Option.some.injEq] at he; subst he; rfl
 | tup vs =>
  simp only [trV,Option.map_eq_some_iff] at he
  obtain ⟨_,_,rfl⟩:=he; rfl
 | fn f zs bs =>
  simp only [trV] at he
  split at he
  ·cases he; rfl
  ·cases he
 | sl b s off len tip =>
  simp only [trV] at he
  split at he
  ·split at he
   ·split at he
    ·cases he; rfl
    ·split at he
     ·split at he
      ·cases he
      ·split at he
       ·cases he; rfl
       ·cases he
     ·split at he
      ·split at he
       ·split at he
        ·cases he; rfl
        ·cases he
       ·cases he
      ·cases he
   ·cases he
  ·cases he
 | box b s i off =>
  simp only [trV] at he
  split at he
  ·split at he
   ·split at he
    ·cases he; rfl
    ·split at he
     ·split at he
      ·split at he
       ·cases he; rfl
       ·split at he
        ·split at he
         ·split at he
          ·cases he; rfl
          ·cases he
         ·cases he
        ·cases he
      ·cases he
     ·cases he
   ·cases he
  ·cases he
section
variable {P : Program} {T : TypeId → Option TI} {bad bad' : Nat → Prop}
theorem rep_fn {w : World} {m : MM} {c : Nat} {f : FuncId} {zs bs : List V} {x : Value} (h : Rep bad w m c (.fn f zs bs) x) : ∃ cs ds,x = .func (.func f) cs ds ∧ zs.length = cs.size ∧ bs.length = ds.size ∧
  (∀ i (h1 : i < zs.length) (h2 : i < cs.size),Rep bad w m c zs[i] cs[i]) ∧ ∀ i (h1 : i < bs.length) (h2 : i < ds.size),Rep bad w m c bs[i] ds[i]:=by
 cases h with
 | pure h=>cases h with
  | fn a b p q=>exact ⟨_,_,rfl,a,b,fun i h1 h2=>.pure (p i h1 h2),fun i h1 h2=>.pure (q i h1 h2)⟩
 | fn a b p q=>exact ⟨_,_,rfl,a,b,p,q⟩
theorem trV_sound {w : World} {m m' : MM} {c c' : Nat} {h : Hp} (hh : HeapRep bad h w m c) (hok : ∀ β,okOf bad w m β → okOf bad' w m' β) {κ : Nat → Option (Nat × Nat)} {bor : List Nat}
  (hκ : ∀ b b' s',κ b = some (b',s') → s' < c' ∧ ∀ l,m b = some l → m' b' = some { l with s:=s' }) (hbor : ∀ b ∈ bor,κ b = none → ∀ l β,m b = some l → l.blk = some β → okOf bad' w m' β) :
  ∀ (n : Nat) (v v' : V) (x : Value),Rep bad w m c v x → trV h κ bor n v = some v' → Rep bad' w m' c' v' x:=by
 have mono : ∀ {v : V} {x : Value},RepP w (okOf bad w m) v x → RepP w (okOf bad' w m') v x:=fun h=>h.mono fun β hβ=>⟨hok β hβ,fun _=>rfl⟩
 intro n
 induction n with
 | zero=>intro v v' x _ he; simp [trV] at he
 | succ n ih =>
  intro v v' x hr he
  have leaf : (∀ y,v = .p y → v' = v → Rep bad' w m' c' v' x) ∧ (v = .undef → v' = v → Rep bad' w m' c' v' x) ∧ (∀ u o,v = .ref u o → v' = v → Rep bad' w m' c' v' x) ∧ (∀ k xs,v = .ps k xs → v' = v → Rep bad' w m' c' v' x):=by
   refine ⟨?_,?_,?_,?_⟩
   ·rintro y rfl rfl; cases hr with | pure h=>exact .pure (mono h)
   ·rintro rfl rfl; exact .pure (.undef _)
   ·rintro u o rfl rfl; cases hr with | pure h=>exact .pure (mono h)
   ·rintro k xs rfl rfl; cases hr with | pure h=>exact .pure (mono h)
  cases v with
  | p y=>simp only [trV,Option.some.injEq] at he; exact leaf.1 y rfl he.symm
  | undef=>simp only [trV,Option.some.injEq] at he; exact leaf.2.1 rfl he.symm
  | ref u o=>simp only [trV,Option.some.injEq] at he; exact leaf.2.2.1 u o rfl he.symm
  | ps k xs=>simp only [trV,Option.some.injEq] at he; exact leaf.2.2.2 k xs rfl he.symm
  | agg vs =>
   simp only [trV,Option.map_eq_some_iff] at he
   obtain ⟨vs',hm,rfl⟩:=he
   obtain ⟨hl,hp⟩:=mapO_spec hm
   obtain ⟨cs,rfl,hsz,hr'⟩:=rep_agg hr
   exact .agg (by omega) fun i h1 h2=>ih _ _ _ (hr' i (by omega) h2) (hp i (by omega) h1)
  | tup vs =>
   simp only [trV,Option.map_eq_some_iff] at he
   obtain ⟨vs',hm,rfl⟩:=he
   obtain ⟨hl,hp⟩:=mapO_spec hm
   obtain ⟨cs,rfl,hsz,hr'⟩:=rep_tup hr
   exact .tup (by omega) fun i h1 h2=>ih _ _ _ (hr' i (by omega) h2) (hp i (by omega) h1)
  | fn f zs bs =>
   simp only [trV] at he
   split at he
   ·rename_i zs' bs' h1 h2
    cases he
    obtain ⟨hl,hp⟩:=mapO_spec h1
    obtain ⟨hl',hp'⟩:=mapO_spec h2
    obtain ⟨cs,ds,rfl,hsz,hsz',hra,hrb⟩:=rep_fn hr
    exact .fn (by omega) (by omega) (fun i h1 h2=>ih _ _ _ (hra i (by omega) h2) (hp i (by omega) h1)) fun i h1 h2=>ih _ _ _ (hrb i (by omega) h2) (hp' i (by omega) h1)
   ·cases he
  | sl b s off len tip =>
   simp only [trV] at he
   split at he
   ·rename_i B hg
    split at he
    ·rename_i hs
     split at he
     ·rename_i b' s' hk
      cases he
      obtain ⟨hsc,hm⟩:=hκ b b' s' hk
      obtain ⟨l,hml,hls,_⟩:=hh.get b B hg
      cases hr with
      | pure hr=>cases hr
      | sl _ hx hb =>
       refine .sl hsc hx fun l' hl' hs'=>?_
       rw [hm l hml] at hl'; cases hl'
       exact hb l hml (hls.trans hs)
     ·rename_i hk
      split at he
      ·rename_i hcond
       obtain ⟨hcb,hv⟩:=hcond
       have hbm : b ∈ bor:=by simpa using hcb
       split at he
       ·rename_i hn
        cases he
       ·rename_i hn
        split at he
        ·rename_i hle
         cases he
         have hn' : B.nl = false:=by simpa using hn
         obtain ⟨l,β,cs,hm,_,_,_,hblk,_⟩:=rep_block hh hg hs hn'
         have h1:=frz_row hh hg hs hv hn' hle hr
         have h2:=hbor b hbm hk l β hm hblk
         refine .pure (h1.mono fun γ hγ=>⟨?_,fun _=>rfl⟩)
         by_cases hγβ : γ = β
         ·subst hγβ; exact h2
         ·refine hok γ ⟨hγ.1,hγ.2.1,fun k l' hk' hl'=>?_⟩
          by_cases hkb : k = b
          ·subst hkb
           rw [hm] at hk'; cases hk'
           rw [hblk] at hl'; cases hl'; exact hγβ rfl
          ·exact hγ.2.2 k l' (by simp [upd,hkb,hk']) hl'
        ·cases he
      ·split at he
       ·rename_i hcond
        obtain ⟨hcb,hn,hle⟩:=hcond
        have hbm : b ∈ bor:=by simpa using hcb
        split at he
        ·rename_i es hes
         split at he
         ·rename_i hpu
          cases he
          obtain ⟨l,β,cs,hm,hls,hlw,hlT,hblk,hcs,hsz,hle',hwd,hall⟩:=rep_block hh hg hs hn
          obtain ⟨e1,e2⟩:=mapO_spec hes
          have hlen : ((B.es.drop off).take len).length = len:=by simp; omega
          cases hr with
          | pure hr=>cases hr
          | sl _ hx hb =>
           rcases hb l hm hls with ⟨h0,_⟩ | ⟨β',cap,h1,rfl,h2,_⟩
           ·rw [hblk] at h0; cases h0
           ·rw [hblk] at h1; cases h1
            have cell : ∀ i (hi : i < es.length),es[i].cells.length = B.w ∧ ∀ j (hj : j < es[i].cells.length),∃ y,cs[(off + i) * B.w + j]? = some y ∧ Rep bad' w m' c' es[i].cells[j] y:=fun i hi=>by
             have hi' : i < ((B.es.drop off).take len).length:=by omega
             obtain ⟨hlt,he0⟩:=sub_list hle hi'
             have h7:=e2 i hi' hi
             rw [he0] at h7
             have hw0:=hwd (off + i) hlt
             have ha0:=hall (off + i) hlt
             generalize B.es[off + i] = e at h7 hw0 ha0
             generalize es[i] = e' at h7
             have hv : ∀ j (hj : j < e.cells.length),cs[(off + i) * B.w + j]? = some ((cs[(off + i) * B.w + j]?).getD Go.undef) ∧ Rep bad w m c e.cells[j] ((cs[(off + i) * B.w + j]?).getD Go.undef):=fun j hj=>by
              obtain ⟨y,hy,hry⟩:=ha0 j hj
              rw [hy]; exact ⟨rfl,hry.rep⟩
             cases n with
             | zero=>simp [trV] at h7
             | succ n =>
              cases e with
              | agg vs =>
               have h0:=h7
               simp only [trV,Option.map_eq_some_iff] at h0
               obtain ⟨vs',h8,rfl⟩:=h0
               obtain ⟨a1,a2⟩:=mapO_spec h8
               have hra : Rep bad w m c (.agg vs) (.agg ((List.range vs.length).map fun j=>(cs[(off + i) * B.w + j]?).getD Go.undef).toArray) :=
                .agg (by simp) fun j h1 h2=>by simpa [V.cells] using (hv j h1).2
               obtain ⟨cs',q1,q2,q3⟩:=rep_agg (ih _ _ _ hra h7)
               cases q1
               refine ⟨a1.trans hw0,fun j hj=>?_⟩
               have hj' : j < vs.length:=by have : j < vs'.length:=hj; omega
               exact ⟨_,(hv j hj').1,by
                have h12:=q3 j hj (by simpa using hj')
                rw [List.getElem_toArray,List.getElem_map,List.getElem_range] at h12
                exact h12⟩
              | _ =>
               have h10 : e'.cells = [e']:=trV_notAgg h7 rfl
               have h11:=ih _ _ _ (hv 0 (by simp [V.cells])).2 h7
               refine ⟨by rw [h10]; exact hw0,fun j hj=>?_⟩
               have hj0 : j = 0:=by rw [h10] at hj; simpa using hj
               subst hj0
               refine ⟨_,(hv 0 (by simp [V.cells])).1,?_⟩
               simpa only [h10,List.getElem_cons_zero] using h11
            refine .pure ?_
            have key:=RepP.ps (w:=w) (ok:=okOf bad' w m') (c:=.any) (xs:=es) (β:=β) (o:=off * l.w) (k:=B.w) (cap:=cap) (val:=fun i j=>(cs[(off + i) * B.w + j]?).getD Go.undef)
             (by simp) (by omega) (by simp) (fun _=>hbor b hbm hk l β hm hblk) (fun i hi=>(cell i hi).1) (fun i j hi hj=>by
              obtain ⟨y,hy,_⟩:=(cell i hi).2 j (by rw [(cell i hi).1]; exact hj)
              rw [cell_of_row w β _ cs _ _ hcs,hlw,show off * B.w + i * B.w + j = (off + i) * B.w + j by rw [Nat.add_mul],hy]; rfl) (fun i hi j hj=>by
              obtain ⟨y,hy,hr'⟩:=(cell i hi).2 j hj
              rw [hy]
              exact pur_sound 3 (List.all_eq_true.1 (List.all_eq_true.1 hpu _ (List.getElem_mem hi)) _ (List.getElem_mem hj)) hr') (q:=none) (by simp)
            rw [e1,hlen] at key
            exact key
         ·cases he
        ·cases he
       ·cases he
    ·cases he
   ·cases he
  | box b s i off =>
   simp only [trV] at he
   split at he
   ·rename_i B hg
    split at he
    ·rename_i hcond
     obtain ⟨hs,hn⟩:=hcond
     obtain ⟨l,β,cs,hm,hls,hlw,hlT,hblk,hcs,hsz,hle',hwd,hall⟩:=rep_block hh hg hs hn
     split at he
     ·rename_i b' s' hk
      cases he
      obtain ⟨hsc,hm'⟩:=hκ b b' s' hk
      cases hr with
      | pure hr=>cases hr
      | box _ hx hb =>
       refine .box hsc hx fun l' hl' hs'=>?_
       rw [hm' l hm] at hl'; cases hl'
       exact hb l hm hls
     ·rename_i hk
      split at he
      ·rename_i hcb
       have hbm : b ∈ bor:=by simpa using hcb
       split at he
       ·rename_i e hei
        split at he
        ·rename_i hpe
         obtain ⟨hpe,hoff⟩:=hpe
         cases he
         obtain ⟨hlt,hv⟩:=List.getElem?_eq_some_iff.1 hei
         cases hr with
         | pure hr=>cases hr
         | box _ hx hb =>
          obtain ⟨β',h1,rfl⟩:=hb l hm hls
          rw [hblk] at h1; cases h1
          refine .pure ?_
          rw [hlw]
          refine .ref (hbor b hbm hk l β hm hblk) hoff (val:=fun j=>(cs[i * B.w + j]?).getD Go.undef) (fun j hj=>?_) fun j hj=>?_
          ·obtain ⟨y,hy,_⟩:=hall i hlt j (by rw [hv]; exact hj)
           rw [cell_of_row w β _ cs _ _ hcs,hy]; rfl
          ·obtain ⟨y,hy,hr⟩:=hall i hlt j (by rw [hv]; exact hj)
           rw [hy]
           subst hv
           exact mono (pur_sound 3 (List.all_eq_true.1 hpe _ (List.getElem_mem hj)) hr.rep)
        ·split at he
         ·rename_i hone
          obtain ⟨hag,hoff⟩:=hone
          subst hoff
          split at he
          ·rename_i e' he2
           split at he
           ·rename_i hpe
            obtain ⟨hpe,hag'⟩:=hpe
            cases he
            obtain ⟨hlt,hv⟩:=List.getElem?_eq_some_iff.1 hei
            have hc1 : e.cells = [e]:=by cases e <;> simp_all [V.cells,V.isAgg]
            have hc2 : e'.cells = [e']:=by cases e' <;> simp_all [V.cells,V.isAgg]
            cases hr with
            | pure hr=>cases hr
            | box _ hx hb =>
             obtain ⟨β',h1,rfl⟩:=hb l hm hls
             rw [hblk] at h1; cases h1
             refine .pure ?_
             rw [hlw]
             have hc3 : B.es[i].cells = [e]:=by rw [hv]; exact hc1
             obtain ⟨y,hy,hry⟩:=hall i hlt 0 (by rw [hc3]; simp)
             have hr0 : Rep bad w m c e y:=by
              have:=hry.rep
              simpa only [hc3,List.getElem_cons_zero] using this
             have h5:=pur_sound 3 hpe (ih _ _ _ hr0 he2)
             refine .ref (hbor b hbm hk l β hm hblk) (by rw [hc2]; simp) (val:=fun j=>(cs[i * B.w + j]?).getD Go.undef) (fun j hj=>?_) fun j hj=>?_
             ·rw [hc2] at hj
              obtain rfl : j = 0:=by simp at hj; omega
              rw [cell_of_row w β _ cs _ _ hcs,hy]; rfl
             ·have hj0 : j = 0:=by rw [hc2] at hj; simp at hj; omega
              subst hj0
              rw [hy]
              simpa only [hc2,List.getElem_cons_zero,Option.getD_some] using h5
           ·cases he
          ·cases he
         ·cases he
       ·cases he
      ·cases he
    ·cases he
   ·cases he
def eraseAll (h : Hp) : List Nat → Hp
 | []=>h
 | b :: r=>eraseAll (h.erase b) r
def dropM (m : MM) (bs : List Nat) : MM:=fun b=>if b ∈ bs then none else m b
theorem dropM_cons (m : MM) (b : Nat) (r : List Nat) : dropM (upd m b none) r = dropM m (b :: r):=by
 funext k
 simp only [dropM,upd,List.mem_cons]
 by_cases h1 : k ∈ r <;> by_cases h2 : k = b <;> simp [h1,h2]
theorem eraseAll_sound {w : World} {c : Nat} : ∀ (bs : List Nat) {h : Hp} {m : MM},HeapRep bad h w m c → Le w m c w (dropM m bs) c ∧ HeapRep bad (eraseAll h bs) w (dropM m bs) c
 | [],h,m,hh=>by
  have : dropM m [] = m:=by funext k; simp [dropM]
  rw [this]; exact ⟨Le.refl _ _ _,hh⟩
 | b :: r,h,m,hh=>by
  obtain ⟨h1,h2⟩:=hh.erase b
  obtain ⟨h3,h4⟩:=eraseAll_sound r h2
  rw [dropM_cons] at h3 h4
  exact ⟨h1.trans h3,h4⟩
def scal : Nat → V → Bool
 | 0,_=>false
 | n + 1,v=>match v with
  | .p _=>true
  | .agg vs | .tup vs=>vs.all (scal n)
  | _=>false
theorem scal_rep {w w' : World} {ok ok' : Nat → Prop} : ∀ (n : Nat) {v : V} {x : Value},scal n v = true → RepP w ok v x → RepP w' ok' v x:=by
 intro n
 induction n with
 | zero=>intro v x h; simp [scal] at h
 | succ n ih =>
  intro v x h hr
  cases hr with
  | p x=>exact .p x
  | agg hl hr=>simp only [scal,List.all_eq_true] at h; exact .agg hl fun i h1 h2=>ih (h _ (List.getElem_mem h1)) (hr i h1 h2)
  | tup hl hr=>simp only [scal,List.all_eq_true] at h; exact .tup hl fun i h1 h2=>ih (h _ (List.getElem_mem h1)) (hr i h1 h2)
  | _=>simp [scal] at h
theorem rep_noM {w : World} {c : Nat} {v : V} {x : Value} (h : Rep bad w noM c v x) : ∀ (_ : pur 6 v = true),RepP w (okOf bad w noM) v x:=fun hp=>pur_sound 6 hp h
end
end Go.Mx
namespace Go.Mx
set_option linter.unusedVariables false
set_option linter.unusedSimpArgs false
def lookE : List (Nat × Nat × Nat) → Nat → Option (Nat × Nat)
 | [],_=>none
 | (a,b,s) :: r,k=>if a = k then some (b,s) else lookE r k
def revE : List (Nat × Nat × Nat) → Nat → Option (Nat × Nat)
 | [],_=>none
 | (a,b,s) :: r,k=>if b = k then some (a,s) else revE r k
theorem revE_mem {E : List (Nat × Nat × Nat)} {k a s : Nat} (h : revE E k = some (a,s)) : (a,k,s) ∈ E:=by
 induction E with
 | nil=>simp [revE] at h
 | cons x r ih =>
  obtain ⟨a',b',s'⟩:=x
  simp only [revE] at h
  split at h
  ·rename_i e; cases h; subst e; exact List.mem_cons_self ..
  ·exact List.mem_cons_of_mem _ (ih h)
theorem revE_of {E : List (Nat × Nat × Nat)} (hd : (E.map fun x=>x.2.1).Nodup) {a k s : Nat} (h : (a,k,s) ∈ E) : revE E k = some (a,s):=by
 induction E with
 | nil=>cases h
 | cons x r ih =>
  obtain ⟨a',b',s'⟩:=x
  simp only [List.map_cons,List.nodup_cons] at hd
  simp only [revE]
  rcases List.mem_cons.1 h with h | h
  ·cases h; simp
  ·split
   ·rename_i e; subst e
    exact absurd (List.mem_map.2 ⟨_,h,rfl⟩) hd.1
   ·exact ih hd.2 h
theorem lookE_mem {E : List (Nat × Nat × Nat)} {k b s : Nat} (h : lookE E k = some (b,s)) : (k,b,s) ∈ E:=by
 induction E with
 | nil=>simp [lookE] at h
 | cons x r ih =>
  obtain ⟨a',b',s'⟩:=x
  simp only [lookE] at h
  split at h
  ·rename_i e; cases h; subst e; exact List.mem_cons_self ..
  ·exact List.mem_cons_of_mem _ (ih h)
def moveH (h : Hp) (κ : Nat → Option (Nat × Nat)) (bor : List Nat) : List (Nat × Nat × Nat) → Option Hp
 | []=>some []
 | (a,b,s) :: r=>match h.get a with
  | some B=>match (if B.var then mapO (trV h κ bor 5) B.es else some B.es),moveH h κ bor r with
   | some es,some r'=>some ((b,{ B with s:=s,es:=es }) :: r')
   | _,_=>none
  | none=>none
theorem moveH_get {h : Hp} {κ : Nat → Option (Nat × Nat)} {bor : List Nat} : ∀ {E : List (Nat × Nat × Nat)} {h' : Hp},moveH h κ bor E = some h' → ∀ k,
  (revE E k = none → h'.get k = none) ∧ ∀ a s,revE E k = some (a,s) → ∃ B es,h.get a = some B ∧ (if B.var then mapO (trV h κ bor 5) B.es else some B.es) = some es ∧ h'.get k = some { B with s:=s,es:=es }
 | [],h',hm,k=>by
  simp only [moveH,Option.some.injEq] at hm
  subst hm
  exact ⟨fun _=>rfl,fun a s h=>by simp [revE] at h⟩
 | (a,b,s) :: r,h',hm,k=>by
  simp only [moveH] at hm
  split at hm
  ·rename_i B hB
   split at hm
   ·rename_i es r' hes hr
    cases hm
    obtain ⟨h1,h2⟩:=moveH_get hr k
    simp only [revE,Hp.get]
    by_cases e : b = k
    ·subst e
     simp only [if_true]
     exact ⟨fun h=>by simp at h,fun a' s' h=>by cases h; exact ⟨B,es,hB,hes,rfl⟩⟩
    ·simp only [if_neg e]
     exact ⟨h1,h2⟩
   ·cases hm
  ·cases hm
def moveM (m : MM) (E : List (Nat × Nat × Nat)) : MM:=fun k=>match revE E k with
 | some (a,s)=>(m a).map fun l=>{ l with s:=s }
 | none=>none
section
variable {P : Program} {T : TypeId → Option TI} {bad bad' : Nat → Prop}
theorem move_content {w : World} {m m' : MM} {c c' : Nat} {h : Hp} (hh : HeapRep bad h w m c) (hok : ∀ β,okOf bad w m β → okOf bad' w m' β) {κ : Nat → Option (Nat × Nat)} {bor : List Nat}
  (hκ : ∀ b b' s',κ b = some (b',s') → s' < c' ∧ ∀ l,m b = some l → m' b' = some { l with s:=s' }) (hbor : ∀ b ∈ bor,κ b = none → ∀ l β,m b = some l → l.blk = some β → okOf bad' w m' β)
  {a : Nat} {B : Blk} (hg : h.get a = some B) {es : List V} (hes : (if B.var then mapO (trV h κ bor 5) B.es else some B.es) = some es) {s : Nat} (hs : s < c') {l : Loc} (hm : m a = some l) :
  HoldsB bad' w m' c' { l with s:=s } { B with s:=s,es:=es }:=by
 obtain ⟨l',h1,h2,h3,h4,h5,h6⟩:=hh.get a B hg
 rw [hm] at h1; cases h1
 refine ⟨rfl,h3,h4,hs,?_⟩
 rcases h6 with ⟨n1,n2,n3⟩ | ⟨n1,β,cs,n2,n3,n4,n5,n6,n7⟩
 ·refine .inl ⟨n1,n2,?_⟩
  rw [n3] at hes
  split at hes
  ·simp only [mapO,Option.some.injEq] at hes; exact hes.symm
  ·cases hes; rfl
 ·refine .inr ⟨n1,β,cs,n2,n3,n4,?_⟩
  cases hv : B.var with
  | false =>
   simp only [hv] at hes
   cases hes
   refine ⟨n5,n6,fun i hi j hj=>?_⟩
   obtain ⟨x,hx,hr⟩:=n7 i hi j hj
   refine ⟨x,hx,?_⟩
   simp only [hv,RepC] at hr ⊢
   exact hr.mono fun γ hγ=>⟨hok γ hγ,fun _=>rfl⟩
  | true =>
   simp only [hv,if_true] at hes
   obtain ⟨e1,e2⟩:=mapO_spec hes
   have cell : ∀ i (hi : i < es.length) (hi' : i < B.es.length),es[i].cells.length = B.es[i].cells.length ∧ ∀ j (hj : j < es[i].cells.length) (hj' : j < B.es[i].cells.length) x,Rep bad w m c B.es[i].cells[j] x → Rep bad' w m' c' es[i].cells[j] x:=by
    intro i hi hi'
    have h7:=e2 i hi' hi
    generalize B.es[i] = e at h7
    generalize es[i] = e' at h7
    cases e with
    | agg vs =>
     simp only [trV,Option.map_eq_some_iff] at h7
     obtain ⟨vs',h8,rfl⟩:=h7
     obtain ⟨a1,a2⟩:=mapO_spec h8
     exact ⟨a1,fun j hj hj' x hr=>trV_sound hh hok hκ hbor 4 _ _ x hr (a2 j hj' hj)⟩
    | _ =>
     have single : e'.cells = [e'] → e'.cells.length = 1 ∧ ∀ j (hj : j < e'.cells.length),j = 0 ∧ e'.cells[j] = e':=fun h9=>by
      refine ⟨by rw [h9]; rfl,fun j hj=>?_⟩
      have : j = 0:=by rw [h9] at hj; simpa using hj
      subst this
      exact ⟨rfl,by simp [h9]⟩
     have h10 : e'.cells = [e']:=trV_notAgg h7 rfl
     obtain ⟨s1,s2⟩:=single h10
     refine ⟨s1,fun j hj hj' x hr=>?_⟩
     obtain ⟨rfl,s3⟩:=s2 j hj
     rw [s3]
     exact trV_sound hh hok hκ hbor 5 _ _ x (by simpa [V.cells] using hr) h7
   refine ⟨by simp only [e1]; exact n5,fun i hi=>by rw [(cell i hi (by simp only [] at hi; omega)).1]; exact n6 i (by simp only [] at hi; omega),fun i hi j hj=>?_⟩
   have hi' : i < B.es.length:=by simp only [] at hi; omega
   obtain ⟨c1,c2⟩:=cell i hi hi'
   have hj' : j < B.es[i].cells.length:=by rw [← c1]; exact hj
   obtain ⟨x,hx,hr⟩:=n7 i hi' j hj'
   exact ⟨x,hx,c2 j hj hj' x hr.rep⟩
theorem eraseAll_get : ∀ (bs : List Nat) {h : Hp} {k : Nat} {B : Blk},(eraseAll h bs).get k = some B → h.get k = some B ∧ k ∉ bs
 | [],h,k,B,hk=>⟨hk,by simp⟩
 | b :: r,h,k,B,hk=>by
  obtain ⟨h1,h2⟩:=eraseAll_get r hk
  rw [Hp.get_erase] at h1
  split at h1
  ·cases h1
  ·rename_i hne
   exact ⟨h1,by simp [h2,Ne.symm hne]⟩
theorem Hp.get_append (h1 h2 : Hp) (k : Nat) : (h1 ++ h2 : Hp).get k = (h1.get k).or (h2.get k):=by
 induction h1 with
 | nil=>simp [Hp.get]
 | cons x r ih =>
  obtain ⟨b,B⟩:=x
  simp only [List.cons_append,Hp.get,ih]
  split <;> simp
theorem CallsA_lend {g : FuncId} {h : Hp} {c : Nat} {vs vs' : List V} {E1 E2 : List (Nat × Nat × Nat)} {hA hr hB : Hp} {r r' : V} {cr c2 : Nat} {bor : List Nat}
  (hvs : mapO (trV h (lookE E1) bor 5) vs = some vs') (hA' : moveH h (lookE E1) bor E1 = some hA) (hz : ∀ x ∈ E1,x.2.2 = 0) (hd1 : (E1.map (·.1)).Nodup) (hd2 : (E1.map fun x=>x.2.1).Nodup)
  (hg : ∀ bad,CallsA P bad hA 1 g vs' r hr cr) (hr' : trV hr (lookE E2) [] 5 r = some r') (hB' : moveH hr (lookE E2) [] E2 = some hB) (hd3 : (E2.map (·.1)).Nodup) (hd4 : (E2.map fun x=>x.2.1).Nodup) (hc2 : c ≤ c2)
  (hE2 : ∀ x ∈ E2,(c ≤ x.2.2 ∧ x.2.2 < c2) ∨ (∃ B,hr.get x.1 = some B ∧ B.s = 0) ∧ (x.2.1,x.1,0) ∈ E1 ∧ ∃ B,h.get x.2.1 = some B ∧ B.s = x.2.2) :
  CallsA P bad h c g vs r' (hB ++ eraseAll h (E1.map (·.1) ++ bor)) c2:=by
 intro w m xs hh hl hrep
 obtain ⟨hl',htr⟩:=mapO_spec hvs
 let lent:=E1.map (·.1)
 let bad' : Nat → Prop:=fun β=>bad β ∨ ∃ b l,b ∉ lent ∧ b ∉ bor ∧ m b = some l ∧ l.blk = some β
 let mA : MM:=moveM m E1
 have mA_of : ∀ k l,mA k = some l → ∃ a l0,(a,k,0) ∈ E1 ∧ m a = some l0 ∧ l = { l0 with s:=0 }:=fun k l hk=>by
  simp only [mA,moveM] at hk
  split at hk
  ·rename_i a s hv
   have hmem:=revE_mem hv
   have:=hz _ hmem
   simp only at this
   subst this
   simp only [Option.map_eq_some_iff] at hk
   obtain ⟨l0,h1,rfl⟩:=hk
   exact ⟨a,l0,hmem,h1,rfl⟩
  ·cases hk
 have mem_lent : ∀ {a k s},(a,k,s) ∈ E1 → a ∈ lent:=fun hm=>List.mem_map.2 ⟨_,hm,rfl⟩
 have key_inj : ∀ {a k k'},(a,k,0) ∈ E1 → (a,k',0) ∈ E1 → k = k':=fun {a k k'} h1 h2=>by
  have : ∀ (E : List (Nat × Nat × Nat)),(E.map (·.1)).Nodup → (a,k,0) ∈ E → (a,k',0) ∈ E → k = k':=by
   intro E
   induction E with
   | nil=>intro _ h; cases h
   | cons x t ih =>
    intro hn h1 h2
    simp only [List.map_cons,List.nodup_cons] at hn
    rcases List.mem_cons.1 h1 with h1 | h1 <;> rcases List.mem_cons.1 h2 with h2 | h2
    ·rw [← h1] at h2; cases h2; rfl
    ·exact absurd (List.mem_map.2 ⟨_,h2,by rw [← h1]⟩) hn.1
    ·exact absurd (List.mem_map.2 ⟨_,h1,by rw [← h2]⟩) hn.1
    ·exact ih hn.2 h1 h2
  exact this E1 hd1 h1 h2
 have hok : ∀ β,okOf bad w m β → okOf bad' w mA β:=fun β hβ=>⟨hβ.1,fun h1=>by
  rcases h1 with h1 | ⟨b,l,_,_,h1,h2⟩
  ·exact hβ.2.1 h1
  ·exact hβ.2.2 b l h1 h2,fun k l h1 h2=>by
  obtain ⟨a,l0,_,h3,rfl⟩:=mA_of k l h1
  exact hβ.2.2 a l0 h3 h2⟩
 have hκ : ∀ b b' s',lookE E1 b = some (b',s') → s' < 1 ∧ ∀ l,m b = some l → mA b' = some { l with s:=s' }:=fun b b' s' hk=>by
  have hmem:=lookE_mem hk
  have h0:=hz _ hmem
  simp only at h0
  subst h0
  refine ⟨by omega,fun l hl=>?_⟩
  simp only [mA,moveM,revE_of hd2 hmem,hl,Option.map_some]
 have hbor : ∀ b ∈ bor,lookE E1 b = none → ∀ l β,m b = some l → l.blk = some β → okOf bad' w mA β:=fun b hb hk l β h1 h2=>by
  refine ⟨hh.blk_lt h1 h2,fun h3=>?_,fun k l' h3 h4=>?_⟩
  ·rcases h3 with h3 | ⟨b2,l2,_,h5,h6,h7⟩
   ·exact hh.nb b l β h1 h2 h3
   ·exact h5 (hh.inj b b2 l l2 β h1 h6 h2 h7 ▸ hb)
  ·obtain ⟨a,l0,h5,h6,rfl⟩:=mA_of k l' h3
   have : b = a:=hh.inj b a l l0 β h1 h6 h2 h4
   subst this
   have : ∀ (E : List (Nat × Nat × Nat)),(b,k,0) ∈ E → lookE E b ≠ none:=by
    intro E
    induction E with
    | nil=>intro h; cases h
    | cons x t ih =>
     intro h
     obtain ⟨x1,x2,x3⟩:=x
     simp only [lookE]
     split
     ·simp
     ·rcases List.mem_cons.1 h with h | h
      ·cases h; rename_i e; exact absurd rfl e
      ·exact ih h
   exact this E1 h5 hk

 have hhA : HeapRep bad' hA w mA 1:=by
  refine ⟨fun k B hk=>?_,fun k hk=>?_,fun β hβ=>?_,fun k l β h1 h2 h3=>?_,fun k k' l l' β h1 h2 h3 h4=>?_⟩
  ·obtain ⟨g1,g2⟩:=moveH_get hA' k
   cases hv : revE E1 k with
   | none=>rw [g1 hv] at hk; cases hk
   | some y =>
    obtain ⟨a,s⟩:=y
    obtain ⟨B0,es,g3,g4,g5⟩:=g2 a s hv
    rw [g5] at hk; cases hk
    obtain ⟨l,hm,_⟩:=hh.get a B0 g3
    have h0:=hz _ (revE_mem hv)
    simp only at h0
    subst h0
    exact ⟨{ l with s:=0 },by simp [mA,moveM,hv,hm],move_content hh hok hκ hbor g3 g4 (by omega) hm⟩
  ·obtain ⟨g1,g2⟩:=moveH_get hA' k
   cases hv : revE E1 k with
   | none=>simp [mA,moveM,hv]
   | some y =>
    obtain ⟨a,s⟩:=y
    obtain ⟨B0,es,g3,g4,g5⟩:=g2 a s hv
    rw [g5] at hk; cases hk
  ·rcases hβ with h1 | ⟨b,l,_,_,h1,h2⟩
   ·exact hh.lt β h1
   ·exact hh.blk_lt h1 h2
  ·obtain ⟨a,l0,h5,h6,rfl⟩:=mA_of k l h1
   rcases h3 with h3 | ⟨b2,l2,h7,_,h8,h9⟩
   ·exact hh.nb a l0 β h6 h2 h3
   ·exact h7 (hh.inj a b2 l0 l2 β h6 h8 h2 h9 ▸ mem_lent h5)
  ·obtain ⟨a,l0,h5,h6,rfl⟩:=mA_of k l h1
   obtain ⟨a',l0',h5',h6',rfl⟩:=mA_of k' l' h2
   have : a = a':=hh.inj a a' l0 l0' β h6 h6' h3 h4
   subst this
   exact key_inj h5 h5'
 refine (hg bad' w mA xs hhA (by omega) fun i h1 h2=>trV_sound hh hok hκ hbor 5 _ _ _ (hrep i (by omega) h2) (htr i (by omega) h1)).mono ?_
 rintro e w' ⟨x,mr,rfl,hrx,hle,hhr⟩

 let m2 : MM:=fun k=>match revE E2 k with
  | some (a,s)=>(mr a).map fun l=>{ l with s:=s }
  | none=>dropM m (lent ++ bor) k
 have m2_of : ∀ k l,m2 k = some l → (∃ a l0 s,(a,k,s) ∈ E2 ∧ mr a = some l0 ∧ l = { l0 with s:=s }) ∨ (k ∉ lent ∧ k ∉ bor ∧ m k = some l):=fun k l hk=>by
  simp only [m2] at hk
  split at hk
  ·rename_i a s hv
   simp only [Option.map_eq_some_iff] at hk
   obtain ⟨l0,h1,rfl⟩:=hk
   exact .inl ⟨a,l0,s,revE_mem hv,h1,rfl⟩
  ·unfold dropM at hk
   split at hk
   ·cases hk
   ·rename_i h1
    simp only [List.mem_append,not_or] at h1
    exact .inr ⟨h1.1,h1.2,hk⟩
 have keep : ∀ β,β < w.heap.size → (∀ b l,m b = some l → l.blk = some β → b ∉ lent) → w'.heap[β]? = w.heap[β]?:=fun β hβ hno=>hle.keep β hβ fun k l h1 h2=>by
  obtain ⟨a,l0,h5,h6,rfl⟩:=mA_of k l h1
  exact hno a l0 h6 h2 (mem_lent h5)
 have mr_range : ∀ a l0 β,mr a = some l0 → l0.blk = some β → w.heap.size ≤ β ∨ ∃ b l,b ∈ lent ∧ m b = some l ∧ l.blk = some β:=fun a l0 β h1 h2=>by
  rcases hle.range a l0 β h1 h2 with h3 | ⟨k,l,h3,h4⟩
  ·exact .inl h3
  ·obtain ⟨b,l1,h5,h6,rfl⟩:=mA_of k l h3
   exact .inr ⟨b,l1,mem_lent h5,h6,h4⟩
 have hle2 : Le w m c w' m2 c2:=by
  refine ⟨hc2,fun k l h1 h2=>?_,fun β hβ hno=>keep β hβ fun b l h1 h2=>absurd h2 (hno b l h1),hle.size,hle.os,hle.output,hle.tape,fun k l β h1 h2=>?_⟩
  ·rcases m2_of k l h1 with ⟨a,l0,s,h3,h4,rfl⟩ | ⟨_,_,h3⟩
   ·rcases hE2 _ h3 with ⟨h5,_⟩ | ⟨⟨B,h5,h6⟩,h7,B',h8,h9⟩
    ·simp only at h2 h5; omega
    ·
     simp only at h5 h7 h8 h9
     obtain ⟨l1,h10,h11,_⟩:=hhr.get a B h5
     rw [h4] at h10; cases h10
     have h12:=hle.hm a l0 h4 (by omega)
     obtain ⟨b,l2,h13,h14,rfl⟩:=mA_of a l0 h12
     have h15:=revE_of hd2 h13
     rw [revE_of hd2 h7] at h15
     cases h15
     obtain ⟨l3,h16,h17,_⟩:=hh.get k B' h8
     rw [h14] at h16; cases h16
     rw [h14,← h9,← h17]
   ·exact h3
  ·rcases m2_of k l h1 with ⟨a,l0,s,h3,h4,rfl⟩ | ⟨_,_,h3⟩
   ·rcases mr_range a l0 β h4 h2 with h5 | ⟨b,l1,_,h5,h6⟩
    ·exact .inl h5
    ·exact .inr ⟨b,l1,h5,h6⟩
   ·exact .inr ⟨k,l,h3,h2⟩
 have hokB : ∀ β,okOf bad' w' mr β → okOf bad w' m2 β:=fun β hβ=>⟨hβ.1,fun h1=>hβ.2.1 (.inl h1),fun k l h1 h2=>by
  rcases m2_of k l h1 with ⟨a,l0,s,_,h4,rfl⟩ | ⟨h3,h4,h5⟩
  ·exact hβ.2.2 a l0 h4 h2
  ·exact hβ.2.1 (.inr ⟨k,l,h3,h4,h5,h2⟩)⟩
 have stamp : ∀ {a k s},(a,k,s) ∈ E2 → s < c2:=fun hm=>by
  rcases hE2 _ hm with ⟨_,h1⟩ | ⟨_,_,B,h1,h2⟩
  ·exact h1
  ·simp only at h1 h2
   obtain ⟨l,_,_,_,_,h3,_⟩:=hh.get _ B h1
   omega
 have hκB : ∀ b b' s',lookE E2 b = some (b',s') → s' < c2 ∧ ∀ l,mr b = some l → m2 b' = some { l with s:=s' }:=fun b b' s' hk=>by
  have hmem:=lookE_mem hk
  refine ⟨stamp hmem,fun l hl=>?_⟩
  simp only [m2,revE_of hd4 hmem,hl,Option.map_some]
 have hborB : ∀ b ∈ ([] : List Nat),lookE E2 b = none → ∀ l β,mr b = some l → l.blk = some β → okOf bad w' m2 β:=fun b hb=>by cases hb
 obtain ⟨leE,hhE⟩:=eraseAll_sound (bad:=bad) (lent ++ bor) hh
 refine ⟨x,m2,rfl,trV_sound hhr hokB hκB hborB 5 _ _ _ hrx hr',hle2,?_⟩
 refine ⟨fun k B hk=>?_,fun k hk=>?_,fun β hβ=>Nat.lt_of_lt_of_le (hh.lt β hβ) hle.size,fun k l β h1 h2 h3=>?_,fun k k' l l' β h1 h2 h3 h4=>?_⟩
 ·rw [Hp.get_append] at hk
  obtain ⟨g1,g2⟩:=moveH_get hB' k
  cases hv : revE E2 k with
  | none =>
   rw [g1 hv] at hk
   simp only [Option.none_or] at hk
   obtain ⟨hk1,hk2⟩:=eraseAll_get _ hk
   obtain ⟨l,h1,h2⟩:=hh.get k B hk1
   have h3 : k ∉ lent:=fun h=>hk2 (List.mem_append_left _ h)
   refine ⟨l,by simp only [m2,hv,dropM]; rw [if_neg (show ¬ k ∈ lent ++ bor from hk2)]; exact h1,h2.mono hle2 fun β hβ=>keep β (hh.blk_lt h1 hβ) fun b l1 h6 h7 h8=>h3 (hh.inj k b l l1 β h1 h6 hβ h7 ▸ h8)⟩
  | some y =>
   obtain ⟨a,s⟩:=y
   obtain ⟨B0,es,g3,g4,g5⟩:=g2 a s hv
   rw [g5] at hk
   simp only [Option.some_or] at hk
   cases hk
   obtain ⟨l,hm,_⟩:=hhr.get a B0 g3
   exact ⟨{ l with s:=s },by simp [m2,hv,hm],move_content hhr hokB hκB hborB g3 g4 (stamp (revE_mem hv)) hm⟩
 ·rw [Hp.get_append] at hk
  obtain ⟨g1,g2⟩:=moveH_get hB' k
  cases hv : revE E2 k with
  | none =>
   rw [g1 hv] at hk
   simp only [Option.none_or] at hk
   simp only [m2,hv]
   exact hhE.non k hk
  | some y =>
   obtain ⟨a,s⟩:=y
   obtain ⟨B0,es,g3,g4,g5⟩:=g2 a s hv
   rw [g5] at hk
   simp at hk
 ·rcases m2_of k l h1 with ⟨a,l0,s,_,h5,rfl⟩ | ⟨_,_,h5⟩
  ·exact hhr.nb a l0 β h5 h2 (.inl h3)
  ·exact hh.nb k l β h5 h2 h3
 ·rcases m2_of k l h1 with ⟨a,l0,s,e1,f1,rfl⟩ | ⟨n1,n2,f1⟩ <;> rcases m2_of k' l' h2 with ⟨a',l0',s',e2,f2,rfl⟩ | ⟨n1',n2',f2⟩
  ·have : a = a':=hhr.inj a a' l0 l0' β f1 f2 h3 h4
   subst this
   have : ∀ (E : List (Nat × Nat × Nat)),(E.map (·.1)).Nodup → (a,k,s) ∈ E → (a,k',s') ∈ E → k = k':=by
    intro E
    induction E with
    | nil=>intro _ h; cases h
    | cons x t ih =>
     intro hn h1 h2
     simp only [List.map_cons,List.nodup_cons] at hn
     rcases List.mem_cons.1 h1 with h1 | h1 <;> rcases List.mem_cons.1 h2 with h2 | h2
     ·rw [← h1] at h2; cases h2; rfl
     ·exact absurd (List.mem_map.2 ⟨_,h2,by rw [← h1]⟩) hn.1
     ·exact absurd (List.mem_map.2 ⟨_,h1,by rw [← h2]⟩) hn.1
     ·exact ih hn.2 h1 h2
   exact this E2 hd3 e1 e2
  ·exfalso
   rcases mr_range a l0 β f1 h3 with h5 | ⟨b,l1,h5,h6,h7⟩
   ·have:=hh.blk_lt f2 h4; omega
   ·exact n1' (hh.inj b k' l1 l' β h6 f2 h7 h4 ▸ h5)
  ·exfalso
   rcases mr_range a' l0' β f2 h4 with h5 | ⟨b,l1,h5,h6,h7⟩
   ·have:=hh.blk_lt f1 h3; omega
   ·exact n1 (hh.inj b k l1 l β h6 f1 h7 h3 ▸ h5)
  ·exact hh.inj k k' l l' β f1 f2 h3 h4
end
end Go.Mx
