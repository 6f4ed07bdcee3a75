/-
  What a function hands back; pure calls.
-/
import Derived.Test.YtogllinpkijkpaaZoMx9
import Derived.Laws.BytesString
import Derived.LoopN
namespace Go.Mx
set_option linter.unusedVariables false
set_option linter.unusedSimpArgs false
section
variable {P : Program} {T : TypeId → Option TI} {w : World} {m : MM} {c : Nat} {bad : Nat → Prop}
theorem foldl_put (l : List Value) (off : Nat) : ∀ (s : Nat) (cs : Array Value),((l.zipIdx s).foldl (fun (cs : Array Value) (x : Value × Nat)=>cs.setIfInBounds (off + x.2) x.1) cs).size = cs.size ∧
  ∀ k,((l.zipIdx s).foldl (fun (cs : Array Value) (x : Value × Nat)=>cs.setIfInBounds (off + x.2) x.1) cs)[k]? =
   if off + s ≤ k ∧ k < off + s + l.length ∧ k < cs.size then l[k - off - s]? else cs[k]?:=by
 induction l with
 | nil=>intro s cs; exact ⟨rfl,fun k=>by simp; intro h1 h2; omega⟩
 | cons v r ih =>
  intro s cs
  obtain ⟨h1,h2⟩:=ih (s + 1) (cs.setIfInBounds (off + s) v)
  simp only [List.zipIdx_cons,List.foldl_cons]
  refine ⟨by rw [h1]; simp,fun k=>?_⟩
  rw [h2]
  simp only [Array.size_setIfInBounds,List.length_cons]
  by_cases hk : k = off + s
  ·subst hk
   rw [if_neg (by omega)]
   by_cases hlt : off + s < cs.size
   ·rw [if_pos (by omega)]
    simp [hlt]
   ·rw [if_neg (by omega)]
    simp [hlt]
  ·have e : (cs.setIfInBounds (off + s) v)[k]? = cs[k]?:=by rw [Array.getElem?_setIfInBounds_ne (by omega)]
   by_cases h3 : off + (s + 1) ≤ k ∧ k < off + (s + 1) + r.length ∧ k < cs.size
   ·rw [if_pos h3,if_pos (by omega),show k - off - s = (k - off - (s + 1)) + 1 by omega,List.getElem?_cons_succ]
   ·rw [if_neg h3,if_neg (by omega),e]
def RepL (bad : Nat → Prop) (w : World) (m : MM) (c : Nat) (vs : List V) (cs : Array Value) : Prop :=
 vs.length = cs.size ∧ ∀ i (h1 : i < vs.length) (h2 : i < cs.size),Rep bad w m c vs[i] cs[i]
def RepPs (bad : Nat → Prop) (w : World) (m : MM) (c : Nat) : List (Nat × V) → List (Nat × Value) → Prop
 | [],[]=>True
 | (i,v) :: r,(j,x) :: s=>i = j ∧ Rep bad w m c v x ∧ RepPs bad w m c r s
 | _,_=>False
theorem fill_sound {pV pC : Nat → Option (Nat × Nat)} (hp : ∀ i r,pV i = some r → pC i = some r) : ∀ (ps : List (Nat × V)) (qs : List (Nat × Value)) (vs : List V) (cs : Array Value) (vs' : List V),RepPs bad w m c ps qs → RepL bad w m c vs cs →
  (∀ x ∈ ps,x.2.cells.all V.one = true) → fillV pV vs ps = some vs' → ∃ cs',Instr.fill pC cs qs = some cs' ∧ RepL bad w m c vs' cs':=by
 intro ps
 induction ps with
 | nil =>
  intro qs vs cs vs' hq hr _ hf
  cases qs with
  | nil=>simp only [fillV,Option.some.injEq] at hf; subst hf; exact ⟨cs,rfl,hr⟩
  | cons y s=>exact hq.elim
 | cons x r ih =>
  intro qs vs cs vs' hq hr hone hf
  obtain ⟨i,v⟩:=x
  cases qs with
  | nil=>exact hq.elim
  | cons y s =>
   obtain ⟨j,x⟩:=y
   obtain ⟨rfl,hv,hs⟩:=hq
   simp only [fillV] at hf
   split at hf
   ·cases hf
   ·rename_i off size hpl
    split at hf
    ·rename_i hcond
     obtain ⟨hl,hle⟩:=hcond
     obtain ⟨hxs,hxr⟩:=hv.cells (hone _ (List.mem_cons_self ..))
     simp only [Instr.fill,hp _ _ hpl]
     have hsz : x.cells.size = size:=by omega
     have hlen:=hr.1
     rw [if_neg (by simp [hsz]; omega)]
     refine ih s _ _ vs' hs ?_ (fun z hz=>hone z (List.mem_cons_of_mem _ hz)) hf
     have hfold:=foldl_put x.cells.toList off 0 cs
     have heq : x.cells.zipIdx.foldl (fun cs (cj : Value × Nat)=>cs.setIfInBounds (off + cj.2) cj.1) cs = (x.cells.toList.zipIdx 0).foldl (fun (cs : Array Value) (x : Value × Nat)=>cs.setIfInBounds (off + x.2) x.1) cs:=by
      rw [← Array.foldl_toList]; simp
     rw [heq]
     refine ⟨by rw [hfold.1]; simp; omega,fun k h1 h2=>?_⟩
     have hg:=hfold.2 k
     rw [Array.getElem?_eq_getElem h2] at hg
     simp only [List.length_append,List.length_take,List.length_drop] at h1
     have hk : k < vs.length:=by omega
     have hkc : k < cs.size:=by omega
     by_cases hin : off ≤ k ∧ k < off + size
     ·rw [if_pos (by simp; omega)] at hg
      have hk2 : k - off < x.cells.size:=by omega
      have e2 : (vs.take off ++ v.cells ++ vs.drop (off + size))[k]'(by simp; omega) = v.cells[k - off]'(by omega):=by
       rw [List.getElem_append_left (by simp; omega),List.getElem_append_right (by simp; omega)]
       congr 1
       simp; omega
      rw [e2]
      have:=hxr (k - off) (by omega) hk2
      simp only [Nat.sub_zero,Array.getElem?_toList,Array.getElem?_eq_getElem hk2,Option.some.injEq] at hg
      rw [hg]; exact this
     ·rw [if_neg (by simp; omega),Array.getElem?_eq_getElem hkc,Option.some.injEq] at hg
      rw [hg]
      have e2 : (vs.take off ++ v.cells ++ vs.drop (off + size))[k]'(by simp; omega) = vs[k]:=by
       by_cases h3 : k < off
       ·rw [List.getElem_append_left (by simp; omega),List.getElem_append_left (by simp; omega)]; simp
       ·rw [List.getElem_append_right (by simp; omega)]
        simp only [List.getElem_drop]
        congr 1
        simp; omega
      rw [e2]; exact hr.2 k hk hkc
    ·cases hf
theorem evBuild_sound (hT : TabOk P T) {t : TypeId} {ps : List (Nat × V)} {qs : Array (Nat × Value)} {v : V} (hq : RepPs bad w m c ps qs.toList) (he : evBuild T t ps = some v) :
  ∃ y,(Instr.build t qs).run P w = .ok y w ∧ Rep bad w m c v y:=by
 unfold evBuild at he
 split at he
 case isFalse=>cases he
 rename_i hone'
 have hone : ∀ x ∈ ps,x.2.cells.all V.one = true:=fun x hx=>List.all_eq_true.1 hone' x hx
 split at he
 ·rename_i size bytes fs z hTt
  obtain ⟨info,zv,hi,hsz,_,hu,hz,hzv,hzs,hfs'⟩:=hT t _ hTt
  simp only [] at hu hzv hzs
  simp only [Option.map_eq_some_iff] at he
  obtain ⟨vs',hf,rfl⟩:=he
  obtain ⟨hcl,hcr⟩:=ofC_cells_rep (w:=w) (okOf bad w m) zv
  rw [← hzv] at hcl hcr
  have hfs : ∀ (l : List Field),(∀ f ∈ l,(T f.type).isSome = true) → (l.mapM (m:=Sem) fun f=>Prod.mk f.offset <$> sizeOf f.type).run P w = .ok (l.map fun f=>(f.offset,((T f.type).map (·.size)).getD 0)) w:=by
   intro l
   induction l with
   | nil=>intro _; rfl
   | cons f r ih =>
    intro hh
    obtain ⟨k,hk⟩:=Option.isSome_iff_exists.1 (hh f (by simp))
    have h1:=ih fun g hg=>hh g (by simp [hg])
    obtain ⟨info',z',hi',hs',_⟩:=hT _ k hk
    simp [List.mapM_cons,sizeOf_run hi',h1,hs',hk]
  have h1:=hfs fs.toList (hfs' fs rfl)
  obtain ⟨cs',h2,h3⟩:=fill_sound (pC:=fun x=>Option.map (fun f : Field=>(f.offset,(Option.map (fun x=>x.size) (T f.type)).getD 0)) fs[x]?) (fun i r h=>by
    split at h
    ·rename_i f hf
     simp only [Option.map_eq_some_iff] at h
     obtain ⟨k,hk,rfl⟩:=h
     simp [hf,hk]
    ·cases h) ps qs.toList z.cells zv.cells vs' hq ⟨hcl.symm,fun i a b=>.pure (hcr i a b)⟩ hone hf
  exact ⟨_,by simp [Instr.build,zeroValue,typeInfo,hi,hz,run_underlying hu,Array.mapM_eq_mapM_toList,h1,h2],.agg h3.1 h3.2⟩
 ·rename_i size bytes len e z hTt
  obtain ⟨info,zv,hi,hsz,_,hu,hz,hzv,hzs,_⟩:=hT t _ hTt
  simp only [] at hu hzv hzs
  split at he
  ·rename_i k hTe
   obtain ⟨info',z',hi',hs',_⟩:=hT e k hTe
   simp only [Option.map_eq_some_iff] at he
   obtain ⟨vs',hf,rfl⟩:=he
   obtain ⟨hcl,hcr⟩:=ofC_cells_rep (w:=w) (okOf bad w m) zv
   rw [← hzv] at hcl hcr
   obtain ⟨cs',h1,h2⟩:=fill_sound (pC:=fun i=>some (i * info'.size,info'.size)) (fun i r h=>by rw [hs']; exact h) ps qs.toList z.cells zv.cells vs' hq ⟨hcl.symm,fun i a b=>.pure (hcr i a b)⟩ hone hf
   exact ⟨_,by simp [Instr.build,zeroValue,typeInfo,hi,hz,run_underlying hu,sizeOf_run hi',h1],.agg h2.1 h2.2⟩
  ·cases he
 ·cases he
theorem pur_sound : ∀ (n : Nat) {v : V} {x : Value},pur n v = true → Rep bad w m c v x → RepP w (okOf bad w m) v x:=by
 intro n
 induction n with
 | zero=>intro v x h; simp [pur] at h
 | succ n ih =>
  intro v x h hr
  cases hr with
  | pure h=>exact h
  | agg hl hr =>
   simp only [pur,List.all_eq_true] at h
   exact .agg hl fun i h1 h2=>ih (h _ (List.getElem_mem h1)) (hr i h1 h2)
  | tup hl hr =>
   simp only [pur,List.all_eq_true] at h
   exact .tup hl fun i h1 h2=>ih (h _ (List.getElem_mem h1)) (hr i h1 h2)
  | fn hl hl' hr hr' =>
   simp only [pur,Bool.and_eq_true,List.all_eq_true] at h
   exact .fn hl hl' (fun i h1 h2=>ih (h.1 _ (List.getElem_mem h1)) (hr i h1 h2)) fun i h1 h2=>ih (h.2 _ (List.getElem_mem h1)) (hr' i h1 h2)
  | box=>simp [pur] at h
  | sl=>simp [pur] at h
def RowR (w : World) (ok : Nat → Prop) (sz : Nat) (es : List V) (cs : Array Value) : Prop :=
 cs.size = es.length * sz ∧ (∀ i (h : i < es.length),es[i].cells.length = sz) ∧ ∀ i (h : i < es.length) j (h2 : j < es[i].cells.length),∃ x,cs[i * sz + j]? = some x ∧ RepP w ok es[i].cells[j] x
def RepPp (w : World) (ok : Nat → Prop) : List (Nat × V) → List (Nat × Value) → Prop
 | [],[]=>True
 | (i,v) :: r,(j,x) :: s=>i = j ∧ RepP w ok v x ∧ RepPp w ok r s
 | _,_=>False
theorem row_zero {ok : Nat → Prop} {z : V} {zv : Value} {sz : Nat} (hl : zv.cells.size = z.cells.length) (hs : zv.cells.size = sz) (hr : ∀ j (h1 : j < z.cells.length) (h2 : j < zv.cells.size),RepP w ok z.cells[j] zv.cells[j]) (n : Nat) (hp : 0 < sz) :
  RowR w ok sz (List.replicate n z) ((Array.range (n * sz)).map (zv.cells[· % zv.cells.size]!)):=by
 refine ⟨by simp,fun i h=>by simp; omega,fun i h j h2=>?_⟩
 have h3 : j < z.cells.length:=by simpa using h2
 have h4 : j < zv.cells.size:=by omega
 have h5 : i < n:=by simpa using h
 have h6 : i * sz + j < n * sz:=by
  have:=Nat.mul_le_mul_right sz (show i + 1 ≤ n from h5)
  rw [Nat.add_mul] at this; omega
 have h7 : (i * sz + j) % zv.cells.size = j:=by
  rw [hs,Nat.mul_comm,Nat.mul_add_mod]; exact Nat.mod_eq_of_lt (by omega)
 refine ⟨zv.cells[j],?_,by simpa using hr j h3 h4⟩
 simp [h6,h7,h4]
theorem setParts_sound {ok : Nat → Prop} {sz : Nat} : ∀ (ps : List (Nat × V)) (qs : List (Nat × Value)) (es : List V) (cs : Array Value) (es' : List V),RepPp w ok ps qs → RowR w ok sz es cs → setParts sz es ps = some es' →
  ∃ cs',Instr.fill (fun i=>some (i * sz,sz)) cs qs = some cs' ∧ RowR w ok sz es' cs' ∧ es'.length = es.length:=by
 intro ps
 induction ps with
 | nil =>
  intro qs es cs es' hq hr hf
  cases qs with
  | nil=>simp only [setParts,Option.some.injEq] at hf; subst hf; exact ⟨cs,rfl,hr,rfl⟩
  | cons y s=>exact hq.elim
 | cons x r ih =>
  intro qs es cs es' hq hr hf
  obtain ⟨i,v⟩:=x
  cases qs with
  | nil=>exact hq.elim
  | cons y s =>
   obtain ⟨j,x⟩:=y
   obtain ⟨rfl,hv,hs⟩:=hq
   simp only [setParts] at hf
   split at hf
   ·rename_i hcond
    obtain ⟨hi,hl,hone⟩:=hcond
    obtain ⟨hxs,hxr⟩:=hv.cells hone
    obtain ⟨hsz,hwd,hall⟩:=hr
    have hx : x.cells.size = sz:=by omega
    have hfit : i * sz + sz ≤ cs.size:=by
     have:=Nat.mul_le_mul_right sz (show i + 1 ≤ es.length from hi)
     rw [Nat.add_mul] at this; omega
    simp only [Instr.fill]
    rw [if_neg (by simp [hx]; omega)]
    have hfold:=foldl_put x.cells.toList (i * sz) 0 cs
    have heq : x.cells.zipIdx.foldl (fun cs (cj : Value × Nat)=>cs.setIfInBounds (i * sz + cj.2) cj.1) cs = (x.cells.toList.zipIdx 0).foldl (fun (cs : Array Value) (x : Value × Nat)=>cs.setIfInBounds (i * sz + x.2) x.1) cs:=by
     rw [← Array.foldl_toList]; simp
    rw [heq]
    have hnew : RowR w ok sz (es.set i v) ((x.cells.toList.zipIdx 0).foldl (fun (cs : Array Value) (x : Value × Nat)=>cs.setIfInBounds (i * sz + x.2) x.1) cs):=by
     refine ⟨by rw [hfold.1]; simp [hsz],fun k hk=>?_,fun k hk q hq=>?_⟩
     ·rw [List.getElem_set]
      split
      ·exact hl
      ·exact hwd _ _
     ·have hk' : k < es.length:=by simpa using hk
      rw [hfold.2]
      by_cases hki : i = k
      ·subst hki
       simp only [List.getElem_set_self] at hq ⊢
       have hq2 : q < x.cells.size:=by omega
       rw [if_pos (by simp; omega)]
       refine ⟨x.cells[q],?_,hxr q hq hq2⟩
       rw [show i * sz + q - i * sz - 0 = q by omega]
       simp [hq2]
      ·simp only [List.getElem_set_ne hki] at hq ⊢
       have hqw : q < sz:=by rw [← hwd k hk']; exact hq
       have:=mul_apart (a:=k) (b:=i) (w:=sz) (i:=q) (j:=0) (n:=sz) (k:=0) hqw (by omega) (Ne.symm hki)
       rw [if_neg (by simp; omega)]
       exact hall k hk' q hq
    obtain ⟨cs',h1,h2,h3⟩:=ih s _ _ es' hs hnew hf
    exact ⟨cs',h1,h2,by simpa using h3⟩
   ·cases hf
def RowQ (R : V → Value → Prop) (sz : Nat) (es : List V) (cs : Array Value) : Prop :=
 cs.size = es.length * sz ∧ (∀ i (h : i < es.length),es[i].cells.length = sz) ∧ ∀ i (h : i < es.length) j (h2 : j < es[i].cells.length),∃ x,cs[i * sz + j]? = some x ∧ R es[i].cells[j] x
def RepQp (R : V → Value → Prop) : List (Nat × V) → List (Nat × Value) → Prop
 | [],[]=>True
 | (i,v) :: r,(j,x) :: s=>i = j ∧ R v x ∧ RepQp R r s
 | _,_=>False
theorem setPartsQ_sound {R : V → Value → Prop} (hR : ∀ {v : V} {x : Value},R v x → v.cells.all V.one = true → x.cells.size = v.cells.length ∧ ∀ k (a : k < v.cells.length) (b : k < x.cells.size),R v.cells[k] x.cells[k]) {sz : Nat} : ∀ (ps : List (Nat × V)) (qs : List (Nat × Value)) (es : List V) (cs : Array Value) (es' : List V),RepQp R ps qs → RowQ R sz es cs → setParts sz es ps = some es' →
  ∃ cs',Instr.fill (fun i=>some (i * sz,sz)) cs qs = some cs' ∧ RowQ R sz es' cs' ∧ es'.length = es.length:=by
 intro ps
 induction ps with
 | nil =>
  intro qs es cs es' hq hr hf
  cases qs with
  | nil=>simp only [setParts,Option.some.injEq] at hf; subst hf; exact ⟨cs,rfl,hr,rfl⟩
  | cons y s=>exact hq.elim
 | cons x r ih =>
  intro qs es cs es' hq hr hf
  obtain ⟨i,v⟩:=x
  cases qs with
  | nil=>exact hq.elim
  | cons y s =>
   obtain ⟨j,x⟩:=y
   obtain ⟨rfl,hv,hs⟩:=hq
   simp only [setParts] at hf
   split at hf
   ·rename_i hcond
    obtain ⟨hi,hl,hone⟩:=hcond
    obtain ⟨hxs,hxr⟩:=hR hv hone
    obtain ⟨hsz,hwd,hall⟩:=hr
    have hx : x.cells.size = sz:=by omega
    have hfit : i * sz + sz ≤ cs.size:=by
     have:=Nat.mul_le_mul_right sz (show i + 1 ≤ es.length from hi)
     rw [Nat.add_mul] at this; omega
    simp only [Instr.fill]
    rw [if_neg (by simp [hx]; omega)]
    have hfold:=foldl_put x.cells.toList (i * sz) 0 cs
    have heq : x.cells.zipIdx.foldl (fun cs (cj : Value × Nat)=>cs.setIfInBounds (i * sz + cj.2) cj.1) cs = (x.cells.toList.zipIdx 0).foldl (fun (cs : Array Value) (x : Value × Nat)=>cs.setIfInBounds (i * sz + x.2) x.1) cs:=by
     rw [← Array.foldl_toList]; simp
    rw [heq]
    have hnew : RowQ R sz (es.set i v) ((x.cells.toList.zipIdx 0).foldl (fun (cs : Array Value) (x : Value × Nat)=>cs.setIfInBounds (i * sz + x.2) x.1) cs):=by
     refine ⟨by rw [hfold.1]; simp [hsz],fun k hk=>?_,fun k hk q hq=>?_⟩
     ·rw [List.getElem_set]
      split
      ·exact hl
      ·exact hwd _ _
     ·have hk' : k < es.length:=by simpa using hk
      rw [hfold.2]
      by_cases hki : i = k
      ·subst hki
       simp only [List.getElem_set_self] at hq ⊢
       have hq2 : q < x.cells.size:=by omega
       rw [if_pos (by simp; omega)]
       refine ⟨x.cells[q],?_,hxr q hq hq2⟩
       rw [show i * sz + q - i * sz - 0 = q by omega]
       simp [hq2]
      ·simp only [List.getElem_set_ne hki] at hq ⊢
       have hqw : q < sz:=by rw [← hwd k hk']; exact hq
       have:=mul_apart (a:=k) (b:=i) (w:=sz) (i:=q) (j:=0) (n:=sz) (k:=0) hqw (by omega) (Ne.symm hki)
       rw [if_neg (by simp; omega)]
       exact hall k hk' q hq
    obtain ⟨cs',h1,h2,h3⟩:=ih s _ _ es' hs hnew hf
    exact ⟨cs',h1,h2,by simpa using h3⟩
   ·cases hf
theorem RepPp.mono {w' : World} {ok ok' : Nat → Prop} (h : ∀ v x,RepP w ok v x → RepP w' ok' v x) : ∀ {ps : List (Nat × V)} {qs : List (Nat × Value)},RepPp w ok ps qs → RepPp w' ok' ps qs
 | [],[],_=>trivial
 | (_,_) :: _,(_,_) :: _,⟨a,b,d⟩=>⟨a,h _ _ b,RepPp.mono h d⟩
 | [],_ :: _,hh=>hh.elim
 | _ :: _,[],hh=>hh.elim
theorem RepPs.split : ∀ {ps : List (Nat × V)} {qs : List (Nat × Value)},RepPs bad w m c ps qs → ps.map (·.1) = qs.map (·.1) ∧ (ps.map (·.2)).length = (qs.map (·.2)).length ∧
  ∀ i (h1 : i < (ps.map (·.2)).length) (h2 : i < (qs.map (·.2)).length),Rep bad w m c (ps.map (·.2))[i] (qs.map (·.2))[i]
 | [],[],_=>⟨rfl,rfl,fun i h1 _=>by simp at h1⟩
 | (i,v) :: r,(j,x) :: s,⟨a,b,d⟩=>by
  obtain ⟨h1,h2,h3⟩:=RepPs.split d
  refine ⟨by simp [a]; simpa using h1,by simpa using h2,fun k a1 a2=>?_⟩
  cases k with
  | zero=>exact b
  | succ k=>exact h3 k (by simpa using a1) (by simpa using a2)
 | [],_ :: _,h=>h.elim
 | _ :: _,[],h=>h.elim
theorem RepPs.toQ : ∀ {ps : List (Nat × V)} {qs : List (Nat × Value)},RepPs bad w m c ps qs → RepQp (Rep bad w m c) ps qs
 | [],[],_=>trivial
 | (i,v) :: r,(j,x) :: s,⟨a,b,d⟩=>⟨a,b,RepPs.toQ d⟩
 | [],_ :: _,h=>h.elim
 | _ :: _,[],h=>h.elim
theorem RepPp.join {ok : Nat → Prop} : ∀ {is : List Nat} {vs : List V} {qs : List (Nat × Value)},is = qs.map (·.1) → vs.length = qs.length → (∀ i (h1 : i < vs.length) (h2 : i < (qs.map (·.2)).length),RepP w ok vs[i] (qs.map (·.2))[i]) → RepPp w ok (is.zip vs) qs
 | _,[],[],rfl,_,_=>trivial
 | _,v :: r,(j,x) :: s,rfl,hl,hr=>by
  refine ⟨rfl,hr 0 (by simp) (by simp),RepPp.join rfl (by simpa using hl) fun i h1 h2=>?_⟩
  exact hr (i + 1) (by simpa using h1) (by simpa using h2)
 | _,[],_ :: _,_,hl,_=>by simp at hl
 | _,_ :: _,[],_,hl,_=>by simp at hl
theorem RepPs.pure {n : Nat} : ∀ {ps : List (Nat × V)} {qs : List (Nat × Value)},RepPs bad w m c ps qs → (∀ x ∈ ps,pur n x.2 = true) → RepPp w (okOf bad w m) ps qs
 | [],[],_,_=>trivial
 | (i,v) :: r,(j,x) :: s,⟨a,b,d⟩,h=>⟨a,pur_sound n (h (i,v) (List.mem_cons_self ..)) b,RepPs.pure d fun y hy=>h y (List.mem_cons_of_mem _ hy)⟩
 | [],_ :: _,h,_=>h.elim
 | _ :: _,[],h,_=>h.elim
theorem optC_rep {w : World} {ok : Nat → Prop} {v : V} {x : Value} (h : RepP w ok v x) : RepP w ok (optC v) x:=by
 unfold optC
 split
 ·cases h with
  | psNil hn=>exact .psNil (by simp)
  | ps hn a b c d e f g=>exact .ps (by simp) a (by simp) c d e f g
 ·exact h
theorem optC_cells {v : V} (h : v.isAgg = false) : (optC v).cells = [optC v] ∧ v.cells = [v]:=by
 unfold optC
 split
 ·exact ⟨rfl,rfl⟩
 ·cases v <;> first | exact ⟨rfl,rfl⟩ | simp [V.isAgg] at h
theorem optV_cells (v : V) : (optV v).cells = v.cells.map optC:=by
 cases v with
 | agg cs=>rfl
 | _=>simp only [optV]; rw [(optC_cells rfl).1,(optC_cells rfl).2]; rfl
theorem rowR_opt {w : World} {ok : Nat → Prop} {sz : Nat} {es : List V} {cs : Array Value} (h : RowR w ok sz es cs) : RowR w ok sz (es.map optV) cs:=by
 obtain ⟨h1,h2,h3⟩:=h
 refine ⟨by simpa using h1,fun i hi=>?_,fun i hi j hj=>?_⟩
 ·have hi' : i < es.length:=by simpa using hi
  rw [List.getElem_map,optV_cells,List.length_map]
  exact h2 i hi'
 ·have hi' : i < es.length:=by simpa using hi
  have e : ((es.map optV)[i]).cells = es[i].cells.map optC:=by rw [List.getElem_map,optV_cells]
  have hj' : j < es[i].cells.length:=by rw [e,List.length_map] at hj; exact hj
  obtain ⟨x,hx,hr⟩:=h3 i hi' j hj'
  refine ⟨x,hx,?_⟩
  have e2 : ((es.map optV)[i]).cells[j] = optC es[i].cells[j]:=by simp [optV_cells]
  rw [e2]; exact optC_rep hr
theorem evBuildSlice_sound (hT : TabOk P T) {h : Hp} (hh : HeapRep bad h w m c) {dst : Tmp} {draw : Bool} {t : TypeId} {len : Nat} {ps : List (Nat × V)} {qs : Array (Nat × Value)} (hq : RepPs bad w m c ps qs.toList) {v : V} {h' : Hp} {c' : Nat}
  (he : evBuildSlice T dst draw t len ps h c = some (v,h',c')) :
  ∃ y w' m',(Instr.buildSlice t len qs).run P w = .ok y w' ∧ Rep bad w' m' c' v y ∧ Le w m c w' m' c' ∧ HeapRep bad h' w' m' c':=by
 unfold evBuildSlice at he
 split at he
 ·rename_i _ _ e _ hTt
  obtain ⟨_,_,_,_,_,hu,_⟩:=hT t _ hTt
  simp only [] at hu
  split at he
  ·rename_i i hTe
   obtain ⟨info,z,hi,hsz,_,_,hz,hzv,hzs,_⟩:=hT e i hTe
   split at he
   ·rename_i hcond
    obtain ⟨h24,hpos⟩:=hcond
    have hz0 : ∀ ok,RowR w ok i.size (List.replicate len i.zero) ((Array.range (len * i.size)).map (z.cells[· % z.cells.size]!)):=fun ok=>by
     obtain ⟨hcl,hcr⟩:=ofC_cells_rep (w:=w) ok z
     rw [← hzv] at hcl hcr
     exact row_zero hcl hzs hcr len hpos
    have hrun : ∀ cs',Instr.fill (fun k=>some (k * i.size,i.size)) ((Array.range (len * i.size)).map (z.cells[· % z.cells.size]!)) qs.toList = some cs' →
      (Instr.buildSlice t len qs).run P w = .ok (.slice (some ⟨w.heap.size,0,none⟩) len len) (w.alloc (.cells cs' e)):=fun cs' hf=>by
     by_cases hn : len * i.size = 0
     ·rw [hn] at hf
      simp only [Array.range_zero',Array.map_empty] at hf
      simp [Instr.buildSlice,run_underlying hu,sizeOf_run hi,hsz,hn,hf,newRow,Array.range_zero']
     ·simp [Instr.buildSlice,run_underlying hu,sizeOf_run hi,hsz,hn,zeroValue,typeInfo,hi,hz,hf,newRow,Nat.not_lt.2 h24]
    have hmax : len ≤ maxLen:=by
     have : len ≤ len * i.size:=Nat.le_mul_of_pos_right _ hpos
     unfold maxLen; omega
    have hfr : ∀ cs' : Array Value,(w.alloc (.cells cs' e)).heap[w.heap.size]? = some (.cells cs' e (0,0)):=fun cs'=>by simpa using heap_alloc_new w (.cells cs' e)
    split at he
    ·
     split at he
     ·rename_i hp
      split at he
      ·rename_i es hs
       simp only [Option.some.injEq,Prod.mk.injEq] at he
       obtain ⟨rfl,rfl,rfl⟩:=he
       have hq':=hq.pure (n:=4) fun x hx=>List.all_eq_true.1 hp x hx
       obtain ⟨cs',h1,hrow,h5⟩:=setParts_sound ps qs.toList _ _ es hq' (hz0 _) hs
       obtain ⟨h2,h3,h4⟩:=rowR_opt hrow
       obtain ⟨le1,hh1⟩:=hh.world (w':=w.alloc (.cells cs' e)) (fun β hβ=>alloc_old w _ β hβ) (by simp) rfl rfl rfl
       refine ⟨_,_,m,hrun cs' h1,.pure ?_,le1,hh1⟩
       have hlen : (es.map optV).length = len:=by simpa using h5
       have hok : okOf bad (w.alloc (.cells cs' e)) m w.heap.size:=⟨by simp,fun hb=>Nat.lt_irrefl _ (hh.lt _ hb),fun b l hb hl=>Nat.lt_irrefl _ (hh.blk_lt hb hl)⟩
       have:=RepP.ps (w:=w.alloc (.cells cs' e)) (ok:=okOf bad (w.alloc (.cells cs' e)) m) (c:=.full) (xs:=es.map optV) (β:=w.heap.size) (o:=0) (k:=i.size) (cap:=len) (val:=fun a b=>(cs'[a * i.size + b]?).getD Go.undef)
        (by simp) (by omega) (fun _=>by omega) (fun _=>hok) h3 (fun a b ha hb=>by
         obtain ⟨y,hy,_⟩:=h4 a ha b (by rw [h3]; exact hb)
         rw [cell_of_row _ _ _ _ _ _ (hfr cs'),Nat.zero_add,hy]; rfl) (fun a ha b hb=>by
         obtain ⟨y,hy,hr⟩:=h4 a ha b hb
         rw [hy]
         exact hr.mono fun β hβ=>⟨(le1.hok hβ).1,le1.cell hβ⟩) (q:=none) (by simp)
       rw [hlen] at this
       exact this
      ·cases he
     ·split at he
      ·rename_i es hs
       simp only [Option.some.injEq,Prod.mk.injEq] at he
       obtain ⟨rfl,rfl,rfl⟩:=he
       have hzr : RowQ (Rep bad w m c) i.size (List.replicate len i.zero) ((Array.range (len * i.size)).map (z.cells[· % z.cells.size]!)):=by
        obtain ⟨h1,h2,h3⟩:=hz0 (okOf bad w m)
        exact ⟨h1,h2,fun a ha b hb=>by obtain ⟨y,hy,hr⟩:=h3 a ha b hb; exact ⟨y,hy,.pure hr⟩⟩
       obtain ⟨cs',f1,hrow,f5⟩:=setPartsQ_sound (fun hv h1=>hv.cells h1) ps qs.toList _ _ es hq.toQ hzr hs
       obtain ⟨f2,f3,f4⟩:=hrow
       have hlen : es.length = len:=by simpa using f5
       have hnew:=hh.new dst (w':=w.alloc (.cells cs' e)) (fun β hβ=>alloc_old w _ β hβ) rfl rfl rfl (β0:=w.heap.size) (Nat.le_refl _) (e:=e) (wd:=i.size) (var:=true) (es:=es) (cs:=cs') (hfr cs')
        (by omega) f3 (fun a ha b hb=>by
         obtain ⟨y,hy,hr⟩:=f4 a ha b hb
         exact ⟨y,hy,by simpa [RepC] using hr⟩)
       exact ⟨_,_,_,hrun cs' f1,rep_slNew (Nat.le_refl _) (by rw [f2,hlen]) hmax,hnew.1,hnew.2⟩
      ·cases he
    ·split at he
     ·rename_i vs h1 hm
      split at he
      ·rename_i es hs
       simp only [Option.some.injEq,Prod.mk.injEq] at he
       obtain ⟨rfl,rfl,rfl⟩:=he
       obtain ⟨q1,q2,q3⟩:=hq.split
       obtain ⟨m1,le1,hh1,hl1,hp1⟩:=mapH_sound (frz_sound 4) (ps.map (·.2)) h vs h1 m (qs.toList.map (·.2)) hh hm q2 q3
       have hq' : RepPp w (okOf bad w m1) ((ps.map (·.1)).zip vs) qs.toList:=RepPp.join q1 (by rw [hl1,q2]; simp) hp1
       obtain ⟨cs',f1,hrow,f5⟩:=setParts_sound _ qs.toList _ _ es hq' (hz0 _) hs
       obtain ⟨f2,f3,f4⟩:=rowR_opt hrow
       have hlen : (es.map optV).length = len:=by simpa using f5
       have hnew:=hh1.new dst (w':=w.alloc (.cells cs' e)) (fun β hβ=>alloc_old w _ β hβ) rfl rfl rfl (β0:=w.heap.size) (Nat.le_refl _) (e:=e) (wd:=i.size) (var:=false) (es:=es.map optV) (cs:=cs') (hfr cs')
        (by omega) f3 (fun a ha b hb=>by
         obtain ⟨y,hy,hr⟩:=f4 a ha b hb
         exact ⟨y,hy,hr⟩)
       exact ⟨_,_,_,hrun cs' f1,rep_slNew (Nat.le_refl _) (by rw [f2,hlen]) hmax,le1.trans hnew.1,hnew.2⟩
      ·cases he
     ·cases he
   ·cases he
  ·cases he
 ·cases he
theorem over_length {es xs : List V} {off : Nat} (h : off + xs.length ≤ es.length) : (over es off xs).length = es.length:=by
 unfold over; simp; omega
theorem HeapRep.overwrite {h : Hp} (hh : HeapRep bad h w m c) {b : Nat} {B : Blk} (hg : h.get b = some B) {l : Loc} {β : Nat} (hm : m b = some l) (hblk : l.blk = some β) (hlw : l.w = B.w) {cs : Array Value} (hcs : w.heap[β]? = some (.cells cs B.T (0,0)))
  (hcsz : cs.size = l.n) (hle : B.es.length * B.w ≤ l.n) (hwd : ∀ i (h : i < B.es.length),B.es[i].cells.length = B.w) (hall : ∀ i (h : i < B.es.length) j (h2 : j < B.es[i].cells.length),∃ x,cs[i * B.w + j]? = some x ∧ RepC bad B.var w m c B.es[i].cells[j] x)
  (hv : B.var = false) {xs : List V} {off : Nat} (hfit : off + xs.length ≤ B.es.length) {vs : List Value} (hvl : vs.length = xs.length * B.w) (hxw : ∀ k (hk : k < xs.length),xs[k].cells.length = B.w)
  (hxr : ∀ k (hk : k < xs.length) j (h2 : j < xs[k].cells.length),∃ x,vs[k * B.w + j]? = some x ∧ RepP w (okOf bad w m) xs[k].cells[j] x) (hone : ∀ u ∈ vs,u.oneCell' = true) :
  ∃ w',(storeCells ⟨β,off * l.w,none⟩ vs).run P w = .ok () w' ∧ Le w m c w' m c ∧ HeapRep bad (h.set b { B with es:=over B.es off xs }) w' m c:=by
 have hmul : off * B.w + xs.length * B.w ≤ B.es.length * B.w:=by rw [← Nat.add_mul]; exact Nat.mul_le_mul_right _ hfit
 have hst:=run_storeCells_at (P:=P) β (off * l.w) B.T vs 0 cs w hcs (by rw [hlw,hvl]; omega) hone
 simp only [Nat.add_zero] at hst
 have hfull : off * l.w + vs.length ≤ cs.toList.length:=by rw [hlw,hvl]; simp; omega
 let cs':=(cs.toList.take (off * l.w) ++ vs ++ cs.toList.drop (off * l.w + vs.length)).toArray
 have hget : ∀ p,cs'[p]? = if p < off * l.w then cs[p]? else if p < off * l.w + vs.length then vs[p - off * l.w]? else cs[p]?:=fun p=>by
  have:=splice_get cs.toList vs (off * l.w) p hfull
  simpa [cs'] using this
 have hcs' : cs'.size = cs.size:=by simp [cs']; simp at hfull; omega
 have hbnd : ∀ {p q N : Nat},p < N → q < B.w → p * B.w + q < N * B.w:=fun {p q N} h1 h2=>by
  have:=Nat.mul_le_mul_right B.w (show p + 1 ≤ N from h1)
  rw [Nat.add_mul] at this; omega
 have hin : ∀ k (hk : k < (over B.es off xs).length),(over B.es off xs)[k].cells.length = B.w ∧ ∀ j (h2 : j < (over B.es off xs)[k].cells.length),∃ x,cs'[k * B.w + j]? = some x ∧ RepC bad B.var w m c (over B.es off xs)[k].cells[j] x:=by
  intro k hk
  have hk0 : k < B.es.length:=by rw [over_length hfit] at hk; exact hk
  by_cases h1 : k < off
  ·have e : (over B.es off xs)[k] = B.es[k]:=by
    simp only [over]
    rw [List.getElem_append_left (by simp; omega),List.getElem_append_left (by simp; omega)]
    simp
   rw [e]
   refine ⟨hwd k hk0,fun j hj=>?_⟩
   obtain ⟨y,hy,hr⟩:=hall k hk0 j hj
   refine ⟨y,?_,hr⟩
   rw [hwd] at hj
   rw [hget,if_pos (by rw [hlw]; exact hbnd h1 hj)]
   exact hy
  ·by_cases h2 : k < off + xs.length
   ·have e : (over B.es off xs)[k] = xs[k - off]'(by omega):=by
     simp only [over]
     rw [List.getElem_append_left (by simp; omega),List.getElem_append_right (by simp; omega)]
     congr 1
     simp; omega
    rw [e]
    refine ⟨hxw _ _,fun j hj=>?_⟩
    obtain ⟨y,hy,hr⟩:=hxr (k - off) (by omega) j hj
    refine ⟨y,?_,by simpa [RepC,hv] using hr⟩
    rw [hxw] at hj
    have h3 : off * B.w ≤ k * B.w:=Nat.mul_le_mul_right _ (by omega)
    have h4 : k * B.w + j < (off + xs.length) * B.w:=hbnd h2 hj
    have h5 : (k - off) * B.w = k * B.w - off * B.w:=Nat.sub_mul _ _ _
    rw [hget,hlw,hvl,if_neg (by omega),if_pos (by rw [Nat.add_mul] at h4; exact h4)]
    rw [show k * B.w + j - off * B.w = (k - off) * B.w + j by omega]
    exact hy
   ·have e : (over B.es off xs)[k] = B.es[k]:=by
     simp only [over]
     rw [List.getElem_append_right (by simp; omega)]
     simp only [List.getElem_drop]
     congr 1
     simp; omega
    rw [e]
    refine ⟨hwd k hk0,fun j hj=>?_⟩
    obtain ⟨y,hy,hr⟩:=hall k hk0 j hj
    refine ⟨y,?_,hr⟩
    have h3 : (off + xs.length) * B.w ≤ k * B.w:=Nat.mul_le_mul_right _ (by omega)
    rw [Nat.add_mul] at h3
    rw [hget,hlw,hvl,if_neg (by omega),if_neg (by omega)]
    exact hy
 have key:=hh.write hg hm hblk hcs (cs':=cs') hcs' (es:=over B.es off xs) (over_length hfit) (fun k hk=>(hin k hk).1) (fun k hk j hj=>(hin k hk).2 j hj)
 exact ⟨_,hst,key.1,key.2⟩
theorem evCopy_sound (hT : TabOk P T) {h : Hp} (hh : HeapRep bad h w m c) {t t2 ty : TypeId} {dv xv v : V} {d x : Value} (hd : Rep bad w m c dv d) (hx : Rep bad w m c xv x) {h' : Hp} {c' : Nat} (he : evCopy T t dv xv h c = some (v,h',c')) :
  ∃ y w' m',(Builtin.copy_ #[t,t2] ty #[d,x]).run P w = .ok y w' ∧ Rep bad w' m' c' v y ∧ Le w m c w' m' c' ∧ HeapRep bad h' w' m' c':=by
 unfold evCopy at he
 split at he
 ·rename_i _ _ e _ hTt
  obtain ⟨_,_,_,_,_,hu,_⟩:=hT t _ hTt
  simp only [] at hu
  split at he
  ·rename_i i b s off len tip xs hTe hel
   obtain ⟨info,z,hi,hsz,_⟩:=hT e i hTe
   split at he
   ·rename_i B hg
    split at he
    ·rename_i hcond
     obtain ⟨hs,hvar,hnl,hw,hfit,hxall⟩:=hcond
     simp only [Option.some.injEq,Prod.mk.injEq] at he
     obtain ⟨rfl,rfl,rfl⟩:=he
     obtain ⟨l,β,cs,hm,hls,hlw,hlT,hblk,hcs,hcsz,hle',hwd,hall⟩:=rep_block hh hg hs hnl
     have hxw : ∀ k (hk : k < xs.length),xs[k].cells.length = i.size ∧ xs[k].cells.all V.one = true:=fun k hk=>by
      have:=List.all_eq_true.1 hxall _ (List.getElem_mem hk)
      simpa using this
     cases hd with
     | pure hr=>cases hr
     | sl hs' hx' hb =>
      rcases hb l hm hls with ⟨h5,_⟩ | ⟨β',cap,h5,rfl,_⟩
      ·rw [hblk] at h5; cases h5
      ·rw [hblk] at h5; cases h5
       generalize hn : min xs.length len = n
       have hn1 : n ≤ xs.length:=by omega
       have hn2 : n ≤ len:=by omega
       have htl : (xs.take n).length = n:=by simp; omega

       obtain ⟨vs,hvl,hone,hfirst,hxr⟩ : ∃ vs : List Value,vs.length = n * i.size ∧ (∀ u ∈ vs,u.oneCell' = true) ∧
         (∃ sLen,(Builtin.lenOf x).run P w = .ok sLen w ∧ Nat.min sLen len = n ∧ (Builtin.firstCells info.size n x).run P w = .ok vs.toArray w) ∧
         ∀ k (hk : k < (xs.take n).length) j (h2 : j < (xs.take n)[k].cells.length),∃ u,vs[k * i.size + j]? = some u ∧ RepP w (okOf bad w m) (xs.take n)[k].cells[j] u:=by
        rcases elems_sound hh hx hel with ⟨rfl,rfl⟩ | ⟨rfl,a,cp,rfl⟩ | ⟨β2,o2,k2,cap2,val,rfl,hw2,hc2,hr2⟩
        ·obtain rfl : n = 0:=by simp at hn; omega
         exact ⟨[],by simp,by simp,⟨0,rfl,by simp,run_firstCells_none _ _ _ _ _⟩,fun k hk=>by simp at hk⟩
        ·obtain rfl : n = 0:=by simp at hn; omega
         exact ⟨[],by simp,by simp,⟨0,rfl,by simp,run_firstCells_some w _ _ _ _ _ [] (by simp) (by simp)⟩,fun k hk=>by simp at hk⟩
        ·refine ⟨flatC n i.size val,flatC_length _ _ _,fun u hu=>?_,⟨xs.length,rfl,hn,?_⟩,fun k hk j hj=>?_⟩
         ·obtain ⟨p,q,hp,hq,rfl⟩:=flatC_mem hu
          have hp' : p < xs.length:=by omega
          have hq' : q < xs[p].cells.length:=by rw [(hxw p hp').1]; exact hq
          exact (hr2 p hp' q hq').one (List.all_eq_true.1 (hxw p hp').2 _ (List.getElem_mem hq'))
         ·refine run_firstCells_some w _ _ _ _ _ _ (by rw [hsz]; exact flatC_length _ _ _) fun j u hu=>?_
          obtain ⟨a1,a2,rfl,a4⟩:=flatC_ix val hu
          have a1' : j / i.size < xs.length:=by omega
          have hk2 : k2 = i.size:=by rw [← hw2 _ a1']; exact (hxw _ a1').1
          subst hk2
          have:=hc2 _ _ a1' a2
          rw [Addr.add_lit]
          rwa [show o2 + j = o2 + j / i.size * i.size + j % i.size by omega]
         ·have hk' : k < xs.length:=by simp at hk; omega
          have e : (xs.take n)[k] = xs[k]:=by simp
          have hj' : j < xs[k].cells.length:=by rw [← e]; exact hj
          have hj2 : j < i.size:=by rw [← (hxw k hk').1]; exact hj'
          refine ⟨_,flatC_get n i.size val k j (by simp at hk; omega) hj2,?_⟩
          have:=hr2 k hk' j hj'
          simpa [e] using this
       obtain ⟨sLen,hlen,hmin,hfirst⟩:=hfirst
       rw [hw] at hwd hall
       obtain ⟨w',hst,hle2,hh2⟩:=hh.overwrite (P:=P) hg hm hblk (by rw [hlw]) hcs hcsz hle' (by rw [hw]; exact hwd) (by rw [hw]; exact hall) hvar (xs:=xs.take n) (off:=off) (by rw [htl]; omega) (vs:=vs) (by rw [htl,hw]; exact hvl)
        (fun k hk=>by rw [hw]; have : k < xs.length:=by { simp at hk; omega }; simpa using (hxw k this).1) (by rw [hw]; exact hxr) hone
       refine ⟨goInt (n : Nat),w',m,?_,.pure (.p _),hle2,hh2⟩
       simp [Builtin.copy_,run_underlying hu,sizeOf_run hi,hlen,hmin,hfirst,hst]
    ·cases he
   ·cases he
  ·cases he
 ·cases he
theorem evClear_sound (hT : TabOk P T) {h : Hp} (hh : HeapRep bad h w m c) {t ty : TypeId} {xv v : V} {x : Value} (hx : Rep bad w m c xv x) {h' : Hp} {c' : Nat} (he : evClear T t xv h c = some (v,h',c')) :
  ∃ y w' m',(Builtin.clear_ #[t] ty #[x]).run P w = .ok y w' ∧ Rep bad w' m' c' v y ∧ Le w m c w' m' c' ∧ HeapRep bad h' w' m' c':=by
 unfold evClear at he
 split at he
 ·rename_i _ _ e _ hTt
  obtain ⟨_,_,_,_,_,hu,_⟩:=hT t _ hTt
  simp only [] at hu
  split at he
  ·rename_i i b s off len tip hTe
   obtain ⟨info,z,hi,hsz,hby,_,hz,hzv,hzs,_⟩:=hT e i hTe
   split at he
   ·rename_i B hg
    split at he
    ·rename_i hcond
     obtain ⟨hs,hvar,hnl,hw,hfit,hpos,hz1⟩:=hcond
     simp only [Option.some.injEq,Prod.mk.injEq] at he
     obtain ⟨rfl,rfl,rfl⟩:=he
     obtain ⟨l,β,cs,hm,hls,hlw,hlT,hblk,hcs,hcsz,hle',hwd,hall⟩:=rep_block hh hg hs hnl
     obtain ⟨hcl,hcr⟩:=ofC_cells_rep (w:=w) (okOf bad w m) z
     rw [← hzv] at hcl hcr
     obtain ⟨f2,f3,f4⟩:=row_zero (w:=w) hcl hzs hcr len hpos
     cases hx with
     | pure hr=>cases hr
     | sl hs' hx' hb =>
      rcases hb l hm hls with ⟨h5,_⟩ | ⟨β',cap,h5,rfl,_⟩
      ·rw [hblk] at h5; cases h5
      ·rw [hblk] at h5; cases h5
       have hzl : i.zero.cells.length = i.size:=by rw [← hcl,hzs]
       rw [hw] at hwd hall
       let vs:=(Builtin.zeroCells z.cells len).toList
       have hvs : vs = ((Array.range (len * i.size)).map (z.cells[· % z.cells.size]!)).toList:=by simp [vs,Builtin.zeroCells,hzs]
       have hone : ∀ u ∈ vs,u.oneCell' = true:=fun u hu=>by
        rw [hvs] at hu
        simp only [Array.toList_map,Array.toList_range,List.mem_map,List.mem_range] at hu
        obtain ⟨q,hq,rfl⟩:=hu
        have hsz0 : 0 < z.cells.size:=by omega
        have hq' : q % z.cells.size < z.cells.size:=Nat.mod_lt _ hsz0
        have h3:=hcr (q % z.cells.size) (by omega) hq'
        have h4 : i.zero.cells[q % z.cells.size].one = true:=List.all_eq_true.1 hz1 _ (List.getElem_mem _)
        rw [getElem!_pos z.cells _ hq']
        exact h3.one h4
       obtain ⟨w',hst,hle2,hh2⟩:=hh.overwrite (P:=P) hg hm hblk (by rw [hlw]) hcs hcsz hle' (by rw [hw]; exact hwd) (by rw [hw]; exact hall) hvar (xs:=List.replicate len i.zero) (off:=off) (by simpa using hfit) (vs:=vs)
        (by rw [hvs,hw]; simp) (fun k hk=>by rw [hw]; simpa using hzl) (fun k hk j hj=>by
         obtain ⟨y,hy,hr⟩:=f4 k hk j hj
         refine ⟨y,?_,hr⟩
         rw [hvs,hw,Array.getElem?_toList]
         exact hy) hone
       refine ⟨.tuple #[],w',m,?_,.pure (.tup rfl fun i h1=>by simp at h1),hle2,hh2⟩
       rcases Nat.eq_zero_or_pos len with h0 | h0
       ·subst h0
        have hv0 : vs = []:=by rw [hvs]; simp
        rw [hv0] at hst
        have : w' = w:=by
         simp [storeCells] at hst
         exact hst.symm
        subst this
        simp [Builtin.clear_,run_underlying hu]
       ·obtain ⟨n,rfl⟩ : ∃ n,len = n + 1:=⟨len - 1,by omega⟩
        simp [Builtin.clear_,run_underlying hu,zeroValue,typeInfo,hi,hz,vs] at hst ⊢
        rw [hst]; rfl
    ·cases he
   ·cases he
  ·cases he
 ·cases he
theorem evMake_sound (hT : TabOk P T) {h : Hp} (hh : HeapRep bad h w m c) {dst : Tmp} {t : TypeId} {lv kv v : V} {l k : Value} (hl : Rep bad w m c lv l) (hk : Rep bad w m c kv k) {h' : Hp} {c' : Nat} (he : evMake T dst t lv kv h c = some (v,h',c')) :
  ∃ y w' m',(Instr.makeSlice t l k).run P w = .ok y w' ∧ Rep bad w' m' c' v y ∧ Le w m c w' m' c' ∧ HeapRep bad h' w' m' c':=by
 unfold evMake at he
 split at he
 ·rename_i _ _ e _ hTt
  obtain ⟨_,_,_,_,_,hu,_⟩:=hT t _ hTt
  simp only [] at hu
  split at he
  ·rename_i i n q hTe hln hkq
   obtain ⟨info,z,hi,hsz,hby,_,hz,hzv,hzs,_⟩:=hT e i hTe
   obtain ⟨k1,rfl⟩:=asI_spec hln
   obtain ⟨k2,rfl⟩:=asI_spec hkq
   obtain rfl:=rep_p hl
   obtain rfl:=rep_p hk
   split at he
   ·rename_i hcond
    obtain ⟨h0,hnq,hpb,hps,hroom⟩:=hcond
    simp only [Option.some.injEq,Prod.mk.injEq] at he
    obtain ⟨rfl,rfl,rfl⟩:=he
    have hmax:=roomB_max hpb hroom
    have hrb:=hroom
    unfold roomB at hrb
    have hq63 : q ≤ 9223372036854775807:=by unfold maxLen at hmax; omega
    have hmul : (info.bytes : Int) * q ≤ 281474976710656:=by
     have e1 : ((q.toNat * i.bytes : Nat) : Int) = (info.bytes : Int) * q:=by
      rw [hby,Int.natCast_mul,Int.toNat_of_nonneg (by omega),Int.mul_comm]
     omega
    have hrun:=run_make (P:=P) w t e info z hu hi hz k1 k2 n q h0 hnq hmul hq63
    rw [hsz] at hrun
    obtain ⟨hcl,hcr⟩:=ofC_cells_rep (w:=w) (okOf bad w m) z
    rw [← hzv] at hcl hcr
    obtain ⟨f2,f3,f4⟩:=row_zero (w:=w) hcl hzs hcr q.toNat hps
    have hle : n.toNat ≤ q.toNat:=by omega
    have hnew:=hh.new dst (w':=w.alloc (.cells (madeCells z.cells (q.toNat * i.size)) e)) (fun β hβ=>alloc_old w _ β hβ) rfl rfl rfl (β0:=w.heap.size) (Nat.le_refl _) (e:=e) (wd:=i.size) (var:=false)
     (es:=List.replicate n.toNat i.zero) (cs:=madeCells z.cells (q.toNat * i.size)) (by simpa using heap_alloc_new w (.cells (madeCells z.cells (q.toNat * i.size)) e))
     (by rw [size_madeCells]; simpa using Nat.mul_le_mul_right _ hle) (fun a ha=>by
      have:=f3 a (by simp at ha ⊢; omega)
      simpa using this) (fun a ha b hb=>by
      obtain ⟨y,hy,hr⟩:=f4 a (by simp at ha ⊢; omega) b (by simpa using hb)
      exact ⟨y,hy,by simpa [RepC] using hr⟩)
    exact ⟨_,_,_,hrun,rep_slNew hle (by rw [size_madeCells]) hmax,hnew.1,hnew.2⟩
   ·cases he
  ·cases he
 ·cases he
end
end Go.Mx
namespace Go.Mx
set_option linter.unusedVariables false
set_option linter.unusedSimpArgs false
section
variable {P : Program} {T : TypeId → Option TI} {w : World} {m : MM} {c : Nat} {bad : Nat → Prop}
def Gives (bad : Nat → Prop) (P : Program) (w : World) (m : MM) (c : Nat) (s : Sem Next) (v : V) (h' : Hp) (c' : Nat) : Prop :=
 ∃ r w' m',s.run P w = .ok r w' ∧ ((∃ x,r = .value x ∧ Rep bad w' m' c' v x) ∨ (r = .skip ∧ v = .p Go.undef)) ∧ Le w m c w' m' c' ∧ HeapRep bad h' w' m' c'
theorem gives_pure {h : Hp} (hh : HeapRep bad h w m c) {s : Sem Next} {v : V} {x : Value} (hr : s.run P w = .ok (.value x) w) (hv : Rep bad w m c v x) : Gives bad P w m c s v h c :=
 ⟨_,w,m,hr,.inl ⟨x,rfl,hv⟩,Le.refl _ _ _,hh⟩
theorem optI_of {t : List V} {a : Act} (ht : RepT bad w m c t a.tmps) (x : Option Operand) : OptI bad w m c (x.map (evalO t)) (x.map a.eval):=by
 cases x with
 | none=>trivial
 | some x=>exact ht.eval x
theorem repPs_of {t : List V} {a : Act} (ht : RepT bad w m c t a.tmps) : ∀ (ps : List (Nat × Operand)),RepPs bad w m c (ps.map fun x=>(x.1,evalO t x.2)) (ps.map fun x=>(x.1,a.eval x.2))
 | []=>trivial
 | x :: r=>⟨rfl,ht.eval x.2,repPs_of ht r⟩
theorem repL_of {t : List V} {a : Act} (ht : RepT bad w m c t a.tmps) (xs : List Operand) : (xs.map (evalO t)).length = (xs.map a.eval).length ∧ ∀ i (h1 : i < (xs.map (evalO t)).length) (h2 : i < (xs.map a.eval).length),Rep bad w m c (xs.map (evalO t))[i] (xs.map a.eval)[i] :=
 ⟨by simp,fun i h1 h2=>by simpa using ht.eval _⟩
theorem toVals_rep {vs : List V} {xs ys : List Value} (h : toVals vs = some xs) (hl : vs.length = ys.length) (hr : ∀ i (h1 : i < vs.length) (h2 : i < ys.length),Rep bad w m c vs[i] ys[i]) : ys = xs:=by
 have:=toVals_spec h
 subst this
 apply List.ext_getElem
 ·simpa using hl.symm
 ·intro i h1 h2
  have:=hr i (by simpa using h2) h1
  simp only [List.getElem_map] at this
  exact rep_p this
theorem evBuiltin_sound {b : Builtin} {argTypes : Array TypeId} {ty : TypeId} {consts : Array Bool} {vs : List V} {ys : List Value} (hl : vs.length = ys.length) (hr : ∀ i (h1 : i < vs.length) (h2 : i < ys.length),Rep bad w m c vs[i] ys[i]) {v : V}
  (he : evBuiltin P b argTypes ty consts vs = some v) : ∃ x,(builtin b argTypes ty consts ys.toArray).run P w = .ok (.value x) w ∧ Rep bad w m c v x:=by
 unfold evBuiltin at he
 split at he
 ·rename_i xs hx
  obtain rfl:=toVals_rep hx hl hr
  obtain ⟨n,hn,hv⟩:=Option.bind_eq_some_iff.1 he
  cases n <;> simp [valueOf] at hv
  subst hv
  exact ⟨_,still_run P _ _ hn w,.pure (.p _)⟩
 ·cases he
theorem repP_p {ok : Nat → Prop} {x y : Value} (h : RepP w ok (.p x) y) : y = x:=by cases h; rfl
theorem evConvert_sound (hT : TabOk P T) {h : Hp} (hh : HeapRep bad h w m c) {src dst : TypeId} {v v' : V} {x : Value} (hr : Rep bad w m c v x) (he : evConvert P T h src dst v = some v') :
  ∃ y,(convert src dst x).run P w = .ok y w ∧ Rep bad w m c v' y:=by
 unfold evConvert at he
 split at he
 ·obtain rfl:=rep_p hr
  simp only [Option.map_eq_some_iff] at he
  obtain ⟨r,hr,rfl⟩:=he
  exact ⟨r,still_run P _ _ hr w,.pure (.p _)⟩
 ·split at he
  ·rename_i _ _ e _ _ _ _ hTs hTd
   obtain ⟨_,_,_,_,_,hu,_⟩:=hT src _ hTs
   obtain ⟨_,_,_,_,_,hud,_⟩:=hT dst _ hTd
   simp only [] at hu hud
   split at he
   ·rename_i _ _ xs hTe hel
    obtain ⟨info,_,hi,hsz,_,hue,_⟩:=hT e _ hTe
    simp only [] at hsz hue
    simp only [Option.map_eq_some_iff] at he
    obtain ⟨l,hl,rfl⟩:=he
    have hbytes : ∀ (xs : List V) (l : List UInt8),bytesOf xs = some l → ∃ ns : List Int,xs = ns.map (fun n=>V.p (.int .u8 n)) ∧ l = ns.map fun n=>UInt8.ofNat n.toNat:=by
     intro xs
     induction xs with
     | nil=>intro l h; simp only [bytesOf,Option.some.injEq] at h; subst h; exact ⟨[],rfl,rfl⟩
     | cons v r ih =>
      intro l h
      unfold bytesOf at h
      split at h
      ·rename_i h0; cases h0
      ·rename_i n r' h0
       cases h0
       simp only [Option.map_eq_some_iff] at h
       obtain ⟨l',h1,rfl⟩:=h
       obtain ⟨ns,rfl,rfl⟩:=ih l' h1
       exact ⟨n :: ns,rfl,rfl⟩
      ·cases h
    obtain ⟨ns,rfl,rfl⟩:=hbytes xs l hl
    rcases elems_sound hh hr hel with ⟨h0,rfl⟩ | ⟨h0,a,cap,rfl⟩ | ⟨β,o,k,cap,val,rfl,hw,hc,hr'⟩
    ·have : ns = []:=by simpa using h0
     subst this
     exact ⟨.string .empty,by simp [convert,run_underlying hu,run_underlying hud,run_underlying hue,Conv.bytesToString],.pure (.p _)⟩
    ·have : ns = []:=by simpa using h0
     subst this
     have hload : (loadCells a 0).run P w = .ok #[] w:=by
      have:=run_loadCells_list (P:=P) w a ([] : List Value) (fun j u hu=>by simp at hu)
      simpa using this
     refine ⟨_,?_,.pure (.p _)⟩
     rw [run_convert_bytes_string w src dst e _ _ _ hu hue hud,run_bytesToString w _ _ _ [] (by simpa using hload)]
     rfl
    ·have hfold : ∀ (ns : List Int) (s : ByteArray),ns.foldl (fun r n=>r.push (UInt8.ofNat n.toNat)) s = ⟨s.data ++ (ns.map fun n=>UInt8.ofNat n.toNat).toArray⟩:=by
      intro ns
      induction ns with
      | nil=>intro s; simp
      | cons n r ih=>intro s; rw [List.foldl_cons,ih]; simp [ByteArray.push]
     have hload : (loadCells ⟨β,o,none⟩ (ns.map fun n=>V.p (.int .u8 n)).length).run P w = .ok (ns.map (Value.int .u8)).toArray w:=by
      have:=run_loadCells_list (P:=P) w ⟨β,o,none⟩ (ns.map (Value.int .u8)) fun j u hu=>by
       obtain ⟨hj,rfl⟩:=List.getElem?_eq_some_iff.1 hu
       have hj' : j < ns.length:=by simpa using hj
       have hk : k = 1:=by rw [← hw 0 (by simp; omega)]; simp [V.cells]
       subst hk
       have h3:=hr' j (by simpa using hj') 0 (by simp [V.cells])
       have h4:=hc j 0 (by simpa using hj') (by omega)
       simp only [List.getElem_map,V.cells,List.getElem_cons_zero] at h3
       have h5 : val j 0 = .int .u8 ns[j]:=repP_p h3
       rw [Addr.add_lit]
       rw [h5] at h4
       simpa using h4
      simpa using this
     refine ⟨_,?_,.pure (.p _)⟩
     rw [run_convert_bytes_string w src dst e _ _ _ hu hue hud,run_bytesToString w _ _ _ ns hload,hfold]
     have e0 : ByteArray.empty.data = #[]:=rfl
     rw [e0,Array.empty_append]
   ·cases he
  ·cases he
theorem evOper_sound (hT : TabOk P T) {h : Hp} (hh : HeapRep bad h w m c) {t : List V} {a : Act} (ht : RepT bad w m c t a.tmps) {draw : Bool} {o : Oper} {v : V} {h' : Hp} {c' : Nat} (he : evOper P T draw t o h c = some (v,h',c')) :
  Gives bad P w m c (execOp a.eval o) v h' c':=by
 obtain ⟨dst,op,ty,pos,after,guard⟩:=o
 cases op <;> simp only [evOper,evOperF] at he <;> try (cases he; done)
 case move x=>cases he; exact gives_pure hh rfl (ht.eval x)
 case assign x=>cases he; exact gives_pure hh rfl (ht.eval x)
 case pick k x y =>
  have hk:=ht.eval k
  split at he
  ·rename_i hv
   cases he
   rw [hv] at hk
   exact gives_pure hh (by simp [execOp,rep_p hk,asBool]) (ht.eval x)
  ·rename_i hv
   cases he
   rw [hv] at hk
   exact gives_pure hh (by simp [execOp,rep_p hk,asBool]) (ht.eval y)
  ·cases he
 case alloc e =>
  split at he
  ·rename_i d i hTe
   cases he
   obtain ⟨y,w',m',h1,h2,h3,h4⟩:=evAlloc_sound hT hh hTe d
   exact ⟨_,w',m',by simp [execOp,h1],.inl ⟨y,rfl,h2⟩,h3,h4⟩
  ·cases he
 case box e x =>
  split at he
  ·rename_i d
   split at he
   ·rename_i hone
    cases he
    obtain ⟨y,w',m',h1,h2,h3,h4⟩:=evBox_sound (P:=P) hh (e:=e) (ht.eval x) hone d
    exact ⟨_,w',m',by simp [execOp,h1],.inl ⟨y,rfl,h2⟩,h3,h4⟩
   ·cases he
  ·cases he
 case build t' ps =>
  simp only [Option.map_eq_some_iff,Prod.mk.injEq] at he
  obtain ⟨v',he,rfl,rfl,rfl⟩:=he
  obtain ⟨y,h1,h2⟩:=evBuild_sound hT (qs:=ps.map fun (i,x)=>(i,a.eval x)) (by simpa using repPs_of ht ps.toList) he
  exact gives_pure hh (by simp only [execOp,Sem.run_bind,h1,Result.andThen_ok]; rfl) h2
 case buildSlice t' len ps =>
  split at he
  ·rename_i d
   obtain ⟨y,w',m',h1,h2,h3,h4⟩:=evBuildSlice_sound hT hh (qs:=ps.map fun (i,x)=>(i,a.eval x)) (by simpa using repPs_of ht ps.toList) he
   exact ⟨_,w',m',by simp only [execOp,Sem.run_bind,h1,Result.andThen_ok]; rfl,.inl ⟨y,rfl,h2⟩,h3,h4⟩
  ·cases he
 case load t' x =>
  simp only [Option.map_eq_some_iff,Prod.mk.injEq] at he
  obtain ⟨v',he,rfl,rfl,rfl⟩:=he
  obtain ⟨y,h1,h2⟩:=evLoad_sound hT hh (ht.eval x) he
  exact gives_pure hh (by simp [execOp,h1]) h2
 case store t' x y =>
  simp only [Option.map_eq_some_iff,Prod.mk.injEq] at he
  obtain ⟨h1',he,rfl,rfl,rfl⟩:=he
  obtain ⟨w',m',h1,h2,h3⟩:=evStore_sound hT hh (ht.eval x) (ht.eval y) he
  exact ⟨_,w',m',by simp [execOp,h1],.inr ⟨rfl,rfl⟩,h2,h3⟩
 case nilCheck x =>
  have hx:=ht.eval x
  split at he
  ·rename_i v0 off hv
   cases he
   rw [hv] at hx
   have hx' : ∃ ad,a.eval x = .pointer (some ad):=by
    generalize a.eval x = y at hx
    cases hx with
    | pure h=>cases h with
     | ref hβ ho hc hr=>exact ⟨_,rfl⟩
   obtain ⟨ad,e⟩:=hx'
   exact gives_pure hh (x:=a.eval x) (by simp only [execOp]; rw [e]; rfl) hx
  ·rename_i b s i off hv
   split at he
   ·rename_i hl
    cases he
    rw [hv] at hx
    obtain ⟨_,l,β,_,_,_,e⟩:=rep_box hh hl hx
    exact gives_pure hh (x:=a.eval x) (by simp only [execOp]; rw [e]; rfl) hx
   ·cases he
  ·cases he
 case binOp op xt x y yt =>
  simp only [Option.map_eq_some_iff,Prod.mk.injEq] at he
  obtain ⟨v',he,rfl,rfl,rfl⟩:=he
  obtain ⟨r,h1,h2⟩:=evBin_sound hT hh (ht.eval x) (ht.eval y) he
  exact gives_pure hh (by simp only [execOp,Sem.run_bind] at h1 ⊢; rw [h1]; rfl) h2
 case unOp op xt x =>
  simp only [Option.map_eq_some_iff,Prod.mk.injEq] at he
  obtain ⟨v',he,rfl,rfl,rfl⟩:=he
  have hx:=ht.eval x
  unfold evUn at he
  split at he
  ·rename_i y hv
   rw [hv] at hx
   simp only [Option.map_eq_some_iff] at he
   obtain ⟨r,hr,rfl⟩:=he
   exact gives_pure hh (by simp [execOp,rep_p hx,still_run P _ _ hr w]) (.pure (.p _))
  ·cases he
 case convert src d x =>
  simp only [Option.map_eq_some_iff,Prod.mk.injEq] at he
  obtain ⟨v',he,rfl,rfl,rfl⟩:=he
  obtain ⟨y,h1,h2⟩:=evConvert_sound hT hh (ht.eval x) he
  exact gives_pure hh (by simp [execOp,h1]) h2
 case makeFunc fn first cap =>
  cases fn <;> simp only [] at he <;> try (cases he; done)
  rename_i f
  cases he
  refine gives_pure hh (x:=.func (.func f) (first.map a.eval) (cap.map a.eval)) rfl (.fn (by simp) (by simp) (fun i h1 h2=>?_) fun i h1 h2=>?_)
  ·simpa using ht.eval _
  ·simpa using ht.eval _
 case makeSlice t' l k =>
  split at he
  ·rename_i d
   obtain ⟨y,w',m',h1,h2,h3,h4⟩:=evMake_sound hT hh (ht.eval l) (ht.eval k) he
   exact ⟨_,w',m',by simp [execOp,h1],.inl ⟨y,rfl,h2⟩,h3,h4⟩
  ·cases he
 case slice t' x lo hi mx =>
  split at he
  ·cases he
  ·rename_i hmh
   simp only [Option.map_eq_some_iff,Prod.mk.injEq] at he
   obtain ⟨v',he,rfl,rfl,rfl⟩:=he
   obtain ⟨y,h1,h2⟩:=evSlice_sound hT hh (ht.eval x) (optI_of ht lo) (optI_of ht hi) (optI_of ht mx) (by cases mx <;> cases hi <;> simp_all) he
   exact gives_pure hh (by simp [execOp,h1]) h2
 case fieldAddr s x f =>
  simp only [Option.map_eq_some_iff,Prod.mk.injEq] at he
  obtain ⟨v',he,rfl,rfl,rfl⟩:=he
  obtain ⟨y,h1,h2⟩:=evFieldAddr_sound hT hh (ht.eval x) he
  exact gives_pure hh (by simp [execOp,h1]) h2
 case field s x f =>
  simp only [Option.map_eq_some_iff,Prod.mk.injEq] at he
  obtain ⟨v',he,rfl,rfl,rfl⟩:=he
  obtain ⟨y,h1,h2⟩:=evField_sound hT (ht.eval x) he
  exact gives_pure hh (by simp [execOp,h1]) h2
 case indexAddr t' x ix =>
  simp only [Option.map_eq_some_iff,Prod.mk.injEq] at he
  obtain ⟨v',he,rfl,rfl,rfl⟩:=he
  obtain ⟨y,h1,h2⟩:=evIndexAddr_sound hT hh (ht.eval x) (ht.eval ix) he
  exact gives_pure hh (by simp [execOp,h1]) h2
 case index t' x ix =>
  simp only [Option.map_eq_some_iff,Prod.mk.injEq] at he
  obtain ⟨v',he,rfl,rfl,rfl⟩:=he
  obtain ⟨y,h1,h2⟩:=evIndex_sound hT (ht.eval x) (ht.eval ix) he
  exact gives_pure hh (by simp [execOp,h1]) h2
 case extract x i =>
  have hx:=ht.eval x
  split at he
  ·rename_i vs hv
   rw [hv] at hx
   simp only [Option.map_eq_some_iff,Prod.mk.injEq] at he
   obtain ⟨v',he,rfl,rfl,rfl⟩:=he
   obtain ⟨cs,hx',hl,hr⟩:=rep_tup hx
   obtain ⟨hlt,hv'⟩:=List.getElem?_eq_some_iff.1 he
   have hlt' : i < cs.size:=by omega
   exact gives_pure hh (x:=cs[i]) (by simp [execOp,hx',Instr.extract,hlt']) (by rw [← hv']; exact hr i hlt hlt')
  ·cases he
 case call cl =>
  obtain ⟨callee,args,argTypes⟩:=cl
  cases callee with
  | value f=>simp only [] at he; cases he
  | invoke r mm=>simp only [] at he; cases he
  | builtin b =>
   have hbi : ∀ v' ,evBuiltin P b argTypes ty (args.map fun | .const _=>true | _=>false) (args.toList.map (evalO t)) = some v' → v = v' → h' = h → c' = c →
     Gives bad P w m c (execOp a.eval ⟨dst,.call ⟨.builtin b,args,argTypes⟩,ty,pos,after,guard⟩) v h' c':=by
    rintro v' hv rfl rfl rfl
    obtain ⟨hl,hr⟩:=repL_of ht args.toList
    obtain ⟨x,h1,h2⟩:=evBuiltin_sound (P:=P) hl hr hv
    refine gives_pure hh ?_ h2
    have e0 : (args.toList.map a.eval).toArray = args.map a.eval:=by apply Array.ext'; simp
    rw [e0] at h1
    simp only [execOp,resolve,Sem.run_bind,Sem.run_pure,Result.andThen_ok,invoke]
    exact h1
   cases b <;> simp only [] at he <;> try (cases he; done)
   case append =>
    split at he
    ·rename_i d s x t1 t2 ha hat
     split at he
     ·rename_i htt
      subst htt
      obtain ⟨y,w',m',h1,h2,h3,h4⟩:=evAppend_sound (ty:=ty) hT hh (ht.eval s) (ht.eval x) he
      have e1 : args = #[s,x]:=by apply Array.ext'; simpa using ha
      have e2 : argTypes = #[t1,t1]:=by apply Array.ext'; simpa using hat
      subst e1 e2
      exact ⟨_,w',m',by simp [execOp,resolve,invoke,builtin,h1],.inl ⟨y,rfl,h2⟩,h3,h4⟩
     ·cases he
    ·cases he
   case len =>
    split at he
    ·rename_i x t1 ha hat
     simp only [Option.map_eq_some_iff,Prod.mk.injEq] at he
     obtain ⟨v',he,rfl,rfl,rfl⟩:=he
     obtain ⟨y,h1,h2⟩:=evLen_sound (ty:=ty) hT hh (ht.eval x) he
     have e1 : args = #[x]:=by apply Array.ext'; simpa using ha
     have e2 : argTypes = #[t1]:=by apply Array.ext'; simpa using hat
     subst e1 e2
     exact gives_pure hh (by simp [execOp,resolve,invoke,builtin,h1]) h2
    ·cases he
   case copy =>
    split at he
    ·rename_i d x t1 t2 ha hat
     obtain ⟨y,w',m',h1,h2,h3,h4⟩:=evCopy_sound (ty:=ty) (t2:=t2) hT hh (ht.eval d) (ht.eval x) he
     have e1 : args = #[d,x]:=by apply Array.ext'; simpa using ha
     have e2 : argTypes = #[t1,t2]:=by apply Array.ext'; simpa using hat
     subst e1 e2
     exact ⟨_,w',m',by simp [execOp,resolve,invoke,builtin,h1],.inl ⟨y,rfl,h2⟩,h3,h4⟩
    ·cases he
   case clear =>
    split at he
    ·rename_i x t1 ha hat
     obtain ⟨y,w',m',h1,h2,h3,h4⟩:=evClear_sound (ty:=ty) hT hh (ht.eval x) he
     have e1 : args = #[x]:=by apply Array.ext'; simpa using ha
     have e2 : argTypes = #[t1]:=by apply Array.ext'; simpa using hat
     subst e1 e2
     exact ⟨_,w',m',by simp [execOp,resolve,invoke,builtin,h1],.inl ⟨y,rfl,h2⟩,h3,h4⟩
    ·cases he
   all_goals
    simp only [Option.map_eq_some_iff,Prod.mk.injEq] at he
    obtain ⟨v',he,h1,h2,h3⟩:=he
    exact hbi v' he h1.symm h2.symm h3.symm
end
end Go.Mx
namespace Go.Mx
set_option linter.unusedVariables false
set_option linter.unusedSimpArgs false
structure St where
 t : List V
 h : Hp
 c : Nat
structure SR (bad : Nat → Prop) (st : St) (a : Act) (w : World) (m : MM) : Prop where
 t : RepT bad w m st.c st.t a.tmps
 h : HeapRep bad st.h w m st.c
 d : a.defers = []
def putT (t : List V) (d : Option Tmp) (v : V) : List V :=
 match d with
 | some k=>t.set k v
 | none=>t
theorem SR.put {bad : Nat → Prop} {st : St} {a : Act} {w w' : World} {m m' : MM} (hs : SR bad st a w m) {h' : Hp} {c' : Nat} (hle : Le w m st.c w' m' c') (hh : HeapRep bad h' w' m' c') {v : V} {x : Value} (hv : Rep bad w' m' c' v x) (d : Option Tmp) :
  SR bad ⟨putT st.t d v,h',c'⟩ (a.put d x) w' m':=by
 refine ⟨?_,hh,?_⟩
 ·have:=(hs.t.mono hle).put (a:=a) hv d
  cases d <;> exact this
 ·have:=hs.d
  cases d <;> simpa [Act.put] using this
def evGuard (t : List V) (ops : Array Oper) (o : Oper) : Option Bool :=
 match o.guard with
 | none=>some true
 | some (j,want)=>match (ops[j]?).bind (·.dst) with
  | none=>some false
  | some d=>match t[d]? with
   | some (.p (.bool b))=>some (b == want)
   | some (.p _)=>some false
   | _=>none
section
variable {P : Program} {T : TypeId → Option TI} {bad : Nat → Prop}
theorem evGuard_sound {w : World} {m : MM} {c : Nat} {t : List V} {tmps : Array Value} (ht : RepT bad w m c t tmps) {ops : Array Oper} {o : Oper} {b : Bool} (he : evGuard t ops o = some b) : Region.wanted o (yielded ops tmps) = b:=by
 unfold evGuard at he
 unfold Region.wanted
 split at he
 ·rename_i hg
  cases he
  simp [hg]
 ·rename_i j want hg
  simp only [hg,yielded]
  split at he
  ·rename_i hd
   cases he
   simp [hd]
  ·rename_i d hd
   simp only [hd,Option.bind_some]
   have key : ∀ x,t[d]? = some (.p x) → tmps[d]? = some x:=fun x hx=>by
    obtain ⟨hlt,hv⟩:=List.getElem?_eq_some_iff.1 hx
    have hlt' : d < tmps.size:=by rw [← ht.1]; exact hlt
    have:=ht.2 d
    rw [List.getD_eq_getElem?_getD,hx,Array.getD_eq_getD_getElem?,Array.getElem?_eq_getElem hlt'] at this
    simp only [Option.getD_some] at this
    rw [Array.getElem?_eq_getElem hlt',rep_p this]
   split at he
   ·rename_i b' hx
    cases he
    rw [key _ hx]
    cases b' <;> cases want <;> rfl
   ·rename_i x hne hx
    cases he
    rw [key _ hx]
    cases x <;> first | rfl | exact absurd rfl (hne _)
   ·cases he
def CallsA (P : Program) (bad : Nat → Prop) (h : Hp) (c : Nat) (g : FuncId) (vs : List V) (r : V) (h' : Hp) (c' : Nat) : Prop :=
 ∀ w m (xs : Array Value),HeapRep bad h w m c → vs.length = xs.size → (∀ i (h1 : i < vs.length) (h2 : i < xs.size),Rep bad w m c vs[i] xs[i]) →
  Calls P g xs w fun e w'=>∃ x m',e = .returned x ∧ Rep bad w' m' c' r x ∧ Le w m c w' m' c' ∧ HeapRep bad h' w' m' c'
def Enters (P : Program) (g : FuncId) : Prop:=∃ fn,P.funcs[g]? = some fn ∧ fn.body.isSome = true ∧ (fn.name == "runtime.NumGoroutine") = false
def evTarget (t : List V) (cl : Call) : Option (FuncId × List V) :=
 match cl.callee with
 | .value f=>match evalO t f with
  | .fn g first cap=>some (g,first ++ cl.args.toList.map (evalO t) ++ cap)
  | _=>none
 | _=>none
theorem callFunc_run {g : FuncId} (he : Enters P g) (args : Array Value) (w : World) : (callFunc g args).run P w = .ok (.enter g args) w:=by
 obtain ⟨fn,h1,h2,h3⟩:=he
 have h4 : fn.body.isNone = false:=by cases hb : fn.body <;> simp_all
 have h5 : fn.name ≠ "runtime.NumGoroutine":=by simpa using h3
 have h6 : fn.body ≠ none:=by cases hb : fn.body <;> simp_all
 simp [callFunc,h1,h5,h6]
theorem call_run {w : World} {m : MM} {c : Nat} {t : List V} {a : Act} (ht : RepT bad w m c t a.tmps) {cl : Call} {g : FuncId} {vs : List V} (htg : evTarget t cl = some (g,vs)) (he : Enters P g) (o : Oper) (ho : o.op = .call cl) :
  ∃ xs : Array Value,(execOp a.eval o).run P w = .ok (.enter g xs) w ∧ vs.length = xs.size ∧ ∀ i (h1 : i < vs.length) (h2 : i < xs.size),Rep bad w m c vs[i] xs[i]:=by
 obtain ⟨dst,op,ty,pos,after,guard⟩:=o
 simp only at ho
 subst ho
 obtain ⟨callee,args,argTypes⟩:=cl
 unfold evTarget at htg
 split at htg
 ·rename_i f hc
  simp only at hc
  subst hc
  split at htg
  ·rename_i g' first cap hv
   simp only [Option.some.injEq,Prod.mk.injEq] at htg
   obtain ⟨rfl,rfl⟩:=htg
   have hf:=ht.eval f
   rw [hv] at hf
   obtain ⟨cs,ds,hfv,hl,hlb,hra,hrb⟩ : ∃ cs ds,a.eval f = .func (.func g') cs ds ∧ first.length = cs.size ∧ cap.length = ds.size ∧ (∀ i (h1 : i < first.length) (h2 : i < cs.size),Rep bad w m c first[i] cs[i]) ∧
     ∀ i (h1 : i < cap.length) (h2 : i < ds.size),Rep bad w m c cap[i] ds[i]:=by
    generalize a.eval f = x at hf
    cases hf with
    | pure h=>cases h with
     | fn a b p q=>exact ⟨_,_,rfl,a,b,fun i h1 h2=>.pure (p i h1 h2),fun i h1 h2=>.pure (q i h1 h2)⟩
    | fn a b p q=>exact ⟨_,_,rfl,a,b,p,q⟩
   refine ⟨cs ++ args.map a.eval ++ ds,?_,by simp [hl,hlb],fun i h1 h2=>?_⟩
   ·simp only [execOp,resolve,Sem.run_bind,Deferred.ofValue,hfv,Sem.run_pure,Result.andThen_ok,invoke]
    exact callFunc_run he _ w
   ·simp only [List.length_append,List.length_map,Array.length_toList] at h1
    by_cases h3 : i < first.length
    ·have e1 : (first ++ args.toList.map (evalO t) ++ cap)[i]'(by simp; omega) = first[i]:=by
      rw [List.getElem_append_left (by simp; omega),List.getElem_append_left h3]
     have e2 : (cs ++ args.map a.eval ++ ds)[i]'h2 = cs[i]'(by omega):=by
      rw [Array.getElem_append_left (by simp; omega),Array.getElem_append_left (by omega)]
     rw [e1,e2]; exact hra i h3 (by omega)
    ·by_cases h4 : i < first.length + args.size
     ·have e1 : (first ++ args.toList.map (evalO t) ++ cap)[i]'(by simp; omega) = evalO t (args[i - first.length]'(by omega)):=by
       rw [List.getElem_append_left (by simp; omega),List.getElem_append_right (by omega)]; simp
      have e2 : (cs ++ args.map a.eval ++ ds)[i]'h2 = a.eval (args[i - first.length]'(by omega)):=by
       rw [Array.getElem_append_left (by simp; omega),Array.getElem_append_right (by omega)]
       simp [hl]
      rw [e1,e2]; exact ht.eval _
     ·have e1 : (first ++ args.toList.map (evalO t) ++ cap)[i]'(by simp; omega) = cap[i - (first.length + args.size)]'(by omega):=by
       rw [List.getElem_append_right (by simp; omega)]; congr 1; simp
      have e2 : (cs ++ args.map a.eval ++ ds)[i]'h2 = ds[i - (first.length + args.size)]'(by omega):=by
       rw [Array.getElem_append_right (by simp; omega)]; congr 1; simp [hl]
      rw [e1,e2]; exact hrb _ _ _
  ·cases htg
 ·cases htg
def Lift (bad : Nat → Prop) (Q : Exit → St → Prop) (w : World) (m : MM) (c : Nat) : Exit → Act → World → Prop :=
 fun e a' w'=>∃ st' m',Q e st' ∧ SR bad st' a' w' m' ∧ Le w m c w' m' st'.c
def WC (P : Program) (bad : Nat → Prop) (code : Code) (st : St) (Q : Exit → St → Prop) : Prop :=
 ∀ a w m,SR bad st a w m → code.wp P (Lift bad Q w m st.c) a w
theorem Lift.trans {Q : Exit → St → Prop} {w w1 : World} {m m1 : MM} {c c1 : Nat} (h : Le w m c w1 m1 c1) {e : Exit} {a' : Act} {w' : World} (hq : Lift bad Q w1 m1 c1 e a' w') : Lift bad Q w m c e a' w' :=
 let ⟨st',m',h1,h2,h3⟩:=hq; ⟨st',m',h1,h2,h.trans h3⟩
def evResult (T : TypeId → Option TI) (st : St) : ResultVar → Option V
 | .tmp k=>some (st.t.getD k .undef)
 | .cell a t=>evLoad T st.h t (st.t.getD a .undef)
def evResults (T : TypeId → Option TI) (st : St) (rs : List ResultVar) : Option V :=
 match rs with
 | [r]=>evResult T st r
 | rs=>(rs.mapM (evResult T st)).map .tup
end
end Go.Mx
namespace Go.Mx
set_option linter.unusedVariables false
set_option linter.unusedSimpArgs false
def resSem (tmps : Array Value) : ResultVar → Sem Value
 | .tmp t=>pure (tmps.getD t Go.undef)
 | .cell k t=>do loadVar t (← asAddr (tmps.getD k Go.undef))
theorem results_eq (fn : Func) (tmps : Array Value) : results fn tmps = (fn.results.mapM (resSem tmps) >>= fun vs=>pure (if h : vs.size = 1 then vs[0] else .tuple vs)):=by
 unfold results
 congr 1
section
variable {P : Program} {T : TypeId → Option TI} {bad : Nat → Prop}
theorem evResult_sound (hT : TabOk P T) {st : St} {a : Act} {w : World} {m : MM} (hs : SR bad st a w m) {r : ResultVar} {v : V} (he : evResult T st r = some v) : ∃ x,(resSem a.tmps r).run P w = .ok x w ∧ Rep bad w m st.c v x:=by
 cases r with
 | tmp k =>
  simp only [evResult,Option.some.injEq] at he
  subst he
  exact ⟨_,rfl,hs.t.2 k⟩
 | cell k t =>
  simp only [evResult] at he
  obtain ⟨y,h1,h2⟩:=evLoad_sound hT hs.h (hs.t.2 k) he
  refine ⟨y,?_,h2⟩
  simp only [Instr.loadAt,resSem,Sem.run_bind] at h1 ⊢
  generalize a.tmps.getD k Go.undef = z at h1 ⊢
  cases z <;> simp [Instr.sureAddr] at h1
  rename_i o
  cases o <;> simp [Instr.sureAddr] at h1
  simpa [asAddr] using h1
theorem evResults_sound (hT : TabOk P T) {st : St} {a : Act} {w : World} {m : MM} (hs : SR bad st a w m) {fn : Func} {v : V} (he : evResults T st fn.results.toList = some v) :
  ∃ x,(results fn a.tmps).run P w = .ok x w ∧ Rep bad w m st.c v x:=by
 have hmap : ∀ (rs : List ResultVar) (vs : List V),rs.mapM (evResult T st) = some vs → ∃ xs : List Value,(rs.mapM (resSem a.tmps)).run P w = .ok xs w ∧ vs.length = xs.length ∧ rs.length = xs.length ∧
   ∀ i (h1 : i < vs.length) (h2 : i < xs.length),Rep bad w m st.c vs[i] xs[i]:=by
  intro rs
  induction rs with
  | nil=>intro vs h; simp only [List.mapM_nil] at h; cases h; exact ⟨[],rfl,rfl,rfl,fun i h1=>by simp at h1⟩
  | cons r rs ih =>
   intro vs h
   simp only [List.mapM_cons,Option.bind_eq_bind,Option.bind_eq_some_iff,Option.pure_def,Option.some.injEq] at h
   obtain ⟨v1,hv1,vs1,hvs1,rfl⟩:=h
   obtain ⟨x,h1,h2⟩:=evResult_sound hT hs hv1
   obtain ⟨xs,h3,h4,h5,h6⟩:=ih vs1 hvs1
   refine ⟨x :: xs,by rw [List.mapM_cons,Sem.run_bind,h1,Result.andThen_ok,Sem.run_bind,h3]; rfl,by simp [h4],by simp [h5],fun i a1 a2=>?_⟩
   cases i with
   | zero=>exact h2
   | succ i=>simpa using h6 i (by simpa using a1) (by simpa using a2)
 rw [results_eq,Array.mapM_eq_mapM_toList]
 unfold evResults at he
 split at he
 ·rename_i r hr
  obtain ⟨x,h1,h2⟩:=evResult_sound hT hs he
  exact ⟨x,by rw [hr]; simp [List.mapM_cons,h1],h2⟩
 ·rename_i hne
  simp only [Option.map_eq_some_iff] at he
  obtain ⟨vs,hvs,rfl⟩:=he
  obtain ⟨xs,h1,h2,h3,h4⟩:=hmap _ _ hvs
  have hlen : xs.length ≠ 1:=by
   intro h5
   have : fn.results.toList.length = 1:=by omega
   obtain ⟨r,hr⟩:=List.length_eq_one_iff.1 this
   exact hne r hr
  exact ⟨.tuple xs.toArray,by simp [h1,hlen],.tup (by simpa using h2) fun i a1 a2=>by simpa using h4 i a1 (by simpa using a2)⟩
def noM : MM:=fun _=>none
def PT (P : Program) (g : FuncId) (vs : List V) (r : V) : Prop :=
 ∀ (bad : Nat → Prop) (w : World) (xs : Array Value),(∀ β,bad β → β < w.heap.size) → vs.length = xs.size → (∀ i (h1 : i < vs.length) (h2 : i < xs.size),RepP w (okOf bad w noM) vs[i] xs[i]) →
  Calls P g xs w fun e w'=>∃ x,e = .returned x ∧ RepP w' (okOf bad w' noM) r x ∧ Le w noM 0 w' noM 0
def start (fn : Func) (vs : List V) (h : Hp) (c : Nat) : St:=⟨vs ++ List.replicate (fn.ntmps - vs.length) (.p Go.undef),h,c⟩
theorem start_rep {w : World} {m : MM} {c : Nat} {vs : List V} {xs : Array Value} (hl : vs.length = xs.size) (hr : ∀ i (h1 : i < vs.length) (h2 : i < xs.size),Rep bad w m c vs[i] xs[i]) (n : Nat) :
  RepT bad w m c (vs ++ List.replicate (n - vs.length) (.p Go.undef)) (xs ++ Array.replicate (n - xs.size) Go.undef):=by
 refine ⟨by simp [hl],fun i=>?_⟩
 rw [List.getD_eq_getElem?_getD,Array.getD_eq_getD_getElem?]
 by_cases h1 : i < vs.length
 ·have h2 : i < xs.size:=by omega
  rw [List.getElem?_append_left h1,Array.getElem?_append_left h2,List.getElem?_eq_getElem h1,Array.getElem?_eq_getElem h2]
  exact hr i h1 h2
 ·rw [List.getElem?_append_right (by omega),Array.getElem?_append_right (by omega),List.getElem?_replicate,Array.getElem?_replicate,hl]
  split
  ·exact .pure (.p _)
  ·exact .pure (.undef _)
theorem heap_nil {w : World} (hb : ∀ β,bad β → β < w.heap.size) : HeapRep bad [] w noM 0 :=
 ⟨fun b B h=>by simp [Hp.get] at h,fun _ _=>rfl,hb,fun b l β h=>by simp [noM] at h,fun b b' l l' β h=>by simp [noM] at h⟩
end
end Go.Mx
