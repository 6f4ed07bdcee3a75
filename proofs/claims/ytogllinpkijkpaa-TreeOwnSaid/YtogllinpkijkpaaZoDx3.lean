/-
  What a state may be read zs: less, under other names, let go.
-/
import Derived.Test.YtogllinpkijkpaaZoMx16
namespace Go.Mx
set_option linter.unusedVariables false
set_option linter.unusedSimpArgs false
section
universe u
variable {α : Type u}
end
def goneOf (h h' : Hp) : List Nat:=(h.map (·.1)).filter fun b=>(h'.get b).isNone
def SubH (h' h : Hp) : Prop:=∀ b,h'.get b = h.get b ∨ h'.get b = none
theorem SubH.refl (h : Hp) : SubH h h:=fun b=>.inl rfl
theorem SubH.trans {a b c : Hp} (h1 : SubH a b) (h2 : SubH b c) : SubH a c:=fun k=>by
 rcases h1 k with e | e
 ·rcases h2 k with f | f
  ·exact .inl (e.trans f)
  ·exact .inr (e.trans f)
 ·exact .inr e
theorem SubH_erase (h : Hp) (b : Nat) : SubH (h.erase b) h:=fun k=>by
 rw [Hp.get_erase]; split
 ·exact .inr rfl
 ·exact .inl rfl
theorem SubH_mapH {f : Hp → V → Option (V × Hp)} (hf : ∀ h v v' h',f h v = some (v',h') → SubH h' h) : ∀ (l : List V) (h : Hp) (l' : List V) (h' : Hp),mapH f h l = some (l',h') → SubH h' h:=by
 intro l
 induction l with
 | nil=>intro h l' h' he; simp only [mapH,Option.some.injEq,Prod.mk.injEq] at he; rw [he.2]; exact SubH.refl _
 | cons v r ih =>
  intro h l' h' he
  simp only [mapH] at he
  split at he
  ·rename_i v1 h1 hv
   split at he
   ·rename_i r1 h2 hr
    simp only [Option.some.injEq,Prod.mk.injEq] at he
    rw [← he.2]
    exact (ih _ _ _ hr).trans (hf _ _ _ _ hv)
   ·cases he
  ·cases he
theorem SubH_frz : ∀ (n : Nat) (h : Hp) (v v' : V) (h' : Hp),frz n h v = some (v',h') → SubH h' h:=by
 intro n
 induction n with
 | zero=>intro h v v' h' he; cases he
 | succ n ih =>
  intro h v v' h' he
  unfold frz at he
  split at he
  ·split at he
   ·split at he
    ·split at he
     ·cases he
     ·split at he
      ·simp only [Option.some.injEq,Prod.mk.injEq] at he; rw [← he.2]; exact SubH_erase _ _
      ·cases he
    ·split at he
     ·simp only [Option.map_eq_some_iff,Prod.mk.injEq] at he
      obtain ⟨⟨a,b⟩,h1,_,rfl⟩:=he
      exact (SubH_mapH (fun h v v' h'=>ih h v v' h') _ _ _ _ h1).trans (SubH_erase _ _)
     ·cases he
   ·cases he
  ·simp only [Option.map_eq_some_iff,Prod.mk.injEq] at he
   obtain ⟨⟨a,b⟩,h1,_,rfl⟩:=he
   exact SubH_mapH (fun h v v' h'=>ih h v v' h') _ _ _ _ h1
  ·simp only [Option.map_eq_some_iff,Prod.mk.injEq] at he
   obtain ⟨⟨a,b⟩,h1,_,rfl⟩:=he
   exact SubH_mapH (fun h v v' h'=>ih h v v' h') _ _ _ _ h1
  ·split at he
   ·rename_i zs' h1 hz
    simp only [Option.map_eq_some_iff,Prod.mk.injEq] at he
    obtain ⟨⟨a,b⟩,h2,_,rfl⟩:=he
    exact (SubH_mapH (fun h v v' h'=>ih h v v' h') _ _ _ _ h2).trans (SubH_mapH (fun h v v' h'=>ih h v v' h') _ _ _ _ hz)
   ·cases he
  ·cases he
  ·simp only [Option.some.injEq,Prod.mk.injEq] at he; rw [← he.2]; exact SubH.refl _
theorem Hp.get_mem {h : Hp} {b : Nat} {B : Blk} (hb : h.get b = some B) : b ∈ h.map (·.1):=by
 induction h with
 | nil=>simp [Hp.get] at hb
 | cons x r ih =>
  obtain ⟨k,C⟩:=x
  simp only [Hp.get] at hb
  split at hb
  ·rename_i e; subst e; simp
  ·exact List.mem_cons_of_mem _ (ih hb)
theorem goneOf_spec {h h1 h' : Hp} {b : Nat} (hs : SubH h1 h) (he : h'.get b = h1.get b) (hb : b ∉ goneOf h h') : h'.get b = h.get b:=by
 rw [he]
 rcases hs b with e | e
 ·exact e
 ·cases hg : h.get b with
  | none=>rw [e]
  | some B =>
   exfalso
   refine hb (List.mem_filter.2 ⟨Hp.get_mem hg,?_⟩)
   rw [he,e]; rfl
def wrOp (t : List V) (o : Oper) (h h' : Hp) : List Nat:=match o.op with
 | .store _ a _=>topIds (evalO t a) ++ goneOf h h'
 | .call cl=>o.dst.toList ++ cl.args.toList.flatMap fun x=>topIds (evalO t x)
 | _=>o.dst.toList
section
variable {P : Program} {T : TypeId → Option TI}
theorem wrOp_spec {t : List V} {o : Oper} {h : Hp} {c : Nat} {v : V} {h' : Hp} {c' : Nat} (hw : writesOp o.op = true) (he : evOper P T true t o h c = some (v,h',c')) : ∀ b,b ∉ wrOp t o h h' → h'.get b = h.get b:=by
 intro b hb
 obtain ⟨dst,op,ty,pos,after,guard⟩:=o
 simp only at hw
 cases op <;> simp only [writesOp] at hw <;> try (cases hw; done)
 case alloc e =>
  simp only [evOper,evOperF] at he
  simp only [wrOp] at hb
  split at he
  ·rename_i d i _
   simp only [Option.some.injEq,Prod.mk.injEq] at he
   rw [← he.2.1,Hp.get_set,if_neg]
   rintro rfl
   exact hb (by simp)
  ·cases he
 case box e x =>
  simp only [evOper,evOperF] at he
  simp only [wrOp] at hb
  split at he
  ·rename_i d
   split at he
   ·simp only [Option.some.injEq,Prod.mk.injEq] at he
    rw [← he.2.1,Hp.get_set,if_neg]
    rintro rfl
    exact hb (by simp)
   ·cases he
  ·cases he
 case makeSlice t' l k =>
  simp only [evOper,evOperF] at he
  simp only [wrOp] at hb
  split at he
  ·rename_i d
   unfold evMake at he
   split at he
   ·split at he
    ·split at he
     ·simp only [Option.some.injEq,Prod.mk.injEq] at he
      rw [← he.2.1,Hp.get_set,if_neg]
      rintro rfl
      exact hb (by simp)
     ·cases he
    ·cases he
   ·cases he
  ·cases he
 case buildSlice t' len ps =>
  simp only [evOper,evOperF] at he
  simp only [wrOp] at hb
  split at he
  ·rename_i d
   have hdb : d ≠ b:=by rintro rfl; exact hb (by simp)
   unfold evBuildSlice at he
   split at he
   ·split at he
    ·split at he
     ·simp only [if_true] at he
      split at he
      ·split at he
       ·simp only [Option.some.injEq,Prod.mk.injEq] at he; rw [← he.2.1]
       ·cases he
      ·split at he
       ·simp only [Option.some.injEq,Prod.mk.injEq] at he; rw [← he.2.1,Hp.get_set,if_neg hdb]
       ·cases he
     ·cases he
    ·cases he
   ·cases he
  ·cases he
 case store t' x y =>
  simp only [evOper,evOperF,Option.map_eq_some_iff,Prod.mk.injEq] at he
  obtain ⟨h'',he,_,rfl,_⟩:=he
  simp only [wrOp,List.mem_append,not_or] at hb
  unfold evStore at he
  split at he
  ·rename_i i b0 s j off hT hx
   split at he
   ·split at he
    ·rename_i x' h1 hfz
     have hsub : SubH h1 h:=by
      split at hfz
      ·simp only [Option.some.injEq,Prod.mk.injEq] at hfz; rw [← hfz.2]; exact SubH.refl _
      ·rw [Option.map_eq_some_iff] at hfz
       obtain ⟨⟨y1,y2⟩,hfz,he3⟩:=hfz
       simp only [Prod.mk.injEq] at he3
       obtain ⟨_,rfl⟩:=he3
       exact SubH_frz _ _ _ _ _ hfz
     split at he
     ·split at he
      ·split at he
       ·simp only [Option.some.injEq] at he
        subst he
        refine goneOf_spec hsub ?_ hb.2
        rw [Hp.get_set,if_neg]
        rintro rfl
        exact hb.1 (by rw [hx]; simp [topIds])
       ·cases he
      ·cases he
     ·cases he
    ·cases he
   ·cases he
  ·cases he
 case call cl =>
  obtain ⟨callee,args,argTypes⟩:=cl
  cases callee <;> (try simp only [] at hw) <;> try (cases hw; done)
  rename_i bi
  cases bi <;> (try simp only [] at hw) <;> try (cases hw; done)
  case copy =>
   simp only [evOper,evOperF] at he
   simp only [wrOp,List.mem_append,not_or] at hb
   split at he
   ·rename_i s x t1 t2' ha hat
    unfold evCopy at he
    split at he
    ·split at he
     ·rename_i i b0 st off len tip xs _ hs _
      have hsb : b0 ≠ b:=by
       rintro rfl
       exact hb.2 (List.mem_flatMap.2 ⟨s,by rw [ha]; simp,by rw [hs]; simp [topIds]⟩)
      split at he
      ·split at he
       ·simp only [Option.some.injEq,Prod.mk.injEq] at he
        rw [← he.2.1,Hp.get_set,if_neg hsb]
       ·cases he
      ·cases he
     ·cases he
    ·cases he
   ·cases he
  case clear =>
   simp only [evOper,evOperF] at he
   simp only [wrOp,List.mem_append,not_or] at hb
   split at he
   ·rename_i s t1 ha hat
    unfold evClear at he
    split at he
    ·split at he
     ·rename_i i b0 st off len tip _ hs
      have hsb : b0 ≠ b:=by
       rintro rfl
       exact hb.2 (List.mem_flatMap.2 ⟨s,by rw [ha]; simp,by rw [hs]; simp [topIds]⟩)
      split at he
      ·split at he
       ·simp only [Option.some.injEq,Prod.mk.injEq] at he
        rw [← he.2.1,Hp.get_set,if_neg hsb]
       ·cases he
      ·cases he
     ·cases he
    ·cases he
   ·cases he
  simp only [evOper,evOperF] at he
  simp only [wrOp,List.mem_append,not_or] at hb
  split at he
  ·rename_i d s x t1 t2' ha hat
   split at he
   ·have hdb : d ≠ b:=by rintro rfl; exact hb.1 (by simp)
    have hsb : ∀ b0 st off len tip,evalO t s = .sl b0 st off len tip → b0 ≠ b:=by
     rintro b0 st off len tip hs rfl
     exact hb.2 (List.mem_flatMap.2 ⟨s,by rw [ha]; simp,by rw [hs]; simp [topIds]⟩)
    unfold evAppend at he
    split at he
    ·rename_i h0
     rw [he] at h0
     clear he
     replace he:=h0
     clear h0
     unfold evAppend0 at he
     split at he
     ·split at he
      ·split at he
       ·split at he
        ·split at he
         ·simp only [Option.some.injEq,Prod.mk.injEq] at he; rw [← he.2.1]
         ·split at he
          ·simp only [Option.some.injEq,Prod.mk.injEq] at he; rw [← he.2.1,Hp.get_set,if_neg hdb]
          ·cases he
        ·split at he
         ·split at he
          ·simp only [Option.some.injEq,Prod.mk.injEq] at he; rw [← he.2.1]
          ·split at he
           ·simp only [Option.some.injEq,Prod.mk.injEq] at he; rw [← he.2.1,Hp.get_set,if_neg hdb]
           ·cases he
         ·cases he
        ·rename_i b0 st off len tip hs
         split at he
         ·split at he
          ·split at he
           ·simp only [Option.some.injEq,Prod.mk.injEq] at he; rw [← he.2.1]
           ·split at he
            ·simp only [Option.some.injEq,Prod.mk.injEq] at he
             rw [← he.2.1,Hp.get_set,if_neg hdb,Hp.get_erase,if_neg (hsb _ _ _ _ _ hs)]
            ·cases he
          ·cases he
         ·cases he
        ·cases he
       ·cases he
      ·cases he
     ·cases he
    ·unfold evAppendD at he
     split at he
     ·split at he
      ·rename_i xs h1 _ hel
       have hx : h1.get b = h.get b:=by
        unfold elemsD at hel
        split at hel
        ·rename_i b0 st off len tip hv
         split at hel
         ·split at hel
          ·simp only [Option.some.injEq,Prod.mk.injEq] at hel
           rw [← hel.2,Hp.get_erase,if_neg]
           rintro rfl
           exact hb.2 (List.mem_flatMap.2 ⟨x,by rw [ha]; simp,by rw [hv]; simp [topIds]⟩)
          ·cases hel
         ·cases hel
        ·cases hel
       split at he
       ·split at he
        ·split at he
         ·simp only [Option.some.injEq,Prod.mk.injEq] at he; rw [← he.2.1,Hp.get_set,if_neg hdb,hx]
         ·cases he
        ·rename_i b0 st off len tip hs
         split at he
         ·split at he
          ·simp only [Option.some.injEq,Prod.mk.injEq] at he
           rw [← he.2.1,Hp.get_set,if_neg hdb,Hp.get_erase,if_neg (hsb _ _ _ _ _ hs),hx]
          ·cases he
         ·cases he
        ·cases he
       ·cases he
      ·cases he
     ·cases he
   ·cases he
  ·cases he
end
def maskL : List Nat → Nat
 | []=>0
 | x :: r=>Nat.lor (Nat.shiftLeft 1 x) (maskL r)
theorem maskL_bit : ∀ (l : List Nat) (q : Nat),(maskL l).testBit q = true ↔ q ∈ l
 | [],q=>by simp [maskL]
 | x :: r,q=>by
  have h : maskL (x :: r) = (1 <<< x) ||| maskL r:=rfl
  rw [h,Nat.testBit_or,Bool.or_eq_true,maskL_bit r q,List.mem_cons,Nat.one_shiftLeft,Nat.testBit_two_pow]
  simp only [decide_eq_true_eq]
  constructor
  ·rintro (h | h)
   ·exact .inl h.symm
   ·exact .inr h
  ·rintro (h | h)
   ·exact .inl h.symm
   ·exact .inr h
theorem maskL_meets {a b : List Nat} (h : Nat.land (maskL a) (maskL b) = 0) : meetsL a b = false:=by
 cases hm : meetsL a b with
 | false=>rfl
 | true =>
  exfalso
  obtain ⟨x,h1,h2⟩:=List.any_eq_true.1 hm
  have h3 : (maskL a &&& maskL b).testBit x = true:=by
   rw [Nat.testBit_and,(maskL_bit a x).2 h1,(maskL_bit b x).2 (by simpa using h2)]; rfl
  have h4 : maskL a &&& maskL b = 0:=h
  rw [h4] at h3
  simp at h3
def lookM : List (Nat × Nat) → Nat → Nat
 | [],_=>0
 | (k,m) :: r,i=>bif Nat.beq k i then m else lookM r i
def edgesM : List Edge → List (Nat × Nat) → Nat
 | [],_=>0
 | e :: r,acc=>bif Region.binds .any e then Nat.lor (Nat.lor (Nat.shiftLeft 1 e.on) (lookM acc e.on)) (edgesM r acc) else edgesM r acc
def closM : List Oper → Nat → List (Nat × Nat) → List (Nat × Nat)
 | [],_,acc=>acc
 | o :: r,j,acc=>closM r (Nat.succ j) ((j,edgesM o.after.toList acc) :: acc)
theorem closGo_in : ∀ (os : List Oper) (acc : List (List Nat)) (i : Nat) (hi : i < os.length) (e : Edge),e ∈ os[i].after.toList → Region.binds .any e = true → ∀ q,(q = e.on ∨ (e.on < acc.length + i ∧ q ∈ (closGo os acc).getD e.on [])) →
  q ∈ (closGo os acc).getD (acc.length + i) []:=by
 intro os
 induction os with
 | nil=>intro acc i hi; simp at hi
 | cons o r ih =>
  intro acc i hi e he hb q hq
  let L:=o.after.toList.flatMap fun e=>if Region.binds .any e then e.on :: acc.getD e.on [] else []
  have h0 : closGo (o :: r) acc = closGo r (acc ++ [L]):=rfl
  rw [h0] at hq ⊢
  cases i with
  | zero =>
   obtain ⟨tl,h1,h2,_⟩:=closGo_spec r (acc ++ [L])
   rw [h1] at hq ⊢
   have hL : (acc ++ [L] ++ tl).getD (acc.length + 0) [] = L:=by simp
   rw [hL]
   refine List.mem_flatMap.2 ⟨e,he,?_⟩
   rw [if_pos hb]
   rcases hq with rfl | ⟨h3,h4⟩
   ·exact List.mem_cons_self ..
   ·refine List.mem_cons_of_mem _ ?_
    have h5 : (acc ++ [L] ++ tl).getD e.on [] = acc.getD e.on []:=by
     rw [List.append_assoc,List.getD_eq_getElem?_getD,List.getElem?_append_left (by omega),List.getD_eq_getElem?_getD]
    rwa [h5] at h4
  | succ i =>
   have:=ih (acc ++ [L]) i (by simpa using hi) e (by simpa using he) hb q (by
    rcases hq with h | ⟨h3,h4⟩
    ·exact .inl h
    ·exact .inr ⟨by simp; omega,h4⟩)
   simpa [Nat.add_assoc,Nat.add_comm 1 i] using this
def BitsOk (C : List (List Nat)) (M : List (Nat × Nat)) : Prop:=∀ i q,(lookM M i).testBit q = true → q ∈ C.getD i []
theorem edgesM_bit {C : List (List Nat)} {M : List (Nat × Nat)} (hM : BitsOk C M) : ∀ (l : List Edge) (q : Nat),(edgesM l M).testBit q = true → ∃ e ∈ l,Region.binds .any e = true ∧ (q = e.on ∨ q ∈ C.getD e.on [])
 | [],q,h=>by simp [edgesM] at h
 | e :: r,q,h=>by
  simp only [edgesM] at h
  cases hb : Region.binds .any e with
  | false =>
   rw [hb] at h
   obtain ⟨e',h1,h2⟩:=edgesM_bit hM r q h
   exact ⟨e',List.mem_cons_of_mem _ h1,h2⟩
  | true =>
   rw [hb] at h
   have h' : ((1 <<< e.on ||| lookM M e.on) ||| edgesM r M).testBit q = true:=h
   rw [Nat.testBit_or,Bool.or_eq_true,Nat.testBit_or,Bool.or_eq_true,Nat.one_shiftLeft,Nat.testBit_two_pow] at h'
   rcases h' with (h1 | h1) | h1
   ·exact ⟨e,List.mem_cons_self ..,hb,.inl (by simpa using Eq.symm (by simpa using h1))⟩
   ·exact ⟨e,List.mem_cons_self ..,hb,.inr (hM _ _ h1)⟩
   ·obtain ⟨e',h3,h4⟩:=edgesM_bit hM r q h1
    exact ⟨e',List.mem_cons_of_mem _ h3,h4⟩
theorem closM_ok {ops : Array Oper} (hed : edgesOk ops = true) : ∀ (os : List Oper) (j : Nat) (M : List (Nat × Nat)),ops.toList.drop j = os → BitsOk (clos ops) M → BitsOk (clos ops) (closM os j M)
 | [],_,_,_,h=>h
 | o :: r,j,M,hd,h=>by
  have ho : ops.toList[j]? = some o:=by
   have:=congrArg (fun l=>l[0]?) hd
   simpa using this
  have hd' : ops.toList.drop (j + 1) = r:=by
   have:=congrArg (List.drop 1) hd
   simpa [List.drop_drop] using this
  refine closM_ok hed r (j + 1) _ hd' fun i q hq=>?_
  simp only [lookM] at hq
  cases hji : Nat.beq j i with
  | false=>rw [hji] at hq; exact h i q hq
  | true =>
   rw [hji] at hq
   have : j = i:=Nat.eq_of_beq_eq_true hji
   subst this
   obtain ⟨e,he,hb,hq'⟩:=edgesM_bit h _ q hq
   obtain ⟨hlt,hv⟩:=List.getElem?_eq_some_iff.1 ho
   have hon : e.on < j:=by
    have h1:=List.all_eq_true.1 hed (o,j) (by rw [List.mem_zipIdx_iff_getElem?]; simpa using ho)
    have h2:=List.all_eq_true.1 h1 e he
    simpa [hb] using h2
   have:=closGo_in ops.toList [] j hlt e (by rw [hv]; exact he) hb q (by
    rcases hq' with h1 | h1
    ·exact .inl h1
    ·exact .inr ⟨by simpa using hon,h1⟩)
   rw [List.length_nil,Nat.zero_add] at this
   exact this
def orderedM (M : List (Nat × Nat)) (i j : Nat) : Bool:=Nat.testBit (lookM M j) i
def nameRows (ops : Array Oper) : List Oper → Nat → List (Nat × Nat × Nat)
 | [],_=>[]
 | o :: r,j=>(j,maskL o.dst.toList,maskL (namesOf ops o)) :: nameRows ops r (Nat.succ j)
def namePairs (M : List (Nat × Nat)) : List (Nat × Nat × Nat) → Bool
 | []=>true
 | x :: r=>(r.all fun y=>(Nat.beq (Nat.land x.2.1 y.2.2) 0 && Nat.beq (Nat.land y.2.1 x.2.2) 0) || orderedM M x.1 y.1) && namePairs M r
def namesOk (ops : Array Oper) : Bool:=edgesOk ops && namePairs (closM ops.toList 0 []) (nameRows ops ops.toList 0)
theorem nameRows_mem {ops : Array Oper} : ∀ (os : List Oper) (k j : Nat) (o : Oper),os[j]? = some o → (k + j,maskL o.dst.toList,maskL (namesOf ops o)) ∈ nameRows ops os k
 | [],k,j,o,h=>by simp at h
 | x :: r,k,0,o,h=>by
  simp only [List.getElem?_cons_zero,Option.some.injEq] at h
  subst h
  simp [nameRows]
 | x :: r,k,j + 1,o,h=>by
  have:=nameRows_mem (ops:=ops) r (k + 1) j o (by simpa using h)
  simp only [nameRows]
  refine List.mem_cons_of_mem _ ?_
  rwa [show k + (j + 1) = k + 1 + j by omega]
theorem namePairs_spec {ops : Array Oper} {M : List (Nat × Nat)} : ∀ (os : List Oper) (k : Nat),namePairs M (nameRows ops os k) = true → ∀ i j oi oj,i < j → os[i]? = some oi → os[j]? = some oj →
  (meetsL oi.dst.toList (namesOf ops oj) || meetsL oj.dst.toList (namesOf ops oi)) = true → orderedM M (k + i) (k + j) = true
 | [],k,_,i,j,oi,oj,_,h,_,_=>by simp at h
 | x :: r,k,hp,i,j,oi,oj,hij,hi,hj,hc=>by
  simp only [nameRows,namePairs,Bool.and_eq_true] at hp
  obtain ⟨j',rfl⟩ : ∃ j',j = j' + 1:=⟨j - 1,by omega⟩
  cases i with
  | zero =>
   simp only [List.getElem?_cons_zero,Option.some.injEq] at hi
   subst hi
   have hm:=nameRows_mem (ops:=ops) r (k + 1) j' oj (by simpa using hj)
   have h1:=List.all_eq_true.1 hp.1 _ hm
   simp only [Bool.or_eq_true,Bool.and_eq_true] at h1
   rcases h1 with ⟨h2,h3⟩ | h1
   ·rw [maskL_meets (Nat.eq_of_beq_eq_true h2),maskL_meets (Nat.eq_of_beq_eq_true h3)] at hc
    cases hc
   ·rwa [show k + (j' + 1) = k + 1 + j' by omega]
  | succ i =>
   have:=namePairs_spec r (k + 1) hp.2 i j' oi oj (by omega) (by simpa using hi) (by simpa using hj) hc
   rwa [show k + (j' + 1) = k + 1 + j' by omega,show k + (i + 1) = k + 1 + i by omega]
def effList : List Stp → Nat → List (Nat × List Nat)
 | [],_=>[]
 | s :: r,j=>bif s.eff then (j,s.wr) :: effList r (Nat.succ j) else effList r (Nat.succ j)
def rdList : List Stp → Nat → List (Nat × List Nat)
 | [],_=>[]
 | s :: r,j=>match s.rd with
  | []=>rdList r (Nat.succ j)
  | x :: y=>(j,x :: y) :: rdList r (Nat.succ j)
def effPairs (M : List (Nat × Nat)) : List (Nat × List Nat) → Bool
 | []=>true
 | x :: r=>(r.all fun y=>orderedM M x.1 y.1) && effPairs M r
def wrPairs (M : List (Nat × Nat)) (R : List (Nat × List Nat)) : List (Nat × List Nat) → Bool
 | []=>true
 | (_,[]) :: r=>wrPairs M R r
 | (i,a :: w) :: r=>(R.all fun y=>!(meetsL y.2 (a :: w)) || (bif Nat.blt i y.1 then orderedM M i y.1 else (Nat.blt y.1 i && orderedM M y.1 i))) && wrPairs M R r
def effsOk (M : List (Nat × Nat)) (tr : List Stp) : Bool:=effPairs M (effList tr 0) && wrPairs M (rdList tr 0) (effList tr 0)
theorem effList_mem : ∀ (tr : List Stp) (k j : Nat) (s : Stp),tr[j]? = some s → s.eff = true → (k + j,s.wr) ∈ effList tr k
 | [],k,j,s,h,_=>by simp at h
 | x :: r,k,0,s,h,he=>by
  simp only [List.getElem?_cons_zero,Option.some.injEq] at h
  subst h
  simp [effList,he]
 | x :: r,k,j + 1,s,h,he=>by
  have:=effList_mem r (k + 1) j s (by simpa using h) he
  rw [show k + (j + 1) = k + 1 + j by omega]
  simp only [effList]
  cases x.eff
  ·exact this
  ·exact List.mem_cons_of_mem _ this
theorem rdList_mem : ∀ (tr : List Stp) (k j : Nat) (s : Stp),tr[j]? = some s → s.rd ≠ [] → (k + j,s.rd) ∈ rdList tr k
 | [],k,j,s,h,_=>by simp at h
 | x :: r,k,0,s,h,he=>by
  simp only [List.getElem?_cons_zero,Option.some.injEq] at h
  subst h
  simp only [rdList]
  cases hx : x.rd with
  | nil=>exact absurd hx he
  | cons a b=>simp
 | x :: r,k,j + 1,s,h,he=>by
  have:=rdList_mem r (k + 1) j s (by simpa using h) he
  rw [show k + (j + 1) = k + 1 + j by omega]
  simp only [rdList]
  split
  ·exact this
  ·exact List.mem_cons_of_mem _ this
theorem effPairs_spec {M : List (Nat × Nat)} : ∀ (tr : List Stp) (k : Nat),effPairs M (effList tr k) = true → ∀ i j si sj,i < j → tr[i]? = some si → tr[j]? = some sj → si.eff = true → sj.eff = true → orderedM M (k + i) (k + j) = true
 | [],k,_,i,j,si,sj,_,h,_,_,_=>by simp at h
 | x :: r,k,hp,i,j,si,sj,hij,hi,hj,h1,h2=>by
  obtain ⟨j',rfl⟩ : ∃ j',j = j' + 1:=⟨j - 1,by omega⟩
  simp only [effList] at hp
  cases i with
  | zero =>
   simp only [List.getElem?_cons_zero,Option.some.injEq] at hi
   subst hi
   simp only [h1,cond_true,effPairs,Bool.and_eq_true] at hp
   have hm:=effList_mem r (k + 1) j' sj (by simpa using hj) h2
   have:=List.all_eq_true.1 hp.1 _ hm
   rwa [show k + (j' + 1) = k + 1 + j' by omega]
  | succ i =>
   have hp' : effPairs M (effList r (k + 1)) = true:=by
    cases hx : x.eff with
    | false=>simpa [hx] using hp
    | true=>simp only [hx,cond_true,effPairs,Bool.and_eq_true] at hp; exact hp.2
   have:=effPairs_spec r (k + 1) hp' i j' si sj (by omega) (by simpa using hi) (by simpa using hj) h1 h2
   rwa [show k + (j' + 1) = k + 1 + j' by omega,show k + (i + 1) = k + 1 + i by omega]
theorem wrPairs_spec {M : List (Nat × Nat)} {R : List (Nat × List Nat)} : ∀ (E : List (Nat × List Nat)),wrPairs M R E = true → ∀ i w j d,(i,w) ∈ E → (j,d) ∈ R → meetsL d w = true → i ≠ j → (i < j → orderedM M i j = true) ∧ (j < i → orderedM M j i = true)
 | [],_,i,w,j,d,h,_,_,_=>by simp at h
 | (k,[]) :: r,hp,i,w,j,d,h,hR,hm,hne=>by
  rcases List.mem_cons.1 h with h | h
  ·cases h
   exfalso
   obtain ⟨x,_,h2⟩:=List.any_eq_true.1 hm
   simp at h2
  ·exact wrPairs_spec r (by simpa [wrPairs] using hp) i w j d h hR hm hne
 | (k,a :: v) :: r,hp,i,w,j,d,h,hR,hm,hne=>by
  simp only [wrPairs,Bool.and_eq_true] at hp
  rcases List.mem_cons.1 h with h | h
  ·cases h
   have h1:=List.all_eq_true.1 hp.1 _ hR
   simp only [hm,Bool.not_true,Bool.false_or] at h1
   cases hb : Nat.blt k j with
   | true =>
    rw [hb] at h1
    have : k < j:=by rw [← Nat.blt_eq]; exact hb
    exact ⟨fun _=>h1,fun _=>by omega⟩
   | false =>
    rw [hb] at h1
    have h2 : ¬ k < j:=fun h3=>by rw [← Nat.blt_eq,hb] at h3; cases h3
    simp only [cond_false,Bool.and_eq_true] at h1
    exact ⟨fun h3=>absurd h3 h2,fun _=>h1.2⟩
  ·exact wrPairs_spec r hp.2 i w j d h hR hm hne
theorem meetsL_right {a b : List Nat} (h : meetsL a b = true) : a ≠ []:=by
 rintro rfl
 simp [meetsL] at h
theorem pairsOk_of {ops : Array Oper} {tr : List Stp} (ho : tr.map (·.o) = ops.toList) (hn : namesOk ops = true) (he : effsOk (closM ops.toList 0 []) tr = true) : pairsOk ops (clos ops) tr = true:=by
 simp only [namesOk,Bool.and_eq_true] at hn
 simp only [effsOk,Bool.and_eq_true] at he
 have hM:=closM_ok hn.1 ops.toList 0 [] (by simp) fun i q h=>by simp [lookM] at h
 refine List.all_eq_true.2 fun y hy=>List.all_eq_true.2 fun x hx=>?_
 obtain ⟨sj,j⟩:=y
 obtain ⟨si,i⟩:=x
 rw [List.mem_zipIdx_iff_getElem?] at hy hx
 simp only at hy hx
 simp only [Bool.or_eq_true,Bool.not_eq_true',decide_eq_false_iff_not]
 refine (Decidable.em (i < j)).elim (fun hij=>?_) fun hij=>.inl (.inl hij)
 have opi : ops.toList[i]? = some si.o:=by rw [← ho]; simp [hx]
 have opj : ops.toList[j]? = some sj.o:=by rw [← ho]; simp [hy]
 have done : orderedM (closM ops.toList 0 []) i j = true → i ∈ (clos ops).getD j []:=fun h=>hM j i h
 cases hc : conflict ops si sj with
 | false=>exact .inl (.inr rfl)
 | true =>
  refine .inr ?_
  rw [List.contains_iff_mem]
  refine done ?_
  unfold conflict at hc
  simp only [Bool.or_eq_true,Bool.and_eq_true] at hc
  rcases hc with (((h1 | h1) | ⟨h1,h2⟩) | ⟨h1,h2⟩) | ⟨h1,h2⟩
  ·simpa using namePairs_spec ops.toList 0 hn.2 i j _ _ hij opi opj (by simp [h1])
  ·simpa using namePairs_spec ops.toList 0 hn.2 i j _ _ hij opi opj (by simp [h1])
  ·simpa using effPairs_spec tr 0 he.1 i j si sj hij hx hy h1 h2
  ·have a1:=effList_mem tr 0 i si hx h1
   have a2:=rdList_mem tr 0 j sj hy (meetsL_right h2)
   have:=(wrPairs_spec _ he.2 _ _ _ _ a1 a2 h2 (by omega)).1 (by omega)
   simpa using this
  ·have a1:=effList_mem tr 0 j sj hy h1
   have a2:=rdList_mem tr 0 i si hx (meetsL_right h2)
   have:=(wrPairs_spec _ he.2 _ _ _ _ a1 a2 h2 (by omega)).2 (by omega)
   simpa using this
section
variable {P : Program} {T : TypeId → Option TI} {bad : Nat → Prop}
end
end Go.Mx
namespace Go.Mx
set_option linter.unusedVariables false
set_option linter.unusedSimpArgs false
section
variable {P : Program} {T : TypeId → Option TI} {bad : Nat → Prop}
end
def okE2 (h hr : Hp) (E1 : List (Nat × Nat × Nat)) (c c2 : Nat) (x : Nat × Nat × Nat) : Bool :=
 (decide (c ≤ x.2.2) && decide (x.2.2 < c2)) ||
 ((match hr.get x.1 with | some B=>B.s == 0 | none=>false) && E1.contains (x.2.1,x.1,0) && (match h.get x.2.1 with | some B=>B.s == x.2.2 | none=>false))
section
variable {P : Program} {T : TypeId → Option TI} {F : FuncId → Option Func} {mode : FuncId → Nat}
theorem eraseAll_ne : ∀ (bs : List Nat) {h : Hp} {b : Nat},b ∉ bs → (eraseAll h bs).get b = h.get b
 | [],h,b,_=>rfl
 | x :: r,h,b,hb=>by
  simp only [List.mem_cons,not_or] at hb
  simp only [eraseAll]
  rw [eraseAll_ne r hb.2,Hp.get_erase,if_neg (Ne.symm hb.1)]
theorem revE_none : ∀ {E : List (Nat × Nat × Nat)} {k : Nat},k ∉ E.map (fun x=>x.2.1) → revE E k = none
 | [],k,_=>rfl
 | (a,b,s) :: r,k,hk=>by
  simp only [List.map_cons,List.mem_cons,not_or] at hk
  simp only [revE]
  rw [if_neg (Ne.symm hk.1)]
  exact revE_none hk.2
theorem CallsA_of_PT {bad : Nat → Prop} {g : FuncId} {vs : List V} {r : V} (hpu : vs.all (pur 6) = true) (hp : PT P g vs r) (h : Hp) (c : Nat) : CallsA P bad h c g vs r h c:=by
 intro w m xs hh hl hr
 let bad' : Nat → Prop:=fun β=>bad β ∨ ∃ b l,m b = some l ∧ l.blk = some β
 have hbad' : ∀ β,bad' β → β < w.heap.size:=fun β hβ=>by
  rcases hβ with h1 | ⟨b,l,h1,h2⟩
  ·exact hh.lt β h1
  ·exact hh.blk_lt h1 h2
 have hargs : ∀ i (h1 : i < vs.length) (h2 : i < xs.size),RepP w (okOf bad' w noM) vs[i] xs[i]:=fun i h1 h2 =>
  (pur_sound 6 (List.all_eq_true.1 hpu _ (List.getElem_mem h1)) (hr i h1 h2)).mono fun β hβ=>⟨⟨hβ.1,fun h3=>by
   rcases h3 with h3 | ⟨b,l,h3,h4⟩
   ·exact hβ.2.1 h3
   ·exact hβ.2.2 b l h3 h4,fun b l h3=>by simp [noM] at h3⟩,fun _=>rfl⟩
 refine (hp bad' w xs hbad' hl hargs).mono ?_
 rintro e w' ⟨x,rfl,hrx,hle⟩
 have hkeep : ∀ β,β < w.heap.size → w'.heap[β]? = w.heap[β]?:=fun β hβ=>hle.keep β hβ fun b l h1=>by simp [noM] at h1
 obtain ⟨le1,hh1⟩:=hh.world hkeep hle.size hle.os hle.output hle.tape
 exact ⟨x,m,rfl,.pure (hrx.mono fun β hβ=>⟨⟨hβ.1,fun h1=>hβ.2.1 (.inl h1),fun b l h1 h2=>hβ.2.1 (.inr ⟨b,l,h1,h2⟩)⟩,fun _=>rfl⟩),le1,hh1⟩
end
end Go.Mx
namespace Go.Mx
set_option linter.unusedVariables false
set_option linter.unusedSimpArgs false
structure SA where
 A : List (Nat × V)
 h : Hp
 c : Nat
def lkA : List (Nat × V) → Nat → V
 | [],_=>.undef
 | (k,v) :: r,i=>bif Nat.beq k i then v else lkA r i
def mkT (N : Nat) (A : List (Nat × V)) : List V:=(List.range N).map (lkA A)
def SA.st (N : Nat) (s : SA) : St:=⟨mkT N s.A,s.h,s.c⟩
def keysLt (N : Nat) : List (Nat × V) → Bool
 | []=>true
 | (k,_) :: r=>Nat.blt k N && keysLt N r
theorem mkT_length (N : Nat) (A : List (Nat × V)) : (mkT N A).length = N:=by simp [mkT]
theorem lkA_ge {N : Nat} : ∀ {A : List (Nat × V)} {k : Nat},keysLt N A = true → N ≤ k → lkA A k = .undef
 | [],k,_,_=>rfl
 | (j,v) :: r,k,h,hk=>by
  simp only [keysLt,Bool.and_eq_true,Nat.blt_eq] at h
  have : Nat.beq j k = false:=by
   cases hb : Nat.beq j k with
   | false=>rfl
   | true=>have:=Nat.eq_of_beq_eq_true hb; omega
  simp only [lkA,this,cond_false]
  exact lkA_ge h.2 hk
theorem mkT_getD {N : Nat} {A : List (Nat × V)} (h : keysLt N A = true) (k : Nat) : (mkT N A).getD k .undef = lkA A k:=by
 rw [List.getD_eq_getElem?_getD]
 by_cases hk : k < N
 ·simp [mkT,hk]
 ·rw [lkA_ge h (by omega)]
  simp [mkT,hk]
theorem lkA_cons (A : List (Nat × V)) (d : Nat) (v : V) (k : Nat) : lkA ((d,v) :: A) k = if d = k then v else lkA A k:=by
 simp only [lkA]
 cases hb : Nat.beq d k with
 | true=>simp [Nat.eq_of_beq_eq_true hb]
 | false =>
  have : d ≠ k:=fun e=>by subst e; simp at hb
  simp [this]
theorem mkT_put {N : Nat} {A : List (Nat × V)} {d : Nat} {v : V} (hd : d < N) : (mkT N A).set d v = mkT N ((d,v) :: A):=by
 apply List.ext_getElem
 ·simp [mkT]
 ·intro k h1 h2
  simp only [List.getElem_set,mkT,List.getElem_map,List.getElem_range,lkA_cons]
def evA (A : List (Nat × V)) : Operand → V
 | .tmp k=>lkA A k
 | .const v=>ofC v
 | .func f=>.fn f [] []
 | .global _=>.undef
theorem evA_eq {N : Nat} {A : List (Nat × V)} (h : keysLt N A = true) : evA A = evalO (mkT N A):=by
 funext o
 cases o with
 | tmp k=>exact (mkT_getD h k).symm
 | const v=>rfl
 | func f=>rfl
 | global g=>rfl
def putA (A : List (Nat × V)) (d : Option Tmp) (v : V) : List (Nat × V) :=
 match d with
 | some k=>(k,v) :: A
 | none=>A
def okD (N : Nat) (d : Option Tmp) : Bool :=
 match d with
 | some k=>Nat.blt k N
 | none=>true
theorem putA_eq {N : Nat} {A : List (Nat × V)} {d : Option Tmp} {v : V} (hd : okD N d = true) : putT (mkT N A) d v = mkT N (putA A d v):=by
 cases d with
 | none=>rfl
 | some k=>exact mkT_put (by simpa [okD] using hd)
theorem putA_lt {N : Nat} {A : List (Nat × V)} {d : Option Tmp} {v : V} (hd : okD N d = true) (h : keysLt N A = true) : keysLt N (putA A d v) = true:=by
 cases d with
 | none=>exact h
 | some k=>simp only [putA,keysLt,h,Bool.and_true]; exact hd
def SRA (bad : Nat → Prop) (N : Nat) (s : SA) (a : Act) (w : World) (m : MM) : Prop:=keysLt N s.A = true ∧ SR bad (s.st N) a w m
structure Ent where
 w : World
 m : MM
 c : Nat
def Ent.le (E : Ent) (w : World) (m : MM) (c : Nat) : Prop:=Le E.w E.m E.c w m c
section
variable {P : Program} {T : TypeId → Option TI} {bad : Nat → Prop} {E : Ent} {N : Nat}
def WA (P : Program) (bad : Nat → Prop) (E : Ent) (N : Nat) (code : Code) (s : SA) (Q : Exit → SA → Prop) : Prop :=
 ∀ a w m,SRA bad N s a w m → E.le w m s.c → code.wp P (fun e a' w'=>∃ s' m',Q e s' ∧ SRA bad N s' a' w' m' ∧ E.le w' m' s'.c) a w
def thenA (next : SA → Prop) (Q : Exit → SA → Prop) : Exit → SA → Prop
 | .normal,s=>next s
 | e,s=>Q e s
def blockA (id : Nat) (Q : Exit → SA → Prop) : Exit → SA → Prop
 | .exit id',s=>bif Nat.beq id' id then Q .normal s else Q (.exit id') s
 | e,s=>Q e s
def Weak (bad : Nat → Prop) (E : Ent) (N : Nat) (s s' : SA) : Prop :=
 ∀ a w m,SRA bad N s a w m → E.le w m s.c → ∃ m',SRA bad N s' a w m' ∧ E.le w m' s'.c
theorem WA_weak {code : Code} {s s' : SA} {Q : Exit → SA → Prop} (hw : Weak bad E N s s') (h : WA P bad E N code s' Q) : WA P bad E N code s Q:=by
 intro a w m hs hl
 obtain ⟨m',h1,h2⟩:=hw a w m hs hl
 exact h a w m' h1 h2
theorem WA_mono {code : Code} {s : SA} {Q Q' : Exit → SA → Prop} (h : WA P bad E N code s Q) (hq : ∀ e s',Q e s' → Q' e s') : WA P bad E N code s Q' :=
 fun a w m hs hl=>wp_mono (h a w m hs hl) fun e a' w' ⟨s',m',h1,h2⟩=>⟨s',m',hq e s' h1,h2⟩
theorem WA_skip {s : SA} {Q : Exit → SA → Prop} (h : Q .normal s) : WA P bad E N .skip s Q:=fun a w m hs hl=>wp_skip ⟨s,m,h,hs,hl⟩
theorem WA_exit {id : Nat} {s : SA} {Q : Exit → SA → Prop} (h : Q (.exit id) s) : WA P bad E N (.exit id) s Q:=fun a w m hs hl=>wp_exit ⟨s,m,h,hs,hl⟩
theorem WA_ret {s : SA} {Q : Exit → SA → Prop} (h : Q .ret s) : WA P bad E N .ret s Q:=fun a w m hs hl=>wp_ret ⟨s,m,h,hs,hl⟩
theorem WA_seq {x y : Code} {s : SA} {Q : Exit → SA → Prop} (h : WA P bad E N x s (thenA (fun s'=>WA P bad E N y s' Q) Q)) : WA P bad E N (.seq x y) s Q:=by
 intro a w m hs hl
 refine wp_seq (wp_mono (h a w m hs hl) ?_)
 rintro e a' w' ⟨s',m',h1,h2,h3⟩
 cases e with
 | normal=>exact h1 a' w' m' h2 h3
 | exit id=>exact ⟨s',m',h1,h2,h3⟩
 | goto l=>exact ⟨s',m',h1,h2,h3⟩
 | ret=>exact ⟨s',m',h1,h2,h3⟩
 | panic ch=>exact ⟨s',m',h1,h2,h3⟩
 | outgrown=>exact ⟨s',m',h1,h2,h3⟩
theorem WA_cond {k : Operand} {x y : Code} {s : SA} {Q : Exit → SA → Prop} (b : Bool) (hk : evA s.A k = .p (.bool b)) (h1 : b = true → WA P bad E N x s Q) (h2 : b = false → WA P bad E N y s Q) : WA P bad E N (.cond k x y) s Q:=by
 intro a w m hs hl
 have:=hs.2.t.eval k
 rw [SA.st,← evA_eq hs.1,hk] at this
 cases b with
 | true=>exact wp_cond (rep_p this) (by simpa using h1 rfl a w m hs hl)
 | false=>exact wp_cond (rep_p this) (by simpa using h2 rfl a w m hs hl)
theorem WA_block {id : Nat} {x : Code} {s : SA} {Q : Exit → SA → Prop} (h : WA P bad E N x s (blockA id Q)) : WA P bad E N (.block id x) s Q:=by
 intro a w m hs hl
 refine wp_block (wp_mono (h a w m hs hl) ?_)
 rintro e a' w' ⟨st',m',h1,h2,h3⟩
 cases e with
 | exit id' =>
  simp only [blockA] at h1
  simp only [Exit.inBlock]
  cases hb : Nat.beq id' id with
  | true =>
   rw [hb] at h1
   rw [if_pos (Nat.eq_of_beq_eq_true hb)]; exact ⟨st',m',h1,h2,h3⟩
  | false =>
   rw [hb] at h1
   rw [if_neg (fun e=>by subst e; simp at hb)]; exact ⟨st',m',h1,h2,h3⟩
 | normal=>exact ⟨st',m',h1,h2,h3⟩
 | goto l=>exact ⟨st',m',h1,h2,h3⟩
 | ret=>exact ⟨st',m',h1,h2,h3⟩
 | panic ch=>exact ⟨st',m',h1,h2,h3⟩
 | outgrown=>exact ⟨st',m',h1,h2,h3⟩
theorem WA_loop {x : Code} {s : SA} {Q : Exit → SA → Prop} (I : Nat → SA → Prop) (n : Nat) (h0 : I n s) (hz : ∀ s',I 0 s' → False) (h : ∀ k s',I (k + 1) s' → WA P bad E N x s' (thenA (I k) Q)) : WA P bad E N (.loop x) s Q:=by
 intro a w m hs hl
 refine wp_loop_rounds n ?_
 have key : ∀ n s a w m,I n s → SRA bad N s a w m → E.le w m s.c → Code.rounds P x (fun e a' w'=>∃ s' m',Q e s' ∧ SRA bad N s' a' w' m' ∧ E.le w' m' s'.c) n a w:=by
  intro n
  induction n with
  | zero=>intro s a w m h; exact (hz s h).elim
  | succ n ih =>
   intro s a w m hi hs hl
   refine wp_mono (h n s hi a w m hs hl) ?_
   rintro e a' w' ⟨s',m',h1,h2,h3⟩
   cases e with
   | normal=>exact ih s' a' w' m' h1 h2 h3
   | exit id=>exact ⟨s',m',h1,h2,h3⟩
   | goto l=>exact ⟨s',m',h1,h2,h3⟩
   | ret=>exact ⟨s',m',h1,h2,h3⟩
   | panic ch=>exact ⟨s',m',h1,h2,h3⟩
   | outgrown=>exact ⟨s',m',h1,h2,h3⟩
 exact key n s a w m h0 hs hl
def WO (P : Program) (bad : Nat → Prop) (E : Ent) (N : Nat) (ops : Array Oper) (i : Nat) (s : SA) (Q : Exit → SA → Prop) : Prop :=
 ∀ a w m,SRA bad N s a w m → E.le w m s.c → wpOps P ops (fun e a' w'=>∃ s' m',Q e s' ∧ SRA bad N s' a' w' m' ∧ E.le w' m' s'.c) (List.range' i (ops.size - i)) a w
theorem WA_region {id : Nat} {ops : Array Oper} {s : SA} {Q : Exit → SA → Prop} (h : WO P bad E N ops 0 s Q) : WA P bad E N (.region id ops false) s Q:=by
 intro a w m hs hl
 have:=h a w m hs hl
 rw [Nat.sub_zero,← List.range_eq_range'] at this
 exact wp_region this
theorem WO_weak {ops : Array Oper} {i : Nat} {s s' : SA} {Q : Exit → SA → Prop} (hw : Weak bad E N s s') (h : WO P bad E N ops i s' Q) : WO P bad E N ops i s Q:=by
 intro a w m hs hl
 obtain ⟨m',h1,h2⟩:=hw a w m hs hl
 exact h a w m' h1 h2
theorem WO_end {ops : Array Oper} {i : Nat} {s : SA} {Q : Exit → SA → Prop} (hi : Nat.ble ops.size i = true) (h : Q .normal s) : WO P bad E N ops i s Q:=by
 intro a w m hs hl
 have : ops.size - i = 0:=by have:=Nat.le_of_ble_eq_true hi; omega
 rw [this]
 exact ⟨s,m,h,hs,hl⟩
def Eff (P : Program) (bad : Nat → Prop) (E : Ent) (N : Nat) (o : Oper) (s : SA) (R : SA → Prop) : Prop :=
 ∀ a w m,SRA bad N s a w m → E.le w m s.c → ∀ (K : Act → World → Prop) (QQ : Exit → Act → World → Prop),(∀ s' a' w' m',R s' → SRA bad N s' a' w' m' → E.le w' m' s'.c → K a' w') → o.wp P a w K QQ
def evGuardA (A : List (Nat × V)) (ops : Array Oper) (o : Oper) : Option Bool :=
 match o.guard with
 | none=>some true
 | some (j,want)=>match (ops[j]?).bind (·.dst) with
  | none=>some false
  | some d=>match lkA A d with
   | .p (.bool b)=>some (b == want)
   | .p _=>some false
   | _=>none
theorem evGuardA_eq {N : Nat} {A : List (Nat × V)} (h : keysLt N A = true) (ops : Array Oper) (o : Oper) : evGuard (mkT N A) ops o = evGuardA A ops o:=by
 unfold evGuard evGuardA
 cases o.guard with
 | none=>rfl
 | some x =>
  obtain ⟨j,want⟩:=x
  simp only []
  cases (ops[j]?).bind (·.dst) with
  | none=>rfl
  | some d =>
   simp only []
   have : (mkT N A)[d]? = if d < N then some (lkA A d) else none:=by
    by_cases hd : d < N <;> simp [mkT,hd]
   rw [this]
   by_cases hd : d < N
   ·rw [if_pos hd]
    cases lkA A d with
    | p x=>cases x <;> rfl
    | _=>rfl
   ·rw [if_neg hd,lkA_ge (N:=N) (k:=d) h (Nat.le_of_not_lt hd)]
theorem WO_eff {ops : Array Oper} {i : Nat} {s : SA} {Q : Exit → SA → Prop} {o : Oper} (R : SA → Prop) (ho : ops[i]? = some o) (hg : evGuardA s.A ops o = some true) (he : Eff P bad E N o s R)
  (hk : ∀ s',R s' → WO P bad E N ops (i + 1) s' Q) : WO P bad E N ops i s Q:=by
 intro a w m hs hl
 have hi : i < ops.size:=(Array.getElem?_eq_some_iff.1 ho).1
 rw [show ops.size - i = ops.size - (i + 1) + 1 by omega,List.range'_succ]
 have hw:=evGuard_sound hs.2.t ((evGuardA_eq hs.1 ops o).trans hg)
 simp only [wpOps,ho,hw,if_true]
 exact .inl (he a w m hs hl _ _ fun s' a' w' m' h1 h2 h3=>hk s' h1 a' w' m' h2 h3)
theorem WO_skip {ops : Array Oper} {i : Nat} {s : SA} {Q : Exit → SA → Prop} {o : Oper} (ho : ops[i]? = some o) (hg : evGuardA s.A ops o = some false) (hd : okD N o.dst = true)
  (hk : WO P bad E N ops (i + 1) ⟨putA s.A o.dst (.p Go.undef),s.h,s.c⟩ Q) : WO P bad E N ops i s Q:=by
 intro a w m hs hl
 have hi : i < ops.size:=(Array.getElem?_eq_some_iff.1 ho).1
 rw [show ops.size - i = ops.size - (i + 1) + 1 by omega,List.range'_succ]
 have hw:=evGuard_sound hs.2.t ((evGuardA_eq hs.1 ops o).trans hg)
 simp only [wpOps,ho,hw,Bool.false_eq_true,if_false]
 refine hk _ w m ⟨putA_lt hd hs.1,?_⟩ hl
 have:=hs.2.put (Le.refl _ _ _) hs.2.h (.pure (.p _)) o.dst (v:=.p Go.undef) (x:=Go.undef)
 simpa only [SA.st,putA_eq hd] using this
theorem SRA.put {s : SA} {a : Act} {w w' : World} {m m' : MM} (hs : SRA bad N s a w m) {h' : Hp} {c' : Nat} (hle : Le w m s.c w' m' c') (hh : HeapRep bad h' w' m' c') {v : V} {x : Value} (hv : Rep bad w' m' c' v x) {d : Option Tmp} (hd : okD N d = true) :
  SRA bad N ⟨putA s.A d v,h',c'⟩ (a.put d x) w' m':=by
 refine ⟨putA_lt hd hs.1,?_⟩
 have:=hs.2.put hle hh hv d
 simpa only [SA.st,putA_eq hd] using this
theorem Eff_op (hT : TabOk P T) {o : Oper} {s : SA} {v : V} {h' : Hp} {c' : Nat} (he : evOperF P T false (evA s.A) o s.h s.c = some (v,h',c')) (hd : okD N o.dst = true) :
  Eff P bad E N o s (fun s'=>s' = ⟨putA s.A o.dst v,h',c'⟩):=by
 intro a w m hs hl K QQ hK
 rw [evA_eq hs.1] at he
 obtain ⟨r,w',m',hrun,hr,hle,hh⟩:=evOper_sound hT hs.2.h hs.2.t (o:=o) (draw:=false) he
 rcases hr with ⟨x,rfl,hv⟩ | ⟨rfl,rfl⟩
 ·simp only [Oper.wp,hrun,Oper.upon]
  exact hK _ _ _ _ rfl (hs.put hle hh hv hd) (hl.trans hle)
 ·simp only [Oper.wp,hrun,Oper.upon]
  exact hK _ _ _ _ rfl (hs.put hle hh (.pure (.p _)) hd) (hl.trans hle)
def evTargetA (A : List (Nat × V)) (cl : Call) : Option (FuncId × List V) :=
 match cl.callee with
 | .value f=>match evA A f with
  | .fn g first cap=>some (g,first ++ cl.args.toList.map (evA A) ++ cap)
  | _=>none
 | _=>none
theorem Eff_callA {o : Oper} {s : SA} {cl : Call} {g : FuncId} {vs : List V} {r : V} {h' : Hp} {c' : Nat} (hop : o.op = .call cl) (htg : evTargetA s.A cl = some (g,vs)) (hen : Enters P g)
  (hc : CallsA P bad s.h s.c g vs r h' c') (hd : okD N o.dst = true) : Eff P bad E N o s (fun s'=>s' = ⟨putA s.A o.dst r,h',c'⟩):=by
 intro a w m hs hl K QQ hK
 have htg' : evTarget (mkT N s.A) cl = some (g,vs):=by
  rw [← htg]; unfold evTarget evTargetA; simp only [evA_eq hs.1]
  cases cl.callee with
  | value f=>simp only []; cases evalO (mkT N s.A) f <;> rfl
  | _=>rfl
 obtain ⟨xs,hrun,hlen,hr⟩:=call_run hs.2.t htg' hen o hop
 simp only [Oper.wp,hrun,Oper.upon]
 refine (hc w m xs hs.2.h hlen hr).mono ?_
 rintro e w' ⟨x,m',rfl,hv,hle,hh⟩
 exact hK _ _ _ _ rfl (hs.put hle hh hv hd) (hl.trans hle)
theorem Eff_pt {o : Oper} {s : SA} {cl : Call} {g : FuncId} {vs : List V} {r : V} (hop : o.op = .call cl) (htg : evTargetA s.A cl = some (g,vs)) (hen : Enters P g) (hpu : vs.all (pur 6) = true)
  (hc : PT P g vs r) (hd : okD N o.dst = true) : Eff P bad E N o s (fun s'=>s' = ⟨putA s.A o.dst r,s.h,s.c⟩):=by
 intro a w m hs hl K QQ hK
 exact Eff_callA hop htg hen (CallsA_of_PT hpu hc _ _) hd a w m hs hl K QQ hK
end
def runO (P : Program) (T : TypeId → Option TI) (N : Nat) (ops : Array Oper) : Nat → List Oper → SA → Option SA
 | 0,_,s=>some s
 | n + 1,[],s=>none
 | n + 1,o :: r,s=>match evGuardA s.A ops o with
  | some true=>match evOperF P T false (evA s.A) o s.h s.c with
   | some (v,h',c')=>bif okD N o.dst then runO P T N ops n r ⟨putA s.A o.dst v,h',c'⟩ else none
   | none=>none
  | some false=>bif okD N o.dst then runO P T N ops n r ⟨putA s.A o.dst (.p Go.undef),s.h,s.c⟩ else none
  | none=>none
def keepA (ks : List Nat) (A : List (Nat × V)) : List (Nat × V):=ks.map fun k=>(k,lkA A k)
def runK (P : Program) (T : TypeId → Option TI) (N : Nat) (ops : Array Oper) (i n : Nat) (ks : List Nat) (s : SA) : Option SA :=
 match runO P T N ops n (ops.toList.drop i) s with
 | some s'=>some ⟨keepA ks s'.A,s'.h,s'.c⟩
 | none=>none
theorem lkA_keep (A : List (Nat × V)) : ∀ (ks : List Nat) (k : Nat),lkA (keepA ks A) k = lkA A k ∨ lkA (keepA ks A) k = .undef
 | [],k=>.inr rfl
 | j :: r,k=>by
  simp only [keepA,List.map_cons,lkA_cons]
  split
  ·rename_i e; subst e; exact .inl rfl
  ·exact lkA_keep A r k
theorem keysLt_keep {N : Nat} {A : List (Nat × V)} : ∀ (ks : List Nat),ks.all (Nat.blt · N) = true → keysLt N (keepA ks A) = true
 | [],_=>rfl
 | j :: r,h=>by
  simp only [List.all_cons,Bool.and_eq_true] at h
  simp only [keepA,List.map_cons,keysLt,h.1,Bool.true_and]
  exact keysLt_keep r h.2
section
variable {P : Program} {T : TypeId → Option TI} {bad : Nat → Prop} {E : Ent} {N : Nat}
theorem SRA.slots {s : SA} {a : Act} {w : World} {m : MM} (hs : SRA bad N s a w m) {A' : List (Nat × V)} (hk : keysLt N A' = true) (hv : ∀ k x,Rep bad w m s.c (lkA s.A k) x → Rep bad w m s.c (lkA A' k) x) : SRA bad N ⟨A',s.h,s.c⟩ a w m:=by
 refine ⟨hk,⟨⟨by simpa [SA.st,mkT_length] using hs.2.t.1,fun i=>?_⟩,hs.2.h,hs.2.d⟩⟩
 have h1:=hs.2.t.2 i
 simp only [SA.st] at h1 ⊢
 rw [mkT_getD hs.1] at h1
 rw [mkT_getD hk]
 exact hv i _ h1
theorem Weak_keep {s : SA} (ks : List Nat) (hk : ks.all (Nat.blt · N) = true) : Weak bad E N s ⟨keepA ks s.A,s.h,s.c⟩:=by
 intro a w m hs hl
 refine ⟨m,hs.slots (keysLt_keep ks hk) fun k x hr=>?_,hl⟩
 rcases lkA_keep s.A ks k with h | h
 ·rw [h]; exact hr
 ·rw [h]; exact .pure (.undef _)
theorem WO_runO (hT : TabOk P T) {ops : Array Oper} {Q : Exit → SA → Prop} : ∀ (n i : Nat) (r : List Oper) (s s' : SA),ops.toList.drop i = r → runO P T N ops n r s = some s' → WO P bad E N ops (i + n) s' Q → WO P bad E N ops i s Q
 | 0,i,r,s,s',hd,hr,h=>by
  simp only [runO,Option.some.injEq] at hr
  subst hr; exact h
 | n + 1,i,[],s,s',hd,hr,h=>by simp [runO] at hr
 | n + 1,i,o :: r,s,s',hd,hr,h=>by
  have ho : ops[i]? = some o:=by
   have : ops.toList[i]? = some o:=by
    have:=congrArg (fun l=>l[0]?) hd
    simpa using this
   simpa using this
  have hd' : ops.toList.drop (i + 1) = r:=by
   have:=congrArg (List.drop 1) hd
   simpa [List.drop_drop] using this
  simp only [runO] at hr
  split at hr
  ·rename_i hg
   split at hr
   ·rename_i v h' c' hev
    cases hdd : okD N o.dst with
    | false=>rw [hdd] at hr; cases hr
    | true =>
     rw [hdd] at hr
     refine WO_eff _ ho hg (Eff_op hT hev hdd) ?_
     rintro _ rfl
     exact WO_runO hT n (i + 1) r _ s' hd' hr (by rwa [show i + 1 + n = i + (n + 1) by omega])
   ·cases hr
  ·rename_i hg
   cases hdd : okD N o.dst with
   | false=>rw [hdd] at hr; cases hr
   | true =>
    rw [hdd] at hr
    exact WO_skip ho hg hdd (WO_runO hT n (i + 1) r _ s' hd' hr (by rwa [show i + 1 + n = i + (n + 1) by omega]))
  ·cases hr
theorem WO_seg (hT : TabOk P T) {ops : Array Oper} {i : Nat} {s : SA} {Q : Exit → SA → Prop} (n : Nat) (ks : List Nat) (s' : SA) (hr : runK P T N ops i n ks s = some s') (hk : ks.all (Nat.blt · N) = true) (h : WO P bad E N ops (i + n) s' Q) : WO P bad E N ops i s Q:=by
 unfold runK at hr
 split at hr
 ·rename_i s1 h1
  simp only [Option.some.injEq] at hr
  subst hr
  exact WO_runO hT n i _ s s1 rfl h1 (WO_weak (Weak_keep ks hk) h)
 ·cases hr
end
end Go.Mx
namespace Go.Mx
set_option linter.unusedVariables false
set_option linter.unusedSimpArgs false
def VLe (v v' : V) : Prop:=∀ (w : World) (ok : Nat → Prop) (x : Value),RepP w ok v x → RepP w ok v' x
theorem VLe.refl (v : V) : VLe v v:=fun _ _ _ h=>h
theorem VLe.undef (v : V) : VLe v .undef:=fun _ _ x _=>.undef x
theorem VLe.trans {a b d : V} (h : VLe a b) (k : VLe b d) : VLe a d:=fun w ok x hx=>k w ok x (h w ok x hx)
theorem VLe.nil_opt : VLe (.ps .nil []) (.ps .opt []):=fun w ok x h=>by
 cases h with
 | psNil=>exact .psNil (by simp)
 | ps hn=>exact absurd rfl hn
theorem VLe.nil_fopt : VLe (.ps .nil []) (.ps .fopt []):=fun w ok x h=>by
 cases h with
 | psNil=>exact .psNil (by simp)
 | ps hn=>exact absurd rfl hn
theorem VLe.any_opt {xs : List V} : VLe (.ps .any xs) (.ps .opt xs):=fun w ok x h=>by
 cases h with
 | psNil h=>simp at h
 | ps hn a b c d e f g=>exact .ps (by simp) a (by simp) c d e f g
theorem VLe.full_fopt {xs : List V} : VLe (.ps .full xs) (.ps .fopt xs):=fun w ok x h=>by
 cases h with
 | psNil h=>simp at h
 | ps hn a b c d e f g=>exact .ps (by simp) a (fun _=>b (.inl rfl)) c d e f g
theorem VLe.fopt_opt {xs : List V} : VLe (.ps .fopt xs) (.ps .opt xs):=fun w ok x h=>by
 cases h with
 | psNil h=>exact .psNil (by simp)
 | ps hn a b c d e f g=>exact .ps (by simp) a (by simp) c d e f g
theorem VLe.full_opt {xs : List V} : VLe (.ps .full xs) (.ps .opt xs):=VLe.full_fopt.trans VLe.fopt_opt
def VLes : List V → List V → Prop
 | [],[]=>True
 | a :: r,b :: q=>VLe a b ∧ VLes r q
 | _,_=>False
theorem VLes.get : ∀ {l m : List V},VLes l m → l.length = m.length ∧ ∀ i (h1 : i < l.length) (h2 : i < m.length),VLe l[i] m[i]
 | [],[],_=>⟨rfl,fun i h=>by simp at h⟩
 | a :: r,b :: q,⟨h,k⟩=>by
  obtain ⟨h1,h2⟩:=k.get
  refine ⟨by simp [h1],fun i a b=>?_⟩
  cases i with
  | zero=>exact h
  | succ i=>simpa using h2 i (by simpa using a) (by simpa using b)
 | [],_ :: _,h=>h.elim
 | _ :: _,[],h=>h.elim
theorem VLe.agg {l m : List V} (h : VLes l m) : VLe (.agg l) (.agg m):=fun w ok x hx=>by
 obtain ⟨h1,h2⟩:=h.get
 cases hx with
 | agg hl hr=>exact .agg (by omega) fun i a b=>h2 i (by omega) a w ok _ (hr i (by omega) b)
theorem VLe.tup {l m : List V} (h : VLes l m) : VLe (.tup l) (.tup m):=fun w ok x hx=>by
 obtain ⟨h1,h2⟩:=h.get
 cases hx with
 | tup hl hr=>exact .tup (by omega) fun i a b=>h2 i (by omega) a w ok _ (hr i (by omega) b)
def VLf (v v' : V) : Prop:=∀ (bad : Nat → Prop) (w : World) (m : MM) (c : Nat) (x : Value),Rep bad w m c v x → Rep bad w m c v' x
theorem VLe.f {v v' : V} (h : VLe v v') (hp : pur 6 v = true) : VLf v v':=fun bad w m c x hx=>.pure (h w _ x (pur_sound 6 hp hx))
theorem VLf.refl (v : V) : VLf v v:=fun _ _ _ _ _ h=>h
theorem VLf.undef (v : V) : VLf v .undef:=fun _ _ _ _ x _=>.pure (.undef x)
def VLfs : List V → List V → Prop
 | [],[]=>True
 | a :: r,b :: q=>VLf a b ∧ VLfs r q
 | _,_=>False
theorem VLfs.get : ∀ {l m : List V},VLfs l m → l.length = m.length ∧ ∀ i (h1 : i < l.length) (h2 : i < m.length),VLf l[i] m[i]
 | [],[],_=>⟨rfl,fun i h=>by simp at h⟩
 | a :: r,b :: q,⟨h,k⟩=>by
  obtain ⟨h1,h2⟩:=k.get
  refine ⟨by simp [h1],fun i a b=>?_⟩
  cases i with
  | zero=>exact h
  | succ i=>simpa using h2 i (by simpa using a) (by simpa using b)
 | [],_ :: _,h=>h.elim
 | _ :: _,[],h=>h.elim
theorem VLf.agg {l m : List V} (h : VLfs l m) : VLf (.agg l) (.agg m):=fun bad w m c x hx=>by
 obtain ⟨h1,h2⟩:=h.get
 obtain ⟨cs,rfl,hsz,hr⟩:=rep_agg hx
 exact .agg (by omega) fun i a b=>h2 i (by omega) a _ _ _ _ _ (hr i (by omega) b)
section
variable {P : Program} {T : TypeId → Option TI} {bad : Nat → Prop} {E : Ent} {N : Nat}
theorem Weak.refl (s : SA) : Weak bad E N s s:=fun a w m hs hl=>⟨m,hs,hl⟩
theorem Weak.trans {s t u : SA} (h : Weak bad E N s t) (k : Weak bad E N t u) : Weak bad E N s u:=fun a w m hs hl=>by
 obtain ⟨m',h1,h2⟩:=h a w m hs hl
 exact k a w m' h1 h2
def SLe : List (Nat × V) → List (Nat × V) → Prop
 | _,[]=>True
 | A,(k,v') :: r=>VLf (lkA A k) v' ∧ SLe A r
theorem SLe.get {A : List (Nat × V)} : ∀ {B : List (Nat × V)},SLe A B → ∀ k,VLf (lkA A k) (lkA B k)
 | [],_,k=>VLf.undef _
 | (j,v') :: r,⟨h,h'⟩,k=>by
  rw [lkA_cons]
  split
  ·rename_i e; subst e; exact h
  ·exact h'.get k
theorem Weak_own {s : SA} (k b : Nat) (e : TypeId) (wd : Nat) (h : lkA s.A k = .ps .nil []) (hb : s.h.get b = none) (hk : Nat.blt k N = true) (hc : Nat.ble E.c s.c = true) :
  Weak bad E N s ⟨(k,.sl b s.c 0 0 true) :: s.A,(b,⟨s.c,e,wd,false,true,[]⟩) :: s.h,s.c + 1⟩:=by
 intro a w m hs hl
 have hc' : E.c ≤ s.c:=Nat.le_of_ble_eq_true hc
 have hmb : m b = none:=hs.2.h.non b hb
 have hle : Le w m s.c w (upd m b (some ⟨s.c,e,wd,0,none⟩)) (s.c + 1):=by
  refine ⟨by omega,fun j l hj hlt=>?_,fun _ _ _=>rfl,Nat.le_refl _,rfl,rfl,rfl,fun j l β hj hβ=>?_⟩
  ·unfold upd at hj; split at hj
   ·cases hj; exact absurd hlt (Nat.lt_irrefl _)
   ·exact hj
  ·unfold upd at hj; split at hj
   ·cases hj; cases hβ
   ·exact .inr ⟨j,l,hj,hβ⟩
 refine ⟨upd m b (some ⟨s.c,e,wd,0,none⟩),?_,hl.trans hle⟩
 have hx:=hs.2.t.2 k
 simp only [SA.st] at hx
 rw [mkT_getD hs.1,h] at hx
 have hx' : a.tmps.getD k Go.undef = .slice none 0 0:=by
  cases hx with
  | pure hp =>
   generalize a.tmps.getD k Go.undef = y at hp
   cases hp with
   | psNil=>rfl
   | ps hn=>exact absurd rfl hn
 refine ⟨by simp only [keysLt,hk,hs.1,Bool.true_and],⟨⟨by simpa [SA.st,mkT_length] using hs.2.t.1,fun i=>?_⟩,?_,hs.2.d⟩⟩
 ·have h1:=hs.2.t.2 i
  simp only [SA.st] at h1 ⊢
  rw [mkT_getD hs.1] at h1
  rw [mkT_getD (by simp only [keysLt,hk,hs.1,Bool.true_and]),lkA_cons]
  split
  ·rename_i hki; subst hki
   rw [hx']
   refine .sl (Nat.lt_succ_self _) rfl fun l hl1 hl2=>?_
   simp only [upd,if_true,Option.some.injEq] at hl1
   subst hl1
   exact .inl ⟨rfl,rfl,rfl,rfl⟩
  ·exact h1.mono hle
 ·refine ⟨fun j B hj=>?_,fun j hj=>?_,hs.2.h.lt,fun j l β hj hβ=>?_,fun j j' l l' β hj hj' hβ hβ'=>?_⟩
  ·simp only [SA.st,Hp.get] at hj
   split at hj
   ·rename_i e; subst e; cases hj
    exact ⟨⟨s.c,e,wd,0,none⟩,by simp only [upd,if_true],rfl,rfl,rfl,Nat.lt_succ_self _,.inl ⟨rfl,rfl,rfl⟩⟩
   ·rename_i hne
    obtain ⟨l,h1,h2⟩:=hs.2.h.get j B hj
    exact ⟨l,by simp only [upd,if_neg (Ne.symm hne)]; exact h1,h2.mono hle fun _ _=>rfl⟩
  ·simp only [SA.st,Hp.get] at hj
   split at hj
   ·cases hj
   ·rename_i hne; simp only [upd,if_neg (Ne.symm hne)]; exact hs.2.h.non j hj
  ·unfold upd at hj; split at hj
   ·cases hj; cases hβ
   ·exact hs.2.h.nb j l β hj hβ
  ·unfold upd at hj hj'
   split at hj
   ·cases hj; cases hβ
   ·split at hj'
    ·cases hj'; cases hβ'
    ·exact hs.2.h.inj j j' l l' β hj hj' hβ hβ'
def trA (h : Hp) (κ : Nat → Option (Nat × Nat)) : List (Nat × V) → Option (List (Nat × V))
 | []=>some []
 | (k,v) :: r=>match trV h κ [] 5 v,trA h κ r with
  | some v',some r'=>some ((k,v') :: r')
  | _,_=>none
theorem trA_get {h : Hp} {κ : Nat → Option (Nat × Nat)} : ∀ {A A' : List (Nat × V)},trA h κ A = some A' → ∀ k,trV h κ [] 5 (lkA A k) = some (lkA A' k)
 | [],A',ha,k=>by
  simp only [trA,Option.some.injEq] at ha
  subst ha; rfl
 | (j,v) :: r,A',ha,k=>by
  simp only [trA] at ha
  split at ha
  ·rename_i v' r' h1 h2
   cases ha
   rw [lkA_cons,lkA_cons]
   split
   ·exact h1
   ·exact trA_get h2 k
  ·cases ha
theorem trA_keys {h : Hp} {κ : Nat → Option (Nat × Nat)} : ∀ {A A' : List (Nat × V)},trA h κ A = some A' → keysLt N A = true → keysLt N A' = true
 | [],A',ha,_=>by
  simp only [trA,Option.some.injEq] at ha
  subst ha; rfl
 | (j,v) :: r,A',ha,hk=>by
  simp only [trA] at ha
  split at ha
  ·rename_i v' r' h1 h2
   cases ha
   simp only [keysLt,Bool.and_eq_true] at hk ⊢
   exact ⟨hk.1,trA_keys h2 hk.2⟩
  ·cases ha
def nodupB : List Nat → Bool
 | []=>true
 | x :: r=>!(r.any (Nat.beq x)) && nodupB r
theorem nodupB_ok : ∀ {l : List Nat},nodupB l = true → l.Nodup
 | [],_=>List.nodup_nil
 | x :: r,h=>by
  simp only [nodupB,Bool.and_eq_true,Bool.not_eq_true',List.any_eq_false] at h
  refine List.nodup_cons.2 ⟨fun hm=>?_,nodupB_ok h.2⟩
  exact h.1 x hm (Nat.beq_refl x)
def renOk (h : Hp) (c0 c' : Nat) (L : List (Nat × Nat × Nat)) : Bool :=
 Nat.ble c0 c' && nodupB (L.map (·.1)) && nodupB (L.map fun x=>x.2.1) && L.all fun x=>Nat.blt x.2.2 c' && (Nat.ble c0 x.2.2 || (Nat.beq x.1 x.2.1 && match h.get x.1 with
  | some B=>Nat.beq B.s x.2.2
  | none=>false))
theorem Weak_ren {s : SA} (L : List (Nat × Nat × Nat)) (s' : SA) (hA : trA s.h (lookE L) s.A = some s'.A) (hB : moveH s.h (lookE L) [] L = some s'.h) (hc : renOk s.h E.c s'.c L = true) : Weak bad E N s s':=by
 obtain ⟨A',h',c'⟩:=s'
 simp only at hA hB hc
 intro a w m hs hl
 simp only [renOk,Bool.and_eq_true,List.all_eq_true,Bool.or_eq_true] at hc
 obtain ⟨⟨⟨hc0,hd1⟩,hd2⟩,hall⟩:=hc
 replace hc0 : E.c ≤ c':=Nat.le_of_ble_eq_true hc0
 replace hd1:=nodupB_ok hd1
 replace hd2:=nodupB_ok hd2
 have hst : ∀ {x y z},(x,y,z) ∈ L → z < c':=fun hm=>by
  have:=(hall _ hm).1
  simpa using this
 have hh:=hs.2.h
 simp only [SA.st] at hh
 let m' : MM:=moveM m L
 have m'_of : ∀ k l,m' k = some l → ∃ b l0 z,(b,k,z) ∈ L ∧ m b = some l0 ∧ l = { l0 with s:=z }:=fun k l hk=>by
  simp only [m',moveM] at hk
  split at hk
  ·rename_i b z hv
   simp only [Option.map_eq_some_iff] at hk
   obtain ⟨l0,h1,rfl⟩:=hk
   exact ⟨b,l0,z,revE_mem hv,h1,rfl⟩
  ·cases hk
 have key_inj : ∀ {b k k' z z'},(b,k,z) ∈ L → (b,k',z') ∈ L → k = k':=fun {b k k' z z'} h1 h2=>by
  have : ∀ (G : List (Nat × Nat × Nat)),(G.map (·.1)).Nodup → (b,k,z) ∈ G → (b,k',z') ∈ G → k = k':=by
   intro G
   induction G with
   | nil=>intro _ h; cases h
   | cons x t ih =>
    intro hn h1 h2
    simp only [List.map_cons,List.nodup_cons] at hn
    rcases List.mem_cons.1 h1 with h1 | h1 <;> rcases List.mem_cons.1 h2 with h2 | h2
    ·rw [← h1] at h2; cases h2; rfl
    ·exact absurd (List.mem_map.2 ⟨_,h2,by rw [← h1]⟩) hn.1
    ·exact absurd (List.mem_map.2 ⟨_,h1,by rw [← h2]⟩) hn.1
    ·exact ih hn.2 h1 h2
  exact this L hd1 h1 h2
 have hok : ∀ β,okOf bad w m β → okOf bad w m' β:=fun β hβ=>⟨hβ.1,hβ.2.1,fun k l h1 h2=>by
  obtain ⟨b,l0,z,_,h3,rfl⟩:=m'_of k l h1
  exact hβ.2.2 b l0 h3 h2⟩
 have hκ : ∀ b b' z,lookE L b = some (b',z) → z < c' ∧ ∀ l,m b = some l → m' b' = some { l with s:=z }:=fun b b' z hk=>by
  have hmem:=lookE_mem hk
  refine ⟨hst hmem,fun l hl=>?_⟩
  simp only [m',moveM,revE_of hd2 hmem,hl,Option.map_some]
 have hbor : ∀ b ∈ ([] : List Nat),lookE L b = none → ∀ l β,m b = some l → l.blk = some β → okOf bad w m' β:=fun b hb=>by cases hb
 have hle : E.le w m' c':=by
  refine ⟨hc0,fun k l h1 h2=>?_,fun β hβ hno=>hl.keep β hβ hno,hl.size,hl.os,hl.output,hl.tape,fun k l β h1 h2=>?_⟩
  ·obtain ⟨b,l0,z,h3,h4,rfl⟩:=m'_of k l h1
   rcases (hall _ h3).2 with h5 | h5
   ·have:=Nat.le_of_ble_eq_true h5
    simp only at this h2
    omega
   ·obtain ⟨h5,h6⟩:=h5
    split at h6
    ·rename_i B hB'
     have e1 : b = k:=Nat.eq_of_beq_eq_true h5
     have e2 : B.s = z:=Nat.eq_of_beq_eq_true h6
     subst e1
     obtain ⟨l1,h7,h8,_⟩:=hh.get b B hB'
     rw [h4] at h7; cases h7
     have e3 : ({ l0 with s:=z } : Loc) = l0:=by rw [← e2,← h8]
     rw [e3] at h2 ⊢
     exact hl.hm b l0 h4 h2
    ·cases h6
  ·obtain ⟨b,l0,z,h3,h4,rfl⟩:=m'_of k l h1
   exact hl.range b l0 β h4 h2
 refine ⟨m',⟨trA_keys hA hs.1,⟨⟨by simpa [SA.st,mkT_length] using hs.2.t.1,fun i=>?_⟩,?_,hs.2.d⟩⟩,hle⟩
 ·have h1:=hs.2.t.2 i
  simp only [SA.st] at h1 ⊢
  rw [mkT_getD hs.1] at h1
  rw [mkT_getD (trA_keys hA hs.1)]
  exact trV_sound hh hok hκ hbor 5 _ _ _ h1 (trA_get hA i)
 ·simp only [SA.st]
  refine ⟨fun k B hk=>?_,fun k hk=>?_,hh.lt,fun k l β h1 h2 h3=>?_,fun k k' l l' β h1 h2 h3 h4=>?_⟩
  ·obtain ⟨g1,g2⟩:=moveH_get hB k
   cases hv : revE L k with
   | none=>rw [g1 hv] at hk; cases hk
   | some y =>
    obtain ⟨b,z⟩:=y
    obtain ⟨B0,es,g3,g4,g5⟩:=g2 b z hv
    rw [g5] at hk; cases hk
    obtain ⟨l,hm,_⟩:=hh.get b B0 g3
    exact ⟨{ l with s:=z },by simp [m',moveM,hv,hm],move_content hh hok hκ hbor g3 g4 (hst (revE_mem hv)) hm⟩
  ·obtain ⟨g1,g2⟩:=moveH_get hB k
   cases hv : revE L k with
   | none=>simp [m',moveM,hv]
   | some y =>
    obtain ⟨b,z⟩:=y
    obtain ⟨B0,es,g3,g4,g5⟩:=g2 b z hv
    rw [g5] at hk; cases hk
  ·obtain ⟨b,l0,z,_,h6,rfl⟩:=m'_of k l h1
   exact hh.nb b l0 β h6 h2 h3
  ·obtain ⟨b,l0,z,h5,h6,rfl⟩:=m'_of k l h1
   obtain ⟨b',l0',z',h5',h6',rfl⟩:=m'_of k' l' h2
   have : b = b':=hh.inj b b' l0 l0' β h6 h6' h3 h4
   subst this
   exact key_inj h5 h5'
inductive FzV (b s : Nat) (es : List V) : V → V → Prop
 | hit (tip : Bool) : FzV b s es (.sl b s 0 es.length tip) (.ps .opt es)
 | keep (v : V) : FzV b s es v v
 | agg {vs vs' : List V} (h : vs.length = vs'.length) (hv : ∀ i (h1 : i < vs.length) (h2 : i < vs'.length),FzV b s es vs[i] vs'[i]) : FzV b s es (.agg vs) (.agg vs')
 | tup {vs vs' : List V} (h : vs.length = vs'.length) (hv : ∀ i (h1 : i < vs.length) (h2 : i < vs'.length),FzV b s es vs[i] vs'[i]) : FzV b s es (.tup vs) (.tup vs')
def Fzs (b s : Nat) (es : List V) : List V → List V → Prop
 | [],[]=>True
 | a :: r,d :: q=>FzV b s es a d ∧ Fzs b s es r q
 | _,_=>False
theorem Fzs.get {b s : Nat} {es : List V} : ∀ {l m : List V},Fzs b s es l m → l.length = m.length ∧ ∀ i (h1 : i < l.length) (h2 : i < m.length),FzV b s es l[i] m[i]
 | [],[],_=>⟨rfl,fun i h=>by simp at h⟩
 | a :: r,d :: q,⟨h,k⟩=>by
  obtain ⟨h1,h2⟩:=k.get
  refine ⟨by simp [h1],fun i a b=>?_⟩
  cases i with
  | zero=>exact h
  | succ i=>simpa using h2 i (by simpa using a) (by simpa using b)
 | [],_ :: _,h=>h.elim
 | _ :: _,[],h=>h.elim
theorem FzV.aggs {b s : Nat} {es l m : List V} (h : Fzs b s es l m) : FzV b s es (.agg l) (.agg m):=.agg h.get.1 h.get.2
def FzA (b s : Nat) (es : List V) : List (Nat × V) → List (Nat × V) → Prop
 | [],[]=>True
 | (k,v) :: r,(k',v') :: r'=>k = k' ∧ FzV b s es v v' ∧ FzA b s es r r'
 | _,_=>False
theorem FzA.get {b s : Nat} {es : List V} : ∀ {A A' : List (Nat × V)},FzA b s es A A' → ∀ k,FzV b s es (lkA A k) (lkA A' k)
 | [],[],_,k=>.keep _
 | (j,v) :: r,(j',v') :: r',⟨h1,h2,h3⟩,k=>by
  subst h1
  rw [lkA_cons,lkA_cons]
  split
  ·exact h2
  ·exact h3.get k
 | [],_ :: _,h,_=>h.elim
 | _ :: _,[],h,_=>h.elim
theorem FzA.keys {b s : Nat} {es : List V} : ∀ {A A' : List (Nat × V)},FzA b s es A A' → keysLt N A = true → keysLt N A' = true
 | [],[],_,_=>rfl
 | (j,v) :: r,(j',v') :: r',⟨h1,h2,h3⟩,hk=>by
  subst h1
  simp only [keysLt,Bool.and_eq_true] at hk ⊢
  exact ⟨hk.1,h3.keys hk.2⟩
 | [],_ :: _,h,_=>h.elim
 | _ :: _,[],h,_=>h.elim
theorem FzV.sound {w : World} {m : MM} {c : Nat} {h : Hp} (hh : HeapRep bad h w m c) {b s : Nat} {B : Blk} (hg : h.get b = some B) (hs : B.s = s) (hv : B.var = false) {v v' : V} (hf : FzV b s B.es v v') :
  ∀ {x : Value},Rep bad w m c v x → Rep bad w (upd m b none) c v' x:=by
 induction hf with
 | hit tip =>
  intro x hx
  obtain ⟨l,hm,hls,_,_,_,hd⟩:=hh.get b B hg
  rcases hd with ⟨_,hblk,hes⟩ | ⟨_,β1,cs1,hblk,_⟩
  ·cases hx with
   | pure hp=>cases hp
   | sl _ _ hb =>
    rcases hb l hm (hls.trans hs) with ⟨_,_,h3,rfl⟩ | ⟨β,_,h1,_⟩
    ·rw [hes]; exact .pure (.psNil (by simp))
    ·rw [hblk] at h1; cases h1
  ·have:=frz_rowX hh hg hs hv (fun l1 hl1 _=>by rw [hm] at hl1; cases hl1; rw [hblk]; simp) (by omega) hx
   simp only [List.drop_zero,List.take_length] at this
   exact .pure (VLe.any_opt _ _ _ this)
 | keep v=>intro x hx; exact hx.mono (hh.erase b).1
 | agg hl hvs ih =>
  intro x hx
  obtain ⟨cs,rfl,hsz,hr⟩:=rep_agg hx
  exact .agg (by omega) fun i a b=>ih i (by omega) a (hr i (by omega) b)
 | tup hl hvs ih =>
  intro x hx
  cases hx with
  | pure hp=>cases hp with
   | tup hl' hr=>exact .tup (by omega) fun i a b=>ih i (by omega) a (.pure (hr i (by omega) b))
  | tup hl' hr=>exact .tup (by omega) fun i a b=>ih i (by omega) a (hr i (by omega) b)
theorem FzV.cells {b s : Nat} {es : List V} {v v' : V} (h : FzV b s es v v') : v.cells.length = v'.cells.length ∧ ∀ j (h1 : j < v.cells.length) (h2 : j < v'.cells.length),FzV b s es v.cells[j] v'.cells[j]:=by
 cases h with
 | hit tip=>exact ⟨rfl,fun j h1 h2=>by
   have : j = 0:=by simpa [V.cells] using h1
   subst this; exact .hit tip⟩
 | keep v=>exact ⟨rfl,fun j h1 h2=>.keep _⟩
 | agg hl hv=>exact ⟨hl,hv⟩
 | tup hl hv=>exact ⟨rfl,fun j h1 h2=>by
   have : j = 0:=by simpa [V.cells] using h1
   subst this; exact .tup hl hv⟩
def FzH (b s : Nat) (es : List V) : Hp → Hp → Prop
 | [],[]=>True
 | (k,B) :: r,(k',B') :: r'=>k = k' ∧ (B = B' ∨ (B.var = true ∧ B' = { B with es:=B'.es } ∧ Fzs b s es B.es B'.es)) ∧ FzH b s es r r'
 | _,_=>False
theorem FzH.get {b s : Nat} {es : List V} : ∀ {h h' : Hp},FzH b s es h h' → ∀ k,(h.get k = none ∧ h'.get k = none) ∨ ∃ B B',h.get k = some B ∧ h'.get k = some B' ∧ (B = B' ∨ (B.var = true ∧ B' = { B with es:=B'.es } ∧ Fzs b s es B.es B'.es))
 | [],[],_,k=>.inl ⟨rfl,rfl⟩
 | (j,B) :: r,(j',B') :: r',⟨h1,h2,h3⟩,k=>by
  subst h1
  simp only [Hp.get]
  by_cases e : j = k
  ·simp only [e,if_true]; exact .inr ⟨B,B',rfl,rfl,h2⟩
  ·simp only [if_neg e]; exact h3.get k
 | [],_ :: _,h,_=>h.elim
 | _ :: _,[],h,_=>h.elim
theorem Weak_frz {s : SA} (b st : Nat) (B : Blk) (hg : s.h.get b = some B) (hs : B.s = st) (hv : B.var = false) (A' : List (Nat × V)) (h' : Hp) (hA : FzA b st B.es s.A A') (hH : FzH b st B.es (s.h.erase b) h') : Weak bad E N s ⟨A',h',s.c⟩:=by
 intro a w m hsr hl
 have hh:=hsr.2.h
 simp only [SA.st] at hh
 obtain ⟨h1,h2⟩:=hh.erase b
 refine ⟨upd m b none,⟨hA.keys hsr.1,⟨⟨by simpa [SA.st,mkT_length] using hsr.2.t.1,fun i=>?_⟩,?_,hsr.2.d⟩⟩,hl.trans h1⟩
 ·have h3:=hsr.2.t.2 i
  simp only [SA.st] at h3 ⊢
  rw [mkT_getD hsr.1] at h3
  rw [mkT_getD (hA.keys hsr.1)]
  exact FzV.sound hh hg hs hv (hA.get i) h3
 ·simp only [SA.st]
  refine ⟨fun k B1 hk=>?_,fun k hk=>?_,h2.lt,h2.nb,h2.inj⟩
  ·rcases hH.get k with ⟨_,e2⟩ | ⟨B0,B0',e1,e2,e3⟩
   ·rw [e2] at hk; cases hk
   ·rw [e2] at hk; cases hk
    rcases e3 with rfl | ⟨e4,e5,e6⟩
    ·exact h2.get k B0 e1
    ·have hne : b ≠ k:=by
      intro e; subst e
      rw [Hp.get_erase,if_pos rfl] at e1; cases e1
     rw [Hp.get_erase,if_neg hne] at e1
     obtain ⟨l,p1,p2,p3,p4,p5,p6⟩:=hh.get k B0 e1
     obtain ⟨q1,q2⟩:=e6.get
     refine ⟨l,by simp [upd,Ne.symm hne,p1],?_⟩
     rw [e5]
     refine ⟨p2,p3,p4,p5,?_⟩
     rcases p6 with ⟨r1,r2,r3⟩ | ⟨r1,β,cs,r2,r3,r4,r5,r6,r7⟩
     ·exact .inl ⟨r1,r2,by rw [r3] at q1; exact List.length_eq_zero_iff.1 q1.symm⟩
     ·refine .inr ⟨trivial,β,cs,r2,r3,r4,by simp only; rw [← q1]; exact r5,fun i hi=>?_,fun i hi j hj=>?_⟩
      ·simp only at hi
       rw [← (q2 i (by omega) hi).cells.1]; exact r6 i (by omega)
      ·simp only at hi hj
       obtain ⟨c1,c2⟩:=(q2 i (by omega) hi).cells
       obtain ⟨x,hx,hr⟩:=r7 i (by omega) j (by rw [c1]; exact hj)
       refine ⟨x,hx,?_⟩
       simp only [e4,RepC,if_true] at hr ⊢
       exact FzV.sound hh hg hs hv (c2 j (by rw [c1]; exact hj) hj) hr
  ·rcases hH.get k with ⟨e1,_⟩ | ⟨B0,B0',e1,e2,e3⟩
   ·exact h2.non k e1
   ·rw [e2] at hk; cases hk
end
end Go.Mx
