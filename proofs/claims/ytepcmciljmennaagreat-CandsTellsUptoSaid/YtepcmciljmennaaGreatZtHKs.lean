/-
  The library's sort and compact lie in the program as the shelf has them.
-/
import Derived.Test.YtepcmciljmennaaGreatZtCXT
import Derived.Shelf.Sort.Plain
import Derived.Shelf.Slices.CompactI
import Derived.Shelf.Slices.In.SortNone
import Derived.Test.YtepcmciljmennaaGreatChecked
import Derived.WalkKit
import Derived.KernelRfl
namespace Go.Mx
open Go.Proofs Go.Shelf
set_option linter.unusedVariables false
set_option linter.unusedSimpArgs false
theorem row_over {bad : Nat → Prop} {w w' : World} {m : MM} {e : TypeId} {nl nl' : Bool} {l l' : List Int} {L : Loc} {β : Nat} {cs cs' : Array Value}
  (hh : HeapRep bad [(0,⟨0,e,1,false,nl,l.map e_i64⟩)] w m 1) (hm : m 0 = some L) (hblk : L.blk = some β)
  (hcs : w.heap[β]? = some (.cells cs e (0,0))) (hcs' : w'.heap[β]? = some (.cells cs' e (0,0))) (hsz : cs'.size = cs.size)
  (hall : ∀ j (h : j < l'.length),cs'[j]? = some (.int .i64 l'[j])) (hlen : l'.length ≤ l.length)
  (hk : ∀ γ,γ < w.heap.size → γ ≠ β → w'.heap[γ]? = w.heap[γ]?) (hs : w.heap.size ≤ w'.heap.size) (ho : w'.os = w.os) (hp : w'.output = w.output) (ht : w'.tape = w.tape) :
  Le w m 1 w' m 2 ∧ HeapRep bad [(0,⟨0,e,1,false,nl',l'.map e_i64⟩)] w' m 2:=by
 have hle : Le w m 1 w' m 2:=⟨by omega,fun _ _ h _=>h,fun γ hγ hno=>hk γ hγ (fun e=>hno 0 L hm (e ▸ hblk)),hs,ho,hp,ht,fun b l β h h'=>.inr ⟨b,l,h,h'⟩⟩
 refine ⟨hle,?_,?_,fun γ hγ=>Nat.lt_of_lt_of_le (hh.lt γ hγ) hs,hh.nb,hh.inj⟩
 ·intro b B hb
  simp only [Hp.get] at hb
  split at hb
  ·rename_i e0
   subst e0
   cases hb
   obtain ⟨L',h1,h2,h3,h4,h5,h6⟩:=hh.get 0 ⟨0,e,1,false,nl,l.map e_i64⟩ rfl
   rw [hm] at h1; cases h1
   refine ⟨L,hm,h2,h3,h4,Nat.succ_pos 1,.inr ⟨trivial,β,cs',hblk,hcs',?_,?_,?_,?_⟩⟩
   ·rcases h6 with ⟨_,h6,_⟩ | ⟨_,β',cs0,h7,h8,h9,h10,_⟩
    ·rw [hblk] at h6; cases h6
    ·rw [hblk] at h7; cases h7
     rw [hcs] at h8; cases h8
     omega
   ·rcases h6 with ⟨_,h6,_⟩ | ⟨_,β',cs0,h7,h8,h9,h10,_⟩
    ·rw [hblk] at h6; cases h6
    ·simp only [List.length_map] at h10 ⊢
     omega
   ·intro i hi
    simp only [List.getElem_map]
    rfl
   ·intro i hi j hj
    have hi' : i < l'.length:=by simpa using hi
    simp only [List.getElem_map] at hj ⊢
    have : j = 0:=by
     have : j < 1:=hj
     omega
    subst this
    exact ⟨.int .i64 l'[i],by simpa using hall i hi',.p _⟩
  ·cases hb
 ·intro b hb
  refine hh.non b ?_
  simp only [Hp.get] at hb ⊢
  split at hb
  ·cases hb
  ·rename_i h; rw [if_neg h]
theorem row_same {bad : Nat → Prop} {w : World} {m : MM} {e : TypeId} {nl : Bool} {es : List V} (hh : HeapRep bad [(0,⟨0,e,1,false,nl,es⟩)] w m 1) :
  Le w m 1 w m 2 ∧ HeapRep bad [(0,⟨0,e,1,false,nl,es⟩)] w m 2:=by
 have hle : Le w m 1 w m 2:=⟨by omega,fun _ _ h _=>h,fun _ _ _=>rfl,Nat.le_refl _,rfl,rfl,rfl,fun b l β h h'=>.inr ⟨b,l,h,h'⟩⟩
 refine ⟨hle,fun b B hb=>?_,hh.non,hh.lt,hh.nb,hh.inj⟩
 obtain ⟨L,h1,h2⟩:=hh.get b B hb
 exact ⟨L,h1,h2.mono hle fun _ _=>rfl⟩
theorem row_arg {bad : Nat → Prop} {w : World} {m : MM} {e : TypeId} {nl tip : Bool} {l : List Int} {x : Value} (hh : HeapRep bad [(0,⟨0,e,1,false,nl,l.map e_i64⟩)] w m 1)
  (hr : Rep bad w m 1 (.sl 0 0 0 (l.map e_i64).length tip) x) : ∃ L,m 0 = some L ∧ L.s = 0 ∧ L.w = 1 ∧
   ((L.blk = none ∧ l = [] ∧ x = .slice none 0 0) ∨ ∃ β cap cs,L.blk = some β ∧ x = .slice (some ⟨β,0,none⟩) l.length cap ∧ l.length ≤ cap ∧ cap ≤ L.n ∧ cap ≤ maxLen ∧
    w.heap[β]? = some (.cells cs e (0,0)) ∧ cs.size = L.n ∧ ∀ j (h : j < l.length),cs[j]? = some (.int .i64 l[j])):=by
 obtain ⟨L,h1,h2,h3,h4,h5,h6⟩:=hh.get 0 ⟨0,e,1,false,nl,l.map e_i64⟩ rfl
 simp only at h2 h3 h4
 refine ⟨L,h1,h2,h3,?_⟩
 cases hr with
 | pure hr=>cases hr
 | sl hs hx h =>
  rcases h L h1 h2 with ⟨p1,_,p3,rfl⟩ | ⟨β,cap,p1,rfl,p3,p4,p5,_⟩
  ·refine .inl ⟨p1,?_,rfl⟩
   simpa using p3
  ·rcases h6 with ⟨_,q,_⟩ | ⟨_,β',cs,q1,q2,q3,q4,q5,q6⟩
   ·rw [p1] at q; cases q
   ·rw [p1] at q1; cases q1
    rw [h3] at p4
    refine .inr ⟨β,cap,cs,p1,by simp,by simpa using p3,by omega,p5,q2,q3,fun j hj=>?_⟩
    obtain ⟨y,y1,y2⟩:=q6 j (by simpa using hj) 0 (by simp [V.cells,e_i64])
    simp only [Nat.mul_one,Nat.add_zero] at y1
    rw [y1]
    have y3 : RepP w (okOf bad w m) (.p (.int .i64 l[j])) y:=by simpa [RepC,V.cells,e_i64] using y2
    cases y3
    rfl
theorem frozen_row {w : World} {β off : Nat} {cs : Array Value} {e : TypeId} (h : w.heap[β]? = some (.cells cs e (0,0))) : w.frozen? ⟨β,off,none⟩ = false:=by
 simp only [World.frozen?,h]
 simp
theorem holds_row {w : World} {β : Nat} {cs : Array Value} {e : TypeId} {l : List Int} (h : w.heap[β]? = some (.cells cs e (0,0))) (hj : ∀ j (h : j < l.length),cs[j]? = some (.int .i64 l[j])) : Sort.Holds (Value.int .i64) w β 0 l.toArray:=by
 intro j hlt
 have hlt' : j < l.length:=by simpa using hlt
 refine ⟨?_,frozen_row h⟩
 rw [Nat.zero_add,cell_of_row w β j cs _ _ h,hj j hlt']
 simp [hlt']
theorem put_row {w : World} {β n : Nat} {os : Array Obj} {cs : Array Value} {e : TypeId} {d : List Int} (h : w.heap[β]? = some (.cells cs e (0,0))) (hd : d.length ≤ cs.size) :
  ∃ cs',(Sort.grow (Sort.putRow (Value.int .i64) (Sort.ahead w n) β 0 d.toArray) os).heap[β]? = some (.cells cs' e (0,0)) ∧ cs'.size = cs.size ∧ ∀ j (h : j < d.length),cs'[j]? = some (.int .i64 d[j]):=by
 have hβ : β < w.heap.size:=(Array.getElem?_eq_some_iff.1 h).1
 refine ⟨Sort.putCells (Value.int .i64) 0 d.toArray cs,?_,by simp [Sort.putCells],fun j hj=>?_⟩
 ·simp only [Sort.grow,Sort.putRow,Sort.mapBlock,Sort.ahead]
  rw [Array.getElem?_append_left (by simpa using hβ),Array.getElem?_modify,if_pos rfl,h]
  rfl
 ·have : j < cs.size:=by omega
  simp [Sort.putCells,this,hj]
theorem put_other {w : World} {β n γ : Nat} {os : Array Obj} {d : Array Int} (hγ : γ < w.heap.size) (hne : γ ≠ β) :
  (Sort.grow (Sort.putRow (Value.int .i64) (Sort.ahead w n) β 0 d) os).heap[γ]? = w.heap[γ]?:=by
 simp only [Sort.grow,Sort.putRow,Sort.mapBlock,Sort.ahead]
 rw [Array.getElem?_append_left (by simpa using hγ),Array.getElem?_modify,if_neg (Ne.symm hne)]
theorem put_size {w : World} {β n : Nat} {os : Array Obj} {d : Array Int} : w.heap.size ≤ (Sort.grow (Sort.putRow (Value.int .i64) (Sort.ahead w n) β 0 d) os).heap.size:=by
 simp [Sort.grow,Sort.putRow,Sort.mapBlock,Sort.ahead]
section
variable {P : Program} {ρ : Ren}
theorem sort_go (Ly : Lays.n189 P ρ) (e : TypeId) (nl tip : Bool) (l : List Int) (hl : sroomI l = true) :
  GO P (ρ.f 189) [(0,⟨0,e,1,false,nl,l.map e_i64⟩)] [.sl 0 0 0 (l.map e_i64).length tip] (.tup []) [(0,⟨0,e,1,false,true,(srt l).map e_i64⟩)]:=by
 intro bad w m xs hh hlen hrep
 obtain ⟨x,rfl⟩ : ∃ x,xs = #[x]:=by
  obtain ⟨xs⟩:=xs
  match xs,hlen with
  | [x],_=>exact ⟨x,rfl⟩
 have hx : Rep bad w m 1 (.sl 0 0 0 (l.map e_i64).length tip) x:=hrep 0 (by simp) (by simp)
 obtain ⟨L,hm,hs,hw,hc⟩:=row_arg hh hx
 have hup : l = [] → Le w m 1 w m 2 ∧ HeapRep bad [(0,⟨0,e,1,false,true,(srt l).map e_i64⟩)] w m 2:=fun h0=>by
  subst h0
  have h1 : HeapRep bad [(0,⟨0,e,1,false,true,([] : List Int).map e_i64⟩)] w m 1:=by
   refine ⟨fun b B hb=>?_,fun b hb=>hh.non b ?_,hh.lt,hh.nb,hh.inj⟩
   ·simp only [Hp.get] at hb
    split at hb
    ·rename_i e0; subst e0; cases hb
     obtain ⟨L',h1,h2,h3,h4,h5,h6⟩:=hh.get 0 ⟨0,e,1,false,nl,([] : List Int).map e_i64⟩ rfl
     refine ⟨L',h1,h2,h3,h4,h5,?_⟩
     rcases h6 with ⟨_,q,r⟩ | h6
     ·exact .inl ⟨rfl,q,r⟩
     ·exact .inr h6
    ·cases hb
   ·simp only [Hp.get] at hb ⊢
    split at hb
    ·cases hb
    ·rename_i h; rw [if_neg h]
  have h2:=row_same h1
  have e2 : srt [] = []:=by simp [srt]
  rw [e2]
  exact h2
 have htup : ∀ w',Rep bad w' m 2 (.tup []) (.tuple #[]):=fun w'=>.tup rfl (fun i h1=>by simp at h1)
 rcases hc with ⟨_,h0,rfl⟩ | ⟨β,cap,cs,hblk,rfl,h1,h2,h3,h4,h5,h6⟩
 ·refine (Any.slices_Sort_int_none Ly none 0 w).mono ?_
  rintro en w' ⟨rfl,rfl⟩
  exact ⟨_,m,rfl,htup _,hup h0⟩
 ·by_cases h0 : l = []
  ·have e0 : l.length = 0:=by rw [h0]; rfl
   rw [e0]
   refine (Any.slices_Sort_int_none Ly (some ⟨β,0,none⟩) cap w).mono ?_
   rintro en w' ⟨rfl,rfl⟩
   exact ⟨_,m,rfl,htup _,hup h0⟩
  ·have hβ : β < w.heap.size:=(Array.getElem?_eq_some_iff.1 h4).1
   refine (Any.slices_Sort_int Ly β 0 cap l w (holds_row h4 h6) hβ (by simpa [sroomI] using hl)).mono ?_
   rintro en w' ⟨rfl,n,os,rfl⟩
   obtain ⟨cs',c1,c2,c3⟩:=put_row (n:=n) (os:=os) (d:=srt l) h4 (by rw [srt_length]; omega)
   exact ⟨_,m,rfl,htup _,row_over hh hm hblk h4 c1 c2 c3 (by rw [srt_length]; omega) (fun γ hγ hne=>put_other hγ hne) put_size rfl rfl rfl⟩
theorem compact_go (Ly : Lays2.n20 P ρ) (e : TypeId) (nl tip : Bool) (l : List Int) (hl : sroomI l = true) :
  GO P (ρ.f 20) [(0,⟨0,e,1,false,nl,l.map e_i64⟩)] [.sl 0 0 0 (l.map e_i64).length tip] (.sl 0 0 0 ((cpt l).map e_i64).length false) [(0,⟨0,e,1,false,true,(cpt l).map e_i64⟩)]:=by
 intro bad w m xs hh hlen hrep
 obtain ⟨x,rfl⟩ : ∃ x,xs = #[x]:=by
  obtain ⟨xs⟩:=xs
  match xs,hlen with
  | [x],_=>exact ⟨x,rfl⟩
 have hx : Rep bad w m 1 (.sl 0 0 0 (l.map e_i64).length tip) x:=hrep 0 (by simp) (by simp)
 obtain ⟨L,hm,hs,hw,hc⟩:=row_arg hh hx
 have e2 : cpt [] = []:=rfl
 have hup : l = [] → Le w m 1 w m 2 ∧ HeapRep bad [(0,⟨0,e,1,false,true,(cpt l).map e_i64⟩)] w m 2:=fun h0=>by
  subst h0
  have h1 : HeapRep bad [(0,⟨0,e,1,false,true,([] : List Int).map e_i64⟩)] w m 1:=by
   refine ⟨fun b B hb=>?_,fun b hb=>hh.non b ?_,hh.lt,hh.nb,hh.inj⟩
   ·simp only [Hp.get] at hb
    split at hb
    ·rename_i e0; subst e0; cases hb
     obtain ⟨L',h1,h2,h3,h4,h5,h6⟩:=hh.get 0 ⟨0,e,1,false,nl,([] : List Int).map e_i64⟩ rfl
     refine ⟨L',h1,h2,h3,h4,h5,?_⟩
     rcases h6 with ⟨_,q,r⟩ | h6
     ·exact .inl ⟨rfl,q,r⟩
     ·exact .inr h6
    ·cases hb
   ·simp only [Hp.get] at hb ⊢
    split at hb
    ·cases hb
    ·rename_i h; rw [if_neg h]
  have h2:=row_same h1
  rw [e2]
  exact h2
 rcases hc with ⟨hb0,h0,rfl⟩ | ⟨β,cap,cs,hblk,rfl,h1,h2,h3,h4,h5,h6⟩
 ·refine (Any.slices_Compact_int_empty Ly none 0 w).mono ?_
  rintro en w' ⟨rfl,rfl⟩
  refine ⟨_,m,rfl,?_,hup h0⟩
  subst h0
  rw [e2]
  refine .sl (by decide) rfl fun l' q1 q2=>?_
  rw [hm] at q1; cases q1
  exact .inl ⟨hb0,rfl,rfl,rfl⟩
 ·by_cases h0 : l = []
  ·have e0 : l.length = 0:=by rw [h0]; rfl
   rw [e0]
   refine (Any.slices_Compact_int_empty Ly (some ⟨β,0,none⟩) cap w).mono ?_
   rintro en w' ⟨rfl,rfl⟩
   refine ⟨_,m,rfl,?_,hup h0⟩
   subst h0
   rw [e2]
   refine .sl (by decide) rfl fun l' q1 q2=>?_
   rw [hm] at q1; cases q1
   exact .inr ⟨β,cap,hblk,by simp,by simp,by rw [hw]; omega,h3,fun h=>by cases h⟩
  ·have hβ : β < w.heap.size:=(Array.getElem?_eq_some_iff.1 h4).1
   have hlt : l.length < 4611686018427387904:=by simpa [sroomI] using hl
   refine (Any.slices_Compact_int Ly β 0 cap l w (holds_row h4 h6) (by omega) h1).mono ?_
   rintro en w' ⟨rfl,n,rfl⟩
   have hcl : (Lib.compact l).length ≤ l.length:=cpt_length l
   obtain ⟨cs',c1,c2,c3⟩:=put_row (n:=n) (os:=#[]) (d:=Lib.compact l ++ List.replicate (l.length - (Lib.compact l).length) 0) h4 (by simp; omega)
   rw [Sort.grow_empty] at c1
   have hget : ∀ j (h : j < (cpt l).length),cs'[j]? = some (.int .i64 (cpt l)[j]):=fun j hj=>by
    have hj2 : j < (Lib.compact l ++ List.replicate (l.length - (Lib.compact l).length) 0).length:=by
     rw [List.length_append]
     exact Nat.lt_of_lt_of_le hj (Nat.le_add_right _ _)
    have h7:=c3 j hj2
    have h8:=pad_get (Lib.compact l) (List.replicate (l.length - (Lib.compact l).length) 0) j hj hj2
    rw [h8] at h7
    exact h7
   have hoth : ∀ γ,γ < w.heap.size → γ ≠ β → (Sort.putRow (Value.int .i64) (Sort.ahead w n) β 0 (Lib.compact l ++ List.replicate (l.length - (Lib.compact l).length) 0).toArray).heap[γ]? = w.heap[γ]?:=fun γ hγ hne=>by
    have:=put_other (n:=n) (os:=#[]) (d:=(Lib.compact l ++ List.replicate (l.length - (Lib.compact l).length) 0).toArray) hγ hne
    rwa [Sort.grow_empty] at this
   have hps : w.heap.size ≤ (Sort.putRow (Value.int .i64) (Sort.ahead w n) β 0 (Lib.compact l ++ List.replicate (l.length - (Lib.compact l).length) 0).toArray).heap.size:=by simp [Sort.putRow,Sort.mapBlock,Sort.ahead]
   have key:=row_over (nl':=true) (l':=cpt l) hh hm hblk h4 c1 c2 hget hcl hoth hps rfl rfl rfl
   refine ⟨_,m,rfl,?_,key⟩
   refine .sl (by decide) rfl fun l' q1 q2=>?_
   rw [hm] at q1; cases q1
   refine .inr ⟨β,cap,hblk,by simp [cpt],?_,by rw [hw]; omega,h3,fun h=>by cases h⟩
   simp only [List.length_map]
   have:=cpt_length l
   omega
end
end Go.Mx
namespace Go.Su.YtepcmciljmennaaGreat
open Go.Mx Go.Proofs
set_option maxRecDepth 100000
def laysSort_ren : Go.Shelf.Ren:=⟨fun
 | 189=>31
 | 125=>61
 | 257=>60
 | 128=>100
 | 129=>101
 | 294=>91
 | 295=>92
 | 296=>93
 | 297=>94
 | 298=>95
 | 299=>96
 | 216=>97
 | 300=>98
 | 301=>99
 | 328=>121
 | 329=>122
 | 330=>123
 | 331=>124
 | 332=>125
 | 215=>126
 | 343=>131
 | n=>n,fun
 | 28=>23
 | 3=>3
 | 46=>52
 | 0=>0
 | 51=>149
 | 53=>151
 | 4=>4
 | 183=>141
 | 182=>140
 | 131=>146
 | 5=>5
 | 9=>9
 | 218=>167
 | 222=>124
 | 228=>174
 | 229=>112
 | n=>n,fun n=>n⟩
theorem laysSort : Go.Proofs.Lays.n189 Tryz.prog laysSort_ren:={
 mixed:=by kernel_rfl
 f125:=by kernel_rfl
 f128:=by kernel_rfl
 f129:=by kernel_rfl
 f189:=by kernel_rfl
 f215:=by kernel_rfl
 f216:=by kernel_rfl
 f257:=by kernel_rfl
 f294:=by kernel_rfl
 f295:=by kernel_rfl
 f296:=by kernel_rfl
 f297:=by kernel_rfl
 f298:=by kernel_rfl
 f299:=by kernel_rfl
 f300:=by kernel_rfl
 f301:=by kernel_rfl
 f328:=by kernel_rfl
 f329:=by kernel_rfl
 f330:=by kernel_rfl
 f331:=by kernel_rfl
 f332:=by kernel_rfl
 f343:=by kernel_rfl
 t0:=by kernel_rfl
 a0:=fun w=>by kernel_rfl
 z0:=fun w=>by kernel_rfl
 v0:=fun w=>by kernel_rfl
 t3:=by kernel_rfl
 a3:=fun w=>by kernel_rfl
 z3:=fun w=>by kernel_rfl
 v3:=fun w=>by kernel_rfl
 t4:=by kernel_rfl
 a4:=fun w=>by kernel_rfl
 z4:=fun w=>by kernel_rfl
 v4:=fun w=>by kernel_rfl
 t5:=by kernel_rfl
 a5:=fun w=>by kernel_rfl
 z5:=fun w=>by kernel_rfl
 v5:=fun w=>by kernel_rfl
 t9:=by kernel_rfl
 a9:=fun w=>by kernel_rfl
 z9:=fun w=>by kernel_rfl
 v9:=fun w=>by kernel_rfl
 t28:=by kernel_rfl
 a28:=fun w=>by kernel_rfl
 z28:=fun w=>by kernel_rfl
 v28:=fun w=>by kernel_rfl
 t46:=by kernel_rfl
 a46:=fun w=>by kernel_rfl
 z46:=fun w=>by kernel_rfl
 v46:=fun w=>by kernel_rfl
 t51:=by kernel_rfl
 a51:=fun w=>by kernel_rfl
 z51:=fun w=>by kernel_rfl
 v51:=fun w=>by kernel_rfl
 t53:=by kernel_rfl
 a53:=fun w=>by kernel_rfl
 z53:=fun w=>by kernel_rfl
 v53:=fun w=>by kernel_rfl
 t131:=by kernel_rfl
 a131:=fun w=>by kernel_rfl
 z131:=fun w=>by kernel_rfl
 v131:=fun w=>by kernel_rfl
 t182:=by kernel_rfl
 a182:=fun w=>by kernel_rfl
 z182:=fun w=>by kernel_rfl
 v182:=fun w=>by kernel_rfl
 t183:=by kernel_rfl
 a183:=fun w=>by kernel_rfl
 z183:=fun w=>by kernel_rfl
 v183:=fun w=>by kernel_rfl
 t218:=by kernel_rfl
 a218:=fun w=>by kernel_rfl
 z218:=fun w=>by kernel_rfl
 v218:=fun w=>by kernel_rfl
 t222:=by kernel_rfl
 a222:=fun w=>by kernel_rfl
 z222:=fun w=>by kernel_rfl
 v222:=fun w=>by kernel_rfl
 t228:=by kernel_rfl
 a228:=fun w=>by kernel_rfl
 z228:=fun w=>by kernel_rfl
 v228:=fun w=>by kernel_rfl
 t229:=by kernel_rfl
 a229:=fun w=>by kernel_rfl
 z229:=fun w=>by kernel_rfl
 v229:=fun w=>by kernel_rfl }
def laysCompact_ren : Go.Shelf.Ren:=⟨fun
 | 20=>32
 | n=>n,fun
 | 22=>23
 | 3=>3
 | 4=>4
 | 0=>0
 | n=>n,fun n=>n⟩
theorem laysCompact : Go.Proofs.Lays2.n20 Tryz.prog laysCompact_ren:={
 mixed:=by kernel_rfl
 f20:=by kernel_rfl
 t0:=by kernel_rfl
 a0:=fun w=>by kernel_rfl
 z0:=fun w=>by kernel_rfl
 v0:=fun w=>by kernel_rfl
 t3:=by kernel_rfl
 a3:=fun w=>by kernel_rfl
 z3:=fun w=>by kernel_rfl
 v3:=fun w=>by kernel_rfl
 t4:=by kernel_rfl
 a4:=fun w=>by kernel_rfl
 z4:=fun w=>by kernel_rfl
 v4:=fun w=>by kernel_rfl
 t22:=by kernel_rfl
 a22:=fun w=>by kernel_rfl
 z22:=fun w=>by kernel_rfl
 v22:=fun w=>by kernel_rfl
 i3:=by kernel_rfl }
theorem sort_x (nl tip : Bool) (l : List Int) (h : sroomI l = true) : GO Tryz.prog 31 [(0,⟨0,3,1,false,nl,l.map e_i64⟩)] [.sl 0 0 0 (l.map e_i64).length tip] (.tup []) [(0,⟨0,3,1,false,true,(srt l).map e_i64⟩)]:=sort_go laysSort 3 nl tip l h
theorem compact_x (nl tip : Bool) (l : List Int) (h : sroomI l = true) : GO Tryz.prog 32 [(0,⟨0,3,1,false,nl,l.map e_i64⟩)] [.sl 0 0 0 (l.map e_i64).length tip] (.sl 0 0 0 ((cpt l).map e_i64).length false) [(0,⟨0,3,1,false,true,(cpt l).map e_i64⟩)]:=compact_go laysCompact 3 nl tip l h
end Go.Su.YtepcmciljmennaaGreat
