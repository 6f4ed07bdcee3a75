/-
  What a program's text is, token by token.
-/
import Derived.Test.YtepcmciljmennaaZfPlTok
import Derived.KernelRfl
import Derived.Test.YtepcmciljmennaaZfPlGood
namespace Go.Su.Ytepcmciljmennaa
open Go.Mx Go.Proofs
set_option linter.unusedVariables false
set_option linter.unusedSimpArgs false
set_option maxHeartbeats 4000000
abbrev bl (s : ByteArray) : List UInt8:=s.data.toList
theorem bl_app (a b : ByteArray) : bl (a ++ b) = bl a ++ bl b:=by
 show (a ++ b).data.toList = _
 rw [ByteArray.data_append,Array.toList_append]
theorem bl_len (a : ByteArray) : (bl a).length = a.size:=by cases a; rfl
theorem bl_eta (a : ByteArray) {l : List UInt8} (h : bl a = l) : a = ⟨⟨l⟩⟩:=by subst h; cases a; rfl
abbrev Key:=Int × ByteArray × Int
def ky (t : Token) : Key:=(t.Kind,t.Text,t.N)
def lowB (c : UInt8) : Bool:=decide (97 ≤ c.toNat) && decide (c.toNat ≤ 122)
def digB (c : UInt8) : Bool:=decide (48 ≤ c.toNat) && decide (c.toNat ≤ 57)
def alB (c : UInt8) : Bool:=lowB c || digB c
def sepB : List UInt8 → Bool
 | []=>true
 | c :: _=>!alB c
theorem letter_eq (n : Nat) (c : UInt8) : ref1_letter n (c.toNat : Int) = some (lowB c):=by
 unfold ref1_letter jn lowB
 by_cases h : 97 ≤ c.toNat
 ·rw [decide_eq_true (show ((c.toNat : Nat) : Int) ≥ 97 by omega),decide_eq_true h,Bool.true_and]
  show some (decide (((c.toNat : Nat) : Int) ≤ 122)) = _
  by_cases h2 : c.toNat ≤ 122
  ·rw [decide_eq_true h2,decide_eq_true (show ((c.toNat : Nat) : Int) ≤ 122 by omega)]
  ·rw [decide_eq_false h2,decide_eq_false (show ¬ ((c.toNat : Nat) : Int) ≤ 122 by omega)]
 ·rw [decide_eq_false (show ¬ ((c.toNat : Nat) : Int) ≥ 97 by omega),decide_eq_false h]; rfl
theorem digit_eq (n : Nat) (c : UInt8) : ref1_digit n (c.toNat : Int) = some (digB c):=by
 unfold ref1_digit jn digB
 by_cases h : 48 ≤ c.toNat
 ·rw [decide_eq_true (show ((c.toNat : Nat) : Int) ≥ 48 by omega),decide_eq_true h,Bool.true_and]
  show some (decide (((c.toNat : Nat) : Int) ≤ 57)) = _
  by_cases h2 : c.toNat ≤ 57
  ·rw [decide_eq_true h2,decide_eq_true (show ((c.toNat : Nat) : Int) ≤ 57 by omega)]
  ·rw [decide_eq_false h2,decide_eq_false (show ¬ ((c.toNat : Nat) : Int) ≤ 57 by omega)]
 ·rw [decide_eq_false (show ¬ ((c.toNat : Nat) : Int) ≥ 48 by omega),decide_eq_false h]; rfl
theorem drop_at {s : ByteArray} {i : Nat} {c : UInt8} {r : List UInt8} (h : (bl s).drop i = c :: r) : idxS s (i : Int) = some (c.toNat : Int) ∧ i < s.size ∧ (bl s).drop (i + 1) = r:=by
 have hl : i < s.size:=by
  rw [← bl_len]
  rcases Nat.lt_or_ge i (bl s).length with q | q
  ·exact q
  ·rw [List.drop_eq_nil_of_le q] at h; cases h
 have hc : (bl s)[i]? = some c:=by rw [← List.head?_drop,h]; rfl
 refine ⟨?_,hl,by rw [← List.tail_drop,h]; rfl⟩
 unfold idxS
 rw [decide_eq_false (by omega),cond_false,Int.toNat_natCast,getElem?_pos s i hl]
 have : (bl s)[i]? = some s[i]:=by rw [List.getElem?_eq_getElem (by rw [bl_len]; exact hl)]; rfl
 rw [this] at hc
 cases hc; rfl
theorem drop_end {s : ByteArray} {i : Nat} (hi : i ≤ s.size) (h : (bl s).drop i = []) : i = s.size:=by
 have:=congrArg List.length h
 rw [List.length_drop,bl_len] at this
 simp at this; omega
theorem ssub_at {s : ByteArray} {i : Nat} {w r : List UInt8} (hi : i ≤ s.size) (h : (bl s).drop i = w ++ r) : ssub s (i : Int) ((i + w.length : Nat) : Int) = some ⟨⟨w⟩⟩ ∧ i + w.length ≤ s.size:=by
 have hl : i + w.length ≤ s.size:=by
  have:=congrArg List.length h
  rw [List.length_drop,bl_len,List.length_append] at this; omega
 refine ⟨?_,hl⟩
 unfold ssub
 have : (decide ((0 : Int) ≤ i) && decide ((i : Int) ≤ ((i + w.length : Nat) : Int)) && decide (((i + w.length : Nat) : Int) ≤ s.size)) = true:=by simp; omega
 rw [this,cond_true]
 unfold exS
 rw [Int.toNat_natCast,Int.toNat_natCast,Nat.add_sub_cancel_left]
 have : s.data.toList.drop i = w ++ r:=h
 rw [this,List.take_left]
theorem word_L0 (s : ByteArray) (at_ : Nat) (x1 : Int) (r2 : Bool) (w4 : ByteArray) (c : UInt8) (hs : s.size ≤ 6000) : ∀ (v u r : List UInt8),(bl s).drop at_ = (c :: u) ++ (v ++ r) → at_ + 1 + u.length ≤ s.size → (∀ y ∈ v,alB y = true) → sepB r = true → u.length + v.length ≤ 11 →
  Ev (fun n=>ref1_one_L0 n s at_ x1 r2 w4 ((at_ + 1 + u.length : Nat) : Int)) (⟨1,⟨⟨c :: (u ++ v)⟩⟩,0,at_⟩,((1 + u.length + v.length : Nat) : Int))
 | [],u,r,h,hl,hv,hr,h11=>by
  have e1 : wr (((at_ + 1 + u.length : Nat) : Int) - (at_ : Int)) = ((1 + u.length : Nat) : Int):=by rw [wr_of (by omega)]; omega
  have d1 : decide (((1 + u.length : Nat) : Int) > 12) = false:=decide_eq_false (by simp at h11; omega)
  obtain ⟨s1,s2⟩:=ssub_at (w:=c :: u) (by omega) h
  have s3 : ssub s (at_ : Int) ((at_ + 1 + u.length : Nat) : Int) = some ⟨⟨c :: u⟩⟩:=by rw [← s1]; congr 2; simp; omega
  refine Ev.step (Ev.of_eq (g:=fun n=>some (⟨1,⟨⟨c :: (u ++ [])⟩⟩,0,at_⟩,((1 + u.length + ([] : List UInt8).length : Nat) : Int))) (fun n=>?_) (Ev.ret _))
  have fin : ∀ b : Bool,b = false → (bif b then ref1_one_L0 n s at_ x1 r2 w4 (wr (((at_ + 1 + u.length : Nat) : Int) + 1)) else bif decide ((wr (((at_ + 1 + u.length : Nat) : Int) - (at_ : Int))) > 12) then some ((Token.mk 0 b0 0 0),(0 : Int)) else (ssub s at_ ((at_ + 1 + u.length : Nat) : Int)).bind fun w12=>some ((Token.mk 1 w12 0 at_),wr (((at_ + 1 + u.length : Nat) : Int) - (at_ : Int)))) = some (⟨1,⟨⟨c :: (u ++ [])⟩⟩,0,at_⟩,((1 + u.length + ([] : List UInt8).length : Nat) : Int)):=by
   intro b hb
   rw [hb,cond_false,e1,d1,cond_false,s3,List.append_nil]; rfl
  cases r with
  | nil =>
   have hend : at_ + 1 + u.length = s.size:=by
    have:=congrArg List.length h
    rw [List.length_drop,bl_len] at this
    simp at this; omega
   have d2 : decide (((at_ + 1 + u.length : Nat) : Int) < (s.size : Int)) = false:=decide_eq_false (by omega)
   simp only [ref1_one_L0,jn,d2,cond_false]
   exact fin false rfl
  | cons y r =>
   have hy : (bl s).drop (at_ + 1 + u.length) = y :: r:=by
    rw [show at_ + 1 + u.length = at_ + (1 + u.length) by omega,← List.drop_drop,h]
    rw [show 1 + u.length = (c :: u).length by simp; omega,List.drop_left]; rfl
   obtain ⟨i1,i2,_⟩:=drop_at hy
   have d2 : decide (((at_ + 1 + u.length : Nat) : Int) < (s.size : Int)) = true:=decide_eq_true (by omega)
   have ha : lowB y = false ∧ digB y = false:=by
    have : (!alB y) = true:=hr
    unfold alB at this
    cases q1 : lowB y <;> cases q2 : digB y <;> simp_all
   simp only [ref1_one_L0,jn,d2,cond_true,i1,Option.bind_some,letter_eq,digit_eq,ha.1,ha.2,cond_false]
   exact fin false rfl
 | y :: v,u,r,h,hl,hv,hr,h11=>by
  have hy : (bl s).drop (at_ + 1 + u.length) = y :: (v ++ r):=by
   rw [show at_ + 1 + u.length = at_ + (1 + u.length) by omega,← List.drop_drop,h]
   rw [show 1 + u.length = (c :: u).length by simp; omega,List.drop_left]; rfl
  obtain ⟨i1,i2,_⟩:=drop_at hy
  have d2 : decide (((at_ + 1 + u.length : Nat) : Int) < (s.size : Int)) = true:=decide_eq_true (by omega)
  have nx:=word_L0 s at_ x1 r2 w4 c hs v (u ++ [y]) r (by rw [h]; simp) (by simp; omega) (fun z hz=>hv z (by simp [hz])) hr (by simp at h11 ⊢; omega)
  have e1 : wr (((at_ + 1 + u.length : Nat) : Int) + 1) = ((at_ + 1 + (u ++ [y]).length : Nat) : Int):=by rw [wr_of (by omega),List.length_append]; rfl
  have e2 : (1 + (u ++ [y]).length + v.length) = 1 + u.length + (y :: v).length:=by simp; omega
  rw [e2,List.append_assoc,List.singleton_append] at nx
  refine Ev.step (Ev.of_eq (fun n=>?_) nx)
  have ha:=hv y (by simp)
  unfold alB at ha
  cases q1 : lowB y
  ·rw [q1,Bool.false_or] at ha
   simp only [ref1_one_L0,jn,d2,cond_true,cond_false,i1,Option.bind_some,letter_eq,digit_eq,q1,ha,e1]
  ·simp only [ref1_one_L0,jn,d2,cond_true,i1,Option.bind_some,letter_eq,q1,e1]
def ScR (rest : List UInt8) (ts : List Key) : Prop:=∀ (s : ByteArray) (i : Nat),s.size ≤ 6000 → i ≤ s.size → (bl s).drop i = rest → ∀ acc : List Token,acc.length ≤ i →
 ∃ T,Ev (fun n=>ref1_Tokens_L0 n s acc (i : Int)) (acc ++ T ++ [⟨4,b0,0,(s.size : Int)⟩],0,0) ∧ T.map ky = ts
theorem roomTk (a : Nat) (h : a ≤ 6001) (t : Token) : room s_Token.i1.bytes a [t].length = true:=room_of (by
 have : s_Token.i1.bytes = 40:=rfl
 rw [this]; simp only [List.length_singleton]; omega)
theorem scR_nil : ScR [] []:=by
 intro s i hs hi h acc ha
 have hi:=drop_end hi h
 have d : decide ((i : Int) < (s.size : Int)) = false:=decide_eq_false (by omega)
 refine ⟨[],Ev.step (Ev.of_eq (g:=fun n=>some (acc ++ [⟨4,b0,0,(s.size : Int)⟩],0,0)) (fun n=>?_) (by simpa using Ev.ret _)),rfl⟩
 simp only [ref1_Tokens_L0,d,cond_false,roomTk acc.length (by omega),cond_true]
 rw [hi]
theorem scR_blank (c : UInt8) (hc : c = 32 ∨ c = 9 ∨ c = 10) {rest : List UInt8} {ts : List Key} (h : ScR rest ts) : ScR (c :: rest) ts:=by
 intro s i hs hi hd acc ha
 obtain ⟨h1,h2,h3⟩:=drop_at hd
 obtain ⟨T,k1,k2⟩:=h s (i + 1) hs (by omega) h3 acc (by omega)
 have d : decide ((i : Int) < (s.size : Int)) = true:=decide_eq_true (by omega)
 have e3 : wr ((i : Int) + 1) = ((i + 1 : Nat) : Int):=by rw [wr_of (by omega)]; rfl
 refine ⟨T,Ev.step (Ev.of_eq (fun n=>?_) k1),k2⟩
 rcases hc with rfl | rfl | rfl <;> (simp only [ref1_Tokens_L0,d,cond_true,h1,Option.bind_some,jn,e3]; rfl)
theorem scR_tok (c : UInt8) (w rest : List UInt8) (t : Key) (hc : c ≠ 32 ∧ c ≠ 9 ∧ c ≠ 10 ∧ c ≠ 35) {ts : List Key} (h : ScR rest ts)
  (ho : ∀ (s : ByteArray) (i : Nat),s.size ≤ 6000 → (bl s).drop i = (c :: w) ++ rest → i < s.size → Ev (fun n=>ref1_one n s (i : Int)) (⟨t.1,t.2.1,t.2.2,(i : Int)⟩,((1 + w.length : Nat) : Int))) : ScR ((c :: w) ++ rest) (t :: ts):=by
 intro s i hs hi hd acc ha
 obtain ⟨h1,h2,h3⟩:=drop_at (r:=w ++ rest) hd
 have hl:=(ssub_at (w:=c :: w) hi hd).2
 have hr : (bl s).drop (i + (1 + w.length)) = rest:=by
  rw [← List.drop_drop,hd,show 1 + w.length = (c :: w).length by simp; omega,List.drop_left]
 rw [List.length_cons] at hl
 obtain ⟨T,k1,k2⟩:=h s (i + (1 + w.length)) hs (by omega) hr (acc ++ [⟨t.1,t.2.1,t.2.2,(i : Int)⟩]) (by simp; omega)
 have d : decide ((i : Int) < (s.size : Int)) = true:=decide_eq_true (by omega)
 have e3 : wr ((i : Int) + ((1 + w.length : Nat) : Int)) = ((i + (1 + w.length) : Nat) : Int):=by rw [wr_of (by omega)]; omega
 have hk : (((1 + w.length : Nat) : Int) == 0) = false:=beq_eq_false_iff_ne.2 (by omega)
 have nb : ∀ k : Nat,k < 256 → c ≠ UInt8.ofNat k → (((c.toNat : Nat) : Int) == (k : Int)) = false:=by
  intro k hk hne
  refine beq_eq_false_iff_ne.2 fun q=>hne ?_
  have q2 : c.toNat = k:=by omega
  rw [← q2]; simp
 have b1:=nb 32 (by omega) hc.1
 have b2:=nb 9 (by omega) hc.2.1
 have b3:=nb 10 (by omega) hc.2.2.1
 have b4:=nb 35 (by omega) hc.2.2.2
 refine ⟨⟨t.1,t.2.1,t.2.2,(i : Int)⟩ :: T,Ev.step (Ev.of_eq (g:=fun n=>(ref1_one n s (i : Int)).bind fun r10=>bif (r10.2 == 0) then some ([],(i : Int),2) else bif room s_Token.i1.bytes acc.length [r10.1].length then ref1_Tokens_L0 n s (acc ++ [r10.1]) (wr ((i : Int) + r10.2)) else none) (fun n=>?_) (Ev.bind (ho s i hs hd h2) ?_)),by rw [List.map_cons,k2]; rfl⟩
 ·simp only [ref1_Tokens_L0,d,cond_true,h1,Option.bind_some,jn]
  have b1' : (((c.toNat : Nat) : Int) == 32) = false:=b1
  have b2' : (((c.toNat : Nat) : Int) == 9) = false:=b2
  have b3' : (((c.toNat : Nat) : Int) == 10) = false:=b3
  have b4' : (((c.toNat : Nat) : Int) == 35) = false:=b4
  simp only [b1',b2',b3',b4',cond_false]
 ·simp only [hk,cond_false,roomTk acc.length (by omega),cond_true,e3]
  simpa using k1
theorem scR_word (k : ByteArray) (c : UInt8) (w : List UInt8) (hk : bl k = c :: w) (hc : lowB c = true) (hw : w.all alB = true) (h11 : w.length ≤ 11) {rest : List UInt8} {ts : List Key} (hr : sepB rest = true) (h : ScR rest ts) : ScR (bl k ++ rest) ((1,k,0) :: ts):=by
 rw [hk]
 have hc2 : 97 ≤ c.toNat ∧ c.toNat ≤ 122:=by unfold lowB at hc; simpa using hc
 refine scR_tok c w rest (1,k,0) ⟨fun q=>?_,fun q=>?_,fun q=>?_,fun q=>?_⟩ h fun s i hs hd hi=>?_
 ·rw [q] at hc2; revert hc2; decide
 ·rw [q] at hc2; revert hc2; decide
 ·rw [q] at hc2; revert hc2; decide
 ·rw [q] at hc2; revert hc2; decide
 ·obtain ⟨h1,_,_⟩:=drop_at (r:=w ++ rest) hd
  have m:=word_L0 s i (c.toNat : Int) true b0 c hs w [] rest hd (by simp; omega) (List.all_eq_true.1 hw) hr (by simpa using h11)
  have e1 : wr ((i : Int) + 1) = ((i + 1 + ([] : List UInt8).length : Nat) : Int):=by rw [wr_of (by omega)]; rfl
  rw [bl_eta k hk]
  refine Ev.of_eq (fun n=>?_) (by simpa only [List.nil_append,List.length_nil,Nat.add_zero] using m)
  simp only [ref1_one,h1,Option.bind_some,letter_eq,hc,cond_true,e1,List.length_nil,Nat.add_zero]
theorem num1 : ∀ (d : Nat),d ≤ 9 → ∀ n : Nat,ref1_number (n + 5) ⟨⟨[UInt8.ofNat (48 + d)]⟩⟩ = some ((d : Int),true)
 | 0,_,n=>by show ref1_number (n + 5) ⟨⟨[UInt8.ofNat (48 + 0)]⟩⟩ = some (((0 : Nat) : Int),true); kernel_rfl
 | 1,_,n=>by show ref1_number (n + 5) ⟨⟨[UInt8.ofNat (48 + 1)]⟩⟩ = some (((1 : Nat) : Int),true); kernel_rfl
 | 2,_,n=>by show ref1_number (n + 5) ⟨⟨[UInt8.ofNat (48 + 2)]⟩⟩ = some (((2 : Nat) : Int),true); kernel_rfl
 | 3,_,n=>by show ref1_number (n + 5) ⟨⟨[UInt8.ofNat (48 + 3)]⟩⟩ = some (((3 : Nat) : Int),true); kernel_rfl
 | 4,_,n=>by show ref1_number (n + 5) ⟨⟨[UInt8.ofNat (48 + 4)]⟩⟩ = some (((4 : Nat) : Int),true); kernel_rfl
 | 5,_,n=>by show ref1_number (n + 5) ⟨⟨[UInt8.ofNat (48 + 5)]⟩⟩ = some (((5 : Nat) : Int),true); kernel_rfl
 | 6,_,n=>by show ref1_number (n + 5) ⟨⟨[UInt8.ofNat (48 + 6)]⟩⟩ = some (((6 : Nat) : Int),true); kernel_rfl
 | 7,_,n=>by show ref1_number (n + 5) ⟨⟨[UInt8.ofNat (48 + 7)]⟩⟩ = some (((7 : Nat) : Int),true); kernel_rfl
 | 8,_,n=>by show ref1_number (n + 5) ⟨⟨[UInt8.ofNat (48 + 8)]⟩⟩ = some (((8 : Nat) : Int),true); kernel_rfl
 | 9,_,n=>by show ref1_number (n + 5) ⟨⟨[UInt8.ofNat (48 + 9)]⟩⟩ = some (((9 : Nat) : Int),true); kernel_rfl
 | d + 10,h,n=>absurd h (by omega)
theorem dig1 (d : Nat) (hd : d ≤ 9) : lowB (UInt8.ofNat (48 + d)) = false ∧ digB (UInt8.ofNat (48 + d)) = true ∧ UInt8.ofNat (48 + d) ≠ 32 ∧ UInt8.ofNat (48 + d) ≠ 9 ∧ UInt8.ofNat (48 + d) ≠ 10 ∧ UInt8.ofNat (48 + d) ≠ 35:=by
 match d,hd with
 | 0,_=>decide
 | 1,_=>decide
 | 2,_=>decide
 | 3,_=>decide
 | 4,_=>decide
 | 5,_=>decide
 | 6,_=>decide
 | 7,_=>decide
 | 8,_=>decide
 | 9,_=>decide
theorem scR_digit (d : Nat) (hd : d ≤ 9) {rest : List UInt8} {ts : List Key} (hr : sepB rest = true) (h : ScR rest ts) : ScR (UInt8.ofNat (48 + d) :: rest) ((2,⟨⟨[UInt8.ofNat (48 + d)]⟩⟩,(d : Int)) :: ts):=by
 obtain ⟨g1,g2,g3⟩:=dig1 d hd
 refine scR_tok (UInt8.ofNat (48 + d)) [] rest (2,⟨⟨[UInt8.ofNat (48 + d)]⟩⟩,(d : Int)) g3 h fun s i hs hdr hi=>?_
 obtain ⟨h1,h2,h3⟩:=drop_at (r:=rest) hdr
 have e1 : wr ((i : Int) + 1) = ((i + 1 : Nat) : Int):=by rw [wr_of (by omega)]; rfl
 have e2 : wr (((i + 1 : Nat) : Int) - (i : Int)) = 1:=by rw [wr_of (by omega)]; omega
 have s1 : ssub s (i : Int) ((i + 1 : Nat) : Int) = some ⟨⟨[UInt8.ofNat (48 + d)]⟩⟩:=(ssub_at (w:=[UInt8.ofNat (48 + d)]) (by omega) hdr).1
 have fin : ∀ n : Nat,((ref1_number (n + 5) ⟨⟨[UInt8.ofNat (48 + d)]⟩⟩).bind fun r22=>bif !r22.2 then some ((Token.mk 0 b0 0 0),(0 : Int)) else some ((Token.mk 2 ⟨⟨[UInt8.ofNat (48 + d)]⟩⟩ r22.1 i),(1 : Int))) = some (⟨2,⟨⟨[UInt8.ofNat (48 + d)]⟩⟩,(d : Int),(i : Int)⟩,((1 + ([] : List UInt8).length : Nat) : Int)):=by
  intro n
  rw [num1 d hd n]; rfl
 refine ⟨10,fun n hn=>?_⟩
 obtain ⟨m,rfl⟩ : ∃ m,n = (m + 5) + 1:=⟨n - 6,by omega⟩
 show ref1_one ((m + 5) + 1) s (i : Int) = _
 have step : ref1_one_L1 ((m + 5) + 1) s (i : Int) ((UInt8.ofNat (48 + d)).toNat : Int) false true b0 ((i + 1 : Nat) : Int) = some (⟨2,⟨⟨[UInt8.ofNat (48 + d)]⟩⟩,(d : Int),(i : Int)⟩,((1 + ([] : List UInt8).length : Nat) : Int)):=by
  cases rest with
  | nil =>
   have hend:=drop_end (by omega) h3
   have d2 : decide (((i + 1 : Nat) : Int) < (s.size : Int)) = false:=decide_eq_false (by omega)
   simp only [ref1_one_L1,jn,d2,cond_false,s1,Option.bind_some,e2]
   exact fin m
  | cons y r =>
   obtain ⟨i1,i2,_⟩:=drop_at h3
   have d2 : decide (((i + 1 : Nat) : Int) < (s.size : Int)) = true:=decide_eq_true (by omega)
   have ha : digB y = false:=by
    have : (!alB y) = true:=hr
    unfold alB at this
    cases q1 : lowB y <;> cases q2 : digB y <;> simp_all
   simp only [ref1_one_L1,jn,d2,cond_true,i1,Option.bind_some,digit_eq,ha,cond_false,s1,e2]
   exact fin m
 rw [← step]
 simp only [ref1_one,h1,Option.bind_some,letter_eq,digit_eq,g1,g2,cond_true,cond_false,e1]
def sgnB (c : UInt8) : Bool:=[60,43,45,42,47,37,40,41,123,125].any (fun x=>x == c)
theorem sgn_L2 (s : ByteArray) (i : Nat) (c : UInt8) (r : List UInt8) (hs : s.size ≤ 6000) (hd : (bl s).drop i = c :: r) (j : Nat) (hj : idxS x_3d3c2b2d2a2f2528297b7d (j : Int) = some (c.toNat : Int)) : ∀ (m a : Nat),a + m = j → j < 11 → Ev (fun n=>ref1_one_L2 n s (i : Int) (c.toNat : Int) false false b0 false (a : Int)) (⟨3,⟨⟨[c]⟩⟩,0,(i : Int)⟩,1):=by
 have h1:=drop_at hd
 have e1 : wr ((i : Int) + 1) = ((i + 1 : Nat) : Int):=by rw [wr_of (by omega)]; rfl
 have s1 : ssub s (i : Int) ((i + 1 : Nat) : Int) = some ⟨⟨[c]⟩⟩:=(ssub_at (w:=[c]) (r:=r) (by omega) hd).1
 have hit : ∀ a : Nat,a < 11 → idxS x_3d3c2b2d2a2f2528297b7d (a : Int) = some (c.toNat : Int) → Ev (fun n=>ref1_one_L2 n s (i : Int) (c.toNat : Int) false false b0 false (a : Int)) (⟨3,⟨⟨[c]⟩⟩,0,(i : Int)⟩,1):=by
  intro a ha hx
  have d : decide ((a : Int) < 11) = true:=decide_eq_true (by omega)
  refine Ev.step (Ev.of_eq (g:=fun n=>some (⟨3,⟨⟨[c]⟩⟩,0,(i : Int)⟩,1)) (fun n=>?_) (Ev.ret _))
  simp only [ref1_one_L2,d,cond_true,hx,Option.bind_some,beq_self_eq_true,e1,s1]
 intro m
 induction m with
 | zero=>intro a ha hj2; exact hit a (by omega) (by rw [show a = j by omega]; exact hj)
 | succ m ih =>
  intro a ha hj2
  have d : decide ((a : Int) < 11) = true:=decide_eq_true (by omega)
  have e3 : wr ((a : Int) + 1) = ((a + 1 : Nat) : Int):=by rw [wr_of (by omega)]; rfl
  obtain ⟨x,hx,_⟩:=idxS_of x_3d3c2b2d2a2f2528297b7d a (by show a < 11; omega)
  cases c1 : (x == (c.toNat : Int))
  ·refine Ev.step (Ev.of_eq (fun n=>?_) (ih (a + 1) (by omega) hj2))
   simp only [ref1_one_L2,d,cond_true,hx,Option.bind_some,c1,cond_false,e3]
  ·exact hit a (by omega) (by rw [hx,eq_of_beq c1])
theorem sgn_at : ∀ c : UInt8,sgnB c = true → ∃ j : Nat,j < 11 ∧ idxS x_3d3c2b2d2a2f2528297b7d (j : Int) = some (c.toNat : Int) ∧ lowB c = false ∧ digB c = false ∧ (((c.toNat : Nat) : Int) == 61) = false ∧ c ≠ 32 ∧ c ≠ 9 ∧ c ≠ 10 ∧ c ≠ 35:=by
 intro c h
 unfold sgnB at h
 rw [List.any_eq_true] at h
 obtain ⟨x,hx,he⟩:=h
 rw [eq_of_beq he] at hx
 simp only [List.mem_cons,List.not_mem_nil,or_false] at hx
 rcases hx with rfl | rfl | rfl | rfl | rfl | rfl | rfl | rfl | rfl | rfl
 ·exact ⟨1,by decide,by kernel_rfl,by decide⟩
 ·exact ⟨2,by decide,by kernel_rfl,by decide⟩
 ·exact ⟨3,by decide,by kernel_rfl,by decide⟩
 ·exact ⟨4,by decide,by kernel_rfl,by decide⟩
 ·exact ⟨5,by decide,by kernel_rfl,by decide⟩
 ·exact ⟨6,by decide,by kernel_rfl,by decide⟩
 ·exact ⟨7,by decide,by kernel_rfl,by decide⟩
 ·exact ⟨8,by decide,by kernel_rfl,by decide⟩
 ·exact ⟨9,by decide,by kernel_rfl,by decide⟩
 ·exact ⟨10,by decide,by kernel_rfl,by decide⟩
theorem scR_sign (c : UInt8) (hc : sgnB c = true) {rest : List UInt8} {ts : List Key} (h : ScR rest ts) : ScR (c :: rest) ((3,⟨⟨[c]⟩⟩,0) :: ts):=by
 obtain ⟨j,g0,g1,g2,g3,g4,g5⟩:=sgn_at c hc
 refine scR_tok c [] rest (3,⟨⟨[c]⟩⟩,0) g5 h fun s i hs hdr hi=>?_
 obtain ⟨h1,h2,h3⟩:=drop_at (r:=rest) hdr
 refine Ev.of_eq (fun n=>?_) (sgn_L2 s i c rest hs hdr j g1 j 0 (by omega) g0)
 simp only [ref1_one,h1,Option.bind_some,letter_eq,digit_eq,g2,g3,g4,cond_false,jn]
 rfl
theorem scR_eq {rest : List UInt8} {ts : List Key} (h : ScR (32 :: rest) ts) : ScR (61 :: 32 :: rest) ((3,⟨⟨[61]⟩⟩,0) :: ts):=by
 refine scR_tok 61 [] (32 :: rest) (3,⟨⟨[61]⟩⟩,0) (by decide) h fun s i hs hdr hi=>?_
 obtain ⟨h1,h2,h3⟩:=drop_at (r:=32 :: rest) hdr
 obtain ⟨h4,h5,_⟩:=drop_at h3
 have e1 : wr ((i : Int) + 1) = ((i + 1 : Nat) : Int):=by rw [wr_of (by omega)]; rfl
 have d : decide (((i + 1 : Nat) : Int) < (s.size : Int)) = true:=decide_eq_true (by omega)
 have q1 : lowB 61 = false:=by decide
 have q2 : digB 61 = false:=by decide
 have q3 : ((((61 : UInt8).toNat : Nat) : Int) == 61) = true:=by decide
 have q4 : ((((32 : UInt8).toNat : Nat) : Int) == 61) = false:=by decide
 refine Ev.of_eq (fun n=>?_) (sgn_L2 s i 61 (32 :: rest) hs hdr 0 (by kernel_rfl) 0 0 (by omega) (by omega))
 simp only [ref1_one,h1,Option.bind_some,letter_eq,digit_eq,q1,q2,q3,cond_true,cond_false,jn,e1,d,h4,q4]
 rfl
theorem scR_eqeq {rest : List UInt8} {ts : List Key} (h : ScR rest ts) : ScR (61 :: 61 :: rest) ((3,x_3d3d,0) :: ts):=by
 refine scR_tok 61 [61] rest (3,x_3d3d,0) (by decide) h fun s i hs hdr hi=>?_
 obtain ⟨h1,h2,h3⟩:=drop_at (r:=61 :: rest) hdr
 obtain ⟨h4,h5,_⟩:=drop_at h3
 have e1 : wr ((i : Int) + 1) = ((i + 1 : Nat) : Int):=by rw [wr_of (by omega)]; rfl
 have d : decide (((i + 1 : Nat) : Int) < (s.size : Int)) = true:=decide_eq_true (by omega)
 have q1 : lowB 61 = false:=by decide
 have q2 : digB 61 = false:=by decide
 have q3 : ((((61 : UInt8).toNat : Nat) : Int) == 61) = true:=by decide
 refine Ev.of_eq (g:=fun n=>some (⟨3,x_3d3d,0,(i : Int)⟩,((1 + [(61 : UInt8)].length : Nat) : Int))) (fun n=>?_) (Ev.ret _)
 simp only [ref1_one,h1,Option.bind_some,letter_eq,digit_eq,q1,q2,q3,cond_true,cond_false,jn,e1,d,h4]
 rfl
def Ch0 (w : ByteArray) (ts : List Key) : Prop:=∀ rest tr,ScR rest tr → ScR (bl w ++ rest) (ts ++ tr)
def Ch (w : ByteArray) (ts : List Key) : Prop:=∀ rest tr,sepB rest = true → ScR rest tr → ScR (bl w ++ rest) (ts ++ tr)
def St (w : ByteArray) : Prop:=∃ c r,bl w = c :: r ∧ alB c = false
theorem Ch0.ch {w : ByteArray} {ts : List Key} (h : Ch0 w ts) : Ch w ts:=fun rest tr _ hr=>h rest tr hr
theorem Ch0.app {a b : ByteArray} {ta tb : List Key} (ha : Ch0 a ta) (hb : Ch0 b tb) : Ch0 (a ++ b) (ta ++ tb):=fun rest tr hr=>by
 rw [bl_app,List.append_assoc,List.append_assoc]; exact ha _ _ (hb _ _ hr)
theorem Ch0.app1 {a b : ByteArray} {ta tb : List Key} (ha : Ch0 a ta) (hb : Ch b tb) : Ch (a ++ b) (ta ++ tb):=fun rest tr hs hr=>by
 rw [bl_app,List.append_assoc,List.append_assoc]; exact ha _ _ (hb _ _ hs hr)
theorem St.sep {b : ByteArray} (h : St b) (r : List UInt8) : sepB (bl b ++ r) = true:=by
 obtain ⟨c,r',h1,h2⟩:=h
 rw [h1]
 show (!alB c) = true
 rw [h2]; rfl
theorem Ch.app {a b : ByteArray} {ta tb : List Key} (ha : Ch a ta) (hb : Ch0 b tb) (hst : St b) : Ch0 (a ++ b) (ta ++ tb):=fun rest tr hr=>by
 rw [bl_app,List.append_assoc,List.append_assoc]; exact ha _ _ (hst.sep rest) (hb _ _ hr)
theorem Ch0.nil : Ch0 b0 []:=fun rest tr h=>h
theorem Ch.word (k : ByteArray) (c : UInt8) (w : List UInt8) (hk : bl k = c :: w) (hc : (lowB c && w.all alB && decide (w.length ≤ 11)) = true) : Ch k [(1,k,0)]:=fun rest tr hs hr=>by
 simp only [Bool.and_eq_true,decide_eq_true_eq] at hc
 exact scR_word k c w hk hc.1.1 hc.1.2 hc.2 hs hr
end Go.Su.Ytepcmciljmennaa
namespace Go.Su.Ytepcmciljmennaa
open Go.Mx Go.Proofs
set_option linter.unusedVariables false
set_option linter.unusedSimpArgs false
set_option maxHeartbeats 4000000
theorem Ch0.congr {a b : ByteArray} {ts : List Key} (h : bl a = bl b) (hb : Ch0 b ts) : Ch0 a ts:=fun rest tr hr=>by rw [h]; exact hb rest tr hr
def dg (m : Int) : ByteArray:=⟨⟨[UInt8.ofNat (48 + m.toNat)]⟩⟩
theorem dg_b2s (m : Int) (h0 : 0 ≤ m) (h9 : m ≤ 9) : b2s [IntKind.u8.wrap (wr (48 + m))] = dg m:=by
 have : m = 0 ∨ m = 1 ∨ m = 2 ∨ m = 3 ∨ m = 4 ∨ m = 5 ∨ m = 6 ∨ m = 7 ∨ m = 8 ∨ m = 9:=by omega
 rcases this with rfl | rfl | rfl | rfl | rfl | rfl | rfl | rfl | rfl | rfl <;> rfl
theorem digitsT (k : Int) (h0 : 0 ≤ k) (h1 : k ≤ 9) : Ev (fun n=>ref1_Digits n k) (dg k) ∧ (dg k).size = 1 ∧ Ch (dg k) [(2,dg k,k)]:=by
 have d : decide (k < 10) = true:=decide_eq_true (by omega)
 refine ⟨Ev.step (Ev.of_eq (g:=fun n=>some (dg k)) (fun n=>by simp only [ref1_Digits,d,cond_true,dg_b2s k h0 h1]) (Ev.ret _)),rfl,fun rest tr hs hr=>?_⟩
 have:=scR_digit k.toNat (by omega) hs hr
 rw [Int.toNat_of_nonneg h0] at this
 exact this
theorem sg20 : Ch0 x_20 []:=fun rest tr h=>scR_blank 32 (.inl rfl) h
theorem sg0a : Ch0 x_0a []:=fun rest tr h=>scR_blank 10 (.inr (.inr rfl)) h
theorem sg09 : Ch0 x_09 []:=fun rest tr h=>scR_blank 9 (.inr (.inl rfl)) h
theorem sg28 : Ch0 x_28 [(3,x_28,0)]:=fun rest tr h=>scR_sign 40 rfl h
theorem sg29 : Ch0 x_29 [(3,x_29,0)]:=fun rest tr h=>scR_sign 41 rfl h
theorem sg2d : Ch0 x_2d [(3,x_2d,0)]:=fun rest tr h=>scR_sign 45 rfl h
theorem sg2b : Ch0 x_2b [(3,x_2b,0)]:=fun rest tr h=>scR_sign 43 rfl h
theorem sg2a : Ch0 x_2a [(3,x_2a,0)]:=fun rest tr h=>scR_sign 42 rfl h
theorem sg2f : Ch0 x_2f [(3,x_2f,0)]:=fun rest tr h=>scR_sign 47 rfl h
theorem sg25 : Ch0 x_25 [(3,x_25,0)]:=fun rest tr h=>scR_sign 37 rfl h
theorem sg3c : Ch0 x_3c [(3,x_3c,0)]:=fun rest tr h=>scR_sign 60 rfl h
theorem sg7d : Ch0 x_7d [(3,x_7d,0)]:=fun rest tr h=>scR_sign 125 rfl h
theorem sgeq : Ch0 x_3d3d [(3,x_3d3d,0)]:=fun rest tr h=>scR_eqeq h
theorem sgas : Ch0 x_203d20 [(3,x_3d,0)]:=fun rest tr h=>scR_blank 32 (.inl rfl) (scR_eq (scR_blank 32 (.inl rfl) h))
theorem sgop : Ch0 x_207b0a [(3,x_7b,0)]:=fun rest tr h=>scR_blank 32 (.inl rfl) (scR_sign 123 rfl (scR_blank 10 (.inr (.inr rfl)) h))
theorem st20 : St x_20:=⟨32,[],rfl,rfl⟩
theorem st0a : St x_0a:=⟨10,[],rfl,rfl⟩
theorem st29 : St x_29:=⟨41,[],rfl,rfl⟩
theorem stas : St x_203d20:=⟨32,[61,32],rfl,rfl⟩
theorem stop_ : St x_207b0a:=⟨32,[123,10],rfl,rfl⟩
theorem kw_lock : Ch0 x_6c6f636b20 [(1,k_lock,0)]:=Ch0.congr (b:=k_lock ++ x_20) (by kernel_rfl) (Ch.app (Ch.word k_lock 108 [111,99,107] rfl (by decide)) sg20 st20)
theorem kw_unlock : Ch0 x_756e6c6f636b20 [(1,k_unlock,0)]:=Ch0.congr (b:=k_unlock ++ x_20) (by kernel_rfl) (Ch.app (Ch.word k_unlock 117 [110,108,111,99,107] rfl (by decide)) sg20 st20)
theorem kw_send : Ch0 x_73656e6420 [(1,k_send,0)]:=Ch0.congr (b:=k_send ++ x_20) (by kernel_rfl) (Ch.app (Ch.word k_send 115 [101,110,100] rfl (by decide)) sg20 st20)
theorem kw_recv : Ch0 x_7265637620 [(1,k_recv,0)]:=Ch0.congr (b:=k_recv ++ x_20) (by kernel_rfl) (Ch.app (Ch.word k_recv 114 [101,99,118] rfl (by decide)) sg20 st20)
theorem kw_print : Ch0 x_7072696e7420 [(1,k_print,0)]:=Ch0.congr (b:=k_print ++ x_20) (by kernel_rfl) (Ch.app (Ch.word k_print 112 [114,105,110,116] rfl (by decide)) sg20 st20)
theorem kw_goto : Ch0 x_676f746f20 [(1,k_goto,0)]:=Ch0.congr (b:=k_goto ++ x_20) (by kernel_rfl) (Ch.app (Ch.word k_goto 103 [111,116,111] rfl (by decide)) sg20 st20)
theorem kw_label : Ch0 x_6c6162656c20 [(1,k_label,0)]:=Ch0.congr (b:=k_label ++ x_20) (by kernel_rfl) (Ch.app (Ch.word k_label 108 [97,98,101,108] rfl (by decide)) sg20 st20)
theorem kw_if : Ch0 x_696620 [(1,k_if,0)]:=Ch0.congr (b:=k_if ++ x_20) (by kernel_rfl) (Ch.app (Ch.word k_if 105 [102] rfl (by decide)) sg20 st20)
theorem kw_repeat : Ch0 x_72657065617420 [(1,k_repeat,0)]:=Ch0.congr (b:=k_repeat ++ x_20) (by kernel_rfl) (Ch.app (Ch.word k_repeat 114 [101,112,101,97,116] rfl (by decide)) sg20 st20)
theorem kw_go : Ch0 x_676f207b0a [(1,k_go,0),(3,x_7b,0)]:=Ch0.congr (b:=k_go ++ x_207b0a) (by kernel_rfl) (Ch.app (Ch.word k_go 103 [111] rfl (by decide)) sgop stop_)
theorem kw_else : Ch0 x_20656c7365207b0a [(1,k_else,0),(3,x_7b,0)]:=Ch0.congr (b:=x_20 ++ (k_else ++ x_207b0a)) (by kernel_rfl) (Ch0.app sg20 (Ch.app (Ch.word k_else 101 [108,115,101] rfl (by decide)) sgop stop_))
theorem kw_end : Ch0 x_7d0a [(3,x_7d,0)]:=Ch0.congr (b:=x_7d ++ x_0a) (by kernel_rfl) (Ch0.app sg7d sg0a)
theorem nm5 : ∀ w ∈ [k_x,k_y,k_z,k_a,k_t],w.size = 1 ∧ Ch w [(1,w,0)]:=by
 intro w hw
 simp only [List.mem_cons,List.not_mem_nil,or_false] at hw
 rcases hw with rfl | rfl | rfl | rfl | rfl
 ·exact ⟨rfl,Ch.word k_x 120 [] rfl (by decide)⟩
 ·exact ⟨rfl,Ch.word k_y 121 [] rfl (by decide)⟩
 ·exact ⟨rfl,Ch.word k_z 122 [] rfl (by decide)⟩
 ·exact ⟨rfl,Ch.word k_a 97 [] rfl (by decide)⟩
 ·exact ⟨rfl,Ch.word k_t 116 [] rfl (by decide)⟩
theorem nm2 : ∀ w ∈ [k_c,k_d],w.size = 1 ∧ Ch w [(1,w,0)]:=by
 intro w hw
 simp only [List.mem_cons,List.not_mem_nil,or_false] at hw
 rcases hw with rfl | rfl
 ·exact ⟨rfl,Ch.word k_c 99 [] rfl (by decide)⟩
 ·exact ⟨rfl,Ch.word k_d 100 [] rfl (by decide)⟩
theorem nml : ∀ w ∈ [k_l,k_k],w.size = 1 ∧ Ch w [(1,w,0)]:=by
 intro w hw
 simp only [List.mem_cons,List.not_mem_nil,or_false] at hw
 rcases hw with rfl | rfl
 ·exact ⟨rfl,Ch.word k_l 108 [] rfl (by decide)⟩
 ·exact ⟨rfl,Ch.word k_k 107 [] rfl (by decide)⟩
theorem nmm : k_m.size = 1 ∧ Ch k_m [(1,k_m,0)]:=⟨rfl,Ch.word k_m 109 [] rfl (by decide)⟩
def lvl (k : Int) : Int:=bif (k == 9) || (k == 10) then 1 else bif (k == 4) || (k == 5) then 2 else bif (k == 6) || (k == 7) || (k == 8) then 3 else bif (k == 3) then 4 else bif (k == 1) || (k == 2) then 5 else 0
def sgn (k : Int) : ByteArray:=bif (k == 4) then x_2b else bif (k == 5) then x_2d else bif (k == 6) then x_2a else bif (k == 7) then x_2f else bif (k == 8) then x_25 else bif (k == 9) then x_3c else x_3d3d
def lft (k : Int) : Int:=bif (lvl k == 1) then 2 else lvl k
theorem sgnT (k : Int) (h1 : 4 ≤ k) (h2 : k ≤ 10) : (∀ n,ref1_sign n k = some (sgn k)) ∧ (sgn k).size ≤ 2 ∧ Ch0 (sgn k) [(3,sgn k,0)]:=by
 have : k = 4 ∨ k = 5 ∨ k = 6 ∨ k = 7 ∨ k = 8 ∨ k = 9 ∨ k = 10:=by omega
 rcases this with rfl | rfl | rfl | rfl | rfl | rfl | rfl
 ·exact ⟨fun n=>rfl,by decide,sg2b⟩
 ·exact ⟨fun n=>rfl,by decide,sg2d⟩
 ·exact ⟨fun n=>rfl,by decide,sg2a⟩
 ·exact ⟨fun n=>rfl,by decide,sg2f⟩
 ·exact ⟨fun n=>rfl,by decide,sg25⟩
 ·exact ⟨fun n=>rfl,by decide,sg3c⟩
 ·exact ⟨fun n=>rfl,by decide,sgeq⟩
theorem levelT (k : Int) (h1 : 1 ≤ k) (h2 : k ≤ 10) : (∀ n,ref1_level n k = some (lvl k)) ∧ (4 ≤ k → 1 ≤ lvl k ∧ lvl k ≤ 3) ∧ (k ≤ 2 → lvl k = 5) ∧ (k = 3 → lvl k = 4):=by
 have : k = 1 ∨ k = 2 ∨ k = 3 ∨ k = 4 ∨ k = 5 ∨ k = 6 ∨ k = 7 ∨ k = 8 ∨ k = 9 ∨ k = 10:=by omega
 rcases this with rfl | rfl | rfl | rfl | rfl | rfl | rfl | rfl | rfl | rfl <;> exact ⟨fun n=>rfl,by decide,by decide,by decide⟩
theorem okE_kind : ∀ (d : Nat) (e : Expr),okE d e → 1 ≤ e.Kind ∧ e.Kind ≤ 10
 | 0,_,h=>h.elim
 | d + 1,e,h=>by
  rcases h with ⟨h,_⟩ | ⟨h,_⟩ | ⟨h,_⟩ | ⟨h,h',_⟩ <;> omega
def tkS (low : Int) (e : Expr) (ts : List Key) : List Key:=bif decide (lvl e.Kind < low) then (3,x_28,0) :: (ts ++ [(3,x_29,0)]) else ts
def tkE : Nat → Expr → List Key
 | 0,_=>[]
 | d + 1,⟨k,m,w,l⟩=>bif (k == 1) then [(2,dg m,m)] else bif (k == 2) then [(1,w,0)] else match l with
  | [x]=>(3,x_2d,0) :: tkS 4 x (tkE d x)
  | [x,y]=>tkS (lft k) x (tkE d x) ++ ((3,sgn k,0) :: tkS (lvl k + 1) y (tkE d y))
  | _=>[]
theorem showT : ∀ (d : Nat) (e : Expr),okE d e → szE e ≤ 1000000 → (∃ w,Ev (fun n=>ref1_show n e) w ∧ Ch w (tkE d e) ∧ (w.size + 4 ≤ 4 * szE e ∨ (lvl e.Kind = 5 ∧ w.size ≤ 1))) ∧ ∀ low,low ≤ 5 → ∃ w,Ev (fun n=>ref1_side n e low) w ∧ Ch w (tkS low e (tkE d e)) ∧ w.size + 2 ≤ 4 * szE e:=by
 intro d
 induction d with
 | zero=>intro e h; exact h.elim
 | succ d ih =>
  intro e h hz
  have hk:=okE_kind _ e h
  have hsz : 1 ≤ szE e:=by cases e; rw [szE]; omega
  have hs : ∃ w,Ev (fun n=>ref1_show n e) w ∧ Ch w (tkE (d + 1) e) ∧ (w.size + 4 ≤ 4 * szE e ∨ (lvl e.Kind = 5 ∧ w.size ≤ 1)):=by
   obtain ⟨k,m,w,l⟩:=e
   obtain ⟨hlv,hlv2,hlv5,_⟩:=levelT k hk.1 hk.2
   rcases h with ⟨h1,h2,h3,h4,h5⟩ | ⟨h1,h2,h3,h5⟩ | ⟨h1,h2,h3,x,h5,h6⟩ | ⟨h1,h1',h2,h3,x,y,h5,h6,h7⟩ <;> simp only at h1 h2 h3 h5 <;> subst h5
   ·subst h1
    obtain ⟨k1,k2,k3⟩:=digitsT m h2 (by omega)
    refine ⟨dg m,Ev.step (Ev.of_eq (g:=fun n=>(ref1_Digits n m).bind fun r4=>some r4) (fun n=>?_) (Ev.bind k1 (Ev.ret _))),k3,.inr ⟨rfl,by omega⟩⟩
    simp only [ref1_show,hlv,Option.bind_some,jn,decide_eq_true (show m ≥ 0 from h2)]; rfl
   ·subst h1
    obtain ⟨z,c⟩:=nm5 w h3
    refine ⟨w,Ev.step (Ev.of_eq (g:=fun n=>some w) (fun n=>?_) (Ev.ret _)),c,.inr ⟨rfl,by omega⟩⟩
    simp only [ref1_show,hlv,Option.bind_some,jn]; rfl
   ·subst h1
    rw [szE,szEl,szEl] at hz ⊢
    obtain ⟨w',k1,kc,k2⟩:=(ih x h6 (by omega)).2 4 (by omega)
    have hr : sroom x_2d w' = true:=sroom_of (by have : x_2d.size = 1:=rfl; omega)
    refine ⟨x_2d ++ w',Ev.step (Ev.of_eq (g:=fun n=>(ref1_side n x 4).bind fun r8=>bif sroom x_2d r8 then some (x_2d ++ r8) else none) (fun n=>?_) (Ev.bind k1 ?_)),Ch0.app1 sg2d kc,.inl ?_⟩
    ·simp only [ref1_show,hlv,Option.bind_some,jn]; rfl
    ·simp only [hr,cond_true]; exact Ev.ret _
    ·rw [size_app]; have : x_2d.size = 1:=rfl; omega
   ·rw [szE,szEl,szEl,szEl] at hz ⊢
    obtain ⟨q1,q2⟩:=hlv2 h1
    have b1 : (k == 1) = false:=by simp; omega
    have b2 : (k == 2) = false:=by simp; omega
    have b3 : (k == 3) = false:=by simp; omega
    obtain ⟨wl,k1,kc,k2⟩:=(ih x h6 (by omega)).2 (lft k) (by unfold lft; cases (lvl k == 1) <;> simp <;> omega)
    obtain ⟨wr',l1,lc,l2⟩:=(ih y h7 (by omega)).2 (lvl k + 1) (by omega)
    obtain ⟨s1,s2,sc⟩:=sgnT k h1 h1'
    have z1 : x_20.size = 1:=rfl
    have r1 : sroom wl x_20 = true:=sroom_of (by omega)
    have r2 : sroom (wl ++ x_20) (sgn k) = true:=sroom_of (by rw [size_app]; omega)
    have r3 : sroom ((wl ++ x_20) ++ sgn k) x_20 = true:=sroom_of (by rw [size_app,size_app]; omega)
    have r4 : sroom (((wl ++ x_20) ++ sgn k) ++ x_20) wr' = true:=sroom_of (by rw [size_app,size_app,size_app]; omega)
    have i0 : idx [x,y] 0 = some x:=rfl
    have i1 : idx [x,y] 1 = some y:=rfl
    have l2' : (ln [x,y] == 2) = true:=rfl
    have hwr : wr (lvl k + 1) = lvl k + 1:=wr_of (by omega)
    refine ⟨(((wl ++ x_20) ++ sgn k) ++ x_20) ++ wr',Ev.step (Ev.of_eq (g:=fun n=>(ref1_side n x (lft k)).bind fun r15=>bif sroom r15 x_20 then bif sroom (r15 ++ x_20) (sgn k) then bif sroom ((r15 ++ x_20) ++ sgn k) x_20 then (ref1_side n y (lvl k + 1)).bind fun r21 =>
      bif sroom (((r15 ++ x_20) ++ sgn k) ++ x_20) r21 then some ((((r15 ++ x_20) ++ sgn k) ++ x_20) ++ r21) else none else none else none else none) (fun n=>?_) (Ev.bind k1 ?_)),?_,.inl ?_⟩
    ·have g1 : decide (lvl k ≥ 1) = true:=decide_eq_true q1
     have g2 : decide (lvl k ≤ 3) = true:=decide_eq_true q2
     unfold lft
     cases hc : (lvl k == 1) <;> simp only [ref1_show,hlv,Option.bind_some,jn,b1,b2,b3,cond_false,cond_true,g1,g2,l2',hc,i0,i1,s1,hwr]
    ·simp only [r1,r2,r3,cond_true]
     refine Ev.bind l1 ?_
     simp only [r4,cond_true]; exact Ev.ret _
    ·have e : tkE (d + 1) ⟨k,m,w,[x,y]⟩ = (((tkS (lft k) x (tkE d x) ++ []) ++ [(3,sgn k,0)]) ++ []) ++ tkS (lvl k + 1) y (tkE d y):=by
      rw [tkE,b1,b2,cond_false,cond_false]; simp
     rw [e]
     exact Ch0.app1 (Ch0.app (Ch0.app (Ch.app kc sg20 st20) sc) sg20) lc
    ·simp only [size_app]; omega
  refine ⟨hs,fun low hlow=>?_⟩
  obtain ⟨w,k1,kc,k2⟩:=hs
  obtain ⟨hlv,_⟩:=levelT e.Kind hk.1 hk.2
  by_cases hc : lvl e.Kind < low
  ·have z1 : x_28.size = 1:=rfl
   have z2 : x_29.size = 1:=rfl
   have r1 : sroom x_28 w = true:=sroom_of (by omega)
   have r2 : sroom (x_28 ++ w) x_29 = true:=sroom_of (by rw [size_app]; omega)
   refine ⟨(x_28 ++ w) ++ x_29,Ev.step (Ev.of_eq (g:=fun n=>(ref1_show n e).bind fun r2=>bif sroom x_28 r2 then bif sroom (x_28 ++ r2) x_29 then some ((x_28 ++ r2) ++ x_29) else none else none) (fun n=>?_) (Ev.bind k1 ?_)),?_,by simp only [size_app]; omega⟩
   ·simp only [ref1_side,hlv,Option.bind_some,decide_eq_true hc,cond_true]
   ·simp only [r1,r2,cond_true]; exact Ev.ret _
   ·unfold tkS
    rw [decide_eq_true hc,cond_true]
    exact (Ch.app (Ch0.app1 sg28 kc) sg29 st29).ch
  ·refine ⟨w,Ev.step (Ev.of_eq (g:=fun n=>(ref1_show n e).bind fun r5=>some r5) (fun n=>?_) (Ev.bind k1 (Ev.ret _))),?_,by omega⟩
   ·simp only [ref1_side,hlv,Option.bind_some,decide_eq_false hc,cond_false]
   ·unfold tkS
    rw [decide_eq_false hc,cond_false]; exact kc
theorem tabsT : ∀ m : Nat,m ≤ 100000 → ∃ w,Ev (fun n=>ref1_tabs n (m : Int)) w ∧ w.size = m ∧ Ch0 w []
 | 0,_=>⟨b0,Ev.step (Ev.of_eq (g:=fun n=>some b0) (fun n=>by simp only [ref1_tabs]; rfl) (Ev.ret _)),rfl,Ch0.nil⟩
 | m + 1,h=>by
  obtain ⟨w,k1,k2,k3⟩:=tabsT m (by omega)
  have d : decide (((m + 1 : Nat) : Int) ≤ 0) = false:=decide_eq_false (by omega)
  have e : wr (((m + 1 : Nat) : Int) - 1) = (m : Int):=by rw [wr_of (by omega)]; omega
  have z : x_09.size = 1:=rfl
  have r : sroom x_09 w = true:=sroom_of (by omega)
  refine ⟨x_09 ++ w,Ev.step (Ev.of_eq (g:=fun n=>(ref1_tabs n (m : Int)).bind fun r1=>bif sroom x_09 r1 then some (x_09 ++ r1) else none) (fun n=>?_) (Ev.bind k1 ?_)),by rw [size_app]; omega,Ch0.app sg09 k3⟩
  ·simp only [ref1_tabs,d,cond_false,e]
  ·simp only [r,cond_true]; exact Ev.ret _
mutual
def tkSt : Stmt → List Key
 | ⟨k,w,v,m,e,b,l,_⟩=>bif (k == 1) then (1,w,0) :: (3,x_3d,0) :: tkE 4 e else bif (k == 2) then [(1,k_lock,0),(1,w,0)] else bif (k == 3) then [(1,k_unlock,0),(1,w,0)] else
  bif (k == 4) then (1,k_send,0) :: (1,w,0) :: tkE 4 e else bif (k == 5) then [(1,k_recv,0),(1,w,0),(1,v,0)] else bif (k == 6) then (1,k_print,0) :: tkE 4 e else
  bif (k == 9) then [(1,k_goto,0),(1,w,0)] else bif (k == 10) then [(1,k_label,0),(1,w,0)] else
  bif (k == 7) then (1,k_if,0) :: (tkE 4 e ++ ((3,x_7b,0) :: (tkB b ++ ((3,x_7d,0) :: (bif l.isEmpty then [] else (1,k_else,0) :: (3,x_7b,0) :: (tkB l ++ [(3,x_7d,0)])))))) else
  (1,k_repeat,0) :: (2,dg m,m) :: (3,x_7b,0) :: (tkB b ++ [(3,x_7d,0)])
def tkB : List Stmt → List Key
 | []=>[]
 | s :: r=>tkSt s ++ tkB r
end
theorem linesT : (∀ s : Stmt,∀ d m : Nat,okS d s → m + d ≤ 3 → wt s ≤ 2000 → (∃ w,Ev (fun n=>ref1_lines n s.Body ((m + 1 : Nat) : Int)) w ∧ w.size ≤ 4 * wtl s.Body ∧ Ch0 w (tkB s.Body)) ∧ ∃ w,Ev (fun n=>ref1_lines n s.Else ((m + 1 : Nat) : Int)) w ∧ w.size ≤ 4 * wtl s.Else ∧ Ch0 w (tkB s.Else)) ∧
  ∀ l : List Stmt,∀ (d m : Nat) (in_ : ByteArray) (pre : List Stmt) (acc : ByteArray) (ta : List Key),okSl d l → m ≤ 100 → (l ≠ [] → m + d ≤ 3) → wtl l ≤ 2000 → in_.size = m → Ch0 in_ [] → (pre ++ l).length ≤ 2000 → acc.size + 4 * wtl l ≤ 100000000 → Ch0 acc ta →
   ∃ w,Ev (fun n=>ref1_lines_L0 n (pre ++ l) (m : Int) in_ acc pre.length) w ∧ w.size ≤ acc.size + 4 * wtl l ∧ Ch0 w (ta ++ tkB l):=by
 have wlen : ∀ l : List Stmt,l.length ≤ wtl l:=by
  intro l
  induction l with
  | nil=>simp
  | cons s r ih=>cases s; rw [List.length_cons,wtl,wt]; omega
 have blk : ∀ l : List Stmt,(∀ (d m : Nat) (in_ : ByteArray) (pre : List Stmt) (acc : ByteArray) (ta : List Key),okSl d l → m ≤ 100 → (l ≠ [] → m + d ≤ 3) → wtl l ≤ 2000 → in_.size = m → Ch0 in_ [] → (pre ++ l).length ≤ 2000 → acc.size + 4 * wtl l ≤ 100000000 → Ch0 acc ta →
   ∃ w,Ev (fun n=>ref1_lines_L0 n (pre ++ l) (m : Int) in_ acc pre.length) w ∧ w.size ≤ acc.size + 4 * wtl l ∧ Ch0 w (ta ++ tkB l)) →
   ∀ d m : Nat,okSl d l → m ≤ 100 → (l ≠ [] → m + d ≤ 3) → wtl l ≤ 2000 → ∃ w,Ev (fun n=>ref1_lines n l (m : Int)) w ∧ w.size ≤ 4 * wtl l ∧ Ch0 w (tkB l):=by
  intro l ih d m h1 h2 h3 h4
  obtain ⟨t,k1,k2,k3⟩:=tabsT m (by omega)
  have z : b0.size = 0:=rfl
  obtain ⟨w,l1,l2,l3⟩:=ih d m t [] b0 [] h1 h2 h3 h4 k2 k3 (by have:=wlen l; simp; omega) (by omega) Ch0.nil
  exact ⟨w,Ev.step (Ev.of_eq (g:=fun n=>(ref1_tabs n (m : Int)).bind fun r1=>ref1_lines_L0 n l (m : Int) r1 b0 0) (fun n=>by simp only [ref1_lines]) (Ev.bind k1 l1)),by omega,l3⟩
 refine stmt_ind ?_ ?_ ?_
 ·intro k w v m e b l a ihb ihl d q h hq hw
  rw [okS] at h
  rw [wt] at hw
  have c : ∀ x : List Stmt,(d = 0 → x = []) → x ≠ [] → q + 1 + (d - 1) ≤ 3:=fun x hx hne=>by
   rcases Nat.eq_zero_or_pos d with h0 | h0
   ·exact absurd (hx h0) hne
   ·omega
  exact ⟨blk b ihb _ (q + 1) h.2.2.2.1 (by omega) (c b fun h0=>(h.2.1 h0).1) (by omega),blk l ihl _ (q + 1) h.2.2.2.2 (by omega) (c l fun h0=>(h.2.1 h0).2) (by omega)⟩
 ·intro d m in_ pre acc ta _ _ _ _ _ _ _ _ hc
  exact ⟨acc,Ev.step (Ev.of_eq (g:=fun n=>some acc) (fun n=>by simp only [ref1_lines_L0,List.append_nil,ix_ge,cond_false]) (Ev.ret _)),by simp [wtl],by rw [tkB,List.append_nil]; exact hc⟩
 ·intro s r ihs ihr d m in_ pre acc ta h h100 hmd h2 h3 hin h4 h5 hacc
  have hmd3:=hmd (by simp)
  rw [okSl] at h
  rw [wtl] at h2 h5
  have hp : pre.length + 1 ≤ 2000:=by simp at h4; omega
  have hsub:=ihs d m h.1 hmd3 (by omega)
  have hw:=ix_wr pre s (by omega)
  have hws : 10 ≤ wt s ∧ wt s = 10 + 2 * (wtl s.Body + wtl s.Else):=by cases s; rw [wt]; simp
  obtain ⟨⟨wb,hb1,hb2,hb3⟩,wl,hl1,hl2,hl3⟩:=hsub
  have zn : x_0a.size = 1:=rfl
  obtain ⟨FF,hFF⟩ : ∃ FF : Nat → ByteArray → Option ByteArray,∀ n line,FF n line = bif sroom acc in_ then bif sroom (acc ++ in_) line then bif sroom ((acc ++ in_) ++ line) x_0a then ref1_lines_L0 n (pre ++ s :: r) (m : Int) in_ (((acc ++ in_) ++ line) ++ x_0a) (wr ((pre.length : Int) + 1)) else none else none else none:=⟨_,fun _ _=>rfl⟩

  have fin : ∀ (line : ByteArray) (tl : List Key),line.size + m + 1 ≤ 4 * wt s → Ch line tl → tkSt s = tl → ∃ w,Ev (fun n=>FF n line) w ∧ w.size ≤ acc.size + 4 * (wt s + wtl r) ∧ Ch0 w (ta ++ (tkSt s ++ tkB r)):=by
   intro line tl hline hch htl
   have r1 : sroom acc in_ = true:=sroom_of (by omega)
   have r2 : sroom (acc ++ in_) line = true:=sroom_of (by rw [size_app]; omega)
   have r3 : sroom ((acc ++ in_) ++ line) x_0a = true:=sroom_of (by rw [size_app,size_app]; omega)
   obtain ⟨w,k1,k2,k3⟩:=ihr d m in_ (pre ++ [s]) (((acc ++ in_) ++ line) ++ x_0a) _ h.2 h100 (fun _=>hmd3) (by omega) h3 hin (by rw [← ix_cons]; exact h4) (by simp only [size_app]; omega) (Ch.app (Ch0.app1 (Ch0.app hacc hin) hch) sg0a st0a)
   refine ⟨w,?_,by simp only [size_app] at k2; omega,by rw [htl]; simpa using k3⟩
   simp only [hFF,r1,r2,r3,cond_true,hw]
   rw [ix_cons]; exact k1
  rw [wtl,tkB]
  have z20 : x_20.size = 1:=rfl
  have z7d : x_7d.size = 1:=rfl
  have ze : x_203d20.size = 3:=rfl
  have zlk : x_6c6f636b20.size = 5:=rfl
  have zul : x_756e6c6f636b20.size = 7:=rfl
  have zsd : x_73656e6420.size = 5:=rfl
  have zrc : x_7265637620.size = 5:=rfl
  have zpr : x_7072696e7420.size = 6:=rfl
  have zgo : x_676f746f20.size = 5:=rfl
  have zlb : x_6c6162656c20.size = 6:=rfl
  have zif : x_696620.size = 3:=rfl
  have zop : x_207b0a.size = 3:=rfl
  have zel : x_20656c7365207b0a.size = 8:=rfl
  have zrp : x_72657065617420.size = 7:=rfl
  obtain ⟨k,w,v,mm,e,b,l,a⟩:=s
  obtain ⟨hH,_,hzE,_,_⟩:=(show okS d ⟨k,w,v,mm,e,b,l,a⟩ from h.1)
  simp only at hb1 hb2 hb3 hl1 hl2 hl3 fin hws
  have lift : ∀ (G : Nat → Option ByteArray),(∃ w',Ev G w' ∧ w'.size ≤ acc.size + 4 * (wt ⟨k,w,v,mm,e,b,l,a⟩ + wtl r) ∧ Ch0 w' (ta ++ (tkSt ⟨k,w,v,mm,e,b,l,a⟩ ++ tkB r))) → (∀ n,ref1_lines_L0 (n + 1) (pre ++ ⟨k,w,v,mm,e,b,l,a⟩ :: r) (m : Int) in_ acc pre.length = G n) →
    ∃ w',Ev (fun n=>ref1_lines_L0 n (pre ++ ⟨k,w,v,mm,e,b,l,a⟩ :: r) (m : Int) in_ acc pre.length) w' ∧ w'.size ≤ acc.size + 4 * (wt ⟨k,w,v,mm,e,b,l,a⟩ + wtl r) ∧ Ch0 w' (ta ++ (tkSt ⟨k,w,v,mm,e,b,l,a⟩ ++ tkB r)) :=
   fun G ⟨w',k1,k2⟩ hG=>⟨w',Ev.step (Ev.of_eq hG k1),k2⟩
  have sh : ∀ e : Expr,okE 4 e → szE e ≤ 7 → ∃ t,Ev (fun n=>ref1_show n e) t ∧ Ch t (tkE 4 e) ∧ t.size ≤ 24:=by
   intro e he hz
   obtain ⟨⟨t,t1,t2,t3⟩,_⟩:=showT 4 e he (by omega)
   exact ⟨t,t1,t2,by omega⟩
  cases hH
  case assign =>
   have he : okE 4 e:=by assumption
   have hw' : w ∈ [k_x,k_y,k_z,k_a,k_t]:=by assumption
   obtain ⟨t,t1,tc,t2⟩:=sh e he hzE
   obtain ⟨nz,nc⟩:=nm5 w hw'
   obtain ⟨w',f1,f2⟩:=fin ((w ++ x_203d20) ++ t) _ (by simp only [size_app]; omega) (Ch0.app1 (Ch.app nc sgas stas) tc) (by rw [tkSt]; rfl)
   refine lift (fun n=>(ref1_show n e).bind fun r9=>bif sroom (w ++ x_203d20) r9 then FF n ((w ++ x_203d20) ++ r9) else none) ⟨w',Ev.bind t1 ?_,f2⟩ fun n=>?_
   ·simp only [show sroom (w ++ x_203d20) t = true from sroom_of (by simp only [size_app]; omega),cond_true]; exact f1
   ·simp only [ref1_lines_L0,ix_lt,cond_true,ix_get,Option.bind_some,jn,show sroom w x_203d20 = true from sroom_of (by omega),hFF]; try rfl
  case lock =>
   obtain ⟨nz,nc⟩:=nmm
   obtain ⟨w',f1,f2⟩:=fin (x_6c6f636b20 ++ k_m) _ (by simp only [size_app]; omega) (Ch0.app1 kw_lock nc) (by rw [tkSt]; rfl)
   refine lift (fun n=>FF n (x_6c6f636b20 ++ k_m)) ⟨w',f1,f2⟩ fun n=>?_
   simp only [ref1_lines_L0,ix_lt,cond_true,ix_get,Option.bind_some,jn,show sroom x_6c6f636b20 k_m = true from sroom_of (by omega),hFF]; try rfl
  case unlock =>
   obtain ⟨nz,nc⟩:=nmm
   obtain ⟨w',f1,f2⟩:=fin (x_756e6c6f636b20 ++ k_m) _ (by simp only [size_app]; omega) (Ch0.app1 kw_unlock nc) (by rw [tkSt]; rfl)
   refine lift (fun n=>FF n (x_756e6c6f636b20 ++ k_m)) ⟨w',f1,f2⟩ fun n=>?_
   simp only [ref1_lines_L0,ix_lt,cond_true,ix_get,Option.bind_some,jn,show sroom x_756e6c6f636b20 k_m = true from sroom_of (by omega),hFF]; try rfl
  case send =>
   have he : okE 4 e:=by assumption
   have hw' : w ∈ [k_c,k_d]:=by assumption
   obtain ⟨t,t1,tc,t2⟩:=sh e he hzE
   obtain ⟨nz,nc⟩:=nm2 w hw'
   obtain ⟨w',f1,f2⟩:=fin (((x_73656e6420 ++ w) ++ x_20) ++ t) _ (by simp only [size_app]; omega) (Ch0.app1 (Ch.app (Ch0.app1 kw_send nc) sg20 st20) tc) (by rw [tkSt]; rfl)
   refine lift (fun n=>(ref1_show n e).bind fun r9=>bif sroom ((x_73656e6420 ++ w) ++ x_20) r9 then FF n (((x_73656e6420 ++ w) ++ x_20) ++ r9) else none) ⟨w',Ev.bind t1 ?_,f2⟩ fun n=>?_
   ·simp only [show sroom ((x_73656e6420 ++ w) ++ x_20) t = true from sroom_of (by simp only [size_app]; omega),cond_true]; exact f1
   ·simp only [ref1_lines_L0,ix_lt,cond_true,ix_get,Option.bind_some,jn,show sroom x_73656e6420 w = true from sroom_of (by omega),show sroom (x_73656e6420 ++ w) x_20 = true from sroom_of (by simp only [size_app]; omega),hFF]; try rfl
  case recv =>
   have hw' : w ∈ [k_c,k_d]:=by assumption
   have hv : v ∈ [k_x,k_y,k_z,k_a,k_t]:=by assumption
   obtain ⟨nz,nc⟩:=nm2 w hw'
   obtain ⟨nz',nc'⟩:=nm5 v hv
   obtain ⟨w',f1,f2⟩:=fin (((x_7265637620 ++ w) ++ x_20) ++ v) _ (by simp only [size_app]; omega) (Ch0.app1 (Ch.app (Ch0.app1 kw_recv nc) sg20 st20) nc') (by rw [tkSt]; rfl)
   refine lift (fun n=>FF n (((x_7265637620 ++ w) ++ x_20) ++ v)) ⟨w',f1,f2⟩ fun n=>?_
   simp only [ref1_lines_L0,ix_lt,cond_true,ix_get,Option.bind_some,jn,show sroom x_7265637620 w = true from sroom_of (by omega),show sroom (x_7265637620 ++ w) x_20 = true from sroom_of (by simp only [size_app]; omega),show sroom ((x_7265637620 ++ w) ++ x_20) v = true from sroom_of (by simp only [size_app]; omega),hFF]; try rfl
  case print =>
   have he : okE 4 e:=by assumption
   obtain ⟨t,t1,tc,t2⟩:=sh e he hzE
   obtain ⟨w',f1,f2⟩:=fin (x_7072696e7420 ++ t) _ (by simp only [size_app]; omega) (Ch0.app1 kw_print tc) (by rw [tkSt]; rfl)
   refine lift (fun n=>(ref1_show n e).bind fun r9=>bif sroom x_7072696e7420 r9 then FF n (x_7072696e7420 ++ r9) else none) ⟨w',Ev.bind t1 ?_,f2⟩ fun n=>?_
   ·simp only [show sroom x_7072696e7420 t = true from sroom_of (by omega),cond_true]; exact f1
   ·simp only [ref1_lines_L0,ix_lt,cond_true,ix_get,Option.bind_some,jn,hFF]; try rfl
  case goto =>
   have hw' : w ∈ [k_l,k_k]:=by assumption
   obtain ⟨nz,nc⟩:=nml w hw'
   obtain ⟨w',f1,f2⟩:=fin (x_676f746f20 ++ w) _ (by simp only [size_app]; omega) (Ch0.app1 kw_goto nc) (by rw [tkSt]; rfl)
   refine lift (fun n=>FF n (x_676f746f20 ++ w)) ⟨w',f1,f2⟩ fun n=>?_
   simp only [ref1_lines_L0,ix_lt,cond_true,ix_get,Option.bind_some,jn,show sroom x_676f746f20 w = true from sroom_of (by omega),hFF]; try rfl
  case label =>
   have hw' : w ∈ [k_l,k_k]:=by assumption
   obtain ⟨nz,nc⟩:=nml w hw'
   obtain ⟨w',f1,f2⟩:=fin (x_6c6162656c20 ++ w) _ (by simp only [size_app]; omega) (Ch0.app1 kw_label nc) (by rw [tkSt]; rfl)
   refine lift (fun n=>FF n (x_6c6162656c20 ++ w)) ⟨w',f1,f2⟩ fun n=>?_
   simp only [ref1_lines_L0,ix_lt,cond_true,ix_get,Option.bind_some,jn,show sroom x_6c6162656c20 w = true from sroom_of (by omega),hFF]; try rfl
  case rep =>
   have q0 : 0 ≤ mm:=by assumption
   have q1 : mm ≤ 2:=by assumption
   obtain ⟨t1,t2,tc⟩:=digitsT mm q0 (by omega)
   have hm1 : wr ((m : Int) + 1) = ((m + 1 : Nat) : Int):=by rw [wr_of (by omega)]; rfl
   generalize hdg : dg mm = t at t1 t2 tc
   obtain ⟨w',f1,f2⟩:=fin (((((x_72657065617420 ++ t) ++ x_207b0a) ++ wb) ++ in_) ++ x_7d) _ (by simp only [size_app]; omega) (Ch0.app (Ch0.app (Ch0.app (Ch.app (Ch0.app1 kw_repeat tc) sgop stop_) hb3) hin) sg7d).ch (by rw [tkSt,hdg]; simp)
   refine lift (fun n=>(ref1_Digits n mm).bind fun r36=>bif sroom x_72657065617420 r36 then bif sroom (x_72657065617420 ++ r36) x_207b0a then (ref1_lines n b ((m + 1 : Nat) : Int)).bind fun r39=>bif sroom ((x_72657065617420 ++ r36) ++ x_207b0a) r39 then bif sroom (((x_72657065617420 ++ r36) ++ x_207b0a) ++ r39) in_ then bif sroom ((((x_72657065617420 ++ r36) ++ x_207b0a) ++ r39) ++ in_) x_7d then
    FF n (((((x_72657065617420 ++ r36) ++ x_207b0a) ++ r39) ++ in_) ++ x_7d) else none else none else none else none else none) ⟨w',Ev.bind t1 ?_,f2⟩ fun n=>?_
   ·simp only [show sroom x_72657065617420 t = true from sroom_of (by omega),show sroom (x_72657065617420 ++ t) x_207b0a = true from sroom_of (by simp only [size_app]; omega),cond_true]
    refine Ev.bind hb1 ?_
    simp only [show sroom ((x_72657065617420 ++ t) ++ x_207b0a) wb = true from sroom_of (by simp only [size_app]; omega),show sroom (((x_72657065617420 ++ t) ++ x_207b0a) ++ wb) in_ = true from sroom_of (by simp only [size_app]; omega),show sroom ((((x_72657065617420 ++ t) ++ x_207b0a) ++ wb) ++ in_) x_7d = true from sroom_of (by simp only [size_app]; omega),cond_true]
    exact f1
   ·simp only [ref1_lines_L0,ix_lt,cond_true,ix_get,Option.bind_some,jn,hm1,decide_eq_true (show mm ≥ 0 from q0),hFF]; try rfl
  case cond =>
   have he : okE 4 e:=by assumption
   obtain ⟨t,t1,tc,t2⟩:=sh e he hzE
   have hm1 : wr ((m : Int) + 1) = ((m + 1 : Nat) : Int):=by rw [wr_of (by omega)]; rfl
   have s1 : sroom x_696620 t = true:=sroom_of (by omega)
   have s2 : sroom (x_696620 ++ t) x_207b0a = true:=sroom_of (by simp only [size_app]; omega)
   have s3 : sroom ((x_696620 ++ t) ++ x_207b0a) wb = true:=sroom_of (by simp only [size_app]; omega)
   have s4 : sroom (((x_696620 ++ t) ++ x_207b0a) ++ wb) in_ = true:=sroom_of (by simp only [size_app]; omega)
   have s5 : sroom ((((x_696620 ++ t) ++ x_207b0a) ++ wb) ++ in_) x_7d = true:=sroom_of (by simp only [size_app]; omega)
   have c5:=Ch0.app (Ch0.app (Ch0.app (Ch.app (Ch0.app1 kw_if tc) sgop stop_) hb3) hin) sg7d
   cases l with
   | nil =>
    have hE : decide (ln ([] : List Stmt) > 0) = false:=rfl
    obtain ⟨w',f1,f2⟩:=fin (((((x_696620 ++ t) ++ x_207b0a) ++ wb) ++ in_) ++ x_7d) _ (by simp only [size_app]; omega) c5.ch (by rw [tkSt]; simp)
    refine lift (fun n=>(ref1_show n e).bind fun r24=>bif sroom x_696620 r24 then bif sroom (x_696620 ++ r24) x_207b0a then (ref1_lines n b ((m + 1 : Nat) : Int)).bind fun r27=>bif sroom ((x_696620 ++ r24) ++ x_207b0a) r27 then bif sroom (((x_696620 ++ r24) ++ x_207b0a) ++ r27) in_ then bif sroom ((((x_696620 ++ r24) ++ x_207b0a) ++ r27) ++ in_) x_7d then
     FF n (((((x_696620 ++ r24) ++ x_207b0a) ++ r27) ++ in_) ++ x_7d) else none else none else none else none else none) ⟨w',Ev.bind t1 ?_,f2⟩ fun n=>?_
    ·simp only [s1,s2,cond_true]
     refine Ev.bind hb1 ?_
     simp only [s3,s4,s5,cond_true]
     exact f1
    ·simp only [ref1_lines_L0,ix_lt,cond_true,ix_get,Option.bind_some,jn,hm1,hE,cond_false,hFF]; try rfl
   | cons l0 lr =>
    have hE : decide (ln (l0 :: lr) > 0) = true:=decide_eq_true (by show (((l0 :: lr).length : Nat) : Int) > 0; rw [List.length_cons]; omega)
    have h10 : 10 ≤ wtl (l0 :: lr):=by
     have h11 : 10 ≤ wt l0:=by cases l0; simp only [wt]; omega
     rw [wtl]; omega
    have s6 : sroom (((((x_696620 ++ t) ++ x_207b0a) ++ wb) ++ in_) ++ x_7d) x_20656c7365207b0a = true:=sroom_of (by simp only [size_app]; omega)
    have s7 : sroom ((((((x_696620 ++ t) ++ x_207b0a) ++ wb) ++ in_) ++ x_7d) ++ x_20656c7365207b0a) wl = true:=sroom_of (by simp only [size_app]; omega)
    have s8 : sroom (((((((x_696620 ++ t) ++ x_207b0a) ++ wb) ++ in_) ++ x_7d) ++ x_20656c7365207b0a) ++ wl) in_ = true:=sroom_of (by simp only [size_app]; omega)
    have s9 : sroom ((((((((x_696620 ++ t) ++ x_207b0a) ++ wb) ++ in_) ++ x_7d) ++ x_20656c7365207b0a) ++ wl) ++ in_) x_7d = true:=sroom_of (by simp only [size_app]; omega)
    obtain ⟨w',f1,f2⟩:=fin (((((((((x_696620 ++ t) ++ x_207b0a) ++ wb) ++ in_) ++ x_7d) ++ x_20656c7365207b0a) ++ wl) ++ in_) ++ x_7d) _ (by simp only [size_app]; omega) (Ch0.app (Ch0.app (Ch0.app (Ch0.app c5 kw_else) hl3) hin) sg7d).ch (by rw [tkSt]; simp)
    refine lift (fun n=>(ref1_show n e).bind fun r24=>bif sroom x_696620 r24 then bif sroom (x_696620 ++ r24) x_207b0a then (ref1_lines n b ((m + 1 : Nat) : Int)).bind fun r27=>bif sroom ((x_696620 ++ r24) ++ x_207b0a) r27 then bif sroom (((x_696620 ++ r24) ++ x_207b0a) ++ r27) in_ then bif sroom ((((x_696620 ++ r24) ++ x_207b0a) ++ r27) ++ in_) x_7d then
     bif sroom (((((x_696620 ++ r24) ++ x_207b0a) ++ r27) ++ in_) ++ x_7d) x_20656c7365207b0a then (ref1_lines n (l0 :: lr) ((m + 1 : Nat) : Int)).bind fun r32=>bif sroom ((((((x_696620 ++ r24) ++ x_207b0a) ++ r27) ++ in_) ++ x_7d) ++ x_20656c7365207b0a) r32 then bif sroom (((((((x_696620 ++ r24) ++ x_207b0a) ++ r27) ++ in_) ++ x_7d) ++ x_20656c7365207b0a) ++ r32) in_ then bif sroom ((((((((x_696620 ++ r24) ++ x_207b0a) ++ r27) ++ in_) ++ x_7d) ++ x_20656c7365207b0a) ++ r32) ++ in_) x_7d then
     FF n (((((((((x_696620 ++ r24) ++ x_207b0a) ++ r27) ++ in_) ++ x_7d) ++ x_20656c7365207b0a) ++ r32) ++ in_) ++ x_7d) else none else none else none else none else none else none else none else none else none) ⟨w',Ev.bind t1 ?_,f2⟩ fun n=>?_
    ·simp only [s1,s2,cond_true]
     refine Ev.bind hb1 ?_
     simp only [s3,s4,s5,s6,cond_true]
     refine Ev.bind hl1 ?_
     simp only [s7,s8,s9,cond_true]
     exact f1
    ·simp only [ref1_lines_L0,ix_lt,cond_true,ix_get,Option.bind_some,jn,hm1,hE,hFF]; try rfl
theorem linesBT (l : List Stmt) (h : okSl 2 l) (hw : wtl l ≤ 2000) : ∃ w,Ev (fun n=>ref1_lines n l ((1 : Nat) : Int)) w ∧ w.size ≤ 4 * wtl l ∧ Ch0 w (tkB l):=by
 have wlen : ∀ l : List Stmt,l.length ≤ wtl l:=by
  intro l
  induction l with
  | nil=>simp
  | cons s r ih=>cases s; rw [List.length_cons,wtl,wt]; omega
 obtain ⟨t,k1,k2,k3⟩:=tabsT 1 (by omega)
 have z : b0.size = 0:=rfl
 obtain ⟨w,l1,l2,l3⟩:=linesT.2 l 2 1 t [] b0 [] h (by omega) (fun _=>by omega) hw k2 k3 (by have:=wlen l; simp; omega) (by omega) Ch0.nil
 exact ⟨w,Ev.step (Ev.of_eq (g:=fun n=>(ref1_tabs n ((1 : Nat) : Int)).bind fun r1=>ref1_lines_L0 n l ((1 : Nat) : Int) r1 b0 0) (fun n=>by simp only [ref1_lines]) (Ev.bind k1 l1)),by omega,l3⟩
def kwD (k : Int) : ByteArray:=bif (k == 1) then k_var else bif (k == 2) then k_wide else bif (k == 3) then k_atomic else bif (k == 4) then k_local else bif (k == 5) then k_mutex else k_chan
def tkD (d : Decl) : List Key:=(1,kwD d.Kind,0) :: (1,d.Name,0) :: (bif (d.Kind == 6) then [(2,dg d.N,d.N)] else [])
def tkDs : List Decl → List Key
 | []=>[]
 | d :: r=>tkD d ++ tkDs r
def tkTs : List (List Stmt) → List Key
 | []=>[]
 | t :: r=>(1,k_go,0) :: (3,x_7b,0) :: (tkB t ++ ((3,x_7d,0) :: tkTs r))
def wtT : List (List Stmt) → Nat
 | []=>0
 | t :: r=>7 + 4 * wtl t + wtT r
theorem kwDT (k : Int) (h1 : 1 ≤ k) (h2 : k ≤ 6) : idx [b0,k_var,k_wide,k_atomic,k_local,k_mutex,k_chan] k = some (kwD k) ∧ (kwD k).size ≤ 6 ∧ Ch (kwD k) [(1,kwD k,0)]:=by
 have : k = 1 ∨ k = 2 ∨ k = 3 ∨ k = 4 ∨ k = 5 ∨ k = 6:=by omega
 rcases this with rfl | rfl | rfl | rfl | rfl | rfl
 ·exact ⟨rfl,by decide,Ch.word k_var 118 [97,114] rfl (by decide)⟩
 ·exact ⟨rfl,by decide,Ch.word k_wide 119 [105,100,101] rfl (by decide)⟩
 ·exact ⟨rfl,by decide,Ch.word k_atomic 97 [116,111,109,105,99] rfl (by decide)⟩
 ·exact ⟨rfl,by decide,Ch.word k_local 108 [111,99,97,108] rfl (by decide)⟩
 ·exact ⟨rfl,by decide,Ch.word k_mutex 109 [117,116,101,120] rfl (by decide)⟩
 ·exact ⟨rfl,by decide,Ch.word k_chan 99 [104,97,110] rfl (by decide)⟩
theorem ShowT_L1 (D : List Decl) (ts : List (List Stmt)) (w2 : ByteArray) (i3 : Int) (hts : okTs ts) (hn : ts.length ≤ 100) : ∀ (l pre : List (List Stmt)) (acc : ByteArray) (ta : List Key),ts = pre ++ l → acc.size + wtT l ≤ 1000000000000 → Ch0 acc ta → ∃ w,Ev (fun n=>ref1_Show_L1 n ⟨D,ts⟩ w2 i3 acc pre.length) w ∧ Ch0 w (ta ++ tkTs l) ∧ w.size ≤ acc.size + wtT l
 | [],pre,acc,ta,e,h,hc=>by
  rw [List.append_nil] at e
  have l1 : decide ((pre.length : Int) < ln ts) = false:=by rw [e]; exact ix_ge _
  exact ⟨acc,Ev.step (Ev.of_eq (g:=fun n=>some acc) (fun n=>by simp only [ref1_Show_L1,l1,cond_false]) (Ev.ret _)),by rw [tkTs,List.append_nil]; exact hc,by omega⟩
 | t :: r,pre,acc,ta,e,h,hc=>by
  have hp : pre.length + 1 ≤ 100:=by have:=congrArg List.length e; simp at this; omega
  have l1 : decide ((pre.length : Int) < ln ts) = true:=by rw [e]; exact ix_lt _ _ _
  have l2 : idx ts (pre.length : Int) = some t:=by rw [e]; exact ix_get _ _ _
  obtain ⟨h1,h2⟩:=hts t (by rw [e]; simp)
  obtain ⟨wl,k1,k2,k3⟩:=linesBT t h1 (by omega)
  rw [wtT] at h ⊢
  have z1 : x_676f207b0a.size = 5:=rfl
  have z2 : x_7d0a.size = 2:=rfl
  have r1 : sroom acc x_676f207b0a = true:=sroom_of (by omega)
  have r2 : sroom (acc ++ x_676f207b0a) wl = true:=sroom_of (by rw [size_app]; omega)
  have r3 : sroom ((acc ++ x_676f207b0a) ++ wl) x_7d0a = true:=sroom_of (by rw [size_app,size_app]; omega)
  obtain ⟨w,m1,m2,m3⟩:=ShowT_L1 D ts w2 i3 hts hn r (pre ++ [t]) (((acc ++ x_676f207b0a) ++ wl) ++ x_7d0a) _ (by rw [e]; exact ix_cons _ _ _) (by simp only [size_app]; omega) (Ch0.app (Ch0.app (Ch0.app hc kw_go) k3) kw_end)
  refine ⟨w,Ev.step (Ev.of_eq (g:=fun n=>(ref1_lines n t ((1 : Nat) : Int)).bind fun r21=>bif sroom (acc ++ x_676f207b0a) r21 then bif sroom ((acc ++ x_676f207b0a) ++ r21) x_7d0a then ref1_Show_L1 n ⟨D,ts⟩ w2 i3 (((acc ++ x_676f207b0a) ++ r21) ++ x_7d0a) ((pre ++ [t]).length) else none else none) (fun n=>?_) (Ev.bind k1 ?_)),by rw [tkTs]; simpa using m2,by simp only [size_app] at m3; omega⟩
  ·simp only [ref1_Show_L1,l1,l2,r1,cond_true,Option.bind_some]
   rw [ix_wr pre t (by omega)]; rfl
  ·simp only [r2,r3,cond_true]; exact m1
def rdD (d : Decl) : Prop:=1 ≤ d.Kind ∧ d.Kind ≤ 6 ∧ 0 ≤ d.N ∧ d.N ≤ 9 ∧ d.Name.size = 1 ∧ Ch d.Name [(1,d.Name,0)]
theorem ShowT_L0 (D : List Decl) (ts : List (List Stmt)) (hD : ∀ d ∈ D,rdD d) (hDn : D.length ≤ 1000) (hts : okTs ts) (hn : ts.length ≤ 100) (hwT : wtT ts ≤ 1000000) : ∀ (l pre : List Decl) (acc : ByteArray) (ta : List Key),D = pre ++ l → acc.size + 11 * l.length ≤ 100000000 → Ch0 acc ta → ∃ w,Ev (fun n=>ref1_Show_L0 n ⟨D,ts⟩ acc pre.length) w ∧ Ch0 w (ta ++ tkDs l ++ tkTs ts) ∧ w.size ≤ acc.size + 11 * l.length + wtT ts
 | [],pre,acc,ta,e,h,hc=>by
  rw [List.append_nil] at e
  have l1 : decide ((pre.length : Int) < ln D) = false:=by rw [e]; exact ix_ge _
  obtain ⟨w,m1,m2,m3⟩:=ShowT_L1 D ts acc (pre.length : Int) hts hn ts [] acc ta rfl (by simp at h; omega) hc
  exact ⟨w,Ev.step (Ev.of_eq (fun n=>by simp only [ref1_Show_L0,l1,cond_false]; rfl) m1),by rw [tkDs,List.append_nil]; exact m2,by simp; omega⟩
 | t :: r,pre,acc,ta,e,h,hc=>by
  have hp : pre.length + 1 ≤ 1000:=by have:=congrArg List.length e; simp at this; omega
  have l1 : decide ((pre.length : Int) < ln D) = true:=by rw [e]; exact ix_lt _ _ _
  have l2 : idx D (pre.length : Int) = some t:=by rw [e]; exact ix_get _ _ _
  obtain ⟨a1,a2,a3,a4,a5,a6⟩:=hD t (by rw [e]; simp)
  rw [List.length_cons] at h ⊢
  have hw:=ix_wr pre t (by omega)
  obtain ⟨hx7,z7,c7⟩:=kwDT t.Kind a1 a2
  have d1 : decide (t.Kind < 1) = false:=decide_eq_false (by omega)
  have d2 : decide (t.Kind > 6) = false:=decide_eq_false (by omega)
  have z20 : x_20.size = 1:=rfl
  have z0a : x_0a.size = 1:=rfl
  generalize hx : kwD t.Kind = x7 at hx7 z7 c7
  have r1 : sroom acc x7 = true:=sroom_of (by omega)
  have r2 : sroom (acc ++ x7) x_20 = true:=sroom_of (by rw [size_app]; omega)
  have r3 : sroom ((acc ++ x7) ++ x_20) t.Name = true:=sroom_of (by rw [size_app,size_app]; omega)
  have c4:=Ch0.app1 (Ch.app (Ch0.app1 hc c7) sg20 st20) a6
  by_cases h6 : t.Kind = 6
  ·have e6 : (t.Kind == 6) = true:=by simpa using h6
   have e7 : decide (t.N < 0) = false:=decide_eq_false (by omega)
   obtain ⟨k1,k2,kc⟩:=digitsT t.N a3 a4
   generalize hdg : dg t.N = wd at k1 k2 kc
   have r4 : sroom (((acc ++ x7) ++ x_20) ++ t.Name) x_20 = true:=sroom_of (by simp only [size_app]; omega)
   have r5 : sroom ((((acc ++ x7) ++ x_20) ++ t.Name) ++ x_20) wd = true:=sroom_of (by simp only [size_app]; omega)
   have r6 : sroom (((((acc ++ x7) ++ x_20) ++ t.Name) ++ x_20) ++ wd) x_0a = true:=sroom_of (by simp only [size_app]; omega)
   obtain ⟨w,m1,m2,m3⟩:=ShowT_L0 D ts hD hDn hts hn hwT r (pre ++ [t]) ((((((acc ++ x7) ++ x_20) ++ t.Name) ++ x_20) ++ wd) ++ x_0a) _ (by rw [e]; exact ix_cons _ _ _) (by simp only [size_app]; omega) (Ch.app (Ch0.app1 (Ch.app c4 sg20 st20) kc) sg0a st0a)
   refine ⟨w,Ev.step (Ev.of_eq (g:=fun n=>(ref1_Digits n t.N).bind fun r14=>bif sroom ((((acc ++ x7) ++ x_20) ++ t.Name) ++ x_20) r14 then bif sroom (((((acc ++ x7) ++ x_20) ++ t.Name) ++ x_20) ++ r14) x_0a then ref1_Show_L0 n ⟨D,ts⟩ ((((((acc ++ x7) ++ x_20) ++ t.Name) ++ x_20) ++ r14) ++ x_0a) ((pre ++ [t]).length) else none else none) (fun n=>?_) (Ev.bind k1 ?_)),?_,by simp only [size_app] at m3; omega⟩
   ·simp only [ref1_Show_L0,l1,l2,jn,d1,d2,cond_true,cond_false,Option.bind_some,hx7,r1,r2,r3,e6,e7,r4,hw]
   ·simp only [r5,r6,cond_true]; exact m1
   ·rw [tkDs,tkD,e6,cond_true,hx,hdg]; simpa using m2
  ·have e6 : (t.Kind == 6) = false:=by simpa using h6
   have r6 : sroom (((acc ++ x7) ++ x_20) ++ t.Name) x_0a = true:=sroom_of (by simp only [size_app]; omega)
   obtain ⟨w,m1,m2,m3⟩:=ShowT_L0 D ts hD hDn hts hn hwT r (pre ++ [t]) ((((acc ++ x7) ++ x_20) ++ t.Name) ++ x_0a) _ (by rw [e]; exact ix_cons _ _ _) (by simp only [size_app]; omega) (Ch.app c4 sg0a st0a)
   refine ⟨w,Ev.step (Ev.of_eq (fun n=>?_) m1),?_,by simp only [size_app] at m3; omega⟩
   ·simp only [ref1_Show_L0,l1,l2,jn,d1,d2,cond_true,cond_false,Option.bind_some,hx7,r1,r2,r3,e6,r6,hw]
   ·rw [tkDs,tkD,e6,cond_false,hx]; simpa using m2
theorem ShowT_ev (D : List Decl) (ts : List (List Stmt)) (hD : ∀ d ∈ D,rdD d) (hts : okTs ts) (hn : ts.length ≤ 100) (hs : 11 * D.length + wtT ts ≤ 6000) :
  ∃ w T,Ev (fun n=>ref1_Show n ⟨D,ts⟩) w ∧ Ev (fun n=>ref1_Tokens n w) (T ++ [⟨4,b0,0,(w.size : Int)⟩],0,0) ∧ T.map ky = tkDs D ++ tkTs ts ∧ w.size ≤ 6000:=by
 have z : b0.size = 0:=rfl
 obtain ⟨w,h1,h2,h3⟩:=ShowT_L0 D ts hD (by omega) hts hn (by omega) D [] b0 [] rfl (by omega) Ch0.nil
 have hw : w.size ≤ 6000:=by omega
 obtain ⟨T,k1,k2⟩:=h2 [] [] scR_nil w 0 hw (by omega) (by simp) [] (by simp)
 have d : decide ((w.size : Int) > 6000) = false:=decide_eq_false (by omega)
 exact ⟨w,T,Ev.of_eq (fun n=>by simp only [ref1_Show]; rfl) h1,Ev.of_eq (fun n=>by simp only [ref1_Tokens,d,cond_false]; rfl) k1,by simpa using k2,hw⟩
end Go.Su.Ytepcmciljmennaa
