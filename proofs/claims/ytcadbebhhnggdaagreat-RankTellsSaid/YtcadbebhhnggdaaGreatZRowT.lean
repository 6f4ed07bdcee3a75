/-
  What the laws are handed, typed.
-/
import Derived.Test.YtcadbebhhnggdaaGreatZDx19
import Derived.Test.YtcadbebhhnggdaaGreatChecked
import Derived.Test.YtcadbebhhnggdaaGreatZDx12
namespace Go.Su.YtcadbebhhnggdaaGreat
open Go.Mx Go.Proofs
set_option maxRecDepth 100000
set_option maxHeartbeats 20000000
set_option linter.unusedVariables false
set_option linter.unusedSimpArgs false
structure Act where
 What : Int
 A : Int
 B : Int
 N : Int
 E : List Int
structure Decl where
 Kind : Int
 Name : ByteArray
 N : Int
 At : Cx
structure Expr where
 Kind : Int
 N : Int
 Name : ByteArray
 Of : List Expr
structure Stmt where
 Kind : Int
 Name : ByteArray
 Other : ByteArray
 N : Int
 E : Expr
 Body : List Stmt
 Else : List Stmt
 At : Cx
structure Prog where
 Decls : List Decl
 Threads : List (List Stmt)
structure Arr2_i64 where
 e0 : Int
 e1 : Int
structure Arr3_string where
 e0 : ByteArray
 e1 : ByteArray
 e2 : ByteArray
structure Token where
 Kind : Int
 Text : ByteArray
 N : Int
 At : Int
structure Reader where
 T : List Token
 At : Int
 Fail : Bool
 Bad : Int
structure Mark where
 S : Stmt
 Block : List Int
 At : Int
structure Arr2_string where
 e0 : ByteArray
 e1 : ByteArray
def eAct (x : Act) : V:=.agg [.p (.int .i64 x.What),.p (.int .i64 x.A),.p (.int .i64 x.B),.p (.int .i64 x.N),.ps .opt (List.map e_i64 x.E)]
def eDecl (x : Decl) : V:=.agg [.p (.int .i64 x.Kind),.p (.string x.Name),.p (.int .i64 x.N),.p (.complex .f64 x.At.re x.At.im)]
mutual
def rExpr : Expr → V
 | ⟨x0,x1,x2,x3⟩=>.agg [.p (.int .i64 x0),.p (.int .i64 x1),.p (.string x2),.ps .opt (lExpr x3)]
def lExpr : List Expr → List V
 | []=>[]
 | e :: r=>rExpr e :: lExpr r
end
def eExpr (x : Expr) : V:=.agg [.p (.int .i64 x.Kind),.p (.int .i64 x.N),.p (.string x.Name),.ps .opt (lExpr x.Of)]
theorem rExpr_eq (x : Expr) : rExpr x = eExpr x:=by cases x; rw [rExpr]; rfl
theorem lExpr_eq (l : List Expr) : lExpr l = l.map eExpr:=by
 induction l with
 | nil=>rw [lExpr]; rfl
 | cons a r ih=>rw [lExpr,rExpr_eq,ih]; rfl
mutual
def rStmt : Stmt → V
 | ⟨x0,x1,x2,x3,x4,x5,x6,x7⟩=>.agg [.p (.int .i64 x0),.p (.string x1),.p (.string x2),.p (.int .i64 x3),.p (.int .i64 x4.Kind),.p (.int .i64 x4.N),.p (.string x4.Name),.ps .opt (lExpr x4.Of),.ps .opt (lStmt x5),.ps .opt (lStmt x6),.p (.complex .f64 x7.re x7.im)]
def lStmt : List Stmt → List V
 | []=>[]
 | e :: r=>rStmt e :: lStmt r
end
def eStmt (x : Stmt) : V:=.agg [.p (.int .i64 x.Kind),.p (.string x.Name),.p (.string x.Other),.p (.int .i64 x.N),.p (.int .i64 x.E.Kind),.p (.int .i64 x.E.N),.p (.string x.E.Name),.ps .opt (lExpr x.E.Of),.ps .opt (lStmt x.Body),.ps .opt (lStmt x.Else),.p (.complex .f64 x.At.re x.At.im)]
theorem rStmt_eq (x : Stmt) : rStmt x = eStmt x:=by cases x; rw [rStmt]; rfl
theorem lStmt_eq (l : List Stmt) : lStmt l = l.map eStmt:=by
 induction l with
 | nil=>rw [lStmt]; rfl
 | cons a r ih=>rw [lStmt,rStmt_eq,ih]; rfl
def eProg (x : Prog) : V:=.agg [.ps .opt (List.map eDecl x.Decls),.ps .opt (List.map (fun l=>V.ps .opt (lStmt l)) x.Threads)]
def eArr2_i64 (x : Arr2_i64) : V:=.agg [.p (.int .i64 x.e0),.p (.int .i64 x.e1)]
def eToken (x : Token) : V:=.agg [.p (.int .i64 x.Kind),.p (.string x.Text),.p (.int .i64 x.N),.p (.int .i64 x.At)]
def eReader (x : Reader) : V:=.agg [.ps .opt (List.map eToken x.T),.p (.int .i64 x.At),.p (.bool x.Fail),.p (.int .i64 x.Bad)]
def eMark (x : Mark) : V:=.agg [.p (.int .i64 x.S.Kind),.p (.string x.S.Name),.p (.string x.S.Other),.p (.int .i64 x.S.N),.p (.int .i64 x.S.E.Kind),.p (.int .i64 x.S.E.N),.p (.string x.S.E.Name),.ps .opt (lExpr x.S.E.Of),.ps .opt (lStmt x.S.Body),.ps .opt (lStmt x.S.Else),.p (.complex .f64 x.S.At.re x.S.At.im),.ps .opt (List.map e_i64 x.Block),.p (.int .i64 x.At)]
def tbl : List (Nat × TI):=[(3,⟨1,8,.int .i64,.p (.int .i64 0)⟩),
 (4,⟨1,1,.bool,.p (.bool false)⟩),
 (5,⟨1,1,.int .u8,.p (.int .u8 0)⟩),
 (9,⟨1,16,.string,.p (.string ByteArray.empty)⟩),
 (22,⟨1,24,.slice 122,.ps .nil []⟩),
 (23,⟨1,24,.slice 72,.ps .nil []⟩),
 (24,⟨1,24,.slice 53,.ps .nil []⟩),
 (26,⟨2,48,.struct #[⟨"Decls",23,0,false, "", "",0⟩,⟨"Threads",24,1,false, "", "",24⟩],.agg [.ps .nil [],.ps .nil []]⟩),
 (29,⟨1,24,.slice 47,.ps .nil []⟩),
 (31,⟨1,24,.slice 38,.ps .nil []⟩),
 (33,⟨1,24,.slice 3,.ps .nil []⟩),
 (34,⟨1,8,.int .i64,.p (.int .i64 0)⟩),
 (38,⟨2,16,.array 2 3,.agg [.p (.int .i64 0),.p (.int .i64 0)]⟩),
 (45,⟨3,48,.array 3 9,.agg [.p (.string ByteArray.empty),.p (.string ByteArray.empty),.p (.string ByteArray.empty)]⟩),
 (47,⟨1,24,.slice 9,.ps .nil []⟩),
 (48,⟨1,24,.slice 33,.ps .nil []⟩),
 (53,⟨1,24,.slice 94,.ps .nil []⟩),
 (60,⟨1,24,.slice 67,.ps .nil []⟩),
 (63,⟨1,8,.pointer 65,.p (.pointer none)⟩),
 (65,⟨4,48,.struct #[⟨"T",60,0,false, "", "",0⟩,⟨"At",3,1,false, "", "",24⟩,⟨"Fail",4,2,false, "", "",32⟩,⟨"Bad",3,3,false, "", "",40⟩],.agg [.ps .nil [],.p (.int .i64 0),.p (.bool false),.p (.int .i64 0)]⟩),
 (67,⟨4,40,.struct #[⟨"Kind",3,0,false, "", "",0⟩,⟨"Text",9,1,false, "", "",8⟩,⟨"N",3,2,false, "", "",24⟩,⟨"At",3,3,false, "", "",32⟩],.agg [.p (.int .i64 0),.p (.string ByteArray.empty),.p (.int .i64 0),.p (.int .i64 0)]⟩),
 (69,⟨1,16,.complex .f64,.p (.complex .f64 0 0)⟩),
 (72,⟨4,48,.struct #[⟨"Kind",3,0,false, "", "",0⟩,⟨"Name",9,1,false, "", "",8⟩,⟨"N",3,2,false, "", "",24⟩,⟨"At",69,3,false, "", "",32⟩],.agg [.p (.int .i64 0),.p (.string ByteArray.empty),.p (.int .i64 0),.p (.complex .f64 0 0)]⟩),
 (77,⟨7,112,.array 7 9,.agg [.p (.string ByteArray.empty),.p (.string ByteArray.empty),.p (.string ByteArray.empty),.p (.string ByteArray.empty),.p (.string ByteArray.empty),.p (.string ByteArray.empty),.p (.string ByteArray.empty)]⟩),
 (85,⟨3,72,.array 3 22,.agg [.ps .nil [],.ps .nil [],.ps .nil []]⟩),
 (90,⟨1,24,.slice 92,.ps .nil []⟩),
 (92,⟨4,56,.struct #[⟨"Kind",3,0,false, "", "",0⟩,⟨"N",3,1,false, "", "",8⟩,⟨"Name",9,2,false, "", "",16⟩,⟨"Of",90,3,false, "", "",32⟩],.agg [.p (.int .i64 0),.p (.int .i64 0),.p (.string ByteArray.empty),.ps .nil []]⟩),
 (94,⟨11,168,.struct #[⟨"Kind",3,0,false, "", "",0⟩,⟨"Name",9,1,false, "", "",8⟩,⟨"Other",9,2,false, "", "",24⟩,⟨"N",3,3,false, "", "",40⟩,⟨"E",92,4,false, "", "",48⟩,⟨"Body",53,8,false, "", "",104⟩,⟨"Else",53,9,false, "", "",128⟩,⟨"At",69,10,false, "", "",152⟩],.agg [.p (.int .i64 0),.p (.string ByteArray.empty),.p (.string ByteArray.empty),.p (.int .i64 0),.p (.int .i64 0),.p (.int .i64 0),.p (.string ByteArray.empty),.ps .nil [],.ps .nil [],.ps .nil [],.p (.complex .f64 0 0)]⟩),
 (99,⟨1,8,.int .u64,.p (.int .u64 0)⟩),
 (105,⟨6,96,.array 6 9,.agg [.p (.string ByteArray.empty),.p (.string ByteArray.empty),.p (.string ByteArray.empty),.p (.string ByteArray.empty),.p (.string ByteArray.empty),.p (.string ByteArray.empty)]⟩),
 (111,⟨1,24,.slice 5,.ps .nil []⟩),
 (113,⟨1,24,.slice 116,.ps .nil []⟩),
 (116,⟨13,200,.struct #[⟨"S",94,0,false, "", "",0⟩,⟨"Block",33,11,false, "", "",168⟩,⟨"At",3,12,false, "", "",192⟩],.agg [.p (.int .i64 0),.p (.string ByteArray.empty),.p (.string ByteArray.empty),.p (.int .i64 0),.p (.int .i64 0),.p (.int .i64 0),.p (.string ByteArray.empty),.ps .nil [],.ps .nil [],.ps .nil [],.p (.complex .f64 0 0),.ps .nil [],.p (.int .i64 0)]⟩),
 (119,⟨1,8,.pointer 3,.p (.pointer none)⟩),
 (122,⟨5,56,.struct #[⟨"What",3,0,false, "", "",0⟩,⟨"A",3,1,false, "", "",8⟩,⟨"B",3,2,false, "", "",16⟩,⟨"N",3,3,false, "", "",24⟩,⟨"E",33,4,false, "", "",32⟩],.agg [.p (.int .i64 0),.p (.int .i64 0),.p (.int .i64 0),.p (.int .i64 0),.ps .nil []]⟩),
 (124,⟨2,32,.array 2 9,.agg [.p (.string ByteArray.empty),.p (.string ByteArray.empty)]⟩),
 (134,⟨1,8,.int .u64,.p (.int .u64 0)⟩),
 (141,⟨17,272,.array 17 9,.agg [.p (.string ByteArray.empty),.p (.string ByteArray.empty),.p (.string ByteArray.empty),.p (.string ByteArray.empty),.p (.string ByteArray.empty),.p (.string ByteArray.empty),.p (.string ByteArray.empty),.p (.string ByteArray.empty),.p (.string ByteArray.empty),.p (.string ByteArray.empty),.p (.string ByteArray.empty),.p (.string ByteArray.empty),.p (.string ByteArray.empty),.p (.string ByteArray.empty),.p (.string ByteArray.empty),.p (.string ByteArray.empty),.p (.string ByteArray.empty)]⟩),
 (146,⟨8,128,.array 8 9,.agg [.p (.string ByteArray.empty),.p (.string ByteArray.empty),.p (.string ByteArray.empty),.p (.string ByteArray.empty),.p (.string ByteArray.empty),.p (.string ByteArray.empty),.p (.string ByteArray.empty),.p (.string ByteArray.empty)]⟩)]
def tb : TypeId → Option TI:=lookT tbl
theorem rows : rowsOk Tryz.prog tbl:=⟨by kernel_rfl,by kernel_rfl,by kernel_rfl,by kernel_rfl,by kernel_rfl,by kernel_rfl,by kernel_rfl,by kernel_rfl,by kernel_rfl,by kernel_rfl,by kernel_rfl,by kernel_rfl,by kernel_rfl,by kernel_rfl,by kernel_rfl,by kernel_rfl,by kernel_rfl,by kernel_rfl,by kernel_rfl,by kernel_rfl,by kernel_rfl,by kernel_rfl,by kernel_rfl,by kernel_rfl,by kernel_rfl,by kernel_rfl,by kernel_rfl,by kernel_rfl,by kernel_rfl,by kernel_rfl,by kernel_rfl,by kernel_rfl,by kernel_rfl,by kernel_rfl,by kernel_rfl,by kernel_rfl,by kernel_rfl,by kernel_rfl,by kernel_rfl,trivial⟩
theorem hT : TabOk Tryz.prog tb:=tab_ok rows (by kernel_rfl)
theorem hM : Tryz.prog.follows .mixedOrders = true:=Checked.mixed Tryz.checked
def el_Act (l : List Act) : V:=.ps .opt (List.map eAct l)
def el_int (l : List Int) : V:=.ps .opt (List.map e_i64 l)
def el_string (l : List ByteArray) : V:=.ps .opt (List.map e_s l)
def el_Stmt (l : List Stmt) : V:=.ps .opt (lStmt l)
def s_Act : SE tb Act:={ f:=eAct,F:=List.map eAct,hF:=fun _=>rfl,sz:=5,hs:=fun _=>rfl,h1:=fun _=>rfl,t:=22,e:=122,i0:=⟨1,24,.slice 122,.ps .nil []⟩,i1:=⟨5,56,.struct #[⟨"What",3,0,false, "", "",0⟩,⟨"A",3,1,false, "", "",8⟩,⟨"B",3,2,false, "", "",16⟩,⟨"N",3,3,false, "", "",24⟩,⟨"E",33,4,false, "", "",32⟩],.agg [.p (.int .i64 0),.p (.int .i64 0),.p (.int .i64 0),.p (.int .i64 0),.ps .nil []]⟩,ht:=by kernel_rfl,hd:=rfl,he:=by kernel_rfl,hz:=rfl,hp:=by decide,hb:=by decide }
def s_Decl : SE tb Decl:={ f:=eDecl,F:=List.map eDecl,hF:=fun _=>rfl,sz:=4,hs:=fun _=>rfl,h1:=fun _=>rfl,t:=23,e:=72,i0:=⟨1,24,.slice 72,.ps .nil []⟩,i1:=⟨4,48,.struct #[⟨"Kind",3,0,false, "", "",0⟩,⟨"Name",9,1,false, "", "",8⟩,⟨"N",3,2,false, "", "",24⟩,⟨"At",69,3,false, "", "",32⟩],.agg [.p (.int .i64 0),.p (.string ByteArray.empty),.p (.int .i64 0),.p (.complex .f64 0 0)]⟩,ht:=by kernel_rfl,hd:=rfl,he:=by kernel_rfl,hz:=rfl,hp:=by decide,hb:=by decide }
def s_LStmt : SE tb (List Stmt):={ f:=el_Stmt,F:=List.map el_Stmt,hF:=fun _=>rfl,sz:=1,hs:=fun _=>rfl,h1:=fun _=>rfl,t:=24,e:=53,i0:=⟨1,24,.slice 53,.ps .nil []⟩,i1:=⟨1,24,.slice 94,.ps .nil []⟩,ht:=by kernel_rfl,hd:=rfl,he:=by kernel_rfl,hz:=rfl,hp:=by decide,hb:=by decide }
def s_Lstring : SE tb (List ByteArray):={ f:=el_string,F:=List.map el_string,hF:=fun _=>rfl,sz:=1,hs:=fun _=>rfl,h1:=fun _=>rfl,t:=29,e:=47,i0:=⟨1,24,.slice 47,.ps .nil []⟩,i1:=⟨1,24,.slice 9,.ps .nil []⟩,ht:=by kernel_rfl,hd:=rfl,he:=by kernel_rfl,hz:=rfl,hp:=by decide,hb:=by decide }
def s_Arr2_i64 : SE tb Arr2_i64:={ f:=eArr2_i64,F:=List.map eArr2_i64,hF:=fun _=>rfl,sz:=2,hs:=fun _=>rfl,h1:=fun _=>rfl,t:=31,e:=38,i0:=⟨1,24,.slice 38,.ps .nil []⟩,i1:=⟨2,16,.array 2 3,.agg [.p (.int .i64 0),.p (.int .i64 0)]⟩,ht:=by kernel_rfl,hd:=rfl,he:=by kernel_rfl,hz:=rfl,hp:=by decide,hb:=by decide }
def s_int : SE tb Int:={ f:=e_i64,F:=List.map e_i64,hF:=fun _=>rfl,sz:=1,hs:=fun _=>rfl,h1:=fun _=>rfl,t:=33,e:=3,i0:=⟨1,24,.slice 3,.ps .nil []⟩,i1:=⟨1,8,.int .i64,.p (.int .i64 0)⟩,ht:=by kernel_rfl,hd:=rfl,he:=by kernel_rfl,hz:=rfl,hp:=by decide,hb:=by decide }
def s_string : SE tb ByteArray:={ f:=e_s,F:=List.map e_s,hF:=fun _=>rfl,sz:=1,hs:=fun _=>rfl,h1:=fun _=>rfl,t:=47,e:=9,i0:=⟨1,24,.slice 9,.ps .nil []⟩,i1:=⟨1,16,.string,.p (.string ByteArray.empty)⟩,ht:=by kernel_rfl,hd:=rfl,he:=by kernel_rfl,hz:=rfl,hp:=by decide,hb:=by decide }
def s_Lint : SE tb (List Int):={ f:=el_int,F:=List.map el_int,hF:=fun _=>rfl,sz:=1,hs:=fun _=>rfl,h1:=fun _=>rfl,t:=48,e:=33,i0:=⟨1,24,.slice 33,.ps .nil []⟩,i1:=⟨1,24,.slice 3,.ps .nil []⟩,ht:=by kernel_rfl,hd:=rfl,he:=by kernel_rfl,hz:=rfl,hp:=by decide,hb:=by decide }
def s_Stmt : SE tb Stmt:={ f:=eStmt,F:=lStmt,hF:=lStmt_eq,sz:=11,hs:=fun _=>rfl,h1:=fun _=>rfl,t:=53,e:=94,i0:=⟨1,24,.slice 94,.ps .nil []⟩,i1:=⟨11,168,.struct #[⟨"Kind",3,0,false, "", "",0⟩,⟨"Name",9,1,false, "", "",8⟩,⟨"Other",9,2,false, "", "",24⟩,⟨"N",3,3,false, "", "",40⟩,⟨"E",92,4,false, "", "",48⟩,⟨"Body",53,8,false, "", "",104⟩,⟨"Else",53,9,false, "", "",128⟩,⟨"At",69,10,false, "", "",152⟩],.agg [.p (.int .i64 0),.p (.string ByteArray.empty),.p (.string ByteArray.empty),.p (.int .i64 0),.p (.int .i64 0),.p (.int .i64 0),.p (.string ByteArray.empty),.ps .nil [],.ps .nil [],.ps .nil [],.p (.complex .f64 0 0)]⟩,ht:=by kernel_rfl,hd:=rfl,he:=by kernel_rfl,hz:=rfl,hp:=by decide,hb:=by decide }
def s_Token : SE tb Token:={ f:=eToken,F:=List.map eToken,hF:=fun _=>rfl,sz:=4,hs:=fun _=>rfl,h1:=fun _=>rfl,t:=60,e:=67,i0:=⟨1,24,.slice 67,.ps .nil []⟩,i1:=⟨4,40,.struct #[⟨"Kind",3,0,false, "", "",0⟩,⟨"Text",9,1,false, "", "",8⟩,⟨"N",3,2,false, "", "",24⟩,⟨"At",3,3,false, "", "",32⟩],.agg [.p (.int .i64 0),.p (.string ByteArray.empty),.p (.int .i64 0),.p (.int .i64 0)]⟩,ht:=by kernel_rfl,hd:=rfl,he:=by kernel_rfl,hz:=rfl,hp:=by decide,hb:=by decide }
def s_Expr : SE tb Expr:={ f:=eExpr,F:=lExpr,hF:=lExpr_eq,sz:=4,hs:=fun _=>rfl,h1:=fun _=>rfl,t:=90,e:=92,i0:=⟨1,24,.slice 92,.ps .nil []⟩,i1:=⟨4,56,.struct #[⟨"Kind",3,0,false, "", "",0⟩,⟨"N",3,1,false, "", "",8⟩,⟨"Name",9,2,false, "", "",16⟩,⟨"Of",90,3,false, "", "",32⟩],.agg [.p (.int .i64 0),.p (.int .i64 0),.p (.string ByteArray.empty),.ps .nil []]⟩,ht:=by kernel_rfl,hd:=rfl,he:=by kernel_rfl,hz:=rfl,hp:=by decide,hb:=by decide }
def s_uint8 : SE tb Int:={ f:=e_u8,F:=List.map e_u8,hF:=fun _=>rfl,sz:=1,hs:=fun _=>rfl,h1:=fun _=>rfl,t:=111,e:=5,i0:=⟨1,24,.slice 5,.ps .nil []⟩,i1:=⟨1,1,.int .u8,.p (.int .u8 0)⟩,ht:=by kernel_rfl,hd:=rfl,he:=by kernel_rfl,hz:=rfl,hp:=by decide,hb:=by decide }
def s_mark : SE tb Mark:={ f:=eMark,F:=List.map eMark,hF:=fun _=>rfl,sz:=13,hs:=fun _=>rfl,h1:=fun _=>rfl,t:=113,e:=116,i0:=⟨1,24,.slice 116,.ps .nil []⟩,i1:=⟨13,200,.struct #[⟨"S",94,0,false, "", "",0⟩,⟨"Block",33,11,false, "", "",168⟩,⟨"At",3,12,false, "", "",192⟩],.agg [.p (.int .i64 0),.p (.string ByteArray.empty),.p (.string ByteArray.empty),.p (.int .i64 0),.p (.int .i64 0),.p (.int .i64 0),.p (.string ByteArray.empty),.ps .nil [],.ps .nil [],.ps .nil [],.p (.complex .f64 0 0),.ps .nil [],.p (.int .i64 0)]⟩,ht:=by kernel_rfl,hd:=rfl,he:=by kernel_rfl,hz:=rfl,hp:=by decide,hb:=by decide }
theorem en4 : Enters Tryz.prog 4:=enters Tryz.f4 Tryz.func4 rfl (by kernel_rfl)
theorem en5 : Enters Tryz.prog 5:=enters Tryz.f5 Tryz.func5 rfl (by kernel_rfl)
theorem en6 : Enters Tryz.prog 6:=enters Tryz.f6 Tryz.func6 rfl (by kernel_rfl)
theorem en7 : Enters Tryz.prog 7:=enters Tryz.f7 Tryz.func7 rfl (by kernel_rfl)
theorem en8 : Enters Tryz.prog 8:=enters Tryz.f8 Tryz.func8 rfl (by kernel_rfl)
theorem en9 : Enters Tryz.prog 9:=enters Tryz.f9 Tryz.func9 rfl (by kernel_rfl)
theorem en10 : Enters Tryz.prog 10:=enters Tryz.f10 Tryz.func10 rfl (by kernel_rfl)
theorem en11 : Enters Tryz.prog 11:=enters Tryz.f11 Tryz.func11 rfl (by kernel_rfl)
theorem en12 : Enters Tryz.prog 12:=enters Tryz.f12 Tryz.func12 rfl (by kernel_rfl)
theorem en13 : Enters Tryz.prog 13:=enters Tryz.f13 Tryz.func13 rfl (by kernel_rfl)
theorem en14 : Enters Tryz.prog 14:=enters Tryz.f14 Tryz.func14 rfl (by kernel_rfl)
theorem en15 : Enters Tryz.prog 15:=enters Tryz.f15 Tryz.func15 rfl (by kernel_rfl)
theorem en16 : Enters Tryz.prog 16:=enters Tryz.f16 Tryz.func16 rfl (by kernel_rfl)
theorem en17 : Enters Tryz.prog 17:=enters Tryz.f17 Tryz.func17 rfl (by kernel_rfl)
theorem en18 : Enters Tryz.prog 18:=enters Tryz.f18 Tryz.func18 rfl (by kernel_rfl)
theorem en19 : Enters Tryz.prog 19:=enters Tryz.f19 Tryz.func19 rfl (by kernel_rfl)
theorem en20 : Enters Tryz.prog 20:=enters Tryz.f20 Tryz.func20 rfl (by kernel_rfl)
theorem en21 : Enters Tryz.prog 21:=enters Tryz.f21 Tryz.func21 rfl (by kernel_rfl)
theorem en22 : Enters Tryz.prog 22:=enters Tryz.f22 Tryz.func22 rfl (by kernel_rfl)
theorem en23 : Enters Tryz.prog 23:=enters Tryz.f23 Tryz.func23 rfl (by kernel_rfl)
theorem en24 : Enters Tryz.prog 24:=enters Tryz.f24 Tryz.func24 rfl (by kernel_rfl)
theorem en25 : Enters Tryz.prog 25:=enters Tryz.f25 Tryz.func25 rfl (by kernel_rfl)
theorem en26 : Enters Tryz.prog 26:=enters Tryz.f26 Tryz.func26 rfl (by kernel_rfl)
theorem en27 : Enters Tryz.prog 27:=enters Tryz.f27 Tryz.func27 rfl (by kernel_rfl)
theorem en28 : Enters Tryz.prog 28:=enters Tryz.f28 Tryz.func28 rfl (by kernel_rfl)
theorem en29 : Enters Tryz.prog 29:=enters Tryz.f29 Tryz.func29 rfl (by kernel_rfl)
theorem en30 : Enters Tryz.prog 30:=enters Tryz.f30 Tryz.func30 rfl (by kernel_rfl)
theorem en31 : Enters Tryz.prog 31:=enters Tryz.f31 Tryz.func31 rfl (by kernel_rfl)
theorem en32 : Enters Tryz.prog 32:=enters Tryz.f32 Tryz.func32 rfl (by kernel_rfl)
theorem en33 : Enters Tryz.prog 33:=enters Tryz.f33 Tryz.func33 rfl (by kernel_rfl)
theorem en34 : Enters Tryz.prog 34:=enters Tryz.f34 Tryz.func34 rfl (by kernel_rfl)
theorem en35 : Enters Tryz.prog 35:=enters Tryz.f35 Tryz.func35 rfl (by kernel_rfl)
theorem en36 : Enters Tryz.prog 36:=enters Tryz.f36 Tryz.func36 rfl (by kernel_rfl)
theorem en37 : Enters Tryz.prog 37:=enters Tryz.f37 Tryz.func37 rfl (by kernel_rfl)
theorem en38 : Enters Tryz.prog 38:=enters Tryz.f38 Tryz.func38 rfl (by kernel_rfl)
theorem en39 : Enters Tryz.prog 39:=enters Tryz.f39 Tryz.func39 rfl (by kernel_rfl)
theorem en40 : Enters Tryz.prog 40:=enters Tryz.f40 Tryz.func40 rfl (by kernel_rfl)
theorem en41 : Enters Tryz.prog 41:=enters Tryz.f41 Tryz.func41 rfl (by kernel_rfl)
theorem en42 : Enters Tryz.prog 42:=enters Tryz.f42 Tryz.func42 rfl (by kernel_rfl)
theorem en43 : Enters Tryz.prog 43:=enters Tryz.f43 Tryz.func43 rfl (by kernel_rfl)
theorem en44 : Enters Tryz.prog 44:=enters Tryz.f44 Tryz.func44 rfl (by kernel_rfl)
theorem en45 : Enters Tryz.prog 45:=enters Tryz.f45 Tryz.func45 rfl (by kernel_rfl)
theorem en46 : Enters Tryz.prog 46:=enters Tryz.f46 Tryz.func46 rfl (by kernel_rfl)
theorem en47 : Enters Tryz.prog 47:=enters Tryz.f47 Tryz.func47 rfl (by kernel_rfl)
theorem en48 : Enters Tryz.prog 48:=enters Tryz.f48 Tryz.func48 rfl (by kernel_rfl)
theorem en49 : Enters Tryz.prog 49:=enters Tryz.f49 Tryz.func49 rfl (by kernel_rfl)
theorem en50 : Enters Tryz.prog 50:=enters Tryz.f50 Tryz.func50 rfl (by kernel_rfl)
theorem en51 : Enters Tryz.prog 51:=enters Tryz.f51 Tryz.func51 rfl (by kernel_rfl)
theorem en52 : Enters Tryz.prog 52:=enters Tryz.f52 Tryz.func52 rfl (by kernel_rfl)
theorem en53 : Enters Tryz.prog 53:=enters Tryz.f53 Tryz.func53 rfl (by kernel_rfl)
theorem en54 : Enters Tryz.prog 54:=enters Tryz.f54 Tryz.func54 rfl (by kernel_rfl)
theorem en55 : Enters Tryz.prog 55:=enters Tryz.f55 Tryz.func55 rfl (by kernel_rfl)
theorem en56 : Enters Tryz.prog 56:=enters Tryz.f56 Tryz.func56 rfl (by kernel_rfl)
theorem en57 : Enters Tryz.prog 57:=enters Tryz.f57 Tryz.func57 rfl (by kernel_rfl)
theorem en58 : Enters Tryz.prog 58:=enters Tryz.f58 Tryz.func58 rfl (by kernel_rfl)
theorem en59 : Enters Tryz.prog 59:=enters Tryz.f59 Tryz.func59 rfl (by kernel_rfl)
theorem en60 : Enters Tryz.prog 60:=enters Tryz.f60 Tryz.func60 rfl (by kernel_rfl)
theorem en61 : Enters Tryz.prog 61:=enters Tryz.f61 Tryz.func61 rfl (by kernel_rfl)
theorem en62 : Enters Tryz.prog 62:=enters Tryz.f62 Tryz.func62 rfl (by kernel_rfl)
theorem en63 : Enters Tryz.prog 63:=enters Tryz.f63 Tryz.func63 rfl (by kernel_rfl)
theorem en64 : Enters Tryz.prog 64:=enters Tryz.f64 Tryz.func64 rfl (by kernel_rfl)
theorem en65 : Enters Tryz.prog 65:=enters Tryz.f65 Tryz.func65 rfl (by kernel_rfl)
theorem en66 : Enters Tryz.prog 66:=enters Tryz.f66 Tryz.func66 rfl (by kernel_rfl)
theorem en67 : Enters Tryz.prog 67:=enters Tryz.f67 Tryz.func67 rfl (by kernel_rfl)
theorem en68 : Enters Tryz.prog 68:=enters Tryz.f68 Tryz.func68 rfl (by kernel_rfl)
theorem en69 : Enters Tryz.prog 69:=enters Tryz.f69 Tryz.func69 rfl (by kernel_rfl)
theorem en70 : Enters Tryz.prog 70:=enters Tryz.f70 Tryz.func70 rfl (by kernel_rfl)
theorem en71 : Enters Tryz.prog 71:=enters Tryz.f71 Tryz.func71 rfl (by kernel_rfl)
theorem en72 : Enters Tryz.prog 72:=enters Tryz.f72 Tryz.func72 rfl (by kernel_rfl)
theorem en73 : Enters Tryz.prog 73:=enters Tryz.f73 Tryz.func73 rfl (by kernel_rfl)
theorem en74 : Enters Tryz.prog 74:=enters Tryz.f74 Tryz.func74 rfl (by kernel_rfl)
theorem en75 : Enters Tryz.prog 75:=enters Tryz.f75 Tryz.func75 rfl (by kernel_rfl)
theorem en76 : Enters Tryz.prog 76:=enters Tryz.f76 Tryz.func76 rfl (by kernel_rfl)
theorem en77 : Enters Tryz.prog 77:=enters Tryz.f77 Tryz.func77 rfl (by kernel_rfl)
theorem en78 : Enters Tryz.prog 78:=enters Tryz.f78 Tryz.func78 rfl (by kernel_rfl)
theorem en79 : Enters Tryz.prog 79:=enters Tryz.f79 Tryz.func79 rfl (by kernel_rfl)
theorem en81 : Enters Tryz.prog 81:=enters Tryz.f81 Tryz.func81 rfl (by kernel_rfl)
theorem en82 : Enters Tryz.prog 82:=enters Tryz.f82 Tryz.func82 rfl (by kernel_rfl)
theorem en83 : Enters Tryz.prog 83:=enters Tryz.f83 Tryz.func83 rfl (by kernel_rfl)
theorem en84 : Enters Tryz.prog 84:=enters Tryz.f84 Tryz.func84 rfl (by kernel_rfl)
theorem en85 : Enters Tryz.prog 85:=enters Tryz.f85 Tryz.func85 rfl (by kernel_rfl)
theorem en86 : Enters Tryz.prog 86:=enters Tryz.f86 Tryz.func86 rfl (by kernel_rfl)
theorem en87 : Enters Tryz.prog 87:=enters Tryz.f87 Tryz.func87 rfl (by kernel_rfl)
theorem en88 : Enters Tryz.prog 88:=enters Tryz.f88 Tryz.func88 rfl (by kernel_rfl)
theorem en89 : Enters Tryz.prog 89:=enters Tryz.f89 Tryz.func89 rfl (by kernel_rfl)
theorem en90 : Enters Tryz.prog 90:=enters Tryz.f90 Tryz.func90 rfl (by kernel_rfl)
theorem en91 : Enters Tryz.prog 91:=enters Tryz.f91 Tryz.func91 rfl (by kernel_rfl)
theorem en92 : Enters Tryz.prog 92:=enters Tryz.f92 Tryz.func92 rfl (by kernel_rfl)
theorem en93 : Enters Tryz.prog 93:=enters Tryz.f93 Tryz.func93 rfl (by kernel_rfl)
theorem en94 : Enters Tryz.prog 94:=enters Tryz.f94 Tryz.func94 rfl (by kernel_rfl)
theorem en95 : Enters Tryz.prog 95:=enters Tryz.f95 Tryz.func95 rfl (by kernel_rfl)
theorem en96 : Enters Tryz.prog 96:=enters Tryz.f96 Tryz.func96 rfl (by kernel_rfl)
theorem en97 : Enters Tryz.prog 97:=enters Tryz.f97 Tryz.func97 rfl (by kernel_rfl)
theorem en98 : Enters Tryz.prog 98:=enters Tryz.f98 Tryz.func98 rfl (by kernel_rfl)
theorem en99 : Enters Tryz.prog 99:=enters Tryz.f99 Tryz.func99 rfl (by kernel_rfl)
theorem en100 : Enters Tryz.prog 100:=enters Tryz.f100 Tryz.func100 rfl (by kernel_rfl)
theorem en101 : Enters Tryz.prog 101:=enters Tryz.f101 Tryz.func101 rfl (by kernel_rfl)
theorem en102 : Enters Tryz.prog 102:=enters Tryz.f102 Tryz.func102 rfl (by kernel_rfl)
theorem en103 : Enters Tryz.prog 103:=enters Tryz.f103 Tryz.func103 rfl (by kernel_rfl)
theorem en104 : Enters Tryz.prog 104:=enters Tryz.f104 Tryz.func104 rfl (by kernel_rfl)
theorem en105 : Enters Tryz.prog 105:=enters Tryz.f105 Tryz.func105 rfl (by kernel_rfl)
theorem en106 : Enters Tryz.prog 106:=enters Tryz.f106 Tryz.func106 rfl (by kernel_rfl)
theorem en107 : Enters Tryz.prog 107:=enters Tryz.f107 Tryz.func107 rfl (by kernel_rfl)
abbrev k_x : ByteArray:=⟨#[120]⟩
abbrev k_y : ByteArray:=⟨#[121]⟩
abbrev k_z : ByteArray:=⟨#[122]⟩
abbrev k_a : ByteArray:=⟨#[97]⟩
abbrev k_t : ByteArray:=⟨#[116]⟩
abbrev k_m : ByteArray:=⟨#[109]⟩
abbrev k_c : ByteArray:=⟨#[99]⟩
abbrev k_d : ByteArray:=⟨#[100]⟩
abbrev k_l : ByteArray:=⟨#[108]⟩
abbrev k_k : ByteArray:=⟨#[107]⟩
abbrev x_3f : ByteArray:=⟨#[63]⟩
abbrev k_var : ByteArray:=⟨#[118,97,114]⟩
abbrev k_wide : ByteArray:=⟨#[119,105,100,101]⟩
abbrev k_atomic : ByteArray:=⟨#[97,116,111,109,105,99]⟩
abbrev k_local : ByteArray:=⟨#[108,111,99,97,108]⟩
abbrev k_mutex : ByteArray:=⟨#[109,117,116,101,120]⟩
abbrev k_chan : ByteArray:=⟨#[99,104,97,110]⟩
abbrev x_20 : ByteArray:=⟨#[32]⟩
abbrev x_0a : ByteArray:=⟨#[10]⟩
abbrev x_676f207b0a : ByteArray:=⟨#[103,111,32,123,10]⟩
abbrev x_09 : ByteArray:=⟨#[9]⟩
abbrev x_203d20 : ByteArray:=⟨#[32,61,32]⟩
abbrev x_28 : ByteArray:=⟨#[40]⟩
abbrev x_29 : ByteArray:=⟨#[41]⟩
abbrev x_2d : ByteArray:=⟨#[45]⟩
abbrev x_2b : ByteArray:=⟨#[43]⟩
abbrev x_2a : ByteArray:=⟨#[42]⟩
abbrev x_2f : ByteArray:=⟨#[47]⟩
abbrev x_25 : ByteArray:=⟨#[37]⟩
abbrev x_3c : ByteArray:=⟨#[60]⟩
abbrev x_3d3d : ByteArray:=⟨#[61,61]⟩
abbrev x_6c6f636b20 : ByteArray:=⟨#[108,111,99,107,32]⟩
abbrev x_756e6c6f636b20 : ByteArray:=⟨#[117,110,108,111,99,107,32]⟩
abbrev x_73656e6420 : ByteArray:=⟨#[115,101,110,100,32]⟩
abbrev x_7265637620 : ByteArray:=⟨#[114,101,99,118,32]⟩
abbrev x_7072696e7420 : ByteArray:=⟨#[112,114,105,110,116,32]⟩
abbrev x_676f746f20 : ByteArray:=⟨#[103,111,116,111,32]⟩
abbrev x_6c6162656c20 : ByteArray:=⟨#[108,97,98,101,108,32]⟩
abbrev x_696620 : ByteArray:=⟨#[105,102,32]⟩
abbrev x_207b0a : ByteArray:=⟨#[32,123,10]⟩
abbrev x_7d : ByteArray:=⟨#[125]⟩
abbrev x_20656c7365207b0a : ByteArray:=⟨#[32,101,108,115,101,32,123,10]⟩
abbrev x_72657065617420 : ByteArray:=⟨#[114,101,112,101,97,116,32]⟩
abbrev x_7d0a : ByteArray:=⟨#[125,10]⟩
abbrev x_30 : ByteArray:=⟨#[48]⟩
abbrev x_3d3c2b2d2a2f2528297b7d : ByteArray:=⟨#[61,60,43,45,42,47,37,40,41,123,125]⟩
abbrev k_go : ByteArray:=⟨#[103,111]⟩
abbrev k_lock : ByteArray:=⟨#[108,111,99,107]⟩
abbrev k_unlock : ByteArray:=⟨#[117,110,108,111,99,107]⟩
abbrev k_send : ByteArray:=⟨#[115,101,110,100]⟩
abbrev k_recv : ByteArray:=⟨#[114,101,99,118]⟩
abbrev k_print : ByteArray:=⟨#[112,114,105,110,116]⟩
abbrev k_if : ByteArray:=⟨#[105,102]⟩
abbrev k_else : ByteArray:=⟨#[101,108,115,101]⟩
abbrev k_repeat : ByteArray:=⟨#[114,101,112,101,97,116]⟩
abbrev k_goto : ByteArray:=⟨#[103,111,116,111]⟩
abbrev k_label : ByteArray:=⟨#[108,97,98,101,108]⟩
abbrev x_7b : ByteArray:=⟨#[123]⟩
abbrev x_3d : ByteArray:=⟨#[61]⟩
abbrev k_nobody : ByteArray:=⟨#[110,111,98,111,100,121]⟩
abbrev tx60 : ByteArray:=⟨#[118,97,114,32,120,32,118,97,114,32,121,32,103,111,123,120,61,121,125]⟩
end Go.Su.YtcadbebhhnggdaaGreat
namespace Go.Su.YtcadbebhhnggdaaGreat
open Go.Mx Go.Proofs Go.Proofs.YtcadbebhhnggdaaGreat
set_option linter.unusedVariables false
def okInts (l : List Int) : Prop:=l.length ≤ maxLen ∧ ∀ a ∈ l,okInt .i64 a
def okAct (a : Act) : Prop:=okInt .i64 a.What ∧ okInt .i64 a.A ∧ okInt .i64 a.B ∧ okInt .i64 a.N ∧ okInts a.E
def okActs (l : List Act) : Prop:=l.length ≤ maxLen ∧ ∀ a ∈ l,okAct a
theorem opens_ints (W : World) : Opens Tryz.prog W 33 el_int okInts :=
 opens_slice (k:=1) Tryz.underlying33 (by kernel_rfl) (by omega) (fun _=>rfl) (opens_int Tryz.underlying3)
theorem opens_act (W : World) : Opens Tryz.prog W 122 eAct okAct:=by
 intro H enc fuel cs x h
 obtain ⟨xs,n,_,_,hl,hx,hf⟩:=DataW.trod_struct Tryz.underlying122 h
 have hl : cs.length = 5:=hl.trans (by kernel_rfl)
 obtain ⟨a0,g0,k0,r0⟩:=opens_field hx hf 0 rfl (k:=1) (o:=0) (by kernel_rfl) rfl (by omega) (opens_int Tryz.underlying3)
 obtain ⟨a1,g1,k1,r1⟩:=opens_field hx hf 1 rfl (k:=1) (o:=1) (by kernel_rfl) rfl (by omega) (opens_int Tryz.underlying3)
 obtain ⟨a2,g2,k2,r2⟩:=opens_field hx hf 2 rfl (k:=1) (o:=2) (by kernel_rfl) rfl (by omega) (opens_int Tryz.underlying3)
 obtain ⟨a3,g3,k3,r3⟩:=opens_field hx hf 3 rfl (k:=1) (o:=3) (by kernel_rfl) rfl (by omega) (opens_int Tryz.underlying3)
 obtain ⟨a4,g4,k4,r4⟩:=opens_field hx hf 4 rfl (k:=1) (o:=4) (by kernel_rfl) rfl (by omega) (opens_ints W)
 refine ⟨⟨a0,a1,a2,a3,a4⟩,⟨g0,g1,g2,g3,g4⟩,hl.symm,fun i h1 h2=>?_⟩
 rw [hl] at h2
 match i,h1,h2 with
 | 0,_,_=>exact r0 0 (Nat.zero_lt_one) (by omega)
 | 1,_,_=>exact r1 0 (Nat.zero_lt_one) (by omega)
 | 2,_,_=>exact r2 0 (Nat.zero_lt_one) (by omega)
 | 3,_,_=>exact r3 0 (Nat.zero_lt_one) (by omega)
 | 4,_,_=>exact r4 0 (Nat.zero_lt_one) (by omega)
 | i + 5,_,h=>omega
theorem opens_acts (W : World) : Opens Tryz.prog W 22 el_Act okActs :=
 opens_slice (k:=5) Tryz.underlying22 (by kernel_rfl) (by omega) (fun _=>rfl) (opens_act W)
end Go.Su.YtcadbebhhnggdaaGreat
