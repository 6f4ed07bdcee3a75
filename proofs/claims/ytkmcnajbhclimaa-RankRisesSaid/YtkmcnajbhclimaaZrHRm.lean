/-
  Who comes back to itself, by pairs: what the law's loop computes.
-/
import Derived.Test.YtkmcnajbhclimaaZrDx19
import Derived.Test.YtkmcnajbhclimaaChecked
import Derived.Test.YtkmcnajbhclimaaZrDx12
import Derived.MapKept
namespace Go.Su.Ytkmcnajbhclimaa
open Go.Mx Go.Proofs
set_option maxRecDepth 100000
set_option maxHeartbeats 20000000
set_option linter.unusedVariables false
set_option linter.unusedSimpArgs false
structure Act where
 What : Int
 A : Int
 B : Int
 N : Int
 E : List Int
structure Decl where
 Kind : Int
 Name : ByteArray
 N : Int
 At : Cx
structure Expr where
 Kind : Int
 N : Int
 Name : ByteArray
 Of : List Expr
structure Stmt where
 Kind : Int
 Name : ByteArray
 Other : ByteArray
 N : Int
 E : Expr
 Body : List Stmt
 Else : List Stmt
 At : Cx
structure Prog where
 Decls : List Decl
 Threads : List (List Stmt)
structure Arr2_i64 where
 e0 : Int
 e1 : Int
structure Arr3_string where
 e0 : ByteArray
 e1 : ByteArray
 e2 : ByteArray
structure Token where
 Kind : Int
 Text : ByteArray
 N : Int
 At : Int
structure Reader where
 T : List Token
 At : Int
 Fail : Bool
 Bad : Int
structure Mark where
 S : Stmt
 Block : List Int
 At : Int
structure Arr2_string where
 e0 : ByteArray
 e1 : ByteArray
def eAct (x : Act) : V:=.agg [.p (.int .i64 x.What),.p (.int .i64 x.A),.p (.int .i64 x.B),.p (.int .i64 x.N),.ps .opt (List.map e_i64 x.E)]
def eDecl (x : Decl) : V:=.agg [.p (.int .i64 x.Kind),.p (.string x.Name),.p (.int .i64 x.N),.p (.complex .f64 x.At.re x.At.im)]
mutual
def rExpr : Expr → V
 | ⟨x0,x1,x2,x3⟩=>.agg [.p (.int .i64 x0),.p (.int .i64 x1),.p (.string x2),.ps .opt (lExpr x3)]
def lExpr : List Expr → List V
 | []=>[]
 | e :: r=>rExpr e :: lExpr r
end
def eExpr (x : Expr) : V:=.agg [.p (.int .i64 x.Kind),.p (.int .i64 x.N),.p (.string x.Name),.ps .opt (lExpr x.Of)]
theorem rExpr_eq (x : Expr) : rExpr x = eExpr x:=by cases x; rw [rExpr]; rfl
theorem lExpr_eq (l : List Expr) : lExpr l = l.map eExpr:=by
 induction l with
 | nil=>rw [lExpr]; rfl
 | cons a r ih=>rw [lExpr,rExpr_eq,ih]; rfl
mutual
def rStmt : Stmt → V
 | ⟨x0,x1,x2,x3,x4,x5,x6,x7⟩=>.agg [.p (.int .i64 x0),.p (.string x1),.p (.string x2),.p (.int .i64 x3),.p (.int .i64 x4.Kind),.p (.int .i64 x4.N),.p (.string x4.Name),.ps .opt (lExpr x4.Of),.ps .opt (lStmt x5),.ps .opt (lStmt x6),.p (.complex .f64 x7.re x7.im)]
def lStmt : List Stmt → List V
 | []=>[]
 | e :: r=>rStmt e :: lStmt r
end
def eStmt (x : Stmt) : V:=.agg [.p (.int .i64 x.Kind),.p (.string x.Name),.p (.string x.Other),.p (.int .i64 x.N),.p (.int .i64 x.E.Kind),.p (.int .i64 x.E.N),.p (.string x.E.Name),.ps .opt (lExpr x.E.Of),.ps .opt (lStmt x.Body),.ps .opt (lStmt x.Else),.p (.complex .f64 x.At.re x.At.im)]
theorem rStmt_eq (x : Stmt) : rStmt x = eStmt x:=by cases x; rw [rStmt]; rfl
theorem lStmt_eq (l : List Stmt) : lStmt l = l.map eStmt:=by
 induction l with
 | nil=>rw [lStmt]; rfl
 | cons a r ih=>rw [lStmt,rStmt_eq,ih]; rfl
def eProg (x : Prog) : V:=.agg [.ps .opt (List.map eDecl x.Decls),.ps .opt (List.map (fun l=>V.ps .opt (lStmt l)) x.Threads)]
def eArr2_i64 (x : Arr2_i64) : V:=.agg [.p (.int .i64 x.e0),.p (.int .i64 x.e1)]
def eToken (x : Token) : V:=.agg [.p (.int .i64 x.Kind),.p (.string x.Text),.p (.int .i64 x.N),.p (.int .i64 x.At)]
def eReader (x : Reader) : V:=.agg [.ps .opt (List.map eToken x.T),.p (.int .i64 x.At),.p (.bool x.Fail),.p (.int .i64 x.Bad)]
def eMark (x : Mark) : V:=.agg [.p (.int .i64 x.S.Kind),.p (.string x.S.Name),.p (.string x.S.Other),.p (.int .i64 x.S.N),.p (.int .i64 x.S.E.Kind),.p (.int .i64 x.S.E.N),.p (.string x.S.E.Name),.ps .opt (lExpr x.S.E.Of),.ps .opt (lStmt x.S.Body),.ps .opt (lStmt x.S.Else),.p (.complex .f64 x.S.At.re x.S.At.im),.ps .opt (List.map e_i64 x.Block),.p (.int .i64 x.At)]
def tbl : List (Nat × TI):=[(3,⟨1,8,.int .i64,.p (.int .i64 0)⟩),
 (4,⟨1,1,.bool,.p (.bool false)⟩),
 (5,⟨1,1,.int .u8,.p (.int .u8 0)⟩),
 (9,⟨1,16,.string,.p (.string ByteArray.empty)⟩),
 (22,⟨1,24,.slice 122,.ps .nil []⟩),
 (23,⟨1,24,.slice 71,.ps .nil []⟩),
 (24,⟨1,24,.slice 75,.ps .nil []⟩),
 (26,⟨2,48,.struct #[⟨"Decls",23,0,false, "", "",0⟩,⟨"Threads",24,1,false, "", "",24⟩],.agg [.ps .nil [],.ps .nil []]⟩),
 (29,⟨1,24,.slice 49,.ps .nil []⟩),
 (31,⟨1,24,.slice 39,.ps .nil []⟩),
 (33,⟨1,24,.slice 3,.ps .nil []⟩),
 (34,⟨1,8,.int .i64,.p (.int .i64 0)⟩),
 (38,⟨1,24,.slice 4,.ps .nil []⟩),
 (39,⟨2,16,.array 2 3,.agg [.p (.int .i64 0),.p (.int .i64 0)]⟩),
 (47,⟨3,48,.array 3 9,.agg [.p (.string ByteArray.empty),.p (.string ByteArray.empty),.p (.string ByteArray.empty)]⟩),
 (49,⟨1,24,.slice 9,.ps .nil []⟩),
 (50,⟨1,24,.slice 33,.ps .nil []⟩),
 (59,⟨1,24,.slice 66,.ps .nil []⟩),
 (62,⟨1,8,.pointer 64,.p (.pointer none)⟩),
 (64,⟨4,48,.struct #[⟨"T",59,0,false, "", "",0⟩,⟨"At",3,1,false, "", "",24⟩,⟨"Fail",4,2,false, "", "",32⟩,⟨"Bad",3,3,false, "", "",40⟩],.agg [.ps .nil [],.p (.int .i64 0),.p (.bool false),.p (.int .i64 0)]⟩),
 (66,⟨4,40,.struct #[⟨"Kind",3,0,false, "", "",0⟩,⟨"Text",9,1,false, "", "",8⟩,⟨"N",3,2,false, "", "",24⟩,⟨"At",3,3,false, "", "",32⟩],.agg [.p (.int .i64 0),.p (.string ByteArray.empty),.p (.int .i64 0),.p (.int .i64 0)]⟩),
 (68,⟨1,16,.complex .f64,.p (.complex .f64 0 0)⟩),
 (71,⟨4,48,.struct #[⟨"Kind",3,0,false, "", "",0⟩,⟨"Name",9,1,false, "", "",8⟩,⟨"N",3,2,false, "", "",24⟩,⟨"At",68,3,false, "", "",32⟩],.agg [.p (.int .i64 0),.p (.string ByteArray.empty),.p (.int .i64 0),.p (.complex .f64 0 0)]⟩),
 (75,⟨1,24,.slice 95,.ps .nil []⟩),
 (77,⟨7,112,.array 7 9,.agg [.p (.string ByteArray.empty),.p (.string ByteArray.empty),.p (.string ByteArray.empty),.p (.string ByteArray.empty),.p (.string ByteArray.empty),.p (.string ByteArray.empty),.p (.string ByteArray.empty)]⟩),
 (85,⟨3,72,.array 3 22,.agg [.ps .nil [],.ps .nil [],.ps .nil []]⟩),
 (91,⟨1,24,.slice 93,.ps .nil []⟩),
 (93,⟨4,56,.struct #[⟨"Kind",3,0,false, "", "",0⟩,⟨"N",3,1,false, "", "",8⟩,⟨"Name",9,2,false, "", "",16⟩,⟨"Of",91,3,false, "", "",32⟩],.agg [.p (.int .i64 0),.p (.int .i64 0),.p (.string ByteArray.empty),.ps .nil []]⟩),
 (95,⟨11,168,.struct #[⟨"Kind",3,0,false, "", "",0⟩,⟨"Name",9,1,false, "", "",8⟩,⟨"Other",9,2,false, "", "",24⟩,⟨"N",3,3,false, "", "",40⟩,⟨"E",93,4,false, "", "",48⟩,⟨"Body",75,8,false, "", "",104⟩,⟨"Else",75,9,false, "", "",128⟩,⟨"At",68,10,false, "", "",152⟩],.agg [.p (.int .i64 0),.p (.string ByteArray.empty),.p (.string ByteArray.empty),.p (.int .i64 0),.p (.int .i64 0),.p (.int .i64 0),.p (.string ByteArray.empty),.ps .nil [],.ps .nil [],.ps .nil [],.p (.complex .f64 0 0)]⟩),
 (99,⟨1,8,.int .u64,.p (.int .u64 0)⟩),
 (105,⟨6,96,.array 6 9,.agg [.p (.string ByteArray.empty),.p (.string ByteArray.empty),.p (.string ByteArray.empty),.p (.string ByteArray.empty),.p (.string ByteArray.empty),.p (.string ByteArray.empty)]⟩),
 (111,⟨1,24,.slice 5,.ps .nil []⟩),
 (113,⟨1,24,.slice 116,.ps .nil []⟩),
 (116,⟨13,200,.struct #[⟨"S",95,0,false, "", "",0⟩,⟨"Block",33,11,false, "", "",168⟩,⟨"At",3,12,false, "", "",192⟩],.agg [.p (.int .i64 0),.p (.string ByteArray.empty),.p (.string ByteArray.empty),.p (.int .i64 0),.p (.int .i64 0),.p (.int .i64 0),.p (.string ByteArray.empty),.ps .nil [],.ps .nil [],.ps .nil [],.p (.complex .f64 0 0),.ps .nil [],.p (.int .i64 0)]⟩),
 (119,⟨1,8,.pointer 3,.p (.pointer none)⟩),
 (122,⟨5,56,.struct #[⟨"What",3,0,false, "", "",0⟩,⟨"A",3,1,false, "", "",8⟩,⟨"B",3,2,false, "", "",16⟩,⟨"N",3,3,false, "", "",24⟩,⟨"E",33,4,false, "", "",32⟩],.agg [.p (.int .i64 0),.p (.int .i64 0),.p (.int .i64 0),.p (.int .i64 0),.ps .nil []]⟩),
 (124,⟨2,32,.array 2 9,.agg [.p (.string ByteArray.empty),.p (.string ByteArray.empty)]⟩),
 (135,⟨1,8,.int .u64,.p (.int .u64 0)⟩),
 (142,⟨17,272,.array 17 9,.agg [.p (.string ByteArray.empty),.p (.string ByteArray.empty),.p (.string ByteArray.empty),.p (.string ByteArray.empty),.p (.string ByteArray.empty),.p (.string ByteArray.empty),.p (.string ByteArray.empty),.p (.string ByteArray.empty),.p (.string ByteArray.empty),.p (.string ByteArray.empty),.p (.string ByteArray.empty),.p (.string ByteArray.empty),.p (.string ByteArray.empty),.p (.string ByteArray.empty),.p (.string ByteArray.empty),.p (.string ByteArray.empty),.p (.string ByteArray.empty)]⟩),
 (147,⟨8,128,.array 8 9,.agg [.p (.string ByteArray.empty),.p (.string ByteArray.empty),.p (.string ByteArray.empty),.p (.string ByteArray.empty),.p (.string ByteArray.empty),.p (.string ByteArray.empty),.p (.string ByteArray.empty),.p (.string ByteArray.empty)]⟩)]
def tb : TypeId → Option TI:=lookT tbl
theorem rows : rowsOk Try.prog tbl:=⟨by kernel_rfl,by kernel_rfl,by kernel_rfl,by kernel_rfl,by kernel_rfl,by kernel_rfl,by kernel_rfl,by kernel_rfl,by kernel_rfl,by kernel_rfl,by kernel_rfl,by kernel_rfl,by kernel_rfl,by kernel_rfl,by kernel_rfl,by kernel_rfl,by kernel_rfl,by kernel_rfl,by kernel_rfl,by kernel_rfl,by kernel_rfl,by kernel_rfl,by kernel_rfl,by kernel_rfl,by kernel_rfl,by kernel_rfl,by kernel_rfl,by kernel_rfl,by kernel_rfl,by kernel_rfl,by kernel_rfl,by kernel_rfl,by kernel_rfl,by kernel_rfl,by kernel_rfl,by kernel_rfl,by kernel_rfl,by kernel_rfl,by kernel_rfl,by kernel_rfl,trivial⟩
theorem hT : TabOk Try.prog tb:=tab_ok rows (by kernel_rfl)
theorem hM : Try.prog.follows .mixedOrders = true:=Checked.mixed Try.checked
def el_Act (l : List Act) : V:=.ps .opt (List.map eAct l)
def el_int (l : List Int) : V:=.ps .opt (List.map e_i64 l)
def el_string (l : List ByteArray) : V:=.ps .opt (List.map e_s l)
def el_Stmt (l : List Stmt) : V:=.ps .opt (lStmt l)
def s_Act : SE tb Act:={ f:=eAct,F:=List.map eAct,hF:=fun _=>rfl,sz:=5,hs:=fun _=>rfl,h1:=fun _=>rfl,t:=22,e:=122,i0:=⟨1,24,.slice 122,.ps .nil []⟩,i1:=⟨5,56,.struct #[⟨"What",3,0,false, "", "",0⟩,⟨"A",3,1,false, "", "",8⟩,⟨"B",3,2,false, "", "",16⟩,⟨"N",3,3,false, "", "",24⟩,⟨"E",33,4,false, "", "",32⟩],.agg [.p (.int .i64 0),.p (.int .i64 0),.p (.int .i64 0),.p (.int .i64 0),.ps .nil []]⟩,ht:=by kernel_rfl,hd:=rfl,he:=by kernel_rfl,hz:=rfl,hp:=by decide,hb:=by decide }
def s_Decl : SE tb Decl:={ f:=eDecl,F:=List.map eDecl,hF:=fun _=>rfl,sz:=4,hs:=fun _=>rfl,h1:=fun _=>rfl,t:=23,e:=71,i0:=⟨1,24,.slice 71,.ps .nil []⟩,i1:=⟨4,48,.struct #[⟨"Kind",3,0,false, "", "",0⟩,⟨"Name",9,1,false, "", "",8⟩,⟨"N",3,2,false, "", "",24⟩,⟨"At",68,3,false, "", "",32⟩],.agg [.p (.int .i64 0),.p (.string ByteArray.empty),.p (.int .i64 0),.p (.complex .f64 0 0)]⟩,ht:=by kernel_rfl,hd:=rfl,he:=by kernel_rfl,hz:=rfl,hp:=by decide,hb:=by decide }
def s_LStmt : SE tb (List Stmt):={ f:=el_Stmt,F:=List.map el_Stmt,hF:=fun _=>rfl,sz:=1,hs:=fun _=>rfl,h1:=fun _=>rfl,t:=24,e:=75,i0:=⟨1,24,.slice 75,.ps .nil []⟩,i1:=⟨1,24,.slice 95,.ps .nil []⟩,ht:=by kernel_rfl,hd:=rfl,he:=by kernel_rfl,hz:=rfl,hp:=by decide,hb:=by decide }
def s_Lstring : SE tb (List ByteArray):={ f:=el_string,F:=List.map el_string,hF:=fun _=>rfl,sz:=1,hs:=fun _=>rfl,h1:=fun _=>rfl,t:=29,e:=49,i0:=⟨1,24,.slice 49,.ps .nil []⟩,i1:=⟨1,24,.slice 9,.ps .nil []⟩,ht:=by kernel_rfl,hd:=rfl,he:=by kernel_rfl,hz:=rfl,hp:=by decide,hb:=by decide }
def s_Arr2_i64 : SE tb Arr2_i64:={ f:=eArr2_i64,F:=List.map eArr2_i64,hF:=fun _=>rfl,sz:=2,hs:=fun _=>rfl,h1:=fun _=>rfl,t:=31,e:=39,i0:=⟨1,24,.slice 39,.ps .nil []⟩,i1:=⟨2,16,.array 2 3,.agg [.p (.int .i64 0),.p (.int .i64 0)]⟩,ht:=by kernel_rfl,hd:=rfl,he:=by kernel_rfl,hz:=rfl,hp:=by decide,hb:=by decide }
def s_int : SE tb Int:={ f:=e_i64,F:=List.map e_i64,hF:=fun _=>rfl,sz:=1,hs:=fun _=>rfl,h1:=fun _=>rfl,t:=33,e:=3,i0:=⟨1,24,.slice 3,.ps .nil []⟩,i1:=⟨1,8,.int .i64,.p (.int .i64 0)⟩,ht:=by kernel_rfl,hd:=rfl,he:=by kernel_rfl,hz:=rfl,hp:=by decide,hb:=by decide }
def s_bool : SE tb Bool:={ f:=e_b,F:=List.map e_b,hF:=fun _=>rfl,sz:=1,hs:=fun _=>rfl,h1:=fun _=>rfl,t:=38,e:=4,i0:=⟨1,24,.slice 4,.ps .nil []⟩,i1:=⟨1,1,.bool,.p (.bool false)⟩,ht:=by kernel_rfl,hd:=rfl,he:=by kernel_rfl,hz:=rfl,hp:=by decide,hb:=by decide }
def s_string : SE tb ByteArray:={ f:=e_s,F:=List.map e_s,hF:=fun _=>rfl,sz:=1,hs:=fun _=>rfl,h1:=fun _=>rfl,t:=49,e:=9,i0:=⟨1,24,.slice 9,.ps .nil []⟩,i1:=⟨1,16,.string,.p (.string ByteArray.empty)⟩,ht:=by kernel_rfl,hd:=rfl,he:=by kernel_rfl,hz:=rfl,hp:=by decide,hb:=by decide }
def s_Lint : SE tb (List Int):={ f:=el_int,F:=List.map el_int,hF:=fun _=>rfl,sz:=1,hs:=fun _=>rfl,h1:=fun _=>rfl,t:=50,e:=33,i0:=⟨1,24,.slice 33,.ps .nil []⟩,i1:=⟨1,24,.slice 3,.ps .nil []⟩,ht:=by kernel_rfl,hd:=rfl,he:=by kernel_rfl,hz:=rfl,hp:=by decide,hb:=by decide }
def s_Token : SE tb Token:={ f:=eToken,F:=List.map eToken,hF:=fun _=>rfl,sz:=4,hs:=fun _=>rfl,h1:=fun _=>rfl,t:=59,e:=66,i0:=⟨1,24,.slice 66,.ps .nil []⟩,i1:=⟨4,40,.struct #[⟨"Kind",3,0,false, "", "",0⟩,⟨"Text",9,1,false, "", "",8⟩,⟨"N",3,2,false, "", "",24⟩,⟨"At",3,3,false, "", "",32⟩],.agg [.p (.int .i64 0),.p (.string ByteArray.empty),.p (.int .i64 0),.p (.int .i64 0)]⟩,ht:=by kernel_rfl,hd:=rfl,he:=by kernel_rfl,hz:=rfl,hp:=by decide,hb:=by decide }
def s_Stmt : SE tb Stmt:={ f:=eStmt,F:=lStmt,hF:=lStmt_eq,sz:=11,hs:=fun _=>rfl,h1:=fun _=>rfl,t:=75,e:=95,i0:=⟨1,24,.slice 95,.ps .nil []⟩,i1:=⟨11,168,.struct #[⟨"Kind",3,0,false, "", "",0⟩,⟨"Name",9,1,false, "", "",8⟩,⟨"Other",9,2,false, "", "",24⟩,⟨"N",3,3,false, "", "",40⟩,⟨"E",93,4,false, "", "",48⟩,⟨"Body",75,8,false, "", "",104⟩,⟨"Else",75,9,false, "", "",128⟩,⟨"At",68,10,false, "", "",152⟩],.agg [.p (.int .i64 0),.p (.string ByteArray.empty),.p (.string ByteArray.empty),.p (.int .i64 0),.p (.int .i64 0),.p (.int .i64 0),.p (.string ByteArray.empty),.ps .nil [],.ps .nil [],.ps .nil [],.p (.complex .f64 0 0)]⟩,ht:=by kernel_rfl,hd:=rfl,he:=by kernel_rfl,hz:=rfl,hp:=by decide,hb:=by decide }
def s_Expr : SE tb Expr:={ f:=eExpr,F:=lExpr,hF:=lExpr_eq,sz:=4,hs:=fun _=>rfl,h1:=fun _=>rfl,t:=91,e:=93,i0:=⟨1,24,.slice 93,.ps .nil []⟩,i1:=⟨4,56,.struct #[⟨"Kind",3,0,false, "", "",0⟩,⟨"N",3,1,false, "", "",8⟩,⟨"Name",9,2,false, "", "",16⟩,⟨"Of",91,3,false, "", "",32⟩],.agg [.p (.int .i64 0),.p (.int .i64 0),.p (.string ByteArray.empty),.ps .nil []]⟩,ht:=by kernel_rfl,hd:=rfl,he:=by kernel_rfl,hz:=rfl,hp:=by decide,hb:=by decide }
def s_uint8 : SE tb Int:={ f:=e_u8,F:=List.map e_u8,hF:=fun _=>rfl,sz:=1,hs:=fun _=>rfl,h1:=fun _=>rfl,t:=111,e:=5,i0:=⟨1,24,.slice 5,.ps .nil []⟩,i1:=⟨1,1,.int .u8,.p (.int .u8 0)⟩,ht:=by kernel_rfl,hd:=rfl,he:=by kernel_rfl,hz:=rfl,hp:=by decide,hb:=by decide }
def s_mark : SE tb Mark:={ f:=eMark,F:=List.map eMark,hF:=fun _=>rfl,sz:=13,hs:=fun _=>rfl,h1:=fun _=>rfl,t:=113,e:=116,i0:=⟨1,24,.slice 116,.ps .nil []⟩,i1:=⟨13,200,.struct #[⟨"S",95,0,false, "", "",0⟩,⟨"Block",33,11,false, "", "",168⟩,⟨"At",3,12,false, "", "",192⟩],.agg [.p (.int .i64 0),.p (.string ByteArray.empty),.p (.string ByteArray.empty),.p (.int .i64 0),.p (.int .i64 0),.p (.int .i64 0),.p (.string ByteArray.empty),.ps .nil [],.ps .nil [],.ps .nil [],.p (.complex .f64 0 0),.ps .nil [],.p (.int .i64 0)]⟩,ht:=by kernel_rfl,hd:=rfl,he:=by kernel_rfl,hz:=rfl,hp:=by decide,hb:=by decide }
theorem en4 : Enters Try.prog 4:=enters Try.f4 Try.func4 rfl (by kernel_rfl)
theorem en5 : Enters Try.prog 5:=enters Try.f5 Try.func5 rfl (by kernel_rfl)
theorem en6 : Enters Try.prog 6:=enters Try.f6 Try.func6 rfl (by kernel_rfl)
theorem en7 : Enters Try.prog 7:=enters Try.f7 Try.func7 rfl (by kernel_rfl)
theorem en8 : Enters Try.prog 8:=enters Try.f8 Try.func8 rfl (by kernel_rfl)
theorem en9 : Enters Try.prog 9:=enters Try.f9 Try.func9 rfl (by kernel_rfl)
theorem en10 : Enters Try.prog 10:=enters Try.f10 Try.func10 rfl (by kernel_rfl)
theorem en11 : Enters Try.prog 11:=enters Try.f11 Try.func11 rfl (by kernel_rfl)
theorem en12 : Enters Try.prog 12:=enters Try.f12 Try.func12 rfl (by kernel_rfl)
theorem en13 : Enters Try.prog 13:=enters Try.f13 Try.func13 rfl (by kernel_rfl)
theorem en14 : Enters Try.prog 14:=enters Try.f14 Try.func14 rfl (by kernel_rfl)
theorem en15 : Enters Try.prog 15:=enters Try.f15 Try.func15 rfl (by kernel_rfl)
theorem en16 : Enters Try.prog 16:=enters Try.f16 Try.func16 rfl (by kernel_rfl)
theorem en17 : Enters Try.prog 17:=enters Try.f17 Try.func17 rfl (by kernel_rfl)
theorem en18 : Enters Try.prog 18:=enters Try.f18 Try.func18 rfl (by kernel_rfl)
theorem en19 : Enters Try.prog 19:=enters Try.f19 Try.func19 rfl (by kernel_rfl)
theorem en20 : Enters Try.prog 20:=enters Try.f20 Try.func20 rfl (by kernel_rfl)
theorem en21 : Enters Try.prog 21:=enters Try.f21 Try.func21 rfl (by kernel_rfl)
theorem en22 : Enters Try.prog 22:=enters Try.f22 Try.func22 rfl (by kernel_rfl)
theorem en23 : Enters Try.prog 23:=enters Try.f23 Try.func23 rfl (by kernel_rfl)
theorem en24 : Enters Try.prog 24:=enters Try.f24 Try.func24 rfl (by kernel_rfl)
theorem en25 : Enters Try.prog 25:=enters Try.f25 Try.func25 rfl (by kernel_rfl)
theorem en26 : Enters Try.prog 26:=enters Try.f26 Try.func26 rfl (by kernel_rfl)
theorem en27 : Enters Try.prog 27:=enters Try.f27 Try.func27 rfl (by kernel_rfl)
theorem en28 : Enters Try.prog 28:=enters Try.f28 Try.func28 rfl (by kernel_rfl)
theorem en29 : Enters Try.prog 29:=enters Try.f29 Try.func29 rfl (by kernel_rfl)
theorem en30 : Enters Try.prog 30:=enters Try.f30 Try.func30 rfl (by kernel_rfl)
theorem en31 : Enters Try.prog 31:=enters Try.f31 Try.func31 rfl (by kernel_rfl)
theorem en32 : Enters Try.prog 32:=enters Try.f32 Try.func32 rfl (by kernel_rfl)
theorem en33 : Enters Try.prog 33:=enters Try.f33 Try.func33 rfl (by kernel_rfl)
theorem en34 : Enters Try.prog 34:=enters Try.f34 Try.func34 rfl (by kernel_rfl)
theorem en35 : Enters Try.prog 35:=enters Try.f35 Try.func35 rfl (by kernel_rfl)
theorem en36 : Enters Try.prog 36:=enters Try.f36 Try.func36 rfl (by kernel_rfl)
theorem en37 : Enters Try.prog 37:=enters Try.f37 Try.func37 rfl (by kernel_rfl)
theorem en38 : Enters Try.prog 38:=enters Try.f38 Try.func38 rfl (by kernel_rfl)
theorem en39 : Enters Try.prog 39:=enters Try.f39 Try.func39 rfl (by kernel_rfl)
theorem en40 : Enters Try.prog 40:=enters Try.f40 Try.func40 rfl (by kernel_rfl)
theorem en41 : Enters Try.prog 41:=enters Try.f41 Try.func41 rfl (by kernel_rfl)
theorem en42 : Enters Try.prog 42:=enters Try.f42 Try.func42 rfl (by kernel_rfl)
theorem en43 : Enters Try.prog 43:=enters Try.f43 Try.func43 rfl (by kernel_rfl)
theorem en44 : Enters Try.prog 44:=enters Try.f44 Try.func44 rfl (by kernel_rfl)
theorem en45 : Enters Try.prog 45:=enters Try.f45 Try.func45 rfl (by kernel_rfl)
theorem en46 : Enters Try.prog 46:=enters Try.f46 Try.func46 rfl (by kernel_rfl)
theorem en47 : Enters Try.prog 47:=enters Try.f47 Try.func47 rfl (by kernel_rfl)
theorem en48 : Enters Try.prog 48:=enters Try.f48 Try.func48 rfl (by kernel_rfl)
theorem en49 : Enters Try.prog 49:=enters Try.f49 Try.func49 rfl (by kernel_rfl)
theorem en50 : Enters Try.prog 50:=enters Try.f50 Try.func50 rfl (by kernel_rfl)
theorem en51 : Enters Try.prog 51:=enters Try.f51 Try.func51 rfl (by kernel_rfl)
theorem en52 : Enters Try.prog 52:=enters Try.f52 Try.func52 rfl (by kernel_rfl)
theorem en53 : Enters Try.prog 53:=enters Try.f53 Try.func53 rfl (by kernel_rfl)
theorem en54 : Enters Try.prog 54:=enters Try.f54 Try.func54 rfl (by kernel_rfl)
theorem en55 : Enters Try.prog 55:=enters Try.f55 Try.func55 rfl (by kernel_rfl)
theorem en56 : Enters Try.prog 56:=enters Try.f56 Try.func56 rfl (by kernel_rfl)
theorem en57 : Enters Try.prog 57:=enters Try.f57 Try.func57 rfl (by kernel_rfl)
theorem en58 : Enters Try.prog 58:=enters Try.f58 Try.func58 rfl (by kernel_rfl)
theorem en59 : Enters Try.prog 59:=enters Try.f59 Try.func59 rfl (by kernel_rfl)
theorem en60 : Enters Try.prog 60:=enters Try.f60 Try.func60 rfl (by kernel_rfl)
theorem en61 : Enters Try.prog 61:=enters Try.f61 Try.func61 rfl (by kernel_rfl)
theorem en62 : Enters Try.prog 62:=enters Try.f62 Try.func62 rfl (by kernel_rfl)
theorem en63 : Enters Try.prog 63:=enters Try.f63 Try.func63 rfl (by kernel_rfl)
theorem en64 : Enters Try.prog 64:=enters Try.f64 Try.func64 rfl (by kernel_rfl)
theorem en65 : Enters Try.prog 65:=enters Try.f65 Try.func65 rfl (by kernel_rfl)
theorem en66 : Enters Try.prog 66:=enters Try.f66 Try.func66 rfl (by kernel_rfl)
theorem en67 : Enters Try.prog 67:=enters Try.f67 Try.func67 rfl (by kernel_rfl)
theorem en68 : Enters Try.prog 68:=enters Try.f68 Try.func68 rfl (by kernel_rfl)
theorem en69 : Enters Try.prog 69:=enters Try.f69 Try.func69 rfl (by kernel_rfl)
theorem en71 : Enters Try.prog 71:=enters Try.f71 Try.func71 rfl (by kernel_rfl)
theorem en72 : Enters Try.prog 72:=enters Try.f72 Try.func72 rfl (by kernel_rfl)
theorem en73 : Enters Try.prog 73:=enters Try.f73 Try.func73 rfl (by kernel_rfl)
theorem en74 : Enters Try.prog 74:=enters Try.f74 Try.func74 rfl (by kernel_rfl)
theorem en75 : Enters Try.prog 75:=enters Try.f75 Try.func75 rfl (by kernel_rfl)
theorem en76 : Enters Try.prog 76:=enters Try.f76 Try.func76 rfl (by kernel_rfl)
theorem en77 : Enters Try.prog 77:=enters Try.f77 Try.func77 rfl (by kernel_rfl)
theorem en78 : Enters Try.prog 78:=enters Try.f78 Try.func78 rfl (by kernel_rfl)
theorem en79 : Enters Try.prog 79:=enters Try.f79 Try.func79 rfl (by kernel_rfl)
theorem en80 : Enters Try.prog 80:=enters Try.f80 Try.func80 rfl (by kernel_rfl)
theorem en81 : Enters Try.prog 81:=enters Try.f81 Try.func81 rfl (by kernel_rfl)
theorem en82 : Enters Try.prog 82:=enters Try.f82 Try.func82 rfl (by kernel_rfl)
theorem en83 : Enters Try.prog 83:=enters Try.f83 Try.func83 rfl (by kernel_rfl)
theorem en84 : Enters Try.prog 84:=enters Try.f84 Try.func84 rfl (by kernel_rfl)
theorem en85 : Enters Try.prog 85:=enters Try.f85 Try.func85 rfl (by kernel_rfl)
theorem en86 : Enters Try.prog 86:=enters Try.f86 Try.func86 rfl (by kernel_rfl)
theorem en87 : Enters Try.prog 87:=enters Try.f87 Try.func87 rfl (by kernel_rfl)
theorem en88 : Enters Try.prog 88:=enters Try.f88 Try.func88 rfl (by kernel_rfl)
theorem en89 : Enters Try.prog 89:=enters Try.f89 Try.func89 rfl (by kernel_rfl)
theorem en90 : Enters Try.prog 90:=enters Try.f90 Try.func90 rfl (by kernel_rfl)
theorem en91 : Enters Try.prog 91:=enters Try.f91 Try.func91 rfl (by kernel_rfl)
theorem en92 : Enters Try.prog 92:=enters Try.f92 Try.func92 rfl (by kernel_rfl)
theorem en93 : Enters Try.prog 93:=enters Try.f93 Try.func93 rfl (by kernel_rfl)
theorem en94 : Enters Try.prog 94:=enters Try.f94 Try.func94 rfl (by kernel_rfl)
theorem en95 : Enters Try.prog 95:=enters Try.f95 Try.func95 rfl (by kernel_rfl)
theorem en96 : Enters Try.prog 96:=enters Try.f96 Try.func96 rfl (by kernel_rfl)
abbrev k_x : ByteArray:=⟨#[120]⟩
abbrev k_y : ByteArray:=⟨#[121]⟩
abbrev k_z : ByteArray:=⟨#[122]⟩
abbrev k_a : ByteArray:=⟨#[97]⟩
abbrev k_t : ByteArray:=⟨#[116]⟩
abbrev k_m : ByteArray:=⟨#[109]⟩
abbrev k_c : ByteArray:=⟨#[99]⟩
abbrev k_d : ByteArray:=⟨#[100]⟩
abbrev k_l : ByteArray:=⟨#[108]⟩
abbrev k_k : ByteArray:=⟨#[107]⟩
abbrev x_3f : ByteArray:=⟨#[63]⟩
abbrev k_var : ByteArray:=⟨#[118,97,114]⟩
abbrev k_wide : ByteArray:=⟨#[119,105,100,101]⟩
abbrev k_atomic : ByteArray:=⟨#[97,116,111,109,105,99]⟩
abbrev k_local : ByteArray:=⟨#[108,111,99,97,108]⟩
abbrev k_mutex : ByteArray:=⟨#[109,117,116,101,120]⟩
abbrev k_chan : ByteArray:=⟨#[99,104,97,110]⟩
abbrev x_20 : ByteArray:=⟨#[32]⟩
abbrev x_0a : ByteArray:=⟨#[10]⟩
abbrev x_676f207b0a : ByteArray:=⟨#[103,111,32,123,10]⟩
abbrev x_09 : ByteArray:=⟨#[9]⟩
abbrev x_203d20 : ByteArray:=⟨#[32,61,32]⟩
abbrev x_28 : ByteArray:=⟨#[40]⟩
abbrev x_29 : ByteArray:=⟨#[41]⟩
abbrev x_2d : ByteArray:=⟨#[45]⟩
abbrev x_2b : ByteArray:=⟨#[43]⟩
abbrev x_2a : ByteArray:=⟨#[42]⟩
abbrev x_2f : ByteArray:=⟨#[47]⟩
abbrev x_25 : ByteArray:=⟨#[37]⟩
abbrev x_3c : ByteArray:=⟨#[60]⟩
abbrev x_3d3d : ByteArray:=⟨#[61,61]⟩
abbrev x_6c6f636b20 : ByteArray:=⟨#[108,111,99,107,32]⟩
abbrev x_756e6c6f636b20 : ByteArray:=⟨#[117,110,108,111,99,107,32]⟩
abbrev x_73656e6420 : ByteArray:=⟨#[115,101,110,100,32]⟩
abbrev x_7265637620 : ByteArray:=⟨#[114,101,99,118,32]⟩
abbrev x_7072696e7420 : ByteArray:=⟨#[112,114,105,110,116,32]⟩
abbrev x_676f746f20 : ByteArray:=⟨#[103,111,116,111,32]⟩
abbrev x_6c6162656c20 : ByteArray:=⟨#[108,97,98,101,108,32]⟩
abbrev x_696620 : ByteArray:=⟨#[105,102,32]⟩
abbrev x_207b0a : ByteArray:=⟨#[32,123,10]⟩
abbrev x_7d : ByteArray:=⟨#[125]⟩
abbrev x_20656c7365207b0a : ByteArray:=⟨#[32,101,108,115,101,32,123,10]⟩
abbrev x_72657065617420 : ByteArray:=⟨#[114,101,112,101,97,116,32]⟩
abbrev x_7d0a : ByteArray:=⟨#[125,10]⟩
abbrev x_30 : ByteArray:=⟨#[48]⟩
abbrev x_3d3c2b2d2a2f2528297b7d : ByteArray:=⟨#[61,60,43,45,42,47,37,40,41,123,125]⟩
abbrev k_go : ByteArray:=⟨#[103,111]⟩
abbrev k_lock : ByteArray:=⟨#[108,111,99,107]⟩
abbrev k_unlock : ByteArray:=⟨#[117,110,108,111,99,107]⟩
abbrev k_send : ByteArray:=⟨#[115,101,110,100]⟩
abbrev k_recv : ByteArray:=⟨#[114,101,99,118]⟩
abbrev k_print : ByteArray:=⟨#[112,114,105,110,116]⟩
abbrev k_if : ByteArray:=⟨#[105,102]⟩
abbrev k_else : ByteArray:=⟨#[101,108,115,101]⟩
abbrev k_repeat : ByteArray:=⟨#[114,101,112,101,97,116]⟩
abbrev k_goto : ByteArray:=⟨#[103,111,116,111]⟩
abbrev k_label : ByteArray:=⟨#[108,97,98,101,108]⟩
abbrev x_7b : ByteArray:=⟨#[123]⟩
abbrev x_3d : ByteArray:=⟨#[61]⟩
abbrev k_nobody : ByteArray:=⟨#[110,111,98,111,100,121]⟩
abbrev tx60 : ByteArray:=⟨#[118,97,114,32,120,32,118,97,114,32,121,32,103,111,123,120,61,121,125]⟩
end Go.Su.Ytkmcnajbhclimaa
namespace Go.Su.Ytkmcnajbhclimaa
open Go.Mx Go.Proofs Go.Proofs.Ytkmcnajbhclimaa
set_option linter.unusedVariables false
def okInts (l : List Int) : Prop:=l.length ≤ maxLen ∧ ∀ a ∈ l,okInt .i64 a
def okAct (a : Act) : Prop:=okInt .i64 a.What ∧ okInt .i64 a.A ∧ okInt .i64 a.B ∧ okInt .i64 a.N ∧ okInts a.E
def okActs (l : List Act) : Prop:=l.length ≤ maxLen ∧ ∀ a ∈ l,okAct a
theorem opens_ints (W : World) : Opens Try.prog W 33 el_int okInts :=
 opens_slice (k:=1) Try.underlying33 (by kernel_rfl) (by omega) (fun _=>rfl) (opens_int Try.underlying3)
theorem opens_act (W : World) : Opens Try.prog W 122 eAct okAct:=by
 intro H enc fuel cs x h
 obtain ⟨xs,n,_,_,hl,hx,hf⟩:=DataW.trod_struct Try.underlying122 h
 have hl : cs.length = 5:=hl.trans (by kernel_rfl)
 obtain ⟨a0,g0,k0,r0⟩:=opens_field hx hf 0 rfl (k:=1) (o:=0) (by kernel_rfl) rfl (by omega) (opens_int Try.underlying3)
 obtain ⟨a1,g1,k1,r1⟩:=opens_field hx hf 1 rfl (k:=1) (o:=1) (by kernel_rfl) rfl (by omega) (opens_int Try.underlying3)
 obtain ⟨a2,g2,k2,r2⟩:=opens_field hx hf 2 rfl (k:=1) (o:=2) (by kernel_rfl) rfl (by omega) (opens_int Try.underlying3)
 obtain ⟨a3,g3,k3,r3⟩:=opens_field hx hf 3 rfl (k:=1) (o:=3) (by kernel_rfl) rfl (by omega) (opens_int Try.underlying3)
 obtain ⟨a4,g4,k4,r4⟩:=opens_field hx hf 4 rfl (k:=1) (o:=4) (by kernel_rfl) rfl (by omega) (opens_ints W)
 refine ⟨⟨a0,a1,a2,a3,a4⟩,⟨g0,g1,g2,g3,g4⟩,hl.symm,fun i h1 h2=>?_⟩
 rw [hl] at h2
 match i,h1,h2 with
 | 0,_,_=>exact r0 0 (Nat.zero_lt_one) (by omega)
 | 1,_,_=>exact r1 0 (Nat.zero_lt_one) (by omega)
 | 2,_,_=>exact r2 0 (Nat.zero_lt_one) (by omega)
 | 3,_,_=>exact r3 0 (Nat.zero_lt_one) (by omega)
 | 4,_,_=>exact r4 0 (Nat.zero_lt_one) (by omega)
 | i + 5,_,h=>omega
theorem opens_acts (W : World) : Opens Try.prog W 22 el_Act okActs :=
 opens_slice (k:=5) Try.underlying22 (by kernel_rfl) (by omega) (fun _=>rfl) (opens_act W)
end Go.Su.Ytkmcnajbhclimaa
namespace Go.Mx
set_option linter.unusedVariables false
set_option linter.unusedSimpArgs false
structure Gs where
 β : Nat
 D : List Int
def hasK (D : List Int) (k : Int) : Bool:=D.any fun x=>k == x
def putK (D : List Int) (k : Int) : List Int:=bif hasK D k then D else D ++ [k]
def MapAt (w : World) (β : Nat) (D : List Int) : Prop:=∃ es clock,w.heap[β]? = some (.map es clock) ∧ es.toList.map (fun e=>(e.key,e.val)) = D.map fun k=>(Value.int .i64 k,Value.bool true)
theorem find_map (k : Int) : ∀ (l : List MapEntry) (D : List Int) (i : Nat),l.map (fun e=>(e.key,e.val)) = D.map (fun k=>(Value.int .i64 k,Value.bool true)) →
  (hasK D k = false ∧ Instr.findNow (.int .i64) (.int .i64 k) l i = some none) ∨ (hasK D k = true ∧ ∃ j e,Instr.findNow (.int .i64) (.int .i64 k) l i = some (some (i + j,.bool true)) ∧ l[j]? = some e ∧ e.key = .int .i64 k ∧ e.val = .bool true)
 | [],D,i,h=>by
  cases D with
  | nil=>exact .inl ⟨rfl,rfl⟩
  | cons x r=>simp at h
 | e :: l,[],i,h=>by simp at h
 | e :: l,x :: D,i,h=>by
  simp only [List.map_cons,List.cons.injEq,Prod.mk.injEq] at h
  obtain ⟨⟨hk,hv⟩,hr⟩:=h
  have h0 : hasK (x :: D) k = ((k == x) || hasK D k):=rfl
  rw [h0]
  cases c : (k == x)
  ·have hs : Instr.sameNow (.int .i64) (.int .i64 k) e.key = some false:=by rw [hk]; simp [Instr.sameNow,c]
   rcases find_map k l D (i + 1) hr with ⟨h1,h2⟩ | ⟨h1,j,e',h2,h3,h4,h5⟩
   ·exact .inl ⟨by rw [h1]; rfl,by simp only [Instr.findNow,hs,h2]⟩
   ·exact .inr ⟨by rw [h1]; rfl,j + 1,e',by simp only [Instr.findNow,hs,h2]; congr 3; omega,by simpa using h3,h4,h5⟩
  ·have hs : Instr.sameNow (.int .i64) (.int .i64 k) e.key = some true:=by rw [hk]; simp [Instr.sameNow,c]
   have e0 : k = x:=eq_of_beq c
   exact .inr ⟨rfl,0,e,by simp only [Instr.findNow,hs,hv]; rfl,rfl,by rw [hk,e0],hv⟩
section
variable {P : Program} {T : TypeId → Option TI} {bad : Nat → Prop} {E : Ent} {N : Nat}
theorem run_look {w : World} {t kt et : TypeId} {β : Nat} {D : List Int} {k : Int} (ht : P.underlying t = some (.map kt et)) (hkt : P.underlying kt = some (.int .i64)) (hz : ∀ w,(zeroValue et).run P w = .ok (.bool false) w) (h : MapAt w β D) :
  (Instr.lookup t (.map (some β)) (.int .i64 k) false).run P w = .ok (.bool (hasK D k)) w:=by
 obtain ⟨es,cl,h1,h2⟩:=h
 have hck : ∀ em,(Instr.checkKey em 10000 kt (.int .i64 k)).run P w = .ok () w:=fun em=>MapKept.run_checkKey hkt (by simp [MapKept.IsKey]) em 9999
 rcases find_map k es.toList D 0 h2 with ⟨p1,p2⟩ | ⟨p1,j,e,p2,_⟩
 ·simp [Instr.lookup,run_underlying ht,MapKept.run_getObj_map h1,hck,MapKept.run_findKey hkt p2,hz,p1]
 ·simp [Instr.lookup,run_underlying ht,MapKept.run_getObj_map h1,hck,MapKept.run_findKey hkt p2,p1]
theorem run_upd {w : World} {t kt et : TypeId} {β : Nat} {D : List Int} {k : Int} (ht : P.underlying t = some (.map kt et)) (hkt : P.underlying kt = some (.int .i64)) (h : MapAt w β D) :
  ∃ es cl,(Instr.mapUpdate t (.map (some β)) (.int .i64 k) (.bool true)).run P w = .ok () { w with heap:=w.heap.setIfInBounds β (.map es cl) } ∧ MapAt { w with heap:=w.heap.setIfInBounds β (.map es cl) } β (putK D k):=by
 obtain ⟨es,cl,h1,h2⟩:=h
 have hck : (Instr.checkKey false 10000 kt (.int .i64 k)).run P w = .ok () w:=MapKept.run_checkKey hkt (by simp [MapKept.IsKey]) false 9999
 have hset : ∀ o : Obj,(w.heap.setIfInBounds β o)[β]? = some o:=fun o=>(MapKept.heap_set h1).1
 rcases find_map k es.toList D 0 h2 with ⟨p1,p2⟩ | ⟨p1,j,e,p2,p3,p4,p5⟩
 ·refine ⟨es.push { key:=.int .i64 k,val:=.bool true,born:=cl },cl + 1,?_,⟨_,_,hset _,?_⟩⟩
  ·simp [Instr.mapUpdate,run_underlying ht,MapKept.run_getObj_map h1,hck,MapKept.run_findKey hkt p2,MapKept.run_setObj_map _ h1]
  ·simp [putK,p1,h2]
 ·have hj : es[j]? = some e:=by simpa using p3
  have hkey : ∀ w,(Instr.keyThatStays (.int .i64 k) (.int .i64 k)).run P w = .ok (.int .i64 k) w:=fun w=>by simp [Instr.keyThatStays,Instr.sameBits]
  refine ⟨es.modify j fun e=>{ e with key:=.int .i64 k,val:=.bool true },cl,?_,⟨_,_,hset _,?_⟩⟩
  ·rw [Nat.zero_add] at p2
   simp [Instr.mapUpdate,run_underlying ht,MapKept.run_getObj_map h1,hck,MapKept.run_findKey hkt p2,hj,p4,hkey,MapKept.run_setObj_map _ h1]
  ·rw [putK,p1,cond_true,← h2]
   apply List.ext_getElem?
   intro i
   simp only [List.getElem?_map,Array.getElem?_toList,Array.getElem?_modify]
   by_cases c : j = i
   ·subst c
    rw [if_pos rfl,hj]
    simp [p4,p5]
   ·rw [if_neg c]
def GhO (E : Ent) (G : Option Gs) (w : World) (m : MM) : Prop:=∀ g,G = some g → MapAt w g.β g.D ∧ (∀ b l,m b = some l → l.blk ≠ some g.β) ∧ E.w.heap.size ≤ g.β
theorem GhO.le {G : Option Gs} {w w' : World} {m m' : MM} {c c' : Nat} (h : GhO E G w m) (hle : Le w m c w' m' c') : GhO E G w' m':=by
 intro g hg
 obtain ⟨⟨es,cl,h1,h2⟩,h3,h4⟩:=h g hg
 have hlt : g.β < w.heap.size:=(Array.getElem?_eq_some_iff.1 h1).1
 refine ⟨⟨es,cl,by rw [hle.keep g.β hlt h3]; exact h1,h2⟩,fun b l hb hl=>?_,h4⟩
 rcases hle.range b l g.β hb hl with q | ⟨b0,l0,q1,q2⟩
 ·omega
 ·exact h3 b0 l0 q1 q2
def WM (P : Program) (bad : Nat → Prop) (E : Ent) (N : Nat) (code : Code) (s : SA) (G : Option Gs) (Q : Exit → SA → Option Gs → Prop) : Prop :=
 ∀ a w m,SRA bad N s a w m → E.le w m s.c → GhO E G w m → code.wp P (fun e a' w'=>∃ s' m' G',Q e s' G' ∧ SRA bad N s' a' w' m' ∧ E.le w' m' s'.c ∧ GhO E G' w' m') a w
theorem WA_of_WM {code : Code} {s : SA} {Q : Exit → SA → Prop} (h : WM P bad E N code s none (fun e s' _=>Q e s')) : WA P bad E N code s Q :=
 fun a w m hs hl=>wp_mono (h a w m hs hl (fun g hg=>by cases hg)) fun e a' w' ⟨s',m',G',h1,h2,h3,_⟩=>⟨s',m',h1,h2,h3⟩
theorem WM_weak {code : Code} {s s' : SA} {G : Option Gs} {Q : Exit → SA → Option Gs → Prop} (hw : ∀ E' : Ent,E'.c = s.c → Weak bad E' N s s') (h : WM P bad E N code s' G Q) : WM P bad E N code s G Q:=by
 intro a w m hs hl hg
 obtain ⟨m',h1,h2⟩:=hw ⟨w,m,s.c⟩ rfl a w m hs (Le.refl _ _ _)
 exact h a w m' h1 (hl.trans h2) (hg.le h2)
def thenM (next : SA → Option Gs → Prop) (Q : Exit → SA → Option Gs → Prop) : Exit → SA → Option Gs → Prop
 | .normal,s,G=>next s G
 | e,s,G=>Q e s G
def blockM (id : Nat) (Q : Exit → SA → Option Gs → Prop) : Exit → SA → Option Gs → Prop
 | .exit id',s,G=>bif Nat.beq id' id then Q .normal s G else Q (.exit id') s G
 | e,s,G=>Q e s G
theorem WM_skip {s : SA} {G : Option Gs} {Q : Exit → SA → Option Gs → Prop} (h : Q .normal s G) : WM P bad E N .skip s G Q:=fun a w m hs hl hg=>wp_skip ⟨s,m,G,h,hs,hl,hg⟩
theorem WM_exit {id : Nat} {s : SA} {G : Option Gs} {Q : Exit → SA → Option Gs → Prop} (h : Q (.exit id) s G) : WM P bad E N (.exit id) s G Q:=fun a w m hs hl hg=>wp_exit ⟨s,m,G,h,hs,hl,hg⟩
theorem WM_ret {s : SA} {G : Option Gs} {Q : Exit → SA → Option Gs → Prop} (h : Q .ret s G) : WM P bad E N .ret s G Q:=fun a w m hs hl hg=>wp_ret ⟨s,m,G,h,hs,hl,hg⟩
theorem WM_seq {x y : Code} {s : SA} {G : Option Gs} {Q : Exit → SA → Option Gs → Prop} (h : WM P bad E N x s G (thenM (fun s' G'=>WM P bad E N y s' G' Q) Q)) : WM P bad E N (.seq x y) s G Q:=by
 intro a w m hs hl hg
 refine wp_seq (wp_mono (h a w m hs hl hg) ?_)
 rintro e a' w' ⟨s',m',G',h1,h2,h3,h4⟩
 cases e with
 | normal=>exact h1 a' w' m' h2 h3 h4
 | exit id=>exact ⟨s',m',G',h1,h2,h3,h4⟩
 | goto l=>exact ⟨s',m',G',h1,h2,h3,h4⟩
 | ret=>exact ⟨s',m',G',h1,h2,h3,h4⟩
 | panic ch=>exact ⟨s',m',G',h1,h2,h3,h4⟩
 | outgrown=>exact ⟨s',m',G',h1,h2,h3,h4⟩
theorem WM_cond {k : Operand} {x y : Code} {s : SA} {G : Option Gs} {Q : Exit → SA → Option Gs → Prop} (b : Bool) (hk : evA s.A k = .p (.bool b)) (h1 : b = true → WM P bad E N x s G Q) (h2 : b = false → WM P bad E N y s G Q) : WM P bad E N (.cond k x y) s G Q:=by
 intro a w m hs hl hg
 have:=hs.2.t.eval k
 rw [SA.st,← evA_eq hs.1,hk] at this
 cases b with
 | true=>exact wp_cond (rep_p this) (by simpa using h1 rfl a w m hs hl hg)
 | false=>exact wp_cond (rep_p this) (by simpa using h2 rfl a w m hs hl hg)
theorem WM_block {id : Nat} {x : Code} {s : SA} {G : Option Gs} {Q : Exit → SA → Option Gs → Prop} (h : WM P bad E N x s G (blockM id Q)) : WM P bad E N (.block id x) s G Q:=by
 intro a w m hs hl hg
 refine wp_block (wp_mono (h a w m hs hl hg) ?_)
 rintro e a' w' ⟨st',m',G',h1,h2,h3,h4⟩
 cases e with
 | exit id' =>
  simp only [blockM] at h1
  simp only [Exit.inBlock]
  cases hb : Nat.beq id' id with
  | true =>
   rw [hb] at h1
   rw [if_pos (Nat.eq_of_beq_eq_true hb)]; exact ⟨st',m',G',h1,h2,h3,h4⟩
  | false =>
   rw [hb] at h1
   rw [if_neg (fun e=>by subst e; simp at hb)]; exact ⟨st',m',G',h1,h2,h3,h4⟩
 | normal=>exact ⟨st',m',G',h1,h2,h3,h4⟩
 | goto l=>exact ⟨st',m',G',h1,h2,h3,h4⟩
 | ret=>exact ⟨st',m',G',h1,h2,h3,h4⟩
 | panic ch=>exact ⟨st',m',G',h1,h2,h3,h4⟩
 | outgrown=>exact ⟨st',m',G',h1,h2,h3,h4⟩
theorem WM_loop {x : Code} {s : SA} {G : Option Gs} {Q : Exit → SA → Option Gs → Prop} (I : Nat → SA → Option Gs → Prop) (n : Nat) (h0 : I n s G) (hz : ∀ s' G',I 0 s' G' → False) (h : ∀ k s' G',I (k + 1) s' G' → WM P bad E N x s' G' (thenM (I k) Q)) : WM P bad E N (.loop x) s G Q:=by
 intro a w m hs hl hg
 refine wp_loop_rounds n ?_
 have key : ∀ n s G a w m,I n s G → SRA bad N s a w m → E.le w m s.c → GhO E G w m → Code.rounds P x (fun e a' w'=>∃ s' m' G',Q e s' G' ∧ SRA bad N s' a' w' m' ∧ E.le w' m' s'.c ∧ GhO E G' w' m') n a w:=by
  intro n
  induction n with
  | zero=>intro s G a w m h; exact (hz s G h).elim
  | succ n ih =>
   intro s G a w m hi hs hl hg
   refine wp_mono (h n s G hi a w m hs hl hg) ?_
   rintro e a' w' ⟨s',m',G',h1,h2,h3,h4⟩
   cases e with
   | normal=>exact ih s' G' a' w' m' h1 h2 h3 h4
   | exit id=>exact ⟨s',m',G',h1,h2,h3,h4⟩
   | goto l=>exact ⟨s',m',G',h1,h2,h3,h4⟩
   | ret=>exact ⟨s',m',G',h1,h2,h3,h4⟩
   | panic ch=>exact ⟨s',m',G',h1,h2,h3,h4⟩
   | outgrown=>exact ⟨s',m',G',h1,h2,h3,h4⟩
 exact key n s G a w m h0 hs hl hg
def WOM (P : Program) (bad : Nat → Prop) (E : Ent) (N : Nat) (ops : Array Oper) (i : Nat) (s : SA) (G : Option Gs) (Q : Exit → SA → Option Gs → Prop) : Prop :=
 ∀ a w m,SRA bad N s a w m → E.le w m s.c → GhO E G w m → wpOps P ops (fun e a' w'=>∃ s' m' G',Q e s' G' ∧ SRA bad N s' a' w' m' ∧ E.le w' m' s'.c ∧ GhO E G' w' m') (List.range' i (ops.size - i)) a w
theorem WM_region {id : Nat} {ops : Array Oper} {s : SA} {G : Option Gs} {Q : Exit → SA → Option Gs → Prop} (h : WOM P bad E N ops 0 s G Q) : WM P bad E N (.region id ops false) s G Q:=by
 intro a w m hs hl hg
 have:=h a w m hs hl hg
 rw [Nat.sub_zero,← List.range_eq_range'] at this
 exact wp_region this
theorem WOM_end {ops : Array Oper} {i : Nat} {s : SA} {G : Option Gs} {Q : Exit → SA → Option Gs → Prop} (hi : Nat.ble ops.size i = true) (h : Q .normal s G) : WOM P bad E N ops i s G Q:=by
 intro a w m hs hl hg
 have : ops.size - i = 0:=by have:=Nat.le_of_ble_eq_true hi; omega
 rw [this]
 exact ⟨s,m,G,h,hs,hl,hg⟩
theorem WOM_weak {ops : Array Oper} {i : Nat} {s s' : SA} {G : Option Gs} {Q : Exit → SA → Option Gs → Prop} (hw : ∀ E' : Ent,E'.c = s.c → Weak bad E' N s s') (h : WOM P bad E N ops i s' G Q) : WOM P bad E N ops i s G Q:=by
 intro a w m hs hl hg
 obtain ⟨m',h1,h2⟩:=hw ⟨w,m,s.c⟩ rfl a w m hs (Le.refl _ _ _)
 exact h a w m' h1 (hl.trans h2) (hg.le h2)
theorem WOM_eff {ops : Array Oper} {i : Nat} {s : SA} {G : Option Gs} {Q : Exit → SA → Option Gs → Prop} {o : Oper} (R : SA → Prop) (ho : ops[i]? = some o) (hgd : evGuardA s.A ops o = some true) (he : ∀ E' : Ent,Eff P bad E' N o s R)
  (hk : ∀ s',R s' → WOM P bad E N ops (i + 1) s' G Q) : WOM P bad E N ops i s G Q:=by
 intro a w m hs hl hg
 have hi : i < ops.size:=(Array.getElem?_eq_some_iff.1 ho).1
 rw [show ops.size - i = ops.size - (i + 1) + 1 by omega,List.range'_succ]
 have hw:=evGuard_sound hs.2.t ((evGuardA_eq hs.1 ops o).trans hgd)
 simp only [wpOps,ho,hw,if_true]
 exact .inl (he ⟨w,m,s.c⟩ a w m hs (Le.refl _ _ _) _ _ fun s' a' w' m' h1 h2 h3=>hk s' h1 a' w' m' h2 (hl.trans h3) (hg.le h3))
theorem WOM_skip {ops : Array Oper} {i : Nat} {s : SA} {G : Option Gs} {Q : Exit → SA → Option Gs → Prop} {o : Oper} (ho : ops[i]? = some o) (hgd : evGuardA s.A ops o = some false) (hd : okD N o.dst = true)
  (hk : WOM P bad E N ops (i + 1) ⟨putA s.A o.dst (.p Go.undef),s.h,s.c⟩ G Q) : WOM P bad E N ops i s G Q:=by
 intro a w m hs hl hg
 have hi : i < ops.size:=(Array.getElem?_eq_some_iff.1 ho).1
 rw [show ops.size - i = ops.size - (i + 1) + 1 by omega,List.range'_succ]
 have hw:=evGuard_sound hs.2.t ((evGuardA_eq hs.1 ops o).trans hgd)
 simp only [wpOps,ho,hw,Bool.false_eq_true,if_false]
 refine hk _ w m ⟨putA_lt hd hs.1,?_⟩ hl hg
 have:=hs.2.put (Le.refl _ _ _) hs.2.h (.pure (.p _)) o.dst (v:=.p Go.undef) (x:=Go.undef)
 simpa only [SA.st,putA_eq hd] using this
theorem WOM_runO (hT : TabOk P T) {ops : Array Oper} {G : Option Gs} {Q : Exit → SA → Option Gs → Prop} : ∀ (n i : Nat) (r : List Oper) (s s' : SA),ops.toList.drop i = r → runO P T N ops n r s = some s' → WOM P bad E N ops (i + n) s' G Q → WOM P bad E N ops i s G Q
 | 0,i,r,s,s',hd,hr,h=>by
  simp only [runO,Option.some.injEq] at hr
  subst hr; exact h
 | n + 1,i,[],s,s',hd,hr,h=>by simp [runO] at hr
 | n + 1,i,o :: r,s,s',hd,hr,h=>by
  have ho : ops[i]? = some o:=by
   have : ops.toList[i]? = some o:=by
    have:=congrArg (fun l=>l[0]?) hd
    simpa using this
   simpa using this
  have hd' : ops.toList.drop (i + 1) = r:=by
   have:=congrArg (List.drop 1) hd
   simpa [List.drop_drop] using this
  simp only [runO] at hr
  split at hr
  ·rename_i hgd
   split at hr
   ·rename_i v h' c' hev
    cases hdd : okD N o.dst with
    | false=>rw [hdd] at hr; cases hr
    | true =>
     rw [hdd] at hr
     refine WOM_eff _ ho hgd (fun E'=>Eff_op hT hev hdd) ?_
     rintro _ rfl
     exact WOM_runO hT n (i + 1) r _ s' hd' hr (by rwa [show i + 1 + n = i + (n + 1) by omega])
   ·cases hr
  ·rename_i hgd
   cases hdd : okD N o.dst with
   | false=>rw [hdd] at hr; cases hr
   | true =>
    rw [hdd] at hr
    exact WOM_skip ho hgd hdd (WOM_runO hT n (i + 1) r _ s' hd' hr (by rwa [show i + 1 + n = i + (n + 1) by omega]))
  ·cases hr
theorem WOM_seg (hT : TabOk P T) {ops : Array Oper} {i : Nat} {s : SA} {G : Option Gs} {Q : Exit → SA → Option Gs → Prop} (n : Nat) (ks : List Nat) (s' : SA) (hr : runK P T N ops i n ks s = some s') (hk : ks.all (Nat.blt · N) = true) (h : WOM P bad E N ops (i + n) s' G Q) : WOM P bad E N ops i s G Q:=by
 unfold runK at hr
 split at hr
 ·rename_i s1 h1
  simp only [Option.some.injEq] at hr
  subst hr
  exact WOM_runO hT n i _ s s1 rfl h1 (WOM_weak (fun E' _=>Weak_keep ks hk) h)
 ·cases hr
theorem WOM_make {ops : Array Oper} {i : Nat} {s : SA} {G : Option Gs} {Q : Exit → SA → Option Gs → Prop} {o : Oper} {t : TypeId} (ho : ops[i]? = some o) (hgd : evGuardA s.A ops o = some true) (hop : o.op = .makeMap t none) (hd : okD N o.dst = true)
  (hk : ∀ β,WOM P bad E N ops (i + 1) ⟨putA s.A o.dst (.p (.map (some β))),s.h,s.c⟩ (some ⟨β,[]⟩) Q) : WOM P bad E N ops i s G Q:=by
 intro a w m hs hl hg
 have hi : i < ops.size:=(Array.getElem?_eq_some_iff.1 ho).1
 rw [show ops.size - i = ops.size - (i + 1) + 1 by omega,List.range'_succ]
 have hw:=evGuard_sound hs.2.t ((evGuardA_eq hs.1 ops o).trans hgd)
 simp only [wpOps,ho,hw,if_true]
 refine .inl ?_
 have hrun : (execOp a.eval o).run P w = .ok (.value (.map (some w.heap.size))) (w.alloc (.map #[] 0)):=by
  obtain ⟨dst,op,ty,pos,af,gd⟩:=o
  simp only at hop
  subst hop
  simp [execOp,Instr.makeMap,Result.andThen]
 simp only [Oper.wp,hrun,Oper.upon]
 have key:=hs.2.h.world (w':=w.alloc (.map #[] 0)) (fun β hβ=>alloc_old w _ β hβ) (by simp) rfl rfl rfl
 refine hk w.heap.size _ _ _ (hs.put key.1 key.2 (.pure (.p _)) hd) (hl.trans key.1) fun g hg=>?_
 cases hg
 refine ⟨⟨#[],0,heap_alloc_new w _,rfl⟩,fun b l hb hl'=>?_,hl.size⟩
 have:=hs.2.h.blk_lt hb hl'
 simp at this
theorem WOM_look {ops : Array Oper} {i : Nat} {s : SA} {g : Gs} {Q : Exit → SA → Option Gs → Prop} {o : Oper} {t kt et : TypeId} {mo ko : Operand} (k : Int) (ho : ops[i]? = some o) (hgd : evGuardA s.A ops o = some true) (hop : o.op = .lookup t mo ko false) (hd : okD N o.dst = true)
  (ht : P.underlying t = some (.map kt et)) (hkt : P.underlying kt = some (.int .i64)) (hz : ∀ w,(zeroValue et).run P w = .ok (.bool false) w) (hm : evA s.A mo = .p (.map (some g.β))) (hx : evA s.A ko = .p (.int .i64 k))
  (hk : WOM P bad E N ops (i + 1) ⟨putA s.A o.dst (.p (.bool (hasK g.D k))),s.h,s.c⟩ (some g) Q) : WOM P bad E N ops i s (some g) Q:=by
 intro a w m hs hl hg
 have hi : i < ops.size:=(Array.getElem?_eq_some_iff.1 ho).1
 rw [show ops.size - i = ops.size - (i + 1) + 1 by omega,List.range'_succ]
 have hw:=evGuard_sound hs.2.t ((evGuardA_eq hs.1 ops o).trans hgd)
 simp only [wpOps,ho,hw,if_true]
 refine .inl ?_
 have e1:=hs.2.t.eval mo (a:=a)
 rw [SA.st,← evA_eq hs.1,hm] at e1
 have e2:=hs.2.t.eval ko (a:=a)
 rw [SA.st,← evA_eq hs.1,hx] at e2
 have hrun : (execOp a.eval o).run P w = .ok (.value (.bool (hasK g.D k))) w:=by
  obtain ⟨dst,op,ty,pos,af,gd⟩:=o
  simp only at hop
  subst hop
  simp [execOp,rep_p e1,rep_p e2,run_look ht hkt hz (hg g rfl).1,Result.andThen]
 simp only [Oper.wp,hrun,Oper.upon]
 exact hk _ _ _ (hs.put (Le.refl _ _ _) hs.2.h (.pure (.p _)) hd) hl hg
theorem Rep.seen {w w' : World} {m : MM} {c : Nat} (hs : w'.heap.size = w.heap.size) (hc : ∀ β off,w'.cell? ⟨β,off,none⟩ = w.cell? ⟨β,off,none⟩) {v : V} {x : Value} (h : Rep bad w m c v x) : Rep bad w' m c v x:=by
 induction h with
 | pure h=>exact .pure (h.mono fun β hβ=>⟨⟨by rw [hs]; exact hβ.1,hβ.2⟩,hc β⟩)
 | agg hl _ ih=>exact .agg hl ih
 | tup hl _ ih=>exact .tup hl ih
 | fn hl hl' _ _ ih ih'=>exact .fn hl hl' ih ih'
 | box hs' hx h=>exact .box hs' hx h
 | sl hs' hx h=>exact .sl hs' hx h
theorem SRA.map {s : SA} {a : Act} {w : World} {m : MM} {β : Nat} {es es' : Array MapEntry} {cl cl' : Nat} (hs : SRA bad N s a w m) (h : w.heap[β]? = some (.map es cl)) (hoff : ∀ b l,m b = some l → l.blk ≠ some β) :
  SRA bad N s a { w with heap:=w.heap.setIfInBounds β (.map es' cl') } m:=by
 have hsz : ({ w with heap:=w.heap.setIfInBounds β (.map es' cl') } : World).heap.size = w.heap.size:=by simp
 have hh : ∀ γ,γ ≠ β → ({ w with heap:=w.heap.setIfInBounds β (.map es' cl') } : World).heap[γ]? = w.heap[γ]?:=fun γ hγ=>(MapKept.heap_set h).2 γ hγ
 have hc : ∀ γ off,({ w with heap:=w.heap.setIfInBounds β (.map es' cl') } : World).cell? ⟨γ,off,none⟩ = w.cell? ⟨γ,off,none⟩:=fun γ off=>by
  by_cases e : γ = β
  ·subst e
   have h1:=(MapKept.heap_set (o':=Obj.map es' cl') h).1
   simp only [World.cell?,h,h1]
  ·simp only [World.cell?,hh γ e]
 refine ⟨hs.1,⟨⟨hs.2.t.1,fun i=>(hs.2.t.2 i).seen hsz hc⟩,?_,hs.2.d⟩⟩
 obtain ⟨g1,g2,g3,g4,g5⟩:=hs.2.h
 refine ⟨fun b B hb=>?_,g2,fun γ hγ=>by rw [hsz]; exact g3 γ hγ,g4,g5⟩
 obtain ⟨l,p1,p2,p3,p4,p5,p6⟩:=g1 b B hb
 refine ⟨l,p1,p2,p3,p4,p5,?_⟩
 rcases p6 with p6 | ⟨p6,γ,cs,p7,p8,p9,p10,p11,p12⟩
 ·exact .inl p6
 ·refine .inr ⟨p6,γ,cs,p7,by rw [hh γ (fun e=>hoff b l p1 (e ▸ p7))]; exact p8,p9,p10,p11,fun i hi j hj=>?_⟩
  obtain ⟨x,hx,hr⟩:=p12 i hi j hj
  refine ⟨x,hx,?_⟩
  unfold RepC at hr ⊢
  split
  ·rename_i hv; rw [if_pos hv] at hr; exact hr.seen hsz hc
  ·rename_i hv; rw [if_neg hv] at hr; exact hr.mono fun β hβ=>⟨⟨by rw [hsz]; exact hβ.1,hβ.2⟩,hc β⟩
theorem WOM_upd {ops : Array Oper} {i : Nat} {s : SA} {g : Gs} {Q : Exit → SA → Option Gs → Prop} {o : Oper} {t kt et : TypeId} {mo ko vo : Operand} (k : Int) (ho : ops[i]? = some o) (hgd : evGuardA s.A ops o = some true) (hop : o.op = .mapUpdate t mo ko vo) (hd : okD N o.dst = true)
  (ht : P.underlying t = some (.map kt et)) (hkt : P.underlying kt = some (.int .i64)) (hm : evA s.A mo = .p (.map (some g.β))) (hx : evA s.A ko = .p (.int .i64 k)) (hv : evA s.A vo = .p (.bool true))
  (hk : WOM P bad E N ops (i + 1) ⟨putA s.A o.dst (.p Go.undef),s.h,s.c⟩ (some ⟨g.β,putK g.D k⟩) Q) : WOM P bad E N ops i s (some g) Q:=by
 intro a w m hs hl hg
 have hi : i < ops.size:=(Array.getElem?_eq_some_iff.1 ho).1
 rw [show ops.size - i = ops.size - (i + 1) + 1 by omega,List.range'_succ]
 have hw:=evGuard_sound hs.2.t ((evGuardA_eq hs.1 ops o).trans hgd)
 simp only [wpOps,ho,hw,if_true]
 refine .inl ?_
 have e1:=hs.2.t.eval mo (a:=a)
 rw [SA.st,← evA_eq hs.1,hm] at e1
 have e2:=hs.2.t.eval ko (a:=a)
 rw [SA.st,← evA_eq hs.1,hx] at e2
 have e3:=hs.2.t.eval vo (a:=a)
 rw [SA.st,← evA_eq hs.1,hv] at e3
 obtain ⟨hM,hoff,hnew⟩:=hg g rfl
 obtain ⟨es,cl,r1,r2⟩:=run_upd ht hkt hM (k:=k)
 obtain ⟨es0,cl0,q1,q2⟩:=hM
 have hrun : (execOp a.eval o).run P w = .ok .skip { w with heap:=w.heap.setIfInBounds g.β (.map es cl) }:=by
  obtain ⟨dst,op,ty,pos,af,gd⟩:=o
  simp only at hop
  subst hop
  simp [execOp,rep_p e1,rep_p e2,rep_p e3,r1,Result.andThen]
 simp only [Oper.wp,hrun,Oper.upon]
 have hs' : SRA bad N s a { w with heap:=w.heap.setIfInBounds g.β (.map es cl) } m:=hs.map q1 hoff
 have hl' : E.le { w with heap:=w.heap.setIfInBounds g.β (.map es cl) } m s.c:=by
  refine ⟨hl.hc,hl.hm,fun γ hγ hno=>?_,by simpa using hl.size,hl.os,hl.output,hl.tape,hl.range⟩
  have hne : γ ≠ g.β:=by omega
  exact ((MapKept.heap_set q1).2 γ hne).trans (hl.keep γ hγ hno)
 refine hk _ _ _ (hs'.put (Le.refl _ _ _) hs'.2.h (.pure (.p _)) hd) hl' fun g' hg'=>?_
 cases hg'
 exact ⟨r2,hoff,hnew⟩
end
end Go.Mx
namespace Go.Su.Ytkmcnajbhclimaa
open Go.Mx Go.Proofs
set_option linter.unusedVariables false
mutual
def rises_L0 : Nat → List (List ByteArray) → List Arr2_i64 → List Int → Int → Int → Option Bool
 | 0,_,_,_,_,_=>none
 | n + 1,g,I,l,e,k =>
  bif decide (k < (ln g)) then rises_L1 n g I l e k [] 0 else some false
def rises_L1 : Nat → List (List ByteArray) → List Arr2_i64 → List Int → Int → Int → List Int → Int → Option Bool
 | 0,_,_,_,_,_,_,_=>none
 | n + 1,g,I,l,e,k,D,i =>
  bif decide (i ≤ (ln g)) then rises_L2 n g I l e k D i 0
  else bif hasK D k then (bif (e == 8) then some ((ln l) == 0) else some false)
  else rises_L0 n g I l e (wr (k + 1))
def rises_L2 : Nat → List (List ByteArray) → List Arr2_i64 → List Int → Int → Int → List Int → Int → Int → Option Bool
 | 0,_,_,_,_,_,_,_,_=>none
 | n + 1,g,I,l,e,k,D,i,j =>
  bif decide (j < (ln I)) then
   (idx I j).bind fun x =>
   bif (x.e0 == k) then rises_L2 n g I l e k (putK D x.e1) i (wr (j + 1))
   else bif hasK D x.e0 then rises_L2 n g I l e k (putK D x.e1) i (wr (j + 1))
   else rises_L2 n g I l e k D i (wr (j + 1))
  else rises_L1 n g I l e k D (wr (i + 1))
end
def rises_map (n : Nat) (g : List (List ByteArray)) (I : List Arr2_i64) (l : List Int) (e : Int) : Option Bool:=rises_L0 n g I l e 0
end Go.Su.Ytkmcnajbhclimaa
