/-
  What the program's functions compute.
-/
import Derived.Test.YtcadbebhhnggdaaZkHK23
import Derived.Test.YtcadbebhhnggdaaChecked
namespace Go.Su.Ytcadbebhhnggdaa
open Go.Mx Go.Proofs
set_option maxRecDepth 100000
set_option maxHeartbeats 20000000
set_option linter.unusedVariables false
set_option linter.unusedSimpArgs false
structure Decl where
 Kind : Int
 Name : ByteArray
 N : Int
 At : Cx
structure Expr where
 Kind : Int
 N : Int
 Name : ByteArray
 Of : List Expr
structure Stmt where
 Kind : Int
 Name : ByteArray
 Other : ByteArray
 N : Int
 E : Expr
 Body : List Stmt
 Else : List Stmt
 At : Cx
structure Prog where
 Decls : List Decl
 Threads : List (List Stmt)
structure Cand where
 Guard : Bool
 Names : List Int
 Cost : Cx
structure Race where
 A : Int
 B : Int
 Name : Int
 Picks : List Int
structure Token where
 Kind : Int
 Text : ByteArray
 N : Int
 At : Int
structure Reader where
 T : List Token
 At : Int
 Fail : Bool
 Bad : Int
def eDecl (x : Decl) : V:=.agg [.p (.int .i64 x.Kind),.p (.string x.Name),.p (.int .i64 x.N),.p (.complex .f64 x.At.re x.At.im)]
mutual
def rExpr : Expr → V
 | ⟨x0,x1,x2,x3⟩=>.agg [.p (.int .i64 x0),.p (.int .i64 x1),.p (.string x2),.ps .opt (lExpr x3)]
def lExpr : List Expr → List V
 | []=>[]
 | e :: r=>rExpr e :: lExpr r
end
def eExpr (x : Expr) : V:=.agg [.p (.int .i64 x.Kind),.p (.int .i64 x.N),.p (.string x.Name),.ps .opt (lExpr x.Of)]
theorem rExpr_eq (x : Expr) : rExpr x = eExpr x:=by cases x; rw [rExpr]; rfl
theorem lExpr_eq (l : List Expr) : lExpr l = l.map eExpr:=by
 induction l with
 | nil=>rw [lExpr]; rfl
 | cons a r ih=>rw [lExpr,rExpr_eq,ih]; rfl
mutual
def rStmt : Stmt → V
 | ⟨x0,x1,x2,x3,x4,x5,x6,x7⟩=>.agg [.p (.int .i64 x0),.p (.string x1),.p (.string x2),.p (.int .i64 x3),.p (.int .i64 x4.Kind),.p (.int .i64 x4.N),.p (.string x4.Name),.ps .opt (lExpr x4.Of),.ps .opt (lStmt x5),.ps .opt (lStmt x6),.p (.complex .f64 x7.re x7.im)]
def lStmt : List Stmt → List V
 | []=>[]
 | e :: r=>rStmt e :: lStmt r
end
def eStmt (x : Stmt) : V:=.agg [.p (.int .i64 x.Kind),.p (.string x.Name),.p (.string x.Other),.p (.int .i64 x.N),.p (.int .i64 x.E.Kind),.p (.int .i64 x.E.N),.p (.string x.E.Name),.ps .opt (lExpr x.E.Of),.ps .opt (lStmt x.Body),.ps .opt (lStmt x.Else),.p (.complex .f64 x.At.re x.At.im)]
theorem rStmt_eq (x : Stmt) : rStmt x = eStmt x:=by cases x; rw [rStmt]; rfl
theorem lStmt_eq (l : List Stmt) : lStmt l = l.map eStmt:=by
 induction l with
 | nil=>rw [lStmt]; rfl
 | cons a r ih=>rw [lStmt,rStmt_eq,ih]; rfl
def eProg (x : Prog) : V:=.agg [.ps .opt (List.map eDecl x.Decls),.ps .opt (List.map (fun l=>V.ps .opt (lStmt l)) x.Threads)]
def eCand (x : Cand) : V:=.agg [.p (.bool x.Guard),.ps .opt (List.map e_i64 x.Names),.p (.complex .f64 x.Cost.re x.Cost.im)]
def eRace (x : Race) : V:=.agg [.p (.int .i64 x.A),.p (.int .i64 x.B),.p (.int .i64 x.Name),.ps .opt (List.map e_i64 x.Picks)]
def eToken (x : Token) : V:=.agg [.p (.int .i64 x.Kind),.p (.string x.Text),.p (.int .i64 x.N),.p (.int .i64 x.At)]
def eReader (x : Reader) : V:=.agg [.ps .opt (List.map eToken x.T),.p (.int .i64 x.At),.p (.bool x.Fail),.p (.int .i64 x.Bad)]
def tbl : List (Nat × TI):=[(3,⟨1,8,.int .i64,.p (.int .i64 0)⟩),
 (4,⟨1,1,.bool,.p (.bool false)⟩),
 (5,⟨1,1,.int .u8,.p (.int .u8 0)⟩),
 (9,⟨1,16,.string,.p (.string ByteArray.empty)⟩),
 (22,⟨1,24,.slice 80,.ps .nil []⟩),
 (23,⟨1,24,.slice 39,.ps .nil []⟩),
 (25,⟨2,48,.struct #[⟨"Decls",22,0,false, "", "",0⟩,⟨"Threads",23,1,false, "", "",24⟩],.agg [.ps .nil [],.ps .nil []]⟩),
 (27,⟨1,24,.slice 9,.ps .nil []⟩),
 (31,⟨1,24,.slice 3,.ps .nil []⟩),
 (32,⟨1,8,.int .i64,.p (.int .i64 0)⟩),
 (39,⟨1,24,.slice 45,.ps .nil []⟩),
 (40,⟨1,24,.slice 42,.ps .nil []⟩),
 (42,⟨4,56,.struct #[⟨"Kind",3,0,false, "", "",0⟩,⟨"N",3,1,false, "", "",8⟩,⟨"Name",9,2,false, "", "",16⟩,⟨"Of",40,3,false, "", "",32⟩],.agg [.p (.int .i64 0),.p (.int .i64 0),.p (.string ByteArray.empty),.ps .nil []]⟩),
 (43,⟨1,16,.complex .f64,.p (.complex .f64 0 0)⟩),
 (45,⟨11,168,.struct #[⟨"Kind",3,0,false, "", "",0⟩,⟨"Name",9,1,false, "", "",8⟩,⟨"Other",9,2,false, "", "",24⟩,⟨"N",3,3,false, "", "",40⟩,⟨"E",42,4,false, "", "",48⟩,⟨"Body",39,8,false, "", "",104⟩,⟨"Else",39,9,false, "", "",128⟩,⟨"At",43,10,false, "", "",152⟩],.agg [.p (.int .i64 0),.p (.string ByteArray.empty),.p (.string ByteArray.empty),.p (.int .i64 0),.p (.int .i64 0),.p (.int .i64 0),.p (.string ByteArray.empty),.ps .nil [],.ps .nil [],.ps .nil [],.p (.complex .f64 0 0)]⟩),
 (48,⟨1,24,.slice 53,.ps .nil []⟩),
 (53,⟨3,48,.struct #[⟨"Guard",4,0,false, "", "",0⟩,⟨"Names",31,1,false, "", "",8⟩,⟨"Cost",43,2,false, "", "",32⟩],.agg [.p (.bool false),.ps .nil [],.p (.complex .f64 0 0)]⟩),
 (60,⟨4,48,.struct #[⟨"A",3,0,false, "", "",0⟩,⟨"B",3,1,false, "", "",8⟩,⟨"Name",3,2,false, "", "",16⟩,⟨"Picks",31,3,false, "", "",24⟩],.agg [.p (.int .i64 0),.p (.int .i64 0),.p (.int .i64 0),.ps .nil []]⟩),
 (61,⟨1,24,.slice 60,.ps .nil []⟩),
 (67,⟨1,24,.slice 31,.ps .nil []⟩),
 (80,⟨4,48,.struct #[⟨"Kind",3,0,false, "", "",0⟩,⟨"Name",9,1,false, "", "",8⟩,⟨"N",3,2,false, "", "",24⟩,⟨"At",43,3,false, "", "",32⟩],.agg [.p (.int .i64 0),.p (.string ByteArray.empty),.p (.int .i64 0),.p (.complex .f64 0 0)]⟩),
 (81,⟨1,8,.func #[3] #[4] false,.p .nilFunc⟩),
 (89,⟨1,24,.slice 5,.ps .nil []⟩),
 (92,⟨1,24,.slice 99,.ps .nil []⟩),
 (95,⟨1,8,.pointer 97,.p (.pointer none)⟩),
 (97,⟨4,48,.struct #[⟨"T",92,0,false, "", "",0⟩,⟨"At",3,1,false, "", "",24⟩,⟨"Fail",4,2,false, "", "",32⟩,⟨"Bad",3,3,false, "", "",40⟩],.agg [.ps .nil [],.p (.int .i64 0),.p (.bool false),.p (.int .i64 0)]⟩),
 (99,⟨4,40,.struct #[⟨"Kind",3,0,false, "", "",0⟩,⟨"Text",9,1,false, "", "",8⟩,⟨"N",3,2,false, "", "",24⟩,⟨"At",3,3,false, "", "",32⟩],.agg [.p (.int .i64 0),.p (.string ByteArray.empty),.p (.int .i64 0),.p (.int .i64 0)]⟩),
 (136,⟨6,96,.array 6 9,.agg [.p (.string ByteArray.empty),.p (.string ByteArray.empty),.p (.string ByteArray.empty),.p (.string ByteArray.empty),.p (.string ByteArray.empty),.p (.string ByteArray.empty)]⟩),
 (185,⟨17,272,.array 17 9,.agg [.p (.string ByteArray.empty),.p (.string ByteArray.empty),.p (.string ByteArray.empty),.p (.string ByteArray.empty),.p (.string ByteArray.empty),.p (.string ByteArray.empty),.p (.string ByteArray.empty),.p (.string ByteArray.empty),.p (.string ByteArray.empty),.p (.string ByteArray.empty),.p (.string ByteArray.empty),.p (.string ByteArray.empty),.p (.string ByteArray.empty),.p (.string ByteArray.empty),.p (.string ByteArray.empty),.p (.string ByteArray.empty),.p (.string ByteArray.empty)]⟩)]
def tb : TypeId → Option TI:=lookT tbl
theorem rows : rowsOk Try.prog tbl:=⟨by kernel_rfl,by kernel_rfl,by kernel_rfl,by kernel_rfl,by kernel_rfl,by kernel_rfl,by kernel_rfl,by kernel_rfl,by kernel_rfl,by kernel_rfl,by kernel_rfl,by kernel_rfl,by kernel_rfl,by kernel_rfl,by kernel_rfl,by kernel_rfl,by kernel_rfl,by kernel_rfl,by kernel_rfl,by kernel_rfl,by kernel_rfl,by kernel_rfl,by kernel_rfl,by kernel_rfl,by kernel_rfl,by kernel_rfl,by kernel_rfl,by kernel_rfl,by kernel_rfl,trivial⟩
theorem hT : TabOk Try.prog tb:=tab_ok rows (by kernel_rfl)
theorem hM : Try.prog.follows .mixedOrders = true:=Checked.mixed Try.checked
def el_string (l : List ByteArray) : V:=.ps .opt (List.map e_s l)
def el_int (l : List Int) : V:=.ps .opt (List.map e_i64 l)
def el_Stmt (l : List Stmt) : V:=.ps .opt (lStmt l)
def s_Decl : SE tb Decl:={ f:=eDecl,F:=List.map eDecl,hF:=fun _=>rfl,sz:=4,hs:=fun _=>rfl,h1:=fun _=>rfl,t:=22,e:=80,i0:=⟨1,24,.slice 80,.ps .nil []⟩,i1:=⟨4,48,.struct #[⟨"Kind",3,0,false, "", "",0⟩,⟨"Name",9,1,false, "", "",8⟩,⟨"N",3,2,false, "", "",24⟩,⟨"At",43,3,false, "", "",32⟩],.agg [.p (.int .i64 0),.p (.string ByteArray.empty),.p (.int .i64 0),.p (.complex .f64 0 0)]⟩,ht:=by kernel_rfl,hd:=rfl,he:=by kernel_rfl,hz:=rfl,hp:=by decide,hb:=by decide }
def s_LStmt : SE tb (List Stmt):={ f:=el_Stmt,F:=List.map el_Stmt,hF:=fun _=>rfl,sz:=1,hs:=fun _=>rfl,h1:=fun _=>rfl,t:=23,e:=39,i0:=⟨1,24,.slice 39,.ps .nil []⟩,i1:=⟨1,24,.slice 45,.ps .nil []⟩,ht:=by kernel_rfl,hd:=rfl,he:=by kernel_rfl,hz:=rfl,hp:=by decide,hb:=by decide }
def s_string : SE tb ByteArray:={ f:=e_s,F:=List.map e_s,hF:=fun _=>rfl,sz:=1,hs:=fun _=>rfl,h1:=fun _=>rfl,t:=27,e:=9,i0:=⟨1,24,.slice 9,.ps .nil []⟩,i1:=⟨1,16,.string,.p (.string ByteArray.empty)⟩,ht:=by kernel_rfl,hd:=rfl,he:=by kernel_rfl,hz:=rfl,hp:=by decide,hb:=by decide }
def s_int : SE tb Int:={ f:=e_i64,F:=List.map e_i64,hF:=fun _=>rfl,sz:=1,hs:=fun _=>rfl,h1:=fun _=>rfl,t:=31,e:=3,i0:=⟨1,24,.slice 3,.ps .nil []⟩,i1:=⟨1,8,.int .i64,.p (.int .i64 0)⟩,ht:=by kernel_rfl,hd:=rfl,he:=by kernel_rfl,hz:=rfl,hp:=by decide,hb:=by decide }
def s_Stmt : SE tb Stmt:={ f:=eStmt,F:=lStmt,hF:=lStmt_eq,sz:=11,hs:=fun _=>rfl,h1:=fun _=>rfl,t:=39,e:=45,i0:=⟨1,24,.slice 45,.ps .nil []⟩,i1:=⟨11,168,.struct #[⟨"Kind",3,0,false, "", "",0⟩,⟨"Name",9,1,false, "", "",8⟩,⟨"Other",9,2,false, "", "",24⟩,⟨"N",3,3,false, "", "",40⟩,⟨"E",42,4,false, "", "",48⟩,⟨"Body",39,8,false, "", "",104⟩,⟨"Else",39,9,false, "", "",128⟩,⟨"At",43,10,false, "", "",152⟩],.agg [.p (.int .i64 0),.p (.string ByteArray.empty),.p (.string ByteArray.empty),.p (.int .i64 0),.p (.int .i64 0),.p (.int .i64 0),.p (.string ByteArray.empty),.ps .nil [],.ps .nil [],.ps .nil [],.p (.complex .f64 0 0)]⟩,ht:=by kernel_rfl,hd:=rfl,he:=by kernel_rfl,hz:=rfl,hp:=by decide,hb:=by decide }
def s_Expr : SE tb Expr:={ f:=eExpr,F:=lExpr,hF:=lExpr_eq,sz:=4,hs:=fun _=>rfl,h1:=fun _=>rfl,t:=40,e:=42,i0:=⟨1,24,.slice 42,.ps .nil []⟩,i1:=⟨4,56,.struct #[⟨"Kind",3,0,false, "", "",0⟩,⟨"N",3,1,false, "", "",8⟩,⟨"Name",9,2,false, "", "",16⟩,⟨"Of",40,3,false, "", "",32⟩],.agg [.p (.int .i64 0),.p (.int .i64 0),.p (.string ByteArray.empty),.ps .nil []]⟩,ht:=by kernel_rfl,hd:=rfl,he:=by kernel_rfl,hz:=rfl,hp:=by decide,hb:=by decide }
def s_Cand : SE tb Cand:={ f:=eCand,F:=List.map eCand,hF:=fun _=>rfl,sz:=3,hs:=fun _=>rfl,h1:=fun _=>rfl,t:=48,e:=53,i0:=⟨1,24,.slice 53,.ps .nil []⟩,i1:=⟨3,48,.struct #[⟨"Guard",4,0,false, "", "",0⟩,⟨"Names",31,1,false, "", "",8⟩,⟨"Cost",43,2,false, "", "",32⟩],.agg [.p (.bool false),.ps .nil [],.p (.complex .f64 0 0)]⟩,ht:=by kernel_rfl,hd:=rfl,he:=by kernel_rfl,hz:=rfl,hp:=by decide,hb:=by decide }
def s_Race : SE tb Race:={ f:=eRace,F:=List.map eRace,hF:=fun _=>rfl,sz:=4,hs:=fun _=>rfl,h1:=fun _=>rfl,t:=61,e:=60,i0:=⟨1,24,.slice 60,.ps .nil []⟩,i1:=⟨4,48,.struct #[⟨"A",3,0,false, "", "",0⟩,⟨"B",3,1,false, "", "",8⟩,⟨"Name",3,2,false, "", "",16⟩,⟨"Picks",31,3,false, "", "",24⟩],.agg [.p (.int .i64 0),.p (.int .i64 0),.p (.int .i64 0),.ps .nil []]⟩,ht:=by kernel_rfl,hd:=rfl,he:=by kernel_rfl,hz:=rfl,hp:=by decide,hb:=by decide }
def s_Lint : SE tb (List Int):={ f:=el_int,F:=List.map el_int,hF:=fun _=>rfl,sz:=1,hs:=fun _=>rfl,h1:=fun _=>rfl,t:=67,e:=31,i0:=⟨1,24,.slice 31,.ps .nil []⟩,i1:=⟨1,24,.slice 3,.ps .nil []⟩,ht:=by kernel_rfl,hd:=rfl,he:=by kernel_rfl,hz:=rfl,hp:=by decide,hb:=by decide }
def s_uint8 : SE tb Int:={ f:=e_u8,F:=List.map e_u8,hF:=fun _=>rfl,sz:=1,hs:=fun _=>rfl,h1:=fun _=>rfl,t:=89,e:=5,i0:=⟨1,24,.slice 5,.ps .nil []⟩,i1:=⟨1,1,.int .u8,.p (.int .u8 0)⟩,ht:=by kernel_rfl,hd:=rfl,he:=by kernel_rfl,hz:=rfl,hp:=by decide,hb:=by decide }
def s_Token : SE tb Token:={ f:=eToken,F:=List.map eToken,hF:=fun _=>rfl,sz:=4,hs:=fun _=>rfl,h1:=fun _=>rfl,t:=92,e:=99,i0:=⟨1,24,.slice 99,.ps .nil []⟩,i1:=⟨4,40,.struct #[⟨"Kind",3,0,false, "", "",0⟩,⟨"Text",9,1,false, "", "",8⟩,⟨"N",3,2,false, "", "",24⟩,⟨"At",3,3,false, "", "",32⟩],.agg [.p (.int .i64 0),.p (.string ByteArray.empty),.p (.int .i64 0),.p (.int .i64 0)]⟩,ht:=by kernel_rfl,hd:=rfl,he:=by kernel_rfl,hz:=rfl,hp:=by decide,hb:=by decide }
theorem en14 : Enters Try.prog 14:=enters Try.f14 Try.func14 rfl (by kernel_rfl)
theorem en15 : Enters Try.prog 15:=enters Try.f15 Try.func15 rfl (by kernel_rfl)
theorem en19 : Enters Try.prog 19:=enters Try.f19 Try.func19 rfl (by kernel_rfl)
theorem en20 : Enters Try.prog 20:=enters Try.f20 Try.func20 rfl (by kernel_rfl)
theorem en21 : Enters Try.prog 21:=enters Try.f21 Try.func21 rfl (by kernel_rfl)
theorem en25 : Enters Try.prog 25:=enters Try.f25 Try.func25 rfl (by kernel_rfl)
theorem en26 : Enters Try.prog 26:=enters Try.f26 Try.func26 rfl (by kernel_rfl)
theorem en33 : Enters Try.prog 33:=enters Try.f33 Try.func33 rfl (by kernel_rfl)
theorem en37 : Enters Try.prog 37:=enters Try.f37 Try.func37 rfl (by kernel_rfl)
theorem en38 : Enters Try.prog 38:=enters Try.f38 Try.func38 rfl (by kernel_rfl)
theorem en39 : Enters Try.prog 39:=enters Try.f39 Try.func39 rfl (by kernel_rfl)
theorem en40 : Enters Try.prog 40:=enters Try.f40 Try.func40 rfl (by kernel_rfl)
theorem en41 : Enters Try.prog 41:=enters Try.f41 Try.func41 rfl (by kernel_rfl)
theorem en42 : Enters Try.prog 42:=enters Try.f42 Try.func42 rfl (by kernel_rfl)
theorem en43 : Enters Try.prog 43:=enters Try.f43 Try.func43 rfl (by kernel_rfl)
theorem en44 : Enters Try.prog 44:=enters Try.f44 Try.func44 rfl (by kernel_rfl)
theorem en45 : Enters Try.prog 45:=enters Try.f45 Try.func45 rfl (by kernel_rfl)
theorem en49 : Enters Try.prog 49:=enters Try.f49 Try.func49 rfl (by kernel_rfl)
theorem en50 : Enters Try.prog 50:=enters Try.f50 Try.func50 rfl (by kernel_rfl)
theorem en51 : Enters Try.prog 51:=enters Try.f51 Try.func51 rfl (by kernel_rfl)
theorem en52 : Enters Try.prog 52:=enters Try.f52 Try.func52 rfl (by kernel_rfl)
theorem en53 : Enters Try.prog 53:=enters Try.f53 Try.func53 rfl (by kernel_rfl)
theorem en54 : Enters Try.prog 54:=enters Try.f54 Try.func54 rfl (by kernel_rfl)
theorem en55 : Enters Try.prog 55:=enters Try.f55 Try.func55 rfl (by kernel_rfl)
theorem en56 : Enters Try.prog 56:=enters Try.f56 Try.func56 rfl (by kernel_rfl)
theorem en57 : Enters Try.prog 57:=enters Try.f57 Try.func57 rfl (by kernel_rfl)
theorem en58 : Enters Try.prog 58:=enters Try.f58 Try.func58 rfl (by kernel_rfl)
theorem en59 : Enters Try.prog 59:=enters Try.f59 Try.func59 rfl (by kernel_rfl)
theorem en71 : Enters Try.prog 71:=enters Try.f71 Try.func71 rfl (by kernel_rfl)
theorem en72 : Enters Try.prog 72:=enters Try.f72 Try.func72 rfl (by kernel_rfl)
theorem en73 : Enters Try.prog 73:=enters Try.f73 Try.func73 rfl (by kernel_rfl)
theorem en82 : Enters Try.prog 82:=enters Try.f82 Try.func82 rfl (by kernel_rfl)
theorem en83 : Enters Try.prog 83:=enters Try.f83 Try.func83 rfl (by kernel_rfl)
theorem en84 : Enters Try.prog 84:=enters Try.f84 Try.func84 rfl (by kernel_rfl)
theorem en85 : Enters Try.prog 85:=enters Try.f85 Try.func85 rfl (by kernel_rfl)
theorem en86 : Enters Try.prog 86:=enters Try.f86 Try.func86 rfl (by kernel_rfl)
theorem en87 : Enters Try.prog 87:=enters Try.f87 Try.func87 rfl (by kernel_rfl)
theorem en88 : Enters Try.prog 88:=enters Try.f88 Try.func88 rfl (by kernel_rfl)
theorem en89 : Enters Try.prog 89:=enters Try.f89 Try.func89 rfl (by kernel_rfl)
theorem en90 : Enters Try.prog 90:=enters Try.f90 Try.func90 rfl (by kernel_rfl)
theorem en91 : Enters Try.prog 91:=enters Try.f91 Try.func91 rfl (by kernel_rfl)
theorem en92 : Enters Try.prog 92:=enters Try.f92 Try.func92 rfl (by kernel_rfl)
theorem en93 : Enters Try.prog 93:=enters Try.f93 Try.func93 rfl (by kernel_rfl)
theorem en94 : Enters Try.prog 94:=enters Try.f94 Try.func94 rfl (by kernel_rfl)
theorem en95 : Enters Try.prog 95:=enters Try.f95 Try.func95 rfl (by kernel_rfl)
theorem en106 : Enters Try.prog 106:=enters Try.f106 Try.func106 rfl (by kernel_rfl)
theorem en125 : Enters Try.prog 125:=enters Try.f125 Try.func125 rfl (by kernel_rfl)
theorem en126 : Enters Try.prog 126:=enters Try.f126 Try.func126 rfl (by kernel_rfl)
theorem en127 : Enters Try.prog 127:=enters Try.f127 Try.func127 rfl (by kernel_rfl)
theorem en128 : Enters Try.prog 128:=enters Try.f128 Try.func128 rfl (by kernel_rfl)
theorem en129 : Enters Try.prog 129:=enters Try.f129 Try.func129 rfl (by kernel_rfl)
theorem en130 : Enters Try.prog 130:=enters Try.f130 Try.func130 rfl (by kernel_rfl)
theorem en131 : Enters Try.prog 131:=enters Try.f131 Try.func131 rfl (by kernel_rfl)
theorem en132 : Enters Try.prog 132:=enters Try.f132 Try.func132 rfl (by kernel_rfl)
theorem en133 : Enters Try.prog 133:=enters Try.f133 Try.func133 rfl (by kernel_rfl)
theorem en134 : Enters Try.prog 134:=enters Try.f134 Try.func134 rfl (by kernel_rfl)
theorem en135 : Enters Try.prog 135:=enters Try.f135 Try.func135 rfl (by kernel_rfl)
theorem en158 : Enters Try.prog 158:=enters Try.f158 Try.func158 rfl (by kernel_rfl)
theorem en159 : Enters Try.prog 159:=enters Try.f159 Try.func159 rfl (by kernel_rfl)
theorem en160 : Enters Try.prog 160:=enters Try.f160 Try.func160 rfl (by kernel_rfl)
theorem en161 : Enters Try.prog 161:=enters Try.f161 Try.func161 rfl (by kernel_rfl)
theorem en166 : Enters Try.prog 166:=enters Try.f166 Try.func166 rfl (by kernel_rfl)
theorem en167 : Enters Try.prog 167:=enters Try.f167 Try.func167 rfl (by kernel_rfl)
theorem en169 : Enters Try.prog 169:=enters Try.f169 Try.func169 rfl (by kernel_rfl)
theorem en170 : Enters Try.prog 170:=enters Try.f170 Try.func170 rfl (by kernel_rfl)
abbrev k_v : ByteArray:=⟨#[118]⟩
abbrev x_76617220 : ByteArray:=⟨#[118,97,114,32]⟩
abbrev x_20 : ByteArray:=⟨#[32]⟩
abbrev x_3d3120 : ByteArray:=⟨#[61,49,32]⟩
abbrev x_77696465207720676f7b : ByteArray:=⟨#[119,105,100,101,32,119,32,103,111,123]⟩
abbrev x_773d327d : ByteArray:=⟨#[119,61,50,125]⟩
abbrev x_30 : ByteArray:=⟨#[48]⟩
abbrev x_3d3d : ByteArray:=⟨#[61,61]⟩
abbrev x_3d3c2b2d2a2f2528297b7d : ByteArray:=⟨#[61,60,43,45,42,47,37,40,41,123,125]⟩
abbrev k_var : ByteArray:=⟨#[118,97,114]⟩
abbrev k_wide : ByteArray:=⟨#[119,105,100,101]⟩
abbrev k_atomic : ByteArray:=⟨#[97,116,111,109,105,99]⟩
abbrev k_local : ByteArray:=⟨#[108,111,99,97,108]⟩
abbrev k_mutex : ByteArray:=⟨#[109,117,116,101,120]⟩
abbrev k_chan : ByteArray:=⟨#[99,104,97,110]⟩
abbrev k_go : ByteArray:=⟨#[103,111]⟩
abbrev k_lock : ByteArray:=⟨#[108,111,99,107]⟩
abbrev k_unlock : ByteArray:=⟨#[117,110,108,111,99,107]⟩
abbrev k_send : ByteArray:=⟨#[115,101,110,100]⟩
abbrev k_recv : ByteArray:=⟨#[114,101,99,118]⟩
abbrev k_print : ByteArray:=⟨#[112,114,105,110,116]⟩
abbrev k_if : ByteArray:=⟨#[105,102]⟩
abbrev k_else : ByteArray:=⟨#[101,108,115,101]⟩
abbrev k_repeat : ByteArray:=⟨#[114,101,112,101,97,116]⟩
abbrev k_goto : ByteArray:=⟨#[103,111,116,111]⟩
abbrev k_label : ByteArray:=⟨#[108,97,98,101,108]⟩
abbrev x_7b : ByteArray:=⟨#[123]⟩
abbrev x_7d : ByteArray:=⟨#[125]⟩
abbrev x_2d : ByteArray:=⟨#[45]⟩
abbrev x_28 : ByteArray:=⟨#[40]⟩
abbrev x_29 : ByteArray:=⟨#[41]⟩
abbrev x_2a : ByteArray:=⟨#[42]⟩
abbrev x_2f : ByteArray:=⟨#[47]⟩
abbrev x_25 : ByteArray:=⟨#[37]⟩
abbrev x_2b : ByteArray:=⟨#[43]⟩
abbrev x_3c : ByteArray:=⟨#[60]⟩
abbrev x_3d : ByteArray:=⟨#[61]⟩
abbrev tx37 : ByteArray:=⟨#[118,97,114,32,120,32,119,105,100,101,32,121,32,103,111,123,120,61,121,125,103,111,123,121,61,120,125]⟩
end Go.Su.Ytcadbebhhnggdaa
namespace Go.Su.Ytcadbebhhnggdaa
open Go.Mx Go.Proofs
set_option maxRecDepth 100000
set_option maxHeartbeats 20000000
set_option linter.unusedVariables false
set_option linter.unusedSimpArgs false
def ref1_Digits : Nat → Int → Option ByteArray
 | 0,_=>none
 | n + 1,a0 =>
  bif decide (a0 < 10) then
   some (b2s [IntKind.u8.wrap (wr (48 + a0))])
  else
   (ref1_Digits n (wr (a0.tdiv 10))).bind fun r1 =>
   bif sroom r1 (b2s [IntKind.u8.wrap (wr (48 + (a0.tmod 10)))]) then
    some (r1 ++ (b2s [IntKind.u8.wrap (wr (48 + (a0.tmod 10)))]))
   else none
def ref1_letter (n : Nat) (a0 : Int) : Option Bool :=
 jn (fun (b1 : Bool) =>
  some b1) fun J2 =>
  bif decide (a0 ≥ 97) then
   J2 (decide (a0 ≤ 122))
  else
   J2 false
def ref1_digit (n : Nat) (a0 : Int) : Option Bool :=
 jn (fun (b1 : Bool) =>
  some b1) fun J2 =>
  bif decide (a0 ≥ 48) then
   J2 (decide (a0 ≤ 57))
  else
   J2 false
def ref1_number_L0 : Nat → ByteArray → Int → Int → Option (Int × Bool)
 | 0,_,_,_=>none
 | n + 1,a0,i1,i2 =>
  bif decide (i2 < (a0.size : Int)) then
   (idxS a0 i2).bind fun x3 =>
   bif decide (i1 > (wr ((wr (9223372036854775807 - (wr (IntKind.u8.wrap (x3 - 48))))).tdiv 10))) then
    some (0,false)
   else
    ref1_number_L0 n a0 (wr ((wr (10 * i1)) + (wr (IntKind.u8.wrap (x3 - 48))))) (wr (i2 + 1))
  else
   jn (fun (b4 : Bool) =>
    some (i1,b4)) fun J5 =>
    bif !bytesEq a0 b0 then
     (idxS a0 0).bind fun x6 =>
     bif (x6 != 48) then
      J5 true
     else
      J5 (bytesEq a0 x_30)
    else
     J5 false
def ref1_number (n : Nat) (a0 : ByteArray) : Option (Int × Bool) :=
 ref1_number_L0 n a0 0 0
mutual
def ref1_one_L0 : Nat → ByteArray → Int → Int → Bool → ByteArray → Int → Option (Token × Int)
 | 0,_,_,_,_,_,_=>none
 | n + 1,a0,a1,x1,r2,w4,i5 =>
  jn (fun (b6 : Bool) =>
   bif b6 then
    ref1_one_L0 n a0 a1 x1 r2 w4 (wr (i5 + 1))
   else
    bif decide ((wr (i5 - a1)) > 12) then
     some ((Token.mk 0 b0 0 0),0)
    else
     (ssub a0 a1 i5).bind fun w12 =>
     some ((Token.mk 1 w12 0 a1),wr (i5 - a1))) fun J7 =>
   bif decide (i5 < (a0.size : Int)) then
    (idxS a0 i5).bind fun x8 =>
    (ref1_letter n x8).bind fun r9 =>
    bif r9 then
     J7 true
    else
     (idxS a0 i5).bind fun x10 =>
     (ref1_digit n x10).bind fun r11 =>
     J7 r11
   else
    J7 false
def ref1_one_L1 : Nat → ByteArray → Int → Int → Bool → Bool → ByteArray → Int → Option (Token × Int)
 | 0,_,_,_,_,_,_,_=>none
 | n + 1,a0,a1,x1,r2,r13,w15,i16 =>
  jn (fun (b17 : Bool) =>
   bif b17 then
    ref1_one_L1 n a0 a1 x1 r2 r13 w15 (wr (i16 + 1))
   else
    (ssub a0 a1 i16).bind fun w21 =>
    (ref1_number n w21).bind fun r22 =>
    bif !r22.2 then
     some ((Token.mk 0 b0 0 0),0)
    else
     (ssub a0 a1 i16).bind fun w23 =>
     some ((Token.mk 2 w23 r22.1 a1),wr (i16 - a1))) fun J18 =>
   bif decide (i16 < (a0.size : Int)) then
    (idxS a0 i16).bind fun x19 =>
    (ref1_digit n x19).bind fun r20 =>
    J18 r20
   else
    J18 false
def ref1_one_L2 : Nat → ByteArray → Int → Int → Bool → Bool → ByteArray → Bool → Int → Option (Token × Int)
 | 0,_,_,_,_,_,_,_,_=>none
 | n + 1,a0,a1,x1,r2,r13,w24,b25,i28 =>
  bif decide (i28 < 11) then
   (idxS x_3d3c2b2d2a2f2528297b7d i28).bind fun x29 =>
   bif (x29 == x1) then
    (ssub a0 a1 (wr (a1 + 1))).bind fun w30 =>
    some ((Token.mk 3 w30 0 a1),1)
   else
    ref1_one_L2 n a0 a1 x1 r2 r13 w24 b25 (wr (i28 + 1))
  else
   some ((Token.mk 0 b0 0 0),0)
end
def ref1_one (n : Nat) (a0 : ByteArray) (a1 : Int) : Option (Token × Int) :=
 (idxS a0 a1).bind fun x1 =>
 (ref1_letter n x1).bind fun r2 =>
 bif r2 then
  ref1_one_L0 n a0 a1 x1 r2 b0 (wr (a1 + 1))
 else
  (ref1_digit n x1).bind fun r13 =>
  bif r13 then
   ref1_one_L1 n a0 a1 x1 r2 r13 b0 (wr (a1 + 1))
  else
   jn (fun (w24 : ByteArray) (b25 : Bool) =>
    bif b25 then
     some ((Token.mk 3 x_3d3d 0 a1),2)
    else
     ref1_one_L2 n a0 a1 x1 r2 r13 w24 b25 0) fun J26 =>
    bif (x1 == 61) then
     bif decide ((wr (a1 + 1)) < (a0.size : Int)) then
      (idxS a0 (wr (a1 + 1))).bind fun x27 =>
      J26 b0 (x27 == 61)
     else
      J26 b0 false
    else
     J26 b0 false
mutual
def ref1_Tokens_L0 : Nat → ByteArray → (List Token) → Int → Option ((List Token) × Int × Int)
 | 0,_,_,_=>none
 | n + 1,a0,l1,i2 =>
  bif decide (i2 < (a0.size : Int)) then
   (idxS a0 i2).bind fun x3 =>
   jn (fun (b4 : Bool) =>
    bif b4 then
     ref1_Tokens_L0 n a0 l1 (wr (i2 + 1))
    else
     bif (x3 == 35) then
      ref1_Tokens_L1 n a0 l1 i2 x3 b4 i2
     else
      (ref1_one n a0 i2).bind fun r10 =>
      bif (r10.2 == 0) then
       some (([] : List Token),i2,2)
      else
       bif room s_Token.i1.bytes l1.length [r10.1].length then
        ref1_Tokens_L0 n a0 (l1 ++ [r10.1]) (wr (i2 + r10.2))
       else none) fun J5 =>
    bif (x3 == 32) then
     J5 true
    else
     bif (x3 == 9) then
      J5 true
     else
      J5 (x3 == 10)
  else
   bif room s_Token.i1.bytes l1.length [(Token.mk 4 b0 0 i2)].length then
    some (l1 ++ [(Token.mk 4 b0 0 i2)],0,0)
   else none
def ref1_Tokens_L1 : Nat → ByteArray → (List Token) → Int → Int → Bool → Int → Option ((List Token) × Int × Int)
 | 0,_,_,_,_,_,_=>none
 | n + 1,a0,l1,i2,x3,b4,i6 =>
  jn (fun (b7 : Bool) =>
   bif b7 then
    ref1_Tokens_L1 n a0 l1 i2 x3 b4 (wr (i6 + 1))
   else
    ref1_Tokens_L0 n a0 l1 i6) fun J8 =>
   bif decide (i6 < (a0.size : Int)) then
    (idxS a0 i6).bind fun x9 =>
    J8 (x9 != 10)
   else
    J8 false
end
def ref1_Tokens (n : Nat) (a0 : ByteArray) : Option ((List Token) × Int × Int) :=
 bif decide ((a0.size : Int) > 6000) then
  some (([] : List Token),6000,2)
 else
  ref1_Tokens_L0 n a0 ([] : List Token) 0
def ref1_declKind_L0 : Nat → ByteArray → Int → Option Int
 | 0,_,_=>none
 | n + 1,a0,i1 =>
  bif decide (i1 < 6) then
   (idx [k_var,k_wide,k_atomic,k_local,k_mutex,k_chan] i1).bind fun x2 =>
   bif bytesEq a0 x2 then
    some (wr (1 + i1))
   else
    ref1_declKind_L0 n a0 (wr (i1 + 1))
  else
   some 0
def ref1_declKind (n : Nat) (a0 : ByteArray) : Option Int :=
 ref1_declKind_L0 n a0 0
def ref1_Reader_failAt (n : Nat) (a0 : Reader) (a1 : Int) : Option Reader :=
 bif !a0.Fail then
  some (Reader.mk a0.T a0.At true a1)
 else
  some a0
def ref1_Reader_fail (n : Nat) (a0 : Reader) : Option Reader :=
 (ref1_Reader_failAt n a0 a0.At).bind fun r1 =>
 some r1
def ref1_Within (n : Nat) (a0 : Int) (a1 : Int) (a2 : Int) : Option Int :=
 some (gomax a1 (gomin a2 a0))
def ref1_Spot_L0 : Nat → ByteArray → Int → Int → Int → Int → Int → Option (Int × Int)
 | 0,_,_,_,_,_,_=>none
 | n + 1,a0,a1,r1,i2,i3,i4 =>
  bif decide (i4 < r1) then
   jn (fun (i5 : Int) (i6 : Int) =>
    ref1_Spot_L0 n a0 a1 r1 i5 i6 (wr (i4 + 1))) fun J7 =>
    (idxS a0 i4).bind fun x8 =>
    bif (x8 == 10) then
     J7 (wr (i2 + 1)) 1
    else
     J7 i2 (wr (i3 + 1))
  else
   some (i2,i3)
def ref1_Spot (n : Nat) (a0 : ByteArray) (a1 : Int) : Option (Int × Int) :=
 (ref1_Within n a1 0 (a0.size : Int)).bind fun r1 =>
 ref1_Spot_L0 n a0 a1 r1 1 1 0
def ref1_Place (n : Nat) (a0 : ByteArray) (a1 : Int) : Option Cx :=
 (ref1_Spot n a0 a1).bind fun r1 =>
 some (⟨FloatKind.f64.nearest r1.1,FloatKind.f64.nearest r1.2⟩ : Cx)
def ref1_Keyword_L0 : Nat → ByteArray → Int → Option Bool
 | 0,_,_=>none
 | n + 1,a0,i1 =>
  bif decide (i1 < 17) then
   (idx [k_var,k_wide,k_atomic,k_local,k_mutex,k_chan,k_go,k_lock,k_unlock,k_send,k_recv,k_print,k_if,k_else,k_repeat,k_goto,k_label] i1).bind fun x2 =>
   bif bytesEq a0 x2 then
    some true
   else
    ref1_Keyword_L0 n a0 (wr (i1 + 1))
  else
   some false
def ref1_Keyword (n : Nat) (a0 : ByteArray) : Option Bool :=
 ref1_Keyword_L0 n a0 0
def ref1_Reader_name (n : Nat) (a0 : Reader) : Option (ByteArray × Reader) :=
 jn (fun (b1 : Bool) =>
  bif b1 then
   (ref1_Reader_fail n a0).bind fun r6 =>
   some (b0,r6)
  else
   (idx a0.T (wr ((wr (a0.At + 1)) - 1))).bind fun x7 =>
   some (x7.Text,(Reader.mk a0.T (wr (a0.At + 1)) a0.Fail a0.Bad))) fun J2 =>
  bif a0.Fail then
   J2 true
  else
   (idx a0.T a0.At).bind fun x3 =>
   bif (x3.Kind != 1) then
    J2 true
   else
    (idx a0.T a0.At).bind fun x4 =>
    (ref1_Keyword n x4.Text).bind fun r5 =>
    J2 r5
def ref1_Reader_number (n : Nat) (a0 : Reader) (a1 : Int) : Option (Int × Reader) :=
 jn (fun (b1 : Bool) =>
  bif b1 then
   (ref1_Reader_fail n a0).bind fun r5 =>
   some (0,r5)
  else
   (idx a0.T (wr ((wr (a0.At + 1)) - 1))).bind fun x6 =>
   some (x6.N,(Reader.mk a0.T (wr (a0.At + 1)) a0.Fail a0.Bad))) fun J2 =>
  bif a0.Fail then
   J2 true
  else
   (idx a0.T a0.At).bind fun x3 =>
   bif (x3.Kind != 2) then
    J2 true
   else
    (idx a0.T a0.At).bind fun x4 =>
    J2 (decide (x4.N > a1))
def ref1_Reader_word (n : Nat) (a0 : Reader) (a1 : ByteArray) : Option Bool :=
 jn (fun (b1 : Bool) =>
  some b1) fun J2 =>
  bif !a0.Fail then
   (idx a0.T a0.At).bind fun x3 =>
   bif (x3.Kind == 1) then
    (idx a0.T a0.At).bind fun x4 =>
    J2 (bytesEq x4.Text a1)
   else
    J2 false
  else
   J2 false
def ref1_Reader_sign (n : Nat) (a0 : Reader) (a1 : ByteArray) : Option Bool :=
 jn (fun (b1 : Bool) =>
  some b1) fun J2 =>
  bif !a0.Fail then
   (idx a0.T a0.At).bind fun x3 =>
   bif (x3.Kind == 3) then
    (idx a0.T a0.At).bind fun x4 =>
    J2 (bytesEq x4.Text a1)
   else
    J2 false
  else
   J2 false
def ref1_Reader_must (n : Nat) (a0 : Reader) (a1 : ByteArray) : Option Reader :=
 (ref1_Reader_sign n a0 a1).bind fun r1 =>
 bif !r1 then
  (ref1_Reader_fail n a0).bind fun r2 =>
  some r2
 else
  some (Reader.mk a0.T (wr (a0.At + 1)) a0.Fail a0.Bad)
def ref1_binary (n : Nat) (a0 : Int) (a1 : Expr) (a2 : Expr) : Option Expr :=
 some (Expr.mk a0 0 b0 [a1,a2])
mutual
def ref1_Reader_term_L0 : Nat → Reader → Int → (Expr × Reader) → (ByteArray → Expr → Reader → Option (Expr × Reader)) → Reader → ByteArray → Expr → Option (Expr × Reader)
 | 0,_,_,_,_,_,_,_=>none
 | n + 1,a0,a1,r1,J5,v7,w8,v9 =>
  bif !v7.Fail then
   jn (fun (i10 : Int) =>
    bif (i10 == 0) then
     J5 w8 v9 v7
    else
     (ref1_Reader_factor n (Reader.mk v7.T (wr (v7.At + 1)) v7.Fail v7.Bad) a1).bind fun r15 =>
     (ref1_binary n i10 v9 r15.1).bind fun r16 =>
     ref1_Reader_term_L0 n a0 a1 r1 J5 r15.2 w8 r16) fun J11 =>
    (ref1_Reader_sign n v7 x_2a).bind fun r12 =>
    bif r12 then
     J11 6
    else
     (ref1_Reader_sign n v7 x_2f).bind fun r13 =>
     bif r13 then
      J11 7
     else
      (ref1_Reader_sign n v7 x_25).bind fun r14 =>
      bif r14 then
       J11 8
      else
       J11 0
  else
   J5 w8 v9 v7
def ref1_Reader_sum_L0 : Nat → Reader → Int → (Expr × Reader) → (ByteArray → Expr → Reader → Option (Expr × Reader)) → Reader → ByteArray → Expr → Option (Expr × Reader)
 | 0,_,_,_,_,_,_,_=>none
 | n + 1,a0,a1,r1,J5,v7,w8,v9 =>
  bif !v7.Fail then
   jn (fun (i10 : Int) =>
    bif (i10 == 0) then
     J5 w8 v9 v7
    else
     (ref1_Reader_term n (Reader.mk v7.T (wr (v7.At + 1)) v7.Fail v7.Bad) a1).bind fun r14 =>
     (ref1_binary n i10 v9 r14.1).bind fun r15 =>
     ref1_Reader_sum_L0 n a0 a1 r1 J5 r14.2 w8 r15) fun J11 =>
    (ref1_Reader_sign n v7 x_2b).bind fun r12 =>
    bif r12 then
     J11 4
    else
     (ref1_Reader_sign n v7 x_2d).bind fun r13 =>
     bif r13 then
      J11 5
     else
      J11 0
  else
   J5 w8 v9 v7
def ref1_Reader_factor : Nat → Reader → Int → Option (Expr × Reader)
 | 0,_,_=>none
 | n + 1,a0,a1 =>
  bif a0.Fail then
   some ((Expr.mk 0 0 b0 []),a0)
  else
   (idx a0.T a0.At).bind fun x1 =>
   bif (x1.Kind == 2) then
    some ((Expr.mk 1 x1.N b0 []),(Reader.mk a0.T (wr (a0.At + 1)) a0.Fail a0.Bad))
   else
    jn (fun (w2 : ByteArray) (b3 : Bool) =>
     bif b3 then
      some ((Expr.mk 2 0 x1.Text []),(Reader.mk a0.T (wr (a0.At + 1)) a0.Fail a0.Bad))
     else
      jn (fun (b6 : Bool) =>
       bif b6 then
        (ref1_Reader_factor n (Reader.mk a0.T (wr (a0.At + 1)) a0.Fail a0.Bad) (wr (a1 + 1))).bind fun r9 =>
        some ((Expr.mk 3 0 b0 [r9.1]),r9.2)
       else
        jn (fun (b10 : Bool) =>
         bif b10 then
          (ref1_Reader_expr n (Reader.mk a0.T (wr (a0.At + 1)) a0.Fail a0.Bad) (wr (a1 + 1))).bind fun r13 =>
          (ref1_Reader_must n r13.2 x_29).bind fun r14 =>
          some (r13.1,r14)
         else
          (ref1_Reader_fail n a0).bind fun r15 =>
          some ((Expr.mk 0 0 b0 []),r15)) fun J11 =>
         (ref1_Reader_sign n a0 x_28).bind fun r12 =>
         bif r12 then
          J11 (decide (a1 < 8))
         else
          J11 false) fun J7 =>
       (ref1_Reader_sign n a0 x_2d).bind fun r8 =>
       bif r8 then
        J7 (decide (a1 < 8))
       else
        J7 false) fun J4 =>
     bif (x1.Kind == 1) then
      (ref1_Keyword n x1.Text).bind fun r5 =>
      J4 b0 (!r5)
     else
      J4 b0 false
def ref1_Reader_term : Nat → Reader → Int → Option (Expr × Reader)
 | 0,_,_=>none
 | n + 1,a0,a1 =>
  (ref1_Reader_factor n a0 a1).bind fun r1 =>
  jn (fun (w2 : ByteArray) (v3 : Expr) (v4 : Reader) =>
   some (v3,v4)) fun J5 =>
   ref1_Reader_term_L0 n a0 a1 r1 J5 r1.2 b0 r1.1
def ref1_Reader_sum : Nat → Reader → Int → Option (Expr × Reader)
 | 0,_,_=>none
 | n + 1,a0,a1 =>
  (ref1_Reader_term n a0 a1).bind fun r1 =>
  jn (fun (w2 : ByteArray) (v3 : Expr) (v4 : Reader) =>
   some (v3,v4)) fun J5 =>
   ref1_Reader_sum_L0 n a0 a1 r1 J5 r1.2 b0 r1.1
def ref1_Reader_expr : Nat → Reader → Int → Option (Expr × Reader)
 | 0,_,_=>none
 | n + 1,a0,a1 =>
  (ref1_Reader_sum n a0 a1).bind fun r1 =>
  jn (fun (w2 : ByteArray) (i3 : Int) =>
   bif (i3 == 0) then
    some (r1.1,r1.2)
   else
    (ref1_Reader_sum n (Reader.mk r1.2.T (wr (r1.2.At + 1)) r1.2.Fail r1.2.Bad) a1).bind fun r7 =>
    (ref1_binary n i3 r1.1 r7.1).bind fun r8 =>
    some (r8,r7.2)) fun J4 =>
   (ref1_Reader_sign n r1.2 x_3c).bind fun r5 =>
   bif r5 then
    J4 b0 9
   else
    (ref1_Reader_sign n r1.2 x_3d3d).bind fun r6 =>
    bif r6 then
     J4 b0 10
    else
     J4 b0 0
end
def ref1_Reader_whole (n : Nat) (a0 : Reader) (a1 : ByteArray) : Option (Expr × Reader) :=
 jn (fun (i1 : Int) (i2 : Int) (w3 : ByteArray) (l4 : List Expr) (v5 : Reader) =>
  some ((Expr.mk i1 i2 w3 l4),v5)) fun J6 =>
  bif !a0.Fail then
   (ref1_Reader_expr n a0 0).bind fun r7 =>
   J6 r7.1.Kind r7.1.N r7.1.Name r7.1.Of r7.2
  else
   J6 0 0 b0 [] a0
mutual
def ref1_Reader_block_L0 : Nat → Reader → ByteArray → Int → Reader → Reader → Reader → (List Stmt) → Option ((List Stmt) × Reader)
 | 0,_,_,_,_,_,_,_=>none
 | n + 1,a0,a1,a2,v1,r4,v5,l6 =>
  jn (fun (b7 : Bool) =>
   bif b7 then
    (ref1_Reader_stmt n v5 a1 a2).bind fun r10 =>
    bif !r10.2.Fail then
     bif room s_Stmt.i1.bytes l6.length [r10.1].length then
      ref1_Reader_block_L0 n a0 a1 a2 v1 r4 r10.2 (l6 ++ [r10.1])
     else none
    else
     ref1_Reader_block_L0 n a0 a1 a2 v1 r4 r10.2 l6
   else
    (ref1_Reader_must n v5 x_7d).bind fun r12 =>
    some (l6,r12)) fun J8 =>
   bif !v5.Fail then
    (ref1_Reader_sign n v5 x_7d).bind fun r9 =>
    J8 (!r9)
   else
    J8 false
def ref1_Reader_stmt : Nat → Reader → ByteArray → Int → Option (Stmt × Reader)
 | 0,_,_,_=>none
 | n + 1,a0,a1,a2 =>
  (idx a0.T a0.At).bind fun x1 =>
  (ref1_Place n a1 x1.At).bind fun r2 =>
  bif (x1.Kind != 1) then
   (ref1_Reader_fail n a0).bind fun r3 =>
   some ((Stmt.mk 0 b0 b0 0 (Expr.mk 0 0 b0 []) [] [] r2),r3)
  else
   jn (fun (w4 : ByteArray) (w5 : ByteArray) (w6 : ByteArray) (i7 : Int) (w8 : ByteArray) (w9 : ByteArray) (i10 : Int) (i11 : Int) (i12 : Int) (w13 : ByteArray) (l14 : List Expr) (l15 : List Stmt) (l16 : List Stmt) (v17 : Reader) =>
    some ((Stmt.mk i7 w8 w9 i10 (Expr.mk i11 i12 w13 l14) l15 l16 r2),v17)) fun J18 =>
    jn (fun (w19 : ByteArray) (w20 : ByteArray) (w21 : ByteArray) (w22 : ByteArray) (w23 : ByteArray) (w24 : ByteArray) (b25 : Bool) =>
     bif b25 then
      jn (fun (i27 : Int) =>
       (ref1_Reader_name n (Reader.mk a0.T (wr (a0.At + 1)) a0.Fail a0.Bad)).bind fun r29 =>
       J18 w19 w20 w21 i27 r29.1 w23 0 0 0 w24 [] ([] : List Stmt) ([] : List Stmt) r29.2) fun J28 =>
       bif bytesEq x1.Text k_unlock then
        J28 3
       else
        bif bytesEq x1.Text k_goto then
         J28 9
        else
         bif bytesEq x1.Text k_label then
          J28 10
         else
          J28 2
     else
      bif bytesEq x1.Text k_send then
       (ref1_Reader_name n (Reader.mk a0.T (wr (a0.At + 1)) a0.Fail a0.Bad)).bind fun r30 =>
       (ref1_Reader_whole n r30.2 a1).bind fun r31 =>
       J18 w19 w20 w21 4 r30.1 w23 0 r31.1.Kind r31.1.N r31.1.Name r31.1.Of ([] : List Stmt) ([] : List Stmt) r31.2
      else
       bif bytesEq x1.Text k_recv then
        (ref1_Reader_name n (Reader.mk a0.T (wr (a0.At + 1)) a0.Fail a0.Bad)).bind fun r32 =>
        (ref1_Reader_name n r32.2).bind fun r33 =>
        J18 w19 w20 w21 5 r32.1 r33.1 0 0 0 w24 [] ([] : List Stmt) ([] : List Stmt) r33.2
       else
        bif bytesEq x1.Text k_print then
         (ref1_Reader_whole n (Reader.mk a0.T (wr (a0.At + 1)) a0.Fail a0.Bad) a1).bind fun r34 =>
         J18 w19 w20 w21 6 w22 w23 0 r34.1.Kind r34.1.N r34.1.Name r34.1.Of ([] : List Stmt) ([] : List Stmt) r34.2
        else
         bif bytesEq x1.Text k_if then
          (ref1_Reader_whole n (Reader.mk a0.T (wr (a0.At + 1)) a0.Fail a0.Bad) a1).bind fun r35 =>
          (ref1_Reader_block n r35.2 a1 (wr (a2 + 1))).bind fun r36 =>
          (ref1_Reader_word n r36.2 k_else).bind fun r37 =>
          bif r37 then
           (ref1_Reader_block n (Reader.mk r36.2.T (wr (r36.2.At + 1)) r36.2.Fail r36.2.Bad) a1 (wr (a2 + 1))).bind fun r38 =>
           J18 w19 w20 w21 7 w22 w23 0 r35.1.Kind r35.1.N r35.1.Name r35.1.Of r36.1 r38.1 r38.2
          else
           J18 w19 w20 w21 7 w22 w23 0 r35.1.Kind r35.1.N r35.1.Name r35.1.Of r36.1 ([] : List Stmt) r36.2
         else
          bif bytesEq x1.Text k_repeat then
           (ref1_Reader_number n (Reader.mk a0.T (wr (a0.At + 1)) a0.Fail a0.Bad) 9).bind fun r39 =>
           (ref1_Reader_block n r39.2 a1 (wr (a2 + 1))).bind fun r40 =>
           J18 w19 w20 w21 8 w22 w23 r39.1 0 0 w24 [] r40.1 ([] : List Stmt) r40.2
          else
           (ref1_Keyword n x1.Text).bind fun r41 =>
           bif r41 then
            (ref1_Reader_failAt n (Reader.mk a0.T (wr (a0.At + 1)) a0.Fail a0.Bad) (wr ((wr (a0.At + 1)) - 1))).bind fun r42 =>
            some ((Stmt.mk 0 w22 w23 0 (Expr.mk 0 0 w24 []) [] [] r2),r42)
           else
            (ref1_Reader_must n (Reader.mk a0.T (wr (a0.At + 1)) a0.Fail a0.Bad) x_3d).bind fun r43 =>
            (ref1_Reader_whole n r43 a1).bind fun r44 =>
            J18 w19 w20 w21 1 x1.Text w23 0 r44.1.Kind r44.1.N r44.1.Name r44.1.Of ([] : List Stmt) ([] : List Stmt) r44.2) fun J26 =>
     bif bytesEq x1.Text k_lock then
      J26 b0 b0 b0 b0 b0 b0 (bytesEq x1.Text k_lock)
     else
      bif bytesEq x1.Text k_unlock then
       J26 b0 b0 b0 b0 b0 b0 (bytesEq x1.Text k_unlock)
      else
       bif bytesEq x1.Text k_goto then
        J26 b0 b0 b0 b0 b0 b0 (bytesEq x1.Text k_goto)
       else
        J26 b0 b0 b0 b0 b0 b0 (bytesEq x1.Text k_label)
def ref1_Reader_block : Nat → Reader → ByteArray → Int → Option ((List Stmt) × Reader)
 | 0,_,_,_=>none
 | n + 1,a0,a1,a2 =>
  jn (fun (v1 : Reader) =>
   (ref1_Reader_must n v1 x_7b).bind fun r4 =>
   ref1_Reader_block_L0 n a0 a1 a2 v1 r4 r4 ([] : List Stmt)) fun J2 =>
   bif decide (a2 > 8) then
    (ref1_Reader_fail n a0).bind fun r3 =>
    J2 r3
   else
    J2 a0
end
mutual
def ref1_Parse_L0 : Nat → ByteArray → ((List Token) × Int × Int) → ((List Token) → Int → Bool → Int → (List Decl) → Option (Prog × Int × Int)) → (List Token) → Int → Bool → Int → (List Decl) → Option (Prog × Int × Int)
 | 0,_,_,_,_,_,_,_,_=>none
 | n + 1,a0,r1,J7,l8,i9,b10,i11,l12 =>
  jn (fun (b13 : Bool) =>
   bif b13 then
    bif ((ln l12) == 24) then
     (ref1_Reader_fail n (Reader.mk l8 i9 b10 i11)).bind fun r18 =>
     J7 r18.T r18.At r18.Fail r18.Bad l12
    else
     (idx l8 i9).bind fun x19 =>
     (ref1_declKind n x19.Text).bind fun r20 =>
     (idx l8 i9).bind fun x21 =>
     (ref1_Place n a0 x21.At).bind fun r22 =>
     (ref1_Reader_name n (Reader.mk l8 (wr (i9 + 1)) b10 i11)).bind fun r23 =>
     jn (fun (v24 : Reader) (i25 : Int) =>
      bif room s_Decl.i1.bytes l12.length [(Decl.mk r20 r23.1 i25 r22)].length then
       ref1_Parse_L0 n a0 r1 J7 v24.T v24.At v24.Fail v24.Bad (l12 ++ [(Decl.mk r20 r23.1 i25 r22)])
      else none) fun J26 =>
      bif (r20 == 6) then
       (ref1_Reader_number n r23.2 3).bind fun r27 =>
       J26 r27.2 r27.1
      else
       J26 r23.2 0
   else
    J7 l8 i9 b10 i11 l12) fun J14 =>
   bif !b10 then
    (idx l8 i9).bind fun x15 =>
    bif (x15.Kind == 1) then
     (idx l8 i9).bind fun x16 =>
     (ref1_declKind n x16.Text).bind fun r17 =>
     J14 (decide (r17 > 0))
    else
     J14 false
   else
    J14 false
def ref1_Parse_L1 : Nat → ByteArray → ((List Token) × Int × Int) → (List Token) → Int → Bool → Int → (List Decl) → ((List Token) → Int → Bool → Int → (List (List Stmt)) → Option (Prog × Int × Int)) → (List Token) → Int → Bool → Int → (List (List Stmt)) → Option (Prog × Int × Int)
 | 0,_,_,_,_,_,_,_,_,_,_,_,_,_=>none
 | n + 1,a0,r1,l2,i3,b4,i5,l6,J34,l35,i36,b37,i38,l39 =>
  jn (fun (b40 : Bool) =>
   bif b40 then
    jn (fun (b43 : Bool) =>
     bif b43 then
      (ref1_Reader_fail n (Reader.mk l35 i36 b37 i38)).bind fun r46 =>
      J34 r46.T r46.At r46.Fail r46.Bad l39
     else
      (ref1_Reader_block n (Reader.mk l35 (wr (i36 + 1)) b37 i38) a0 1).bind fun r47 =>
      bif room s_LStmt.i1.bytes l39.length [r47.1].length then
       ref1_Parse_L1 n a0 r1 l2 i3 b4 i5 l6 J34 r47.2.T r47.2.At r47.2.Fail r47.2.Bad (l39 ++ [r47.1])
      else none) fun J44 =>
     (ref1_Reader_word n (Reader.mk l35 i36 b37 i38) k_go).bind fun r45 =>
     bif !r45 then
      J44 true
     else
      J44 ((ln l39) == 4)
   else
    J34 l35 i36 b37 i38 l39) fun J41 =>
   bif !b37 then
    (idx l35 i36).bind fun x42 =>
    bif (x42.Kind != 4) then
     J41 true
    else
     J41 ((ln l39) == 0)
   else
    J41 false
end
def ref1_Parse (n : Nat) (a0 : ByteArray) : Option (Prog × Int × Int) :=
 (ref1_Tokens n a0).bind fun r1 =>
 bif (r1.2.2 != 0) then
  some ((Prog.mk [] []),r1.2.1,r1.2.2)
 else
  jn (fun (l2 : List Token) (i3 : Int) (b4 : Bool) (i5 : Int) (l6 : List Decl) =>
   jn (fun (l29 : List Token) (i30 : Int) (b31 : Bool) (i32 : Int) (l33 : List (List Stmt)) =>
    bif b31 then
     (idx r1.1 i32).bind fun x49 =>
     some ((Prog.mk [] []),x49.At,2)
    else
     some ((Prog.mk l6 l33),0,0)) fun J34 =>
    ref1_Parse_L1 n a0 r1 l2 i3 b4 i5 l6 J34 l2 i3 b4 i5 ([] : List (List Stmt))) fun J7 =>
   ref1_Parse_L0 n a0 r1 J7 r1.1 0 false 0 ([] : List Decl)
def law23_read (n : Nat) (a0 : ByteArray) : Option Prog :=
 (ref1_Parse n a0).bind fun r1 =>
 some r1.1
def cands_Of_1 (n : Nat) (a0 : Int) (a1 : Prog) : Option Bool :=
 (idx a1.Decls a0).bind fun x1 =>
 some (x1.Kind == 1)
def cands_Of_2 (n : Nat) (a0 : Int) (a1c0 : Prog) : Option Bool :=
 (cands_Of_1 n a0 a1c0).bind fun r1 =>
 some (!r1)
def IndexFunc_int_fcands_Of_2_L0 : Nat → (List Int) → Prog → Int → Option Int
 | 0,_,_,_=>none
 | n + 1,a0,a1c0c0,i1 =>
  bif decide (i1 < (ln a0)) then
   (idx a0 i1).bind fun x2 =>
   (cands_Of_2 n x2 a1c0c0).bind fun r3 =>
   bif r3 then
    some i1
   else
    IndexFunc_int_fcands_Of_2_L0 n a0 a1c0c0 (wr (i1 + 1))
  else
   some (-1)
def IndexFunc_int_fcands_Of_2 (n : Nat) (a0 : List Int) (a1c0c0 : Prog) : Option Int :=
 IndexFunc_int_fcands_Of_2_L0 n a0 a1c0c0 0
def ContainsFunc_int_fcands_Of_2 (n : Nat) (a0 : List Int) (a1c0c0 : Prog) : Option Bool :=
 (IndexFunc_int_fcands_Of_2 n a0 a1c0c0).bind fun r1 =>
 some (decide (r1 ≥ 0))
mutual
def cost_weigh_o_L0 : Nat → (List Int) → (List Stmt) → Int → (List Int) → Int → Option (List Int)
 | 0,_,_,_,_,_=>none
 | n + 1,a0,a1,a2,l1,i2 =>
  bif decide (i2 < (ln a1)) then
   (idx a1 i2).bind fun x3 =>
   bif room s_int.i1.bytes l1.length [a2].length then
    jn (fun (i5 : Int) =>
     (cost_weigh_o n (l1 ++ [a2]) x3.Body i5).bind fun r7 =>
     (cost_weigh_o n r7 x3.Else i5).bind fun r8 =>
     cost_weigh_o_L0 n a0 a1 a2 r8 (wr (i2 + 1))) fun J6 =>
     bif (x3.Kind == 8) then
      J6 (wr (a2 * x3.N))
     else
      J6 a2
   else none
  else
   some l1
def cost_weigh_o : Nat → (List Int) → (List Stmt) → Int → Option (List Int)
 | 0,_,_,_=>none
 | n + 1,a0,a1,a2 =>
  cost_weigh_o_L0 n a0 a1 a2 a0 0
end
def Clip_int (n : Nat) (a0 : List Int) : Option (List Int) :=
 (sub a0 0 (ln a0)).bind fun l1 =>
 some l1
def cost_Weights_L0 : Nat → Prog → (List Int) → Int → Option (List Int)
 | 0,_,_,_=>none
 | n + 1,a0,l1,i2 =>
  bif decide (i2 < (ln a0.Threads)) then
   (idx a0.Threads i2).bind fun x3 =>
   (cost_weigh_o n l1 x3 1).bind fun r4 =>
   cost_Weights_L0 n a0 r4 (wr (i2 + 1))
  else
   (Clip_int n l1).bind fun r5 =>
   some r5
def cost_Weights (n : Nat) (a0 : Prog) : Option (List Int) :=
 cost_Weights_L0 n a0 ([] : List Int) 0
mutual
def tree_listed_o_L0 : Nat → (List Stmt) → (List Stmt) → (List Stmt) → Int → Option (List Stmt)
 | 0,_,_,_,_=>none
 | n + 1,a0,a1,l1,i2 =>
  bif decide (i2 < (ln a1)) then
   (idx a1 i2).bind fun x3 =>
   bif room s_Stmt.i1.bytes l1.length [x3].length then
    (tree_listed_o n (l1 ++ [x3]) x3.Body).bind fun r5 =>
    (tree_listed_o n r5 x3.Else).bind fun r6 =>
    tree_listed_o_L0 n a0 a1 r6 (wr (i2 + 1))
   else none
  else
   some l1
def tree_listed_o : Nat → (List Stmt) → (List Stmt) → Option (List Stmt)
 | 0,_,_=>none
 | n + 1,a0,a1 =>
  tree_listed_o_L0 n a0 a1 a0 0
end
def Clone_Expr (n : Nat) (a0 : List Expr) : Option (List Expr) :=
 bif room s_Expr.i1.bytes ([] : List Expr).length a0.length then
  some (([] : List Expr) ++ a0)
 else none
def Clip_Expr_o (n : Nat) (a0 : List Expr) : Option (List Expr) :=
 some a0
mutual
def tree_copyExpr_L0 : Nat → Expr → (List Expr) → (List Expr) → (List Expr) → ByteArray → Int → Option Expr
 | 0,_,_,_,_,_,_=>none
 | n + 1,a0,r1,r2,l4,w5,i6 =>
  bif decide (i6 < (ln r2)) then
   (idx l4 i6).bind fun x7 =>
   (tree_copyExpr n x7).bind fun r8 =>
   (idx l4 i6).bind fun x9 =>
   tree_copyExpr_L0 n a0 r1 r2 (l4.set i6.toNat r8) w5 (wr (i6 + 1))
  else
   some (Expr.mk a0.Kind a0.N a0.Name l4)
def tree_copyExpr : Nat → Expr → Option Expr
 | 0,_=>none
 | n + 1,a0 =>
  (Clone_Expr n a0.Of).bind fun r1 =>
  (Clip_Expr_o n r1).bind fun r2 =>
  tree_copyExpr_L0 n a0 r1 r2 r2 b0 0
end
def Clone_Stmt (n : Nat) (a0 : List Stmt) : Option (List Stmt) :=
 bif room s_Stmt.i1.bytes ([] : List Stmt).length a0.length then
  some (([] : List Stmt) ++ a0)
 else none
def Clip_Stmt_o (n : Nat) (a0 : List Stmt) : Option (List Stmt) :=
 some a0
mutual
def tree_copyBlock_L0 : Nat → (List Stmt) → (List Stmt) → (List Stmt) → (List Stmt) → Int → Option (List Stmt)
 | 0,_,_,_,_,_=>none
 | n + 1,a0,r1,r2,l3,i4 =>
  bif decide (i4 < (ln r2)) then
   (idx l3 i4).bind fun x5 =>
   (tree_copyStmt n x5).bind fun r6 =>
   (idx l3 i4).bind fun x7 =>
   tree_copyBlock_L0 n a0 r1 r2 (l3.set i4.toNat r6) (wr (i4 + 1))
  else
   some l3
def tree_copyBlock : Nat → (List Stmt) → Option (List Stmt)
 | 0,_=>none
 | n + 1,a0 =>
  (Clone_Stmt n a0).bind fun r1 =>
  (Clip_Stmt_o n r1).bind fun r2 =>
  tree_copyBlock_L0 n a0 r1 r2 r2 0
def tree_copyStmt : Nat → Stmt → Option Stmt
 | 0,_=>none
 | n + 1,a0 =>
  (tree_copyExpr n a0.E).bind fun r1 =>
  (tree_copyBlock n a0.Body).bind fun r2 =>
  (tree_copyBlock n a0.Else).bind fun r3 =>
  some (Stmt.mk a0.Kind a0.Name a0.Other a0.N r1 r2 r3 a0.At)
end
def Clip_Stmt (n : Nat) (a0 : List Stmt) : Option (List Stmt) :=
 (sub a0 0 (ln a0)).bind fun l1 =>
 some l1
mutual
def tree_List_L0 : Nat → Prog → (List Stmt) → Int → Option (List Stmt)
 | 0,_,_,_=>none
 | n + 1,a0,l1,i2 =>
  bif decide (i2 < (ln a0.Threads)) then
   (idx a0.Threads i2).bind fun x3 =>
   (tree_listed_o n l1 x3).bind fun r4 =>
   tree_List_L0 n a0 r4 (wr (i2 + 1))
  else
   tree_List_L1 n a0 l1 i2 l1 0
def tree_List_L1 : Nat → Prog → (List Stmt) → Int → (List Stmt) → Int → Option (List Stmt)
 | 0,_,_,_,_,_=>none
 | n + 1,a0,l1,i2,l5,i6 =>
  bif decide (i6 < (ln l1)) then
   (idx l5 i6).bind fun x7 =>
   (tree_copyStmt n x7).bind fun r8 =>
   (idx l5 i6).bind fun x9 =>
   tree_List_L1 n a0 l1 i2 (l5.set i6.toNat r8) (wr (i6 + 1))
  else
   (Clip_Stmt n l5).bind fun r10 =>
   some r10
end
def tree_List (n : Nat) (a0 : Prog) : Option (List Stmt) :=
 tree_List_L0 n a0 ([] : List Stmt) 0
def Clip_string (n : Nat) (a0 : List ByteArray) : Option (List ByteArray) :=
 (sub a0 0 (ln a0)).bind fun l1 =>
 some l1
mutual
def tree_Names_L0 : Nat → Expr → (List ByteArray) → (List ByteArray) → Int → Option (List ByteArray)
 | 0,_,_,_,_=>none
 | n + 1,a0,l1,l4,i5 =>
  bif decide (i5 < (ln a0.Of)) then
   (idx a0.Of i5).bind fun x6 =>
   (tree_Names n x6).bind fun r7 =>
   bif room s_string.i1.bytes l4.length r7.length then
    tree_Names_L0 n a0 l1 (l4 ++ r7) (wr (i5 + 1))
   else none
  else
   (Clip_string n l4).bind fun r9 =>
   some r9
def tree_Names : Nat → Expr → Option (List ByteArray)
 | 0,_=>none
 | n + 1,a0 =>
  jn (fun (l1 : List ByteArray) =>
   tree_Names_L0 n a0 l1 l1 0) fun J2 =>
   bif (a0.Kind == 2) then
    bif room s_string.i1.bytes ([] : List ByteArray).length [a0.Name].length then
     J2 (([] : List ByteArray) ++ [a0.Name])
    else none
   else
    J2 ([] : List ByteArray)
end
def tree_Touches (n : Nat) (a0 : Stmt) : Option (List ByteArray) :=
 jn (fun (l1 : List ByteArray) =>
  jn (fun (l6 : List ByteArray) =>
   (Clip_string n l6).bind fun r10 =>
   some r10) fun J7 =>
   bif (a0.Kind == 1) then
    bif room s_string.i1.bytes l1.length [a0.Name].length then
     J7 (l1 ++ [a0.Name])
    else none
   else
    bif (a0.Kind == 5) then
     bif room s_string.i1.bytes l1.length [a0.Other].length then
      J7 (l1 ++ [a0.Other])
     else none
    else
     J7 l1) fun J2 =>
  jn (fun (b3 : Bool) =>
   bif b3 then
    (tree_Names n a0.E).bind fun r5 =>
    J2 r5
   else
    J2 []) fun J4 =>
   bif (a0.Kind == 1) then
    J4 (a0.Kind == 1)
   else
    bif (a0.Kind == 4) then
     J4 (a0.Kind == 4)
    else
     bif (a0.Kind == 6) then
      J4 (a0.Kind == 6)
     else
      J4 (a0.Kind == 7)
def Index_string_L0 : Nat → (List ByteArray) → ByteArray → Int → Option Int
 | 0,_,_,_=>none
 | n + 1,a0,a1,i1 =>
  bif decide (i1 < (ln a0)) then
   (idx a0 i1).bind fun x2 =>
   bif bytesEq a1 x2 then
    some i1
   else
    Index_string_L0 n a0 a1 (wr (i1 + 1))
  else
   some (-1)
def Index_string (n : Nat) (a0 : List ByteArray) (a1 : ByteArray) : Option Int :=
 Index_string_L0 n a0 a1 0
def Contains_string (n : Nat) (a0 : List ByteArray) (a1 : ByteArray) : Option Bool :=
 (Index_string n a0 a1).bind fun r1 =>
 some (decide (r1 ≥ 0))
def cost_touches_1 (n : Nat) (a0 : ByteArray) (a1 : List ByteArray) : Option Bool :=
 (Contains_string n a1 a0).bind fun r1 =>
 some r1
def IndexFunc_string_fcost_touches_1_L0 : Nat → (List ByteArray) → (List ByteArray) → Int → Option Int
 | 0,_,_,_=>none
 | n + 1,a0,a1c0,i1 =>
  bif decide (i1 < (ln a0)) then
   (idx a0 i1).bind fun x2 =>
   (cost_touches_1 n x2 a1c0).bind fun r3 =>
   bif r3 then
    some i1
   else
    IndexFunc_string_fcost_touches_1_L0 n a0 a1c0 (wr (i1 + 1))
  else
   some (-1)
def IndexFunc_string_fcost_touches_1 (n : Nat) (a0 : List ByteArray) (a1c0 : List ByteArray) : Option Int :=
 IndexFunc_string_fcost_touches_1_L0 n a0 a1c0 0
def ContainsFunc_string_fcost_touches_1 (n : Nat) (a0 : List ByteArray) (a1c0 : List ByteArray) : Option Bool :=
 (IndexFunc_string_fcost_touches_1 n a0 a1c0).bind fun r1 =>
 some (decide (r1 ≥ 0))
def cost_touches (n : Nat) (a0 : Stmt) (a1 : List ByteArray) : Option Bool :=
 (tree_Touches n a0).bind fun r1 =>
 (ContainsFunc_string_fcost_touches_1 n r1 a1).bind fun r2 =>
 some r2
def cost_whole (n : Nat) (a0 : Int) : Option Cx :=
 some (⟨FloatKind.f64.nearest a0,0⟩ : Cx)
def cost_Upgrade_L0 : Nat → Prog → ByteArray → (List Int) → (List Stmt) → Cx → Int → Option Cx
 | 0,_,_,_,_,_,_=>none
 | n + 1,a0,a1,r1,r2,z3,i4 =>
  bif decide (i4 < (ln r2)) then
   jn (fun (z5 : Cx) =>
    cost_Upgrade_L0 n a0 a1 r1 r2 z5 (wr (i4 + 1))) fun J6 =>
    (idx r2 i4).bind fun x7 =>
    (cost_touches n x7 [a1]).bind fun r8 =>
    bif r8 then
     (idx r1 i4).bind fun x9 =>
     (cost_whole n x9).bind fun r10 =>
     (cadd z3 r10).bind fun z11 =>
     J6 z11
    else
     J6 z3
  else
   some z3
def cost_Upgrade (n : Nat) (a0 : Prog) (a1 : ByteArray) : Option Cx :=
 (cost_Weights n a0).bind fun r1 =>
 (tree_List n a0).bind fun r2 =>
 cost_Upgrade_L0 n a0 a1 r1 r2 (⟨0,4607182418800017408⟩ : Cx) 0
mutual
def cands_sets_L0 : Nat → (List Int) → (List (List Int)) → Int → Option (List (List Int))
 | 0,_,_,_=>none
 | n + 1,a0,l1,i2 =>
  bif decide (i2 < (ln a0)) then
   jn (fun (l3 : List (List Int)) =>
    cands_sets_L0 n a0 l3 (wr (i2 + 1))) fun J4 =>
    (idx a0 i2).bind fun x5 =>
    bif decide ((ln a0) ≤ 8) then
     bif room s_Lint.i1.bytes l1.length [[x5]].length then
      J4 (l1 ++ [[x5]])
     else none
    else
     J4 l1
  else
   bif room s_Lint.i1.bytes l1.length [a0].length then
    some (l1 ++ [a0])
   else none
def cands_sets_L1 : Nat → (List Int) → (List (List Int)) → Int → Option (List (List Int))
 | 0,_,_,_=>none
 | n + 1,a0,l8,i9 =>
  (ishl .i64 1 (ln a0)).bind fun x10 =>
  bif decide (i9 < x10) then
   cands_sets_L2 n a0 l8 i9 x10 ([] : List Int) 0
  else
   some l8
def cands_sets_L2 : Nat → (List Int) → (List (List Int)) → Int → Int → (List Int) → Int → Option (List (List Int))
 | 0,_,_,_,_,_,_=>none
 | n + 1,a0,l8,i9,x10,l11,i12 =>
  bif decide (i12 < (ln a0)) then
   jn (fun (l13 : List Int) =>
    cands_sets_L2 n a0 l8 i9 x10 l13 (wr (i12 + 1))) fun J14 =>
    (idx a0 i12).bind fun x15 =>
    (ishr .i64 i9 i12).bind fun x16 =>
    bif ((wr ((BitVec.ofInt 64 x16 &&& BitVec.ofInt 64 1).toNat : Nat)) == 1) then
     bif room s_int.i1.bytes l11.length [x15].length then
      J14 (l11 ++ [x15])
     else none
    else
     J14 l11
  else
   bif room s_Lint.i1.bytes l8.length [l11].length then
    cands_sets_L1 n a0 (l8 ++ [l11]) (wr (i9 + 1))
   else none
end
def cands_sets (n : Nat) (a0 : List Int) : Option (List (List Int)) :=
 bif decide ((ln a0) > 4) then
  cands_sets_L0 n a0 ([] : List (List Int)) 0
 else
  cands_sets_L1 n a0 ([] : List (List Int)) 1
def Clone_int (n : Nat) (a0 : List Int) : Option (List Int) :=
 bif room s_int.i1.bytes ([] : List Int).length a0.length then
  some (([] : List Int) ++ a0)
 else none
def cands_named_L0 : Nat → Prog → (List Int) → (List ByteArray) → Int → Option (List ByteArray)
 | 0,_,_,_,_=>none
 | n + 1,a0,a1,l1,i2 =>
  bif decide (i2 < (ln a1)) then
   (idx a1 i2).bind fun x3 =>
   (idx a0.Decls x3).bind fun x4 =>
   bif room s_string.i1.bytes l1.length [x4.Name].length then
    cands_named_L0 n a0 a1 (l1 ++ [x4.Name]) (wr (i2 + 1))
   else none
  else
   some l1
def cands_named (n : Nat) (a0 : Prog) (a1 : List Int) : Option (List ByteArray) :=
 cands_named_L0 n a0 a1 ([] : List ByteArray) 0
def cost_size (n : Nat) (a0 : Stmt) : Option Int :=
 (tree_List n (Prog.mk [] [[a0]])).bind fun r1 =>
 some (ln r1)
def cost_Wrapped_L0 : Nat → Prog → (List ByteArray) → (List Stmt) → (List Int) → Int → Option (List Int)
 | 0,_,_,_,_,_=>none
 | n + 1,a0,a1,r1,l2,i3 =>
  bif decide (i3 < (ln r1)) then
   (idx r1 i3).bind fun x4 =>
   (cost_touches n x4 a1).bind fun r5 =>
   bif r5 then
    bif room s_int.i1.bytes l2.length [i3].length then
     (idx r1 i3).bind fun x7 =>
     (cost_size n x7).bind fun r8 =>
     cost_Wrapped_L0 n a0 a1 r1 (l2 ++ [i3]) (wr (i3 + r8))
    else none
   else
    cost_Wrapped_L0 n a0 a1 r1 l2 (wr (i3 + 1))
  else
   (Clip_int n l2).bind fun r9 =>
   some r9
def cost_Wrapped (n : Nat) (a0 : Prog) (a1 : List ByteArray) : Option (List Int) :=
 (tree_List n a0).bind fun r1 =>
 cost_Wrapped_L0 n a0 a1 r1 ([] : List Int) 0
def cost_Guard_L0 : Nat → Prog → (List ByteArray) → (List Int) → (List Int) → Cx → Int → Option Cx
 | 0,_,_,_,_,_,_=>none
 | n + 1,a0,a1,r1,r2,z3,i4 =>
  bif decide (i4 < (ln r2)) then
   (idx r2 i4).bind fun x5 =>
   (idx r1 x5).bind fun x6 =>
   (cost_whole n x6).bind fun r7 =>
   (cmul (⟨4611686018427387904,0⟩ : Cx) r7).bind fun z8 =>
   (cadd z3 z8).bind fun z9 =>
   cost_Guard_L0 n a0 a1 r1 r2 z9 (wr (i4 + 1))
  else
   some z3
def cost_Guard (n : Nat) (a0 : Prog) (a1 : List ByteArray) : Option Cx :=
 (cost_Weights n a0).bind fun r1 =>
 (cost_Wrapped n a0 a1).bind fun r2 =>
 cost_Guard_L0 n a0 a1 r1 r2 (⟨0,4607182418800017408⟩ : Cx) 0
def Clip_Cand (n : Nat) (a0 : List Cand) : Option (List Cand) :=
 (sub a0 0 (ln a0)).bind fun l1 =>
 some l1
mutual
def cands_Of_L0 : Nat → Prog → (List Int) → (List Cand) → Int → Option (List Cand)
 | 0,_,_,_,_=>none
 | n + 1,a0,a1,l1,i2 =>
  bif decide (i2 < (ln a1)) then
   jn (fun (l3 : List Cand) =>
    cands_Of_L0 n a0 a1 l3 (wr (i2 + 1))) fun J4 =>
    (idx a1 i2).bind fun x5 =>
    (ContainsFunc_int_fcands_Of_2 n a1 a0).bind fun r6 =>
    jn (fun (b7 : Bool) =>
     bif b7 then
      (idx a0.Decls x5).bind fun x10 =>
      (cost_Upgrade n a0 x10.Name).bind fun r11 =>
      bif room s_Cand.i1.bytes l1.length [(Cand.mk false [x5] r11)].length then
       J4 (l1 ++ [(Cand.mk false [x5] r11)])
      else none
     else
      J4 l1) fun J8 =>
     (cands_Of_1 n x5 a0).bind fun r9 =>
     bif r9 then
      bif decide ((ln a1) ≤ 8) then
       J8 true
      else
       J8 (!r6)
     else
      J8 false
  else
   (cands_sets n a1).bind fun r13 =>
   cands_Of_L1 n a0 a1 l1 i2 r13 l1 0
def cands_Of_L1 : Nat → Prog → (List Int) → (List Cand) → Int → (List (List Int)) → (List Cand) → Int → Option (List Cand)
 | 0,_,_,_,_,_,_,_=>none
 | n + 1,a0,a1,l1,i2,r13,l14,i15 =>
  bif decide (i15 < (ln r13)) then
   (idx r13 i15).bind fun x16 =>
   (Clone_int n x16).bind fun r17 =>
   (Clip_int n r17).bind fun r18 =>
   (cands_named n a0 x16).bind fun r19 =>
   (cost_Guard n a0 r19).bind fun r20 =>
   bif room s_Cand.i1.bytes l14.length [(Cand.mk true r18 r20)].length then
    cands_Of_L1 n a0 a1 l1 i2 r13 (l14 ++ [(Cand.mk true r18 r20)]) (wr (i15 + 1))
   else none
  else
   (Clip_Cand n l14).bind fun r22 =>
   some r22
end
def cands_Of (n : Nat) (a0 : Prog) (a1 : List Int) : Option (List Cand) :=
 cands_Of_L0 n a0 a1 ([] : List Cand) 0
def law23_known (n : Nat) : Option Bool :=
 (law23_read n tx37).bind fun r1 =>
 (cands_Of n r1 [0,1]).bind fun r2 =>
 jn (fun (b3 : Bool) =>
  some b3) fun J4 =>
  bif ((ln r2) == 4) then
   (idx r2 0).bind fun x5 =>
   bif !x5.Guard then
    (idx r2 0).bind fun x6 =>
    bif ((ln x6.Names) == 1) then
     (idx r2 0).bind fun x7 =>
     (idx x7.Names 0).bind fun x8 =>
     bif (x8 == 0) then
      (idx r2 0).bind fun x9 =>
      bif ((FloatKind.f64.format.order x9.Cost.re (⟨4611686018427387904,4607182418800017408⟩ : Cx).re == some .eq) && (FloatKind.f64.format.order x9.Cost.im (⟨4611686018427387904,4607182418800017408⟩ : Cx).im == some .eq)) then
       (idx r2 1).bind fun x10 =>
       bif x10.Guard then
        (idx r2 3).bind fun x11 =>
        bif x11.Guard then
         (idx r2 3).bind fun x12 =>
         bif ((ln x12.Names) == 2) then
          (idx r2 3).bind fun x13 =>
          J4 ((FloatKind.f64.format.order x13.Cost.re (⟨4616189618054758400,4607182418800017408⟩ : Cx).re == some .eq) && (FloatKind.f64.format.order x13.Cost.im (⟨4616189618054758400,4607182418800017408⟩ : Cx).im == some .eq))
         else
          J4 false
        else
         J4 false
       else
        J4 false
      else
       J4 false
     else
      J4 false
    else
     J4 false
   else
    J4 false
  else
   J4 false
def law23_CandsKnown_L0 : Nat → ByteArray → ByteArray → Int → Option Bool
 | 0,_,_,_=>none
 | n + 1,w3,w4,i5 =>
  bif decide (i5 < 10) then
   (ref1_Digits n i5).bind fun r6 =>
   bif sroom k_v r6 then
    bif sroom w3 x_76617220 then
     bif sroom (w3 ++ x_76617220) (k_v ++ r6) then
      bif sroom ((w3 ++ x_76617220) ++ (k_v ++ r6)) x_20 then
       bif sroom w4 (k_v ++ r6) then
        bif sroom (w4 ++ (k_v ++ r6)) x_3d3120 then
         law23_CandsKnown_L0 n (((w3 ++ x_76617220) ++ (k_v ++ r6)) ++ x_20) ((w4 ++ (k_v ++ r6)) ++ x_3d3120) (wr (i5 + 1))
        else none
       else none
      else none
     else none
    else none
   else none
  else
   bif sroom w3 x_77696465207720676f7b then
    bif sroom (w3 ++ x_77696465207720676f7b) w4 then
     bif sroom ((w3 ++ x_77696465207720676f7b) ++ w4) x_773d327d then
      (law23_read n (((w3 ++ x_77696465207720676f7b) ++ w4) ++ x_773d327d)).bind fun r16 =>
      (cands_Of n r16 [1,2,4]).bind fun r17 =>
      (cands_Of n r16 [0,1,2,3,4]).bind fun r18 =>
      (cands_Of n r16 [0,1,2,3,4,5,6,7,8]).bind fun r19 =>
      (cands_Of n r16 [0,1,2,3,4,5,6,7,10]).bind fun r20 =>
      (cands_Of n r16 [0,1,2,3,4,5,6,7,8,10]).bind fun r21 =>
      jn (fun (b22 : Bool) =>
       bif b22 then
        some false
       else
        jn (fun (b25 : Bool) =>
         some b25) fun J26 =>
         (idx r17 5).bind fun x27 =>
         bif x27.Guard then
          (idx r17 5).bind fun x28 =>
          bif ((ln x28.Names) == 2) then
           (idx r17 5).bind fun x29 =>
           (idx x29.Names 0).bind fun x30 =>
           bif (x30 == 1) then
            (idx r17 5).bind fun x31 =>
            (idx x31.Names 1).bind fun x32 =>
            bif (x32 == 2) then
             (idx r17 9).bind fun x33 =>
             bif ((ln x33.Names) == 3) then
              (idx r18 9).bind fun x34 =>
              bif ((ln x34.Names) == 1) then
               (idx r18 10).bind fun x35 =>
               bif ((ln x35.Names) == 5) then
                (idx r19 9).bind fun x36 =>
                bif x36.Guard then
                 (idx r19 9).bind fun x37 =>
                 bif ((ln x37.Names) == 9) then
                  (idx r19 8).bind fun x38 =>
                  bif !x38.Guard then
                   (idx r20 0).bind fun x39 =>
                   bif x39.Guard then
                    (idx r20 0).bind fun x40 =>
                    bif ((ln x40.Names) == 9) then
                     (idx ([0,1,4] : List Int) 0).bind fun x41 =>
                     bif (x41 == 0) then
                      (idx ([0,1,4] : List Int) 1).bind fun x42 =>
                      bif (x42 == 1) then
                       (idx ([0,1,4] : List Int) 2).bind fun x43 =>
                       bif (x43 == 4) then
                        (cands_Of n r16 []).bind fun r44 =>
                        bif ((ln r44) == 0) then
                         bif (0 == 0) then
                          J26 true
                         else
                          J26 false
                        else
                         J26 false
                       else
                        J26 false
                      else
                       J26 false
                     else
                      J26 false
                    else
                     J26 false
                   else
                    J26 false
                  else
                   J26 false
                 else
                  J26 false
                else
                 J26 false
               else
                J26 false
              else
               J26 false
             else
              J26 false
            else
             J26 false
           else
            J26 false
          else
           J26 false
         else
          J26 false) fun J23 =>
       (law23_known n ).bind fun r24 =>
       bif !r24 then
        J23 true
       else
        bif ((ln r17) != 10) then
         J23 true
        else
         bif ((ln r18) != 11) then
          J23 true
         else
          bif ((ln r19) != 10) then
           J23 true
          else
           bif ((ln r20) != 1) then
            J23 true
           else
            bif ((ln r21) != 1) then
             J23 true
            else
             J23 ((ln ([0,1,4] : List Int)) != 3)
     else none
    else none
   else none
def law23_CandsKnown (n : Nat) : Option Bool :=
 law23_CandsKnown_L0 n b0 b0 0
end Go.Su.Ytcadbebhhnggdaa
