/-
  The kinds of values of the program, and how they stand in the machine.
-/
import Derived.Test.YtfmgnboplbgniaaDx16
import Derived.Test.YtfmgnboplbgniaaChecked
namespace Go.Su.Ytfmgnboplbgniaa
open Go.Mx Go.Proofs
set_option maxRecDepth 100000
set_option maxHeartbeats 20000000
set_option linter.unusedVariables false
set_option linter.unusedSimpArgs false

structure Act where
  What : Int
  A : Int
  B : Int
  N : Int
  E : List Int
structure Decl where
  Kind : Int
  Name : ByteArray
  N : Int
  At : Cx
structure Expr where
  Kind : Int
  N : Int
  Name : ByteArray
  Of : List Expr
structure Stmt where
  Kind : Int
  Name : ByteArray
  Other : ByteArray
  N : Int
  E : Expr
  Body : List Stmt
  Else : List Stmt
  At : Cx
structure Prog where
  Decls : List Decl
  Threads : List (List Stmt)
structure Arr2_string where
  e0 : ByteArray
  e1 : ByteArray
structure Token where
  Kind : Int
  Text : ByteArray
  N : Int
  At : Int
structure Reader where
  T : List Token
  At : Int
  Fail : Bool
  Bad : Int

def eAct (x : Act) : V := .agg [.p (.int .i64 x.What), .p (.int .i64 x.A), .p (.int .i64 x.B), .p (.int .i64 x.N), .ps .opt (List.map e_i64 x.E)]
def eDecl (x : Decl) : V := .agg [.p (.int .i64 x.Kind), .p (.string x.Name), .p (.int .i64 x.N), .p (.complex .f64 x.At.re x.At.im)]
mutual
def rExpr : Expr → V
  | ⟨x0, x1, x2, x3⟩ => .agg [.p (.int .i64 x0), .p (.int .i64 x1), .p (.string x2), .ps .opt (lExpr x3)]
def lExpr : List Expr → List V
  | [] => []
  | e :: r => rExpr e :: lExpr r
end
def eExpr (x : Expr) : V := .agg [.p (.int .i64 x.Kind), .p (.int .i64 x.N), .p (.string x.Name), .ps .opt (lExpr x.Of)]
theorem rExpr_eq (x : Expr) : rExpr x = eExpr x := by cases x; rw [rExpr]; rfl
theorem lExpr_eq (l : List Expr) : lExpr l = l.map eExpr := by
  induction l with
  | nil => rw [lExpr]; rfl
  | cons a r ih => rw [lExpr, rExpr_eq, ih]; rfl
mutual
def rStmt : Stmt → V
  | ⟨x0, x1, x2, x3, x4, x5, x6, x7⟩ => .agg [.p (.int .i64 x0), .p (.string x1), .p (.string x2), .p (.int .i64 x3), .p (.int .i64 x4.Kind), .p (.int .i64 x4.N), .p (.string x4.Name), .ps .opt (lExpr x4.Of), .ps .opt (lStmt x5), .ps .opt (lStmt x6), .p (.complex .f64 x7.re x7.im)]
def lStmt : List Stmt → List V
  | [] => []
  | e :: r => rStmt e :: lStmt r
end
def eStmt (x : Stmt) : V := .agg [.p (.int .i64 x.Kind), .p (.string x.Name), .p (.string x.Other), .p (.int .i64 x.N), .p (.int .i64 x.E.Kind), .p (.int .i64 x.E.N), .p (.string x.E.Name), .ps .opt (lExpr x.E.Of), .ps .opt (lStmt x.Body), .ps .opt (lStmt x.Else), .p (.complex .f64 x.At.re x.At.im)]
theorem rStmt_eq (x : Stmt) : rStmt x = eStmt x := by cases x; rw [rStmt]; rfl
theorem lStmt_eq (l : List Stmt) : lStmt l = l.map eStmt := by
  induction l with
  | nil => rw [lStmt]; rfl
  | cons a r ih => rw [lStmt, rStmt_eq, ih]; rfl
def eProg (x : Prog) : V := .agg [.ps .opt (List.map eDecl x.Decls), .ps .opt (List.map (fun l => V.ps .opt (lStmt l)) x.Threads)]
def eArr2_string (x : Arr2_string) : V := .agg [.p (.string x.e0), .p (.string x.e1)]
def eToken (x : Token) : V := .agg [.p (.int .i64 x.Kind), .p (.string x.Text), .p (.int .i64 x.N), .p (.int .i64 x.At)]
def eReader (x : Reader) : V := .agg [.ps .opt (List.map eToken x.T), .p (.int .i64 x.At), .p (.bool x.Fail), .p (.int .i64 x.Bad)]

def tbl : List (Nat × TI) := [(3, ⟨1, 8, .int .i64, .p (.int .i64 0)⟩),
  (4, ⟨1, 1, .bool, .p (.bool false)⟩),
  (5, ⟨1, 1, .int .u8, .p (.int .u8 0)⟩),
  (9, ⟨1, 16, .string, .p (.string ByteArray.empty)⟩),
  (22, ⟨1, 24, .slice 114, .ps .nil []⟩),
  (23, ⟨1, 24, .slice 58, .ps .nil []⟩),
  (24, ⟨1, 24, .slice 32, .ps .nil []⟩),
  (26, ⟨2, 48, .struct #[⟨"Decls", 23, 0, false, "", "", 0⟩, ⟨"Threads", 24, 1, false, "", "", 24⟩], .agg [.ps .nil [], .ps .nil []]⟩),
  (30, ⟨1, 24, .slice 3, .ps .nil []⟩),
  (32, ⟨1, 24, .slice 38, .ps .nil []⟩),
  (33, ⟨1, 24, .slice 35, .ps .nil []⟩),
  (35, ⟨4, 56, .struct #[⟨"Kind", 3, 0, false, "", "", 0⟩, ⟨"N", 3, 1, false, "", "", 8⟩, ⟨"Name", 9, 2, false, "", "", 16⟩, ⟨"Of", 33, 3, false, "", "", 32⟩], .agg [.p (.int .i64 0), .p (.int .i64 0), .p (.string ByteArray.empty), .ps .nil []]⟩),
  (36, ⟨1, 16, .complex .f64, .p (.complex .f64 0 0)⟩),
  (38, ⟨11, 168, .struct #[⟨"Kind", 3, 0, false, "", "", 0⟩, ⟨"Name", 9, 1, false, "", "", 8⟩, ⟨"Other", 9, 2, false, "", "", 24⟩, ⟨"N", 3, 3, false, "", "", 40⟩, ⟨"E", 35, 4, false, "", "", 48⟩, ⟨"Body", 32, 8, false, "", "", 104⟩, ⟨"Else", 32, 9, false, "", "", 128⟩, ⟨"At", 36, 10, false, "", "", 152⟩], .agg [.p (.int .i64 0), .p (.string ByteArray.empty), .p (.string ByteArray.empty), .p (.int .i64 0), .p (.int .i64 0), .p (.int .i64 0), .p (.string ByteArray.empty), .ps .nil [], .ps .nil [], .ps .nil [], .p (.complex .f64 0 0)]⟩),
  (41, ⟨1, 8, .int .i64, .p (.int .i64 0)⟩),
  (58, ⟨4, 48, .struct #[⟨"Kind", 3, 0, false, "", "", 0⟩, ⟨"Name", 9, 1, false, "", "", 8⟩, ⟨"N", 3, 2, false, "", "", 24⟩, ⟨"At", 36, 3, false, "", "", 32⟩], .agg [.p (.int .i64 0), .p (.string ByteArray.empty), .p (.int .i64 0), .p (.complex .f64 0 0)]⟩),
  (62, ⟨1, 24, .slice 9, .ps .nil []⟩),
  (82, ⟨3, 72, .array 3 22, .agg [.ps .nil [], .ps .nil [], .ps .nil []]⟩),
  (97, ⟨7, 112, .array 7 9, .agg [.p (.string ByteArray.empty), .p (.string ByteArray.empty), .p (.string ByteArray.empty), .p (.string ByteArray.empty), .p (.string ByteArray.empty), .p (.string ByteArray.empty), .p (.string ByteArray.empty)]⟩),
  (106, ⟨6, 96, .array 6 9, .agg [.p (.string ByteArray.empty), .p (.string ByteArray.empty), .p (.string ByteArray.empty), .p (.string ByteArray.empty), .p (.string ByteArray.empty), .p (.string ByteArray.empty)]⟩),
  (114, ⟨5, 56, .struct #[⟨"What", 3, 0, false, "", "", 0⟩, ⟨"A", 3, 1, false, "", "", 8⟩, ⟨"B", 3, 2, false, "", "", 16⟩, ⟨"N", 3, 3, false, "", "", 24⟩, ⟨"E", 30, 4, false, "", "", 32⟩], .agg [.p (.int .i64 0), .p (.int .i64 0), .p (.int .i64 0), .p (.int .i64 0), .ps .nil []]⟩),
  (116, ⟨2, 32, .array 2 9, .agg [.p (.string ByteArray.empty), .p (.string ByteArray.empty)]⟩),
  (117, ⟨1, 24, .slice 124, .ps .nil []⟩),
  (120, ⟨1, 8, .pointer 122, .p (.pointer none)⟩),
  (122, ⟨4, 48, .struct #[⟨"T", 117, 0, false, "", "", 0⟩, ⟨"At", 3, 1, false, "", "", 24⟩, ⟨"Fail", 4, 2, false, "", "", 32⟩, ⟨"Bad", 3, 3, false, "", "", 40⟩], .agg [.ps .nil [], .p (.int .i64 0), .p (.bool false), .p (.int .i64 0)]⟩),
  (124, ⟨4, 40, .struct #[⟨"Kind", 3, 0, false, "", "", 0⟩, ⟨"Text", 9, 1, false, "", "", 8⟩, ⟨"N", 3, 2, false, "", "", 24⟩, ⟨"At", 3, 3, false, "", "", 32⟩], .agg [.p (.int .i64 0), .p (.string ByteArray.empty), .p (.int .i64 0), .p (.int .i64 0)]⟩),
  (133, ⟨8, 128, .array 8 9, .agg [.p (.string ByteArray.empty), .p (.string ByteArray.empty), .p (.string ByteArray.empty), .p (.string ByteArray.empty), .p (.string ByteArray.empty), .p (.string ByteArray.empty), .p (.string ByteArray.empty), .p (.string ByteArray.empty)]⟩),
  (135, ⟨1, 24, .slice 5, .ps .nil []⟩),
  (164, ⟨17, 272, .array 17 9, .agg [.p (.string ByteArray.empty), .p (.string ByteArray.empty), .p (.string ByteArray.empty), .p (.string ByteArray.empty), .p (.string ByteArray.empty), .p (.string ByteArray.empty), .p (.string ByteArray.empty), .p (.string ByteArray.empty), .p (.string ByteArray.empty), .p (.string ByteArray.empty), .p (.string ByteArray.empty), .p (.string ByteArray.empty), .p (.string ByteArray.empty), .p (.string ByteArray.empty), .p (.string ByteArray.empty), .p (.string ByteArray.empty), .p (.string ByteArray.empty)]⟩)]
def tb : TypeId → Option TI := lookT tbl
theorem rows : rowsOk Try.prog tbl := ⟨by kernel_rfl, by kernel_rfl, by kernel_rfl, by kernel_rfl, by kernel_rfl, by kernel_rfl, by kernel_rfl, by kernel_rfl, by kernel_rfl, by kernel_rfl, by kernel_rfl, by kernel_rfl, by kernel_rfl, by kernel_rfl, by kernel_rfl, by kernel_rfl, by kernel_rfl, by kernel_rfl, by kernel_rfl, by kernel_rfl, by kernel_rfl, by kernel_rfl, by kernel_rfl, by kernel_rfl, by kernel_rfl, by kernel_rfl, by kernel_rfl, by kernel_rfl, by kernel_rfl, trivial⟩
theorem hT : TabOk Try.prog tb := tab_ok rows (by kernel_rfl)
theorem hM : Try.prog.follows .mixedOrders = true := Checked.mixed Try.checked
def el_Act (l : List Act) : V := .ps .opt (List.map eAct l)
def el_Decl (l : List Decl) : V := .ps .opt (List.map eDecl l)
def el_LStmt (l : List (List Stmt)) : V := .ps .opt (List.map (fun l => V.ps .opt (lStmt l)) l)
def el_int (l : List Int) : V := .ps .opt (List.map e_i64 l)
def el_Stmt (l : List Stmt) : V := .ps .opt (lStmt l)
def el_Expr (l : List Expr) : V := .ps .opt (lExpr l)
def el_string (l : List ByteArray) : V := .ps .opt (List.map e_s l)
def el_Token (l : List Token) : V := .ps .opt (List.map eToken l)
def el_uint8 (l : List Int) : V := .ps .opt (List.map e_u8 l)
def s_Act : SE tb Act := { f := eAct, F := List.map eAct, hF := fun _ => rfl, sz := 5, hs := fun _ => rfl, h1 := fun _ => rfl, t := 22, e := 114, i0 := ⟨1, 24, .slice 114, .ps .nil []⟩, i1 := ⟨5, 56, .struct #[⟨"What", 3, 0, false, "", "", 0⟩, ⟨"A", 3, 1, false, "", "", 8⟩, ⟨"B", 3, 2, false, "", "", 16⟩, ⟨"N", 3, 3, false, "", "", 24⟩, ⟨"E", 30, 4, false, "", "", 32⟩], .agg [.p (.int .i64 0), .p (.int .i64 0), .p (.int .i64 0), .p (.int .i64 0), .ps .nil []]⟩, ht := by kernel_rfl, hd := rfl, he := by kernel_rfl, hz := rfl, hp := by decide, hb := by decide }
def s_Decl : SE tb Decl := { f := eDecl, F := List.map eDecl, hF := fun _ => rfl, sz := 4, hs := fun _ => rfl, h1 := fun _ => rfl, t := 23, e := 58, i0 := ⟨1, 24, .slice 58, .ps .nil []⟩, i1 := ⟨4, 48, .struct #[⟨"Kind", 3, 0, false, "", "", 0⟩, ⟨"Name", 9, 1, false, "", "", 8⟩, ⟨"N", 3, 2, false, "", "", 24⟩, ⟨"At", 36, 3, false, "", "", 32⟩], .agg [.p (.int .i64 0), .p (.string ByteArray.empty), .p (.int .i64 0), .p (.complex .f64 0 0)]⟩, ht := by kernel_rfl, hd := rfl, he := by kernel_rfl, hz := rfl, hp := by decide, hb := by decide }
def s_LStmt : SE tb (List Stmt) := { f := el_Stmt, F := List.map el_Stmt, hF := fun _ => rfl, sz := 1, hs := fun _ => rfl, h1 := fun _ => rfl, t := 24, e := 32, i0 := ⟨1, 24, .slice 32, .ps .nil []⟩, i1 := ⟨1, 24, .slice 38, .ps .nil []⟩, ht := by kernel_rfl, hd := rfl, he := by kernel_rfl, hz := rfl, hp := by decide, hb := by decide }
def s_int : SE tb Int := { f := e_i64, F := List.map e_i64, hF := fun _ => rfl, sz := 1, hs := fun _ => rfl, h1 := fun _ => rfl, t := 30, e := 3, i0 := ⟨1, 24, .slice 3, .ps .nil []⟩, i1 := ⟨1, 8, .int .i64, .p (.int .i64 0)⟩, ht := by kernel_rfl, hd := rfl, he := by kernel_rfl, hz := rfl, hp := by decide, hb := by decide }
def s_Stmt : SE tb Stmt := { f := eStmt, F := lStmt, hF := lStmt_eq, sz := 11, hs := fun _ => rfl, h1 := fun _ => rfl, t := 32, e := 38, i0 := ⟨1, 24, .slice 38, .ps .nil []⟩, i1 := ⟨11, 168, .struct #[⟨"Kind", 3, 0, false, "", "", 0⟩, ⟨"Name", 9, 1, false, "", "", 8⟩, ⟨"Other", 9, 2, false, "", "", 24⟩, ⟨"N", 3, 3, false, "", "", 40⟩, ⟨"E", 35, 4, false, "", "", 48⟩, ⟨"Body", 32, 8, false, "", "", 104⟩, ⟨"Else", 32, 9, false, "", "", 128⟩, ⟨"At", 36, 10, false, "", "", 152⟩], .agg [.p (.int .i64 0), .p (.string ByteArray.empty), .p (.string ByteArray.empty), .p (.int .i64 0), .p (.int .i64 0), .p (.int .i64 0), .p (.string ByteArray.empty), .ps .nil [], .ps .nil [], .ps .nil [], .p (.complex .f64 0 0)]⟩, ht := by kernel_rfl, hd := rfl, he := by kernel_rfl, hz := rfl, hp := by decide, hb := by decide }
def s_Expr : SE tb Expr := { f := eExpr, F := lExpr, hF := lExpr_eq, sz := 4, hs := fun _ => rfl, h1 := fun _ => rfl, t := 33, e := 35, i0 := ⟨1, 24, .slice 35, .ps .nil []⟩, i1 := ⟨4, 56, .struct #[⟨"Kind", 3, 0, false, "", "", 0⟩, ⟨"N", 3, 1, false, "", "", 8⟩, ⟨"Name", 9, 2, false, "", "", 16⟩, ⟨"Of", 33, 3, false, "", "", 32⟩], .agg [.p (.int .i64 0), .p (.int .i64 0), .p (.string ByteArray.empty), .ps .nil []]⟩, ht := by kernel_rfl, hd := rfl, he := by kernel_rfl, hz := rfl, hp := by decide, hb := by decide }
def s_string : SE tb ByteArray := { f := e_s, F := List.map e_s, hF := fun _ => rfl, sz := 1, hs := fun _ => rfl, h1 := fun _ => rfl, t := 62, e := 9, i0 := ⟨1, 24, .slice 9, .ps .nil []⟩, i1 := ⟨1, 16, .string, .p (.string ByteArray.empty)⟩, ht := by kernel_rfl, hd := rfl, he := by kernel_rfl, hz := rfl, hp := by decide, hb := by decide }
def s_Token : SE tb Token := { f := eToken, F := List.map eToken, hF := fun _ => rfl, sz := 4, hs := fun _ => rfl, h1 := fun _ => rfl, t := 117, e := 124, i0 := ⟨1, 24, .slice 124, .ps .nil []⟩, i1 := ⟨4, 40, .struct #[⟨"Kind", 3, 0, false, "", "", 0⟩, ⟨"Text", 9, 1, false, "", "", 8⟩, ⟨"N", 3, 2, false, "", "", 24⟩, ⟨"At", 3, 3, false, "", "", 32⟩], .agg [.p (.int .i64 0), .p (.string ByteArray.empty), .p (.int .i64 0), .p (.int .i64 0)]⟩, ht := by kernel_rfl, hd := rfl, he := by kernel_rfl, hz := rfl, hp := by decide, hb := by decide }
def s_uint8 : SE tb Int := { f := e_u8, F := List.map e_u8, hF := fun _ => rfl, sz := 1, hs := fun _ => rfl, h1 := fun _ => rfl, t := 135, e := 5, i0 := ⟨1, 24, .slice 5, .ps .nil []⟩, i1 := ⟨1, 1, .int .u8, .p (.int .u8 0)⟩, ht := by kernel_rfl, hd := rfl, he := by kernel_rfl, hz := rfl, hp := by decide, hb := by decide }

theorem en15 : Enters Try.prog 15 := enters Try.f15 Try.func15 rfl (by kernel_rfl)
theorem en17 : Enters Try.prog 17 := enters Try.f17 Try.func17 rfl (by kernel_rfl)
theorem en24 : Enters Try.prog 24 := enters Try.f24 Try.func24 rfl (by kernel_rfl)
theorem en26 : Enters Try.prog 26 := enters Try.f26 Try.func26 rfl (by kernel_rfl)
theorem en27 : Enters Try.prog 27 := enters Try.f27 Try.func27 rfl (by kernel_rfl)
theorem en28 : Enters Try.prog 28 := enters Try.f28 Try.func28 rfl (by kernel_rfl)
theorem en29 : Enters Try.prog 29 := enters Try.f29 Try.func29 rfl (by kernel_rfl)
theorem en30 : Enters Try.prog 30 := enters Try.f30 Try.func30 rfl (by kernel_rfl)
theorem en31 : Enters Try.prog 31 := enters Try.f31 Try.func31 rfl (by kernel_rfl)
theorem en32 : Enters Try.prog 32 := enters Try.f32 Try.func32 rfl (by kernel_rfl)
theorem en33 : Enters Try.prog 33 := enters Try.f33 Try.func33 rfl (by kernel_rfl)
theorem en60 : Enters Try.prog 60 := enters Try.f60 Try.func60 rfl (by kernel_rfl)
theorem en61 : Enters Try.prog 61 := enters Try.f61 Try.func61 rfl (by kernel_rfl)
theorem en62 : Enters Try.prog 62 := enters Try.f62 Try.func62 rfl (by kernel_rfl)
theorem en65 : Enters Try.prog 65 := enters Try.f65 Try.func65 rfl (by kernel_rfl)
theorem en67 : Enters Try.prog 67 := enters Try.f67 Try.func67 rfl (by kernel_rfl)
theorem en70 : Enters Try.prog 70 := enters Try.f70 Try.func70 rfl (by kernel_rfl)
theorem en71 : Enters Try.prog 71 := enters Try.f71 Try.func71 rfl (by kernel_rfl)
theorem en72 : Enters Try.prog 72 := enters Try.f72 Try.func72 rfl (by kernel_rfl)
theorem en73 : Enters Try.prog 73 := enters Try.f73 Try.func73 rfl (by kernel_rfl)
theorem en74 : Enters Try.prog 74 := enters Try.f74 Try.func74 rfl (by kernel_rfl)
theorem en75 : Enters Try.prog 75 := enters Try.f75 Try.func75 rfl (by kernel_rfl)
theorem en76 : Enters Try.prog 76 := enters Try.f76 Try.func76 rfl (by kernel_rfl)
theorem en99 : Enters Try.prog 99 := enters Try.f99 Try.func99 rfl (by kernel_rfl)
theorem en101 : Enters Try.prog 101 := enters Try.f101 Try.func101 rfl (by kernel_rfl)
theorem en102 : Enters Try.prog 102 := enters Try.f102 Try.func102 rfl (by kernel_rfl)
theorem en103 : Enters Try.prog 103 := enters Try.f103 Try.func103 rfl (by kernel_rfl)
theorem en104 : Enters Try.prog 104 := enters Try.f104 Try.func104 rfl (by kernel_rfl)
theorem en105 : Enters Try.prog 105 := enters Try.f105 Try.func105 rfl (by kernel_rfl)
theorem en106 : Enters Try.prog 106 := enters Try.f106 Try.func106 rfl (by kernel_rfl)
theorem en107 : Enters Try.prog 107 := enters Try.f107 Try.func107 rfl (by kernel_rfl)
theorem en109 : Enters Try.prog 109 := enters Try.f109 Try.func109 rfl (by kernel_rfl)
theorem en110 : Enters Try.prog 110 := enters Try.f110 Try.func110 rfl (by kernel_rfl)
theorem en111 : Enters Try.prog 111 := enters Try.f111 Try.func111 rfl (by kernel_rfl)
theorem en112 : Enters Try.prog 112 := enters Try.f112 Try.func112 rfl (by kernel_rfl)
theorem en113 : Enters Try.prog 113 := enters Try.f113 Try.func113 rfl (by kernel_rfl)
theorem en114 : Enters Try.prog 114 := enters Try.f114 Try.func114 rfl (by kernel_rfl)
theorem en115 : Enters Try.prog 115 := enters Try.f115 Try.func115 rfl (by kernel_rfl)
theorem en116 : Enters Try.prog 116 := enters Try.f116 Try.func116 rfl (by kernel_rfl)
theorem en124 : Enters Try.prog 124 := enters Try.f124 Try.func124 rfl (by kernel_rfl)
theorem en129 : Enters Try.prog 129 := enters Try.f129 Try.func129 rfl (by kernel_rfl)
theorem en130 : Enters Try.prog 130 := enters Try.f130 Try.func130 rfl (by kernel_rfl)
theorem en131 : Enters Try.prog 131 := enters Try.f131 Try.func131 rfl (by kernel_rfl)
theorem en132 : Enters Try.prog 132 := enters Try.f132 Try.func132 rfl (by kernel_rfl)
theorem en133 : Enters Try.prog 133 := enters Try.f133 Try.func133 rfl (by kernel_rfl)
theorem en134 : Enters Try.prog 134 := enters Try.f134 Try.func134 rfl (by kernel_rfl)
theorem en136 : Enters Try.prog 136 := enters Try.f136 Try.func136 rfl (by kernel_rfl)
theorem en137 : Enters Try.prog 137 := enters Try.f137 Try.func137 rfl (by kernel_rfl)
theorem en138 : Enters Try.prog 138 := enters Try.f138 Try.func138 rfl (by kernel_rfl)
theorem en139 : Enters Try.prog 139 := enters Try.f139 Try.func139 rfl (by kernel_rfl)
theorem en140 : Enters Try.prog 140 := enters Try.f140 Try.func140 rfl (by kernel_rfl)
theorem en141 : Enters Try.prog 141 := enters Try.f141 Try.func141 rfl (by kernel_rfl)
theorem en146 : Enters Try.prog 146 := enters Try.f146 Try.func146 rfl (by kernel_rfl)
theorem en148 : Enters Try.prog 148 := enters Try.f148 Try.func148 rfl (by kernel_rfl)
theorem en149 : Enters Try.prog 149 := enters Try.f149 Try.func149 rfl (by kernel_rfl)
theorem en150 : Enters Try.prog 150 := enters Try.f150 Try.func150 rfl (by kernel_rfl)
theorem en151 : Enters Try.prog 151 := enters Try.f151 Try.func151 rfl (by kernel_rfl)
theorem en154 : Enters Try.prog 154 := enters Try.f154 Try.func154 rfl (by kernel_rfl)
theorem en155 : Enters Try.prog 155 := enters Try.f155 Try.func155 rfl (by kernel_rfl)
theorem en158 : Enters Try.prog 158 := enters Try.f158 Try.func158 rfl (by kernel_rfl)
theorem en159 : Enters Try.prog 159 := enters Try.f159 Try.func159 rfl (by kernel_rfl)
theorem en160 : Enters Try.prog 160 := enters Try.f160 Try.func160 rfl (by kernel_rfl)
theorem en161 : Enters Try.prog 161 := enters Try.f161 Try.func161 rfl (by kernel_rfl)
theorem en162 : Enters Try.prog 162 := enters Try.f162 Try.func162 rfl (by kernel_rfl)

abbrev k_x : ByteArray := ⟨#[120]⟩
abbrev k_y : ByteArray := ⟨#[121]⟩
abbrev k_z : ByteArray := ⟨#[122]⟩
abbrev k_a : ByteArray := ⟨#[97]⟩
abbrev k_t : ByteArray := ⟨#[116]⟩
abbrev k_m : ByteArray := ⟨#[109]⟩
abbrev k_c : ByteArray := ⟨#[99]⟩
abbrev k_d : ByteArray := ⟨#[100]⟩
abbrev k_l : ByteArray := ⟨#[108]⟩
abbrev k_k : ByteArray := ⟨#[107]⟩
abbrev x_3f : ByteArray := ⟨#[63]⟩
abbrev k_var : ByteArray := ⟨#[118, 97, 114]⟩
abbrev k_wide : ByteArray := ⟨#[119, 105, 100, 101]⟩
abbrev k_atomic : ByteArray := ⟨#[97, 116, 111, 109, 105, 99]⟩
abbrev k_local : ByteArray := ⟨#[108, 111, 99, 97, 108]⟩
abbrev k_mutex : ByteArray := ⟨#[109, 117, 116, 101, 120]⟩
abbrev k_chan : ByteArray := ⟨#[99, 104, 97, 110]⟩
abbrev x_20 : ByteArray := ⟨#[32]⟩
abbrev x_0a : ByteArray := ⟨#[10]⟩
abbrev x_676f207b0a : ByteArray := ⟨#[103, 111, 32, 123, 10]⟩
abbrev x_09 : ByteArray := ⟨#[9]⟩
abbrev x_203d20 : ByteArray := ⟨#[32, 61, 32]⟩
abbrev x_28 : ByteArray := ⟨#[40]⟩
abbrev x_29 : ByteArray := ⟨#[41]⟩
abbrev x_2d : ByteArray := ⟨#[45]⟩
abbrev x_2b : ByteArray := ⟨#[43]⟩
abbrev x_2a : ByteArray := ⟨#[42]⟩
abbrev x_2f : ByteArray := ⟨#[47]⟩
abbrev x_25 : ByteArray := ⟨#[37]⟩
abbrev x_3c : ByteArray := ⟨#[60]⟩
abbrev x_3d3d : ByteArray := ⟨#[61, 61]⟩
abbrev x_6c6f636b20 : ByteArray := ⟨#[108, 111, 99, 107, 32]⟩
abbrev x_756e6c6f636b20 : ByteArray := ⟨#[117, 110, 108, 111, 99, 107, 32]⟩
abbrev x_73656e6420 : ByteArray := ⟨#[115, 101, 110, 100, 32]⟩
abbrev x_7265637620 : ByteArray := ⟨#[114, 101, 99, 118, 32]⟩
abbrev x_7072696e7420 : ByteArray := ⟨#[112, 114, 105, 110, 116, 32]⟩
abbrev x_676f746f20 : ByteArray := ⟨#[103, 111, 116, 111, 32]⟩
abbrev x_6c6162656c20 : ByteArray := ⟨#[108, 97, 98, 101, 108, 32]⟩
abbrev x_696620 : ByteArray := ⟨#[105, 102, 32]⟩
abbrev x_207b0a : ByteArray := ⟨#[32, 123, 10]⟩
abbrev x_7d : ByteArray := ⟨#[125]⟩
abbrev x_20656c7365207b0a : ByteArray := ⟨#[32, 101, 108, 115, 101, 32, 123, 10]⟩
abbrev x_72657065617420 : ByteArray := ⟨#[114, 101, 112, 101, 97, 116, 32]⟩
abbrev x_7d0a : ByteArray := ⟨#[125, 10]⟩
abbrev x_30 : ByteArray := ⟨#[48]⟩
abbrev x_3d3c2b2d2a2f2528297b7d : ByteArray := ⟨#[61, 60, 43, 45, 42, 47, 37, 40, 41, 123, 125]⟩
abbrev k_go : ByteArray := ⟨#[103, 111]⟩
abbrev k_lock : ByteArray := ⟨#[108, 111, 99, 107]⟩
abbrev k_unlock : ByteArray := ⟨#[117, 110, 108, 111, 99, 107]⟩
abbrev k_send : ByteArray := ⟨#[115, 101, 110, 100]⟩
abbrev k_recv : ByteArray := ⟨#[114, 101, 99, 118]⟩
abbrev k_print : ByteArray := ⟨#[112, 114, 105, 110, 116]⟩
abbrev k_if : ByteArray := ⟨#[105, 102]⟩
abbrev k_else : ByteArray := ⟨#[101, 108, 115, 101]⟩
abbrev k_repeat : ByteArray := ⟨#[114, 101, 112, 101, 97, 116]⟩
abbrev k_goto : ByteArray := ⟨#[103, 111, 116, 111]⟩
abbrev k_label : ByteArray := ⟨#[108, 97, 98, 101, 108]⟩
abbrev x_7b : ByteArray := ⟨#[123]⟩
abbrev x_3d : ByteArray := ⟨#[61]⟩
abbrev k_other : ByteArray := ⟨#[111, 116, 104, 101, 114]⟩
abbrev x_676f7b783d317d : ByteArray := ⟨#[103, 111, 123, 120, 61, 49, 125]⟩
abbrev tx61 : ByteArray := ⟨#[118, 97, 114, 32, 120, 32, 103, 111, 123, 120, 61, 49, 125]⟩

end Go.Su.Ytfmgnboplbgniaa
