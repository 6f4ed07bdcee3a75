/-
  The kinds of values of the program, and how they stand in the machine.
-/
import Derived.Test.YtfmgnboplbgniaaDx16
import Derived.Test.YtfmgnboplbgniaaChecked
namespace Go.Su.Ytfmgnboplbgniaa
open Go.Mx Go.Proofs
set_option maxRecDepth 100000
set_option maxHeartbeats 20000000
set_option linter.unusedVariables false
set_option linter.unusedSimpArgs false

structure Act where
  What : Int
  A : Int
  B : Int
  N : Int
  E : List Int
structure Decl where
  Kind : Int
  Name : ByteArray
  N : Int
  At : Cx
structure Expr where
  Kind : Int
  N : Int
  Name : ByteArray
  Of : List Expr
structure Stmt where
  Kind : Int
  Name : ByteArray
  Other : ByteArray
  N : Int
  E : Expr
  Body : List Stmt
  Else : List Stmt
  At : Cx
structure Prog where
  Decls : List Decl
  Threads : List (List Stmt)
structure Arr2_string where
  e0 : ByteArray
  e1 : ByteArray
structure Token where
  Kind : Int
  Text : ByteArray
  N : Int
  At : Int
structure Reader where
  T : List Token
  At : Int
  Fail : Bool
  Bad : Int

def eAct (x : Act) : V := .agg [.p (.int .i64 x.What), .p (.int .i64 x.A), .p (.int .i64 x.B), .p (.int .i64 x.N), .ps .opt (List.map e_i64 x.E)]
def eDecl (x : Decl) : V := .agg [.p (.int .i64 x.Kind), .p (.string x.Name), .p (.int .i64 x.N), .p (.complex .f64 x.At.re x.At.im)]
mutual
def rExpr : Expr → V
  | ⟨x0, x1, x2, x3⟩ => .agg [.p (.int .i64 x0), .p (.int .i64 x1), .p (.string x2), .ps .opt (lExpr x3)]
def lExpr : List Expr → List V
  | [] => []
  | e :: r => rExpr e :: lExpr r
end
def eExpr (x : Expr) : V := .agg [.p (.int .i64 x.Kind), .p (.int .i64 x.N), .p (.string x.Name), .ps .opt (lExpr x.Of)]
theorem rExpr_eq (x : Expr) : rExpr x = eExpr x := by cases x; rw [rExpr]; rfl
theorem lExpr_eq (l : List Expr) : lExpr l = l.map eExpr := by
  induction l with
  | nil => rw [lExpr]; rfl
  | cons a r ih => rw [lExpr, rExpr_eq, ih]; rfl
mutual
def rStmt : Stmt → V
  | ⟨x0, x1, x2, x3, x4, x5, x6, x7⟩ => .agg [.p (.int .i64 x0), .p (.string x1), .p (.string x2), .p (.int .i64 x3), .p (.int .i64 x4.Kind), .p (.int .i64 x4.N), .p (.string x4.Name), .ps .opt (lExpr x4.Of), .ps .opt (lStmt x5), .ps .opt (lStmt x6), .p (.complex .f64 x7.re x7.im)]
def lStmt : List Stmt → List V
  | [] => []
  | e :: r => rStmt e :: lStmt r
end
def eStmt (x : Stmt) : V := .agg [.p (.int .i64 x.Kind), .p (.string x.Name), .p (.string x.Other), .p (.int .i64 x.N), .p (.int .i64 x.E.Kind), .p (.int .i64 x.E.N), .p (.string x.E.Name), .ps .opt (lExpr x.E.Of), .ps .opt (lStmt x.Body), .ps .opt (lStmt x.Else), .p (.complex .f64 x.At.re x.At.im)]
theorem rStmt_eq (x : Stmt) : rStmt x = eStmt x := by cases x; rw [rStmt]; rfl
theorem lStmt_eq (l : List Stmt) : lStmt l = l.map eStmt := by
  induction l with
  | nil => rw [lStmt]; rfl
  | cons a r ih => rw [lStmt, rStmt_eq, ih]; rfl
def eProg (x : Prog) : V := .agg [.ps .opt (List.map eDecl x.Decls), .ps .opt (List.map (fun l => V.ps .opt (lStmt l)) x.Threads)]
def eArr2_string (x : Arr2_string) : V := .agg [.p (.string x.e0), .p (.string x.e1)]
def eToken (x : Token) : V := .agg [.p (.int .i64 x.Kind), .p (.string x.Text), .p (.int .i64 x.N), .p (.int .i64 x.At)]
def eReader (x : Reader) : V := .agg [.ps .opt (List.map eToken x.T), .p (.int .i64 x.At), .p (.bool x.Fail), .p (.int .i64 x.Bad)]

def tbl : List (Nat × TI) := [(3, ⟨1, 8, .int .i64, .p (.int .i64 0)⟩),
  (4, ⟨1, 1, .bool, .p (.bool false)⟩),
  (5, ⟨1, 1, .int .u8, .p (.int .u8 0)⟩),
  (9, ⟨1, 16, .string, .p (.string ByteArray.empty)⟩),
  (22, ⟨1, 24, .slice 114, .ps .nil []⟩),
  (23, ⟨1, 24, .slice 58, .ps .nil []⟩),
  (24, ⟨1, 24, .slice 32, .ps .nil []⟩),
  (26, ⟨2, 48, .struct #[⟨"Decls", 23, 0, false, "", "", 0⟩, ⟨"Threads", 24, 1, false, "", "", 24⟩], .agg [.ps .nil [], .ps .nil []]⟩),
  (30, ⟨1, 24, .slice 3, .ps .nil []⟩),
  (32, ⟨1, 24, .slice 38, .ps .nil []⟩),
  (33, ⟨1, 24, .slice 35, .ps .nil []⟩),
  (35, ⟨4, 56, .struct #[⟨"Kind", 3, 0, false, "", "", 0⟩, ⟨"N", 3, 1, false, "", "", 8⟩, ⟨"Name", 9, 2, false, "", "", 16⟩, ⟨"Of", 33, 3, false, "", "", 32⟩], .agg [.p (.int .i64 0), .p (.int .i64 0), .p (.string ByteArray.empty), .ps .nil []]⟩),
  (36, ⟨1, 16, .complex .f64, .p (.complex .f64 0 0)⟩),
  (38, ⟨11, 168, .struct #[⟨"Kind", 3, 0, false, "", "", 0⟩, ⟨"Name", 9, 1, false, "", "", 8⟩, ⟨"Other", 9, 2, false, "", "", 24⟩, ⟨"N", 3, 3, false, "", "", 40⟩, ⟨"E", 35, 4, false, "", "", 48⟩, ⟨"Body", 32, 8, false, "", "", 104⟩, ⟨"Else", 32, 9, false, "", "", 128⟩, ⟨"At", 36, 10, false, "", "", 152⟩], .agg [.p (.int .i64 0), .p (.string ByteArray.empty), .p (.string ByteArray.empty), .p (.int .i64 0), .p (.int .i64 0), .p (.int .i64 0), .p (.string ByteArray.empty), .ps .nil [], .ps .nil [], .ps .nil [], .p (.complex .f64 0 0)]⟩),
  (41, ⟨1, 8, .int .i64, .p (.int .i64 0)⟩),
  (58, ⟨4, 48, .struct #[⟨"Kind", 3, 0, false, "", "", 0⟩, ⟨"Name", 9, 1, false, "", "", 8⟩, ⟨"N", 3, 2, false, "", "", 24⟩, ⟨"At", 36, 3, false, "", "", 32⟩], .agg [.p (.int .i64 0), .p (.string ByteArray.empty), .p (.int .i64 0), .p (.complex .f64 0 0)]⟩),
  (64, ⟨1, 8, .int .u64, .p (.int .u64 0)⟩),
  (82, ⟨3, 72, .array 3 22, .agg [.ps .nil [], .ps .nil [], .ps .nil []]⟩),
  (106, ⟨6, 96, .array 6 9, .agg [.p (.string ByteArray.empty), .p (.string ByteArray.empty), .p (.string ByteArray.empty), .p (.string ByteArray.empty), .p (.string ByteArray.empty), .p (.string ByteArray.empty)]⟩),
  (114, ⟨5, 56, .struct #[⟨"What", 3, 0, false, "", "", 0⟩, ⟨"A", 3, 1, false, "", "", 8⟩, ⟨"B", 3, 2, false, "", "", 16⟩, ⟨"N", 3, 3, false, "", "", 24⟩, ⟨"E", 30, 4, false, "", "", 32⟩], .agg [.p (.int .i64 0), .p (.int .i64 0), .p (.int .i64 0), .p (.int .i64 0), .ps .nil []]⟩),
  (116, ⟨2, 32, .array 2 9, .agg [.p (.string ByteArray.empty), .p (.string ByteArray.empty)]⟩),
  (117, ⟨1, 24, .slice 124, .ps .nil []⟩),
  (120, ⟨1, 8, .pointer 122, .p (.pointer none)⟩),
  (122, ⟨4, 48, .struct #[⟨"T", 117, 0, false, "", "", 0⟩, ⟨"At", 3, 1, false, "", "", 24⟩, ⟨"Fail", 4, 2, false, "", "", 32⟩, ⟨"Bad", 3, 3, false, "", "", 40⟩], .agg [.ps .nil [], .p (.int .i64 0), .p (.bool false), .p (.int .i64 0)]⟩),
  (124, ⟨4, 40, .struct #[⟨"Kind", 3, 0, false, "", "", 0⟩, ⟨"Text", 9, 1, false, "", "", 8⟩, ⟨"N", 3, 2, false, "", "", 24⟩, ⟨"At", 3, 3, false, "", "", 32⟩], .agg [.p (.int .i64 0), .p (.string ByteArray.empty), .p (.int .i64 0), .p (.int .i64 0)]⟩),
  (133, ⟨8, 128, .array 8 9, .agg [.p (.string ByteArray.empty), .p (.string ByteArray.empty), .p (.string ByteArray.empty), .p (.string ByteArray.empty), .p (.string ByteArray.empty), .p (.string ByteArray.empty), .p (.string ByteArray.empty), .p (.string ByteArray.empty)]⟩),
  (164, ⟨17, 272, .array 17 9, .agg [.p (.string ByteArray.empty), .p (.string ByteArray.empty), .p (.string ByteArray.empty), .p (.string ByteArray.empty), .p (.string ByteArray.empty), .p (.string ByteArray.empty), .p (.string ByteArray.empty), .p (.string ByteArray.empty), .p (.string ByteArray.empty), .p (.string ByteArray.empty), .p (.string ByteArray.empty), .p (.string ByteArray.empty), .p (.string ByteArray.empty), .p (.string ByteArray.empty), .p (.string ByteArray.empty), .p (.string ByteArray.empty), .p (.string ByteArray.empty)]⟩),
  (169, ⟨1, 8, .int .u64, .p (.int .u64 0)⟩)]
def tb : TypeId → Option TI := lookT tbl
theorem rows : rowsOk Try.prog tbl := ⟨by kernel_rfl, by kernel_rfl, by kernel_rfl, by kernel_rfl, by kernel_rfl, by kernel_rfl, by kernel_rfl, by kernel_rfl, by kernel_rfl, by kernel_rfl, by kernel_rfl, by kernel_rfl, by kernel_rfl, by kernel_rfl, by kernel_rfl, by kernel_rfl, by kernel_rfl, by kernel_rfl, by kernel_rfl, by kernel_rfl, by kernel_rfl, by kernel_rfl, by kernel_rfl, by kernel_rfl, by kernel_rfl, by kernel_rfl, by kernel_rfl, by kernel_rfl, trivial⟩
theorem hT : TabOk Try.prog tb := tab_ok rows (by kernel_rfl)
theorem hM : Try.prog.follows .mixedOrders = true := Checked.mixed Try.checked
def el22 (l : List Act) : V := .ps .opt (List.map eAct l)
def el23 (l : List Decl) : V := .ps .opt (List.map eDecl l)
def el24 (l : List (List Stmt)) : V := .ps .opt (List.map (fun l => V.ps .opt (lStmt l)) l)
def el30 (l : List Int) : V := .ps .opt (List.map e_i64 l)
def el32 (l : List Stmt) : V := .ps .opt (lStmt l)
def el33 (l : List Expr) : V := .ps .opt (lExpr l)
def el117 (l : List Token) : V := .ps .opt (List.map eToken l)
def s22 : SE tb Act := { f := eAct, F := List.map eAct, hF := fun _ => rfl, sz := 5, hs := fun _ => rfl, h1 := fun _ => rfl, t := 22, e := 114, i0 := ⟨1, 24, .slice 114, .ps .nil []⟩, i1 := ⟨5, 56, .struct #[⟨"What", 3, 0, false, "", "", 0⟩, ⟨"A", 3, 1, false, "", "", 8⟩, ⟨"B", 3, 2, false, "", "", 16⟩, ⟨"N", 3, 3, false, "", "", 24⟩, ⟨"E", 30, 4, false, "", "", 32⟩], .agg [.p (.int .i64 0), .p (.int .i64 0), .p (.int .i64 0), .p (.int .i64 0), .ps .nil []]⟩, ht := by kernel_rfl, hd := rfl, he := by kernel_rfl, hz := rfl, hp := by decide, hb := by decide }
def s23 : SE tb Decl := { f := eDecl, F := List.map eDecl, hF := fun _ => rfl, sz := 4, hs := fun _ => rfl, h1 := fun _ => rfl, t := 23, e := 58, i0 := ⟨1, 24, .slice 58, .ps .nil []⟩, i1 := ⟨4, 48, .struct #[⟨"Kind", 3, 0, false, "", "", 0⟩, ⟨"Name", 9, 1, false, "", "", 8⟩, ⟨"N", 3, 2, false, "", "", 24⟩, ⟨"At", 36, 3, false, "", "", 32⟩], .agg [.p (.int .i64 0), .p (.string ByteArray.empty), .p (.int .i64 0), .p (.complex .f64 0 0)]⟩, ht := by kernel_rfl, hd := rfl, he := by kernel_rfl, hz := rfl, hp := by decide, hb := by decide }
def s24 : SE tb (List Stmt) := { f := el32, F := List.map el32, hF := fun _ => rfl, sz := 1, hs := fun _ => rfl, h1 := fun _ => rfl, t := 24, e := 32, i0 := ⟨1, 24, .slice 32, .ps .nil []⟩, i1 := ⟨1, 24, .slice 38, .ps .nil []⟩, ht := by kernel_rfl, hd := rfl, he := by kernel_rfl, hz := rfl, hp := by decide, hb := by decide }
def s30 : SE tb Int := { f := e_i64, F := List.map e_i64, hF := fun _ => rfl, sz := 1, hs := fun _ => rfl, h1 := fun _ => rfl, t := 30, e := 3, i0 := ⟨1, 24, .slice 3, .ps .nil []⟩, i1 := ⟨1, 8, .int .i64, .p (.int .i64 0)⟩, ht := by kernel_rfl, hd := rfl, he := by kernel_rfl, hz := rfl, hp := by decide, hb := by decide }
def s32 : SE tb Stmt := { f := eStmt, F := lStmt, hF := lStmt_eq, sz := 11, hs := fun _ => rfl, h1 := fun _ => rfl, t := 32, e := 38, i0 := ⟨1, 24, .slice 38, .ps .nil []⟩, i1 := ⟨11, 168, .struct #[⟨"Kind", 3, 0, false, "", "", 0⟩, ⟨"Name", 9, 1, false, "", "", 8⟩, ⟨"Other", 9, 2, false, "", "", 24⟩, ⟨"N", 3, 3, false, "", "", 40⟩, ⟨"E", 35, 4, false, "", "", 48⟩, ⟨"Body", 32, 8, false, "", "", 104⟩, ⟨"Else", 32, 9, false, "", "", 128⟩, ⟨"At", 36, 10, false, "", "", 152⟩], .agg [.p (.int .i64 0), .p (.string ByteArray.empty), .p (.string ByteArray.empty), .p (.int .i64 0), .p (.int .i64 0), .p (.int .i64 0), .p (.string ByteArray.empty), .ps .nil [], .ps .nil [], .ps .nil [], .p (.complex .f64 0 0)]⟩, ht := by kernel_rfl, hd := rfl, he := by kernel_rfl, hz := rfl, hp := by decide, hb := by decide }
def s33 : SE tb Expr := { f := eExpr, F := lExpr, hF := lExpr_eq, sz := 4, hs := fun _ => rfl, h1 := fun _ => rfl, t := 33, e := 35, i0 := ⟨1, 24, .slice 35, .ps .nil []⟩, i1 := ⟨4, 56, .struct #[⟨"Kind", 3, 0, false, "", "", 0⟩, ⟨"N", 3, 1, false, "", "", 8⟩, ⟨"Name", 9, 2, false, "", "", 16⟩, ⟨"Of", 33, 3, false, "", "", 32⟩], .agg [.p (.int .i64 0), .p (.int .i64 0), .p (.string ByteArray.empty), .ps .nil []]⟩, ht := by kernel_rfl, hd := rfl, he := by kernel_rfl, hz := rfl, hp := by decide, hb := by decide }
def s117 : SE tb Token := { f := eToken, F := List.map eToken, hF := fun _ => rfl, sz := 4, hs := fun _ => rfl, h1 := fun _ => rfl, t := 117, e := 124, i0 := ⟨1, 24, .slice 124, .ps .nil []⟩, i1 := ⟨4, 40, .struct #[⟨"Kind", 3, 0, false, "", "", 0⟩, ⟨"Text", 9, 1, false, "", "", 8⟩, ⟨"N", 3, 2, false, "", "", 24⟩, ⟨"At", 3, 3, false, "", "", 32⟩], .agg [.p (.int .i64 0), .p (.string ByteArray.empty), .p (.int .i64 0), .p (.int .i64 0)]⟩, ht := by kernel_rfl, hd := rfl, he := by kernel_rfl, hz := rfl, hp := by decide, hb := by decide }

theorem en15 : Enters Try.prog 15 := enters Try.f15 Try.func15 rfl (by kernel_rfl)
theorem en16 : Enters Try.prog 16 := enters Try.f16 Try.func16 rfl (by kernel_rfl)
theorem en17 : Enters Try.prog 17 := enters Try.f17 Try.func17 rfl (by kernel_rfl)
theorem en18 : Enters Try.prog 18 := enters Try.f18 Try.func18 rfl (by kernel_rfl)
theorem en19 : Enters Try.prog 19 := enters Try.f19 Try.func19 rfl (by kernel_rfl)
theorem en20 : Enters Try.prog 20 := enters Try.f20 Try.func20 rfl (by kernel_rfl)
theorem en21 : Enters Try.prog 21 := enters Try.f21 Try.func21 rfl (by kernel_rfl)
theorem en22 : Enters Try.prog 22 := enters Try.f22 Try.func22 rfl (by kernel_rfl)
theorem en23 : Enters Try.prog 23 := enters Try.f23 Try.func23 rfl (by kernel_rfl)
theorem en24 : Enters Try.prog 24 := enters Try.f24 Try.func24 rfl (by kernel_rfl)
theorem en25 : Enters Try.prog 25 := enters Try.f25 Try.func25 rfl (by kernel_rfl)
theorem en28 : Enters Try.prog 28 := enters Try.f28 Try.func28 rfl (by kernel_rfl)
theorem en60 : Enters Try.prog 60 := enters Try.f60 Try.func60 rfl (by kernel_rfl)
theorem en61 : Enters Try.prog 61 := enters Try.f61 Try.func61 rfl (by kernel_rfl)
theorem en62 : Enters Try.prog 62 := enters Try.f62 Try.func62 rfl (by kernel_rfl)
theorem en63 : Enters Try.prog 63 := enters Try.f63 Try.func63 rfl (by kernel_rfl)
theorem en64 : Enters Try.prog 64 := enters Try.f64 Try.func64 rfl (by kernel_rfl)
theorem en65 : Enters Try.prog 65 := enters Try.f65 Try.func65 rfl (by kernel_rfl)
theorem en66 : Enters Try.prog 66 := enters Try.f66 Try.func66 rfl (by kernel_rfl)
theorem en67 : Enters Try.prog 67 := enters Try.f67 Try.func67 rfl (by kernel_rfl)
theorem en68 : Enters Try.prog 68 := enters Try.f68 Try.func68 rfl (by kernel_rfl)
theorem en69 : Enters Try.prog 69 := enters Try.f69 Try.func69 rfl (by kernel_rfl)
theorem en70 : Enters Try.prog 70 := enters Try.f70 Try.func70 rfl (by kernel_rfl)
theorem en72 : Enters Try.prog 72 := enters Try.f72 Try.func72 rfl (by kernel_rfl)
theorem en99 : Enters Try.prog 99 := enters Try.f99 Try.func99 rfl (by kernel_rfl)
theorem en100 : Enters Try.prog 100 := enters Try.f100 Try.func100 rfl (by kernel_rfl)
theorem en101 : Enters Try.prog 101 := enters Try.f101 Try.func101 rfl (by kernel_rfl)
theorem en102 : Enters Try.prog 102 := enters Try.f102 Try.func102 rfl (by kernel_rfl)
theorem en103 : Enters Try.prog 103 := enters Try.f103 Try.func103 rfl (by kernel_rfl)
theorem en104 : Enters Try.prog 104 := enters Try.f104 Try.func104 rfl (by kernel_rfl)
theorem en105 : Enters Try.prog 105 := enters Try.f105 Try.func105 rfl (by kernel_rfl)
theorem en106 : Enters Try.prog 106 := enters Try.f106 Try.func106 rfl (by kernel_rfl)
theorem en107 : Enters Try.prog 107 := enters Try.f107 Try.func107 rfl (by kernel_rfl)
theorem en108 : Enters Try.prog 108 := enters Try.f108 Try.func108 rfl (by kernel_rfl)
theorem en109 : Enters Try.prog 109 := enters Try.f109 Try.func109 rfl (by kernel_rfl)
theorem en110 : Enters Try.prog 110 := enters Try.f110 Try.func110 rfl (by kernel_rfl)
theorem en111 : Enters Try.prog 111 := enters Try.f111 Try.func111 rfl (by kernel_rfl)
theorem en114 : Enters Try.prog 114 := enters Try.f114 Try.func114 rfl (by kernel_rfl)
theorem en124 : Enters Try.prog 124 := enters Try.f124 Try.func124 rfl (by kernel_rfl)
theorem en129 : Enters Try.prog 129 := enters Try.f129 Try.func129 rfl (by kernel_rfl)
theorem en130 : Enters Try.prog 130 := enters Try.f130 Try.func130 rfl (by kernel_rfl)
theorem en131 : Enters Try.prog 131 := enters Try.f131 Try.func131 rfl (by kernel_rfl)
theorem en132 : Enters Try.prog 132 := enters Try.f132 Try.func132 rfl (by kernel_rfl)
theorem en133 : Enters Try.prog 133 := enters Try.f133 Try.func133 rfl (by kernel_rfl)
theorem en134 : Enters Try.prog 134 := enters Try.f134 Try.func134 rfl (by kernel_rfl)
theorem en135 : Enters Try.prog 135 := enters Try.f135 Try.func135 rfl (by kernel_rfl)
theorem en136 : Enters Try.prog 136 := enters Try.f136 Try.func136 rfl (by kernel_rfl)
theorem en146 : Enters Try.prog 146 := enters Try.f146 Try.func146 rfl (by kernel_rfl)
theorem en148 : Enters Try.prog 148 := enters Try.f148 Try.func148 rfl (by kernel_rfl)
theorem en149 : Enters Try.prog 149 := enters Try.f149 Try.func149 rfl (by kernel_rfl)
theorem en150 : Enters Try.prog 150 := enters Try.f150 Try.func150 rfl (by kernel_rfl)
theorem en151 : Enters Try.prog 151 := enters Try.f151 Try.func151 rfl (by kernel_rfl)
theorem en153 : Enters Try.prog 153 := enters Try.f153 Try.func153 rfl (by kernel_rfl)
theorem en154 : Enters Try.prog 154 := enters Try.f154 Try.func154 rfl (by kernel_rfl)
theorem en155 : Enters Try.prog 155 := enters Try.f155 Try.func155 rfl (by kernel_rfl)
theorem en158 : Enters Try.prog 158 := enters Try.f158 Try.func158 rfl (by kernel_rfl)
theorem en159 : Enters Try.prog 159 := enters Try.f159 Try.func159 rfl (by kernel_rfl)
theorem en160 : Enters Try.prog 160 := enters Try.f160 Try.func160 rfl (by kernel_rfl)
theorem en161 : Enters Try.prog 161 := enters Try.f161 Try.func161 rfl (by kernel_rfl)
theorem en162 : Enters Try.prog 162 := enters Try.f162 Try.func162 rfl (by kernel_rfl)

abbrev k_x : ByteArray := ⟨#[120]⟩
abbrev k_y : ByteArray := ⟨#[121]⟩
abbrev k_z : ByteArray := ⟨#[122]⟩
abbrev k_a : ByteArray := ⟨#[97]⟩
abbrev k_t : ByteArray := ⟨#[116]⟩
abbrev k_m : ByteArray := ⟨#[109]⟩
abbrev k_c : ByteArray := ⟨#[99]⟩
abbrev k_d : ByteArray := ⟨#[100]⟩
abbrev k_l : ByteArray := ⟨#[108]⟩
abbrev k_k : ByteArray := ⟨#[107]⟩
abbrev tx10 : ByteArray := ⟨#[103, 111, 123, 120, 61, 121, 43, 49, 125, 103, 111, 123, 125]⟩
abbrev tx11 : ByteArray := ⟨#[48]⟩
abbrev tx12 : ByteArray := ⟨#[61, 61]⟩
abbrev tx13 : ByteArray := ⟨#[61, 60, 43, 45, 42, 47, 37, 40, 41, 123, 125]⟩
abbrev k_var : ByteArray := ⟨#[118, 97, 114]⟩
abbrev k_wide : ByteArray := ⟨#[119, 105, 100, 101]⟩
abbrev k_atomic : ByteArray := ⟨#[97, 116, 111, 109, 105, 99]⟩
abbrev k_local : ByteArray := ⟨#[108, 111, 99, 97, 108]⟩
abbrev k_mutex : ByteArray := ⟨#[109, 117, 116, 101, 120]⟩
abbrev k_chan : ByteArray := ⟨#[99, 104, 97, 110]⟩
abbrev k_go : ByteArray := ⟨#[103, 111]⟩
abbrev k_lock : ByteArray := ⟨#[108, 111, 99, 107]⟩
abbrev k_unlock : ByteArray := ⟨#[117, 110, 108, 111, 99, 107]⟩
abbrev k_send : ByteArray := ⟨#[115, 101, 110, 100]⟩
abbrev k_recv : ByteArray := ⟨#[114, 101, 99, 118]⟩
abbrev k_print : ByteArray := ⟨#[112, 114, 105, 110, 116]⟩
abbrev k_if : ByteArray := ⟨#[105, 102]⟩
abbrev k_else : ByteArray := ⟨#[101, 108, 115, 101]⟩
abbrev k_repeat : ByteArray := ⟨#[114, 101, 112, 101, 97, 116]⟩
abbrev k_goto : ByteArray := ⟨#[103, 111, 116, 111]⟩
abbrev k_label : ByteArray := ⟨#[108, 97, 98, 101, 108]⟩
abbrev tx31 : ByteArray := ⟨#[123]⟩
abbrev tx32 : ByteArray := ⟨#[125]⟩
abbrev tx33 : ByteArray := ⟨#[45]⟩
abbrev tx34 : ByteArray := ⟨#[40]⟩
abbrev tx35 : ByteArray := ⟨#[41]⟩
abbrev tx36 : ByteArray := ⟨#[42]⟩
abbrev tx37 : ByteArray := ⟨#[47]⟩
abbrev tx38 : ByteArray := ⟨#[37]⟩
abbrev tx39 : ByteArray := ⟨#[43]⟩
abbrev tx40 : ByteArray := ⟨#[60]⟩
abbrev tx41 : ByteArray := ⟨#[61]⟩

end Go.Su.Ytfmgnboplbgniaa
