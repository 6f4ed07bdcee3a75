/-
  The kinds of values of the program, and how they stand in the machine.
-/
import Derived.Test.YtogllinpkijkpaaDx16
import Derived.Test.YtogllinpkijkpaaChecked
namespace Go.Su.Ytogllinpkijkpaa
open Go.Mx Go.Proofs
set_option maxRecDepth 100000
set_option maxHeartbeats 20000000
set_option linter.unusedVariables false
set_option linter.unusedSimpArgs false

structure Act where
  What : Int
  A : Int
  B : Int
  N : Int
  E : List Int
structure Decl where
  Kind : Int
  Name : ByteArray
  N : Int
  At : Cx
structure Expr where
  Kind : Int
  N : Int
  Name : ByteArray
  Of : List Expr
structure Stmt where
  Kind : Int
  Name : ByteArray
  Other : ByteArray
  N : Int
  E : Expr
  Body : List Stmt
  Else : List Stmt
  At : Cx
structure Prog where
  Decls : List Decl
  Threads : List (List Stmt)
structure Arr2_string where
  e0 : ByteArray
  e1 : ByteArray

def eAct (x : Act) : V := .agg [.p (.int .i64 x.What), .p (.int .i64 x.A), .p (.int .i64 x.B), .p (.int .i64 x.N), .ps .opt (List.map e_i64 x.E)]
def eDecl (x : Decl) : V := .agg [.p (.int .i64 x.Kind), .p (.string x.Name), .p (.int .i64 x.N), .p (.complex .f64 x.At.re x.At.im)]
mutual
def rExpr : Expr → V
  | ⟨x0, x1, x2, x3⟩ => .agg [.p (.int .i64 x0), .p (.int .i64 x1), .p (.string x2), .ps .opt (lExpr x3)]
def lExpr : List Expr → List V
  | [] => []
  | e :: r => rExpr e :: lExpr r
end
def eExpr (x : Expr) : V := .agg [.p (.int .i64 x.Kind), .p (.int .i64 x.N), .p (.string x.Name), .ps .opt (lExpr x.Of)]
theorem rExpr_eq (x : Expr) : rExpr x = eExpr x := by cases x; rw [rExpr]; rfl
theorem lExpr_eq (l : List Expr) : lExpr l = l.map eExpr := by
  induction l with
  | nil => rw [lExpr]; rfl
  | cons a r ih => rw [lExpr, rExpr_eq, ih]; rfl
mutual
def rStmt : Stmt → V
  | ⟨x0, x1, x2, x3, x4, x5, x6, x7⟩ => .agg [.p (.int .i64 x0), .p (.string x1), .p (.string x2), .p (.int .i64 x3), .p (.int .i64 x4.Kind), .p (.int .i64 x4.N), .p (.string x4.Name), .ps .opt (lExpr x4.Of), .ps .opt (lStmt x5), .ps .opt (lStmt x6), .p (.complex .f64 x7.re x7.im)]
def lStmt : List Stmt → List V
  | [] => []
  | e :: r => rStmt e :: lStmt r
end
def eStmt (x : Stmt) : V := .agg [.p (.int .i64 x.Kind), .p (.string x.Name), .p (.string x.Other), .p (.int .i64 x.N), .p (.int .i64 x.E.Kind), .p (.int .i64 x.E.N), .p (.string x.E.Name), .ps .opt (lExpr x.E.Of), .ps .opt (lStmt x.Body), .ps .opt (lStmt x.Else), .p (.complex .f64 x.At.re x.At.im)]
theorem rStmt_eq (x : Stmt) : rStmt x = eStmt x := by cases x; rw [rStmt]; rfl
theorem lStmt_eq (l : List Stmt) : lStmt l = l.map eStmt := by
  induction l with
  | nil => rw [lStmt]; rfl
  | cons a r ih => rw [lStmt, rStmt_eq, ih]; rfl
def eProg (x : Prog) : V := .agg [.ps .opt (List.map eDecl x.Decls), .ps .opt (List.map (fun l => V.ps .opt (lStmt l)) x.Threads)]
def eArr2_string (x : Arr2_string) : V := .agg [.p (.string x.e0), .p (.string x.e1)]

def tbl : List (Nat × TI) := [(3, ⟨1, 8, .int .i64, .p (.int .i64 0)⟩),
  (4, ⟨1, 1, .bool, .p (.bool false)⟩),
  (9, ⟨1, 16, .string, .p (.string ByteArray.empty)⟩),
  (22, ⟨1, 24, .slice 73, .ps .nil []⟩),
  (23, ⟨1, 24, .slice 42, .ps .nil []⟩),
  (24, ⟨1, 24, .slice 29, .ps .nil []⟩),
  (26, ⟨2, 48, .struct #[⟨"Decls", 23, 0, false, "", "", 0⟩, ⟨"Threads", 24, 1, false, "", "", 24⟩], .agg [.ps .nil [], .ps .nil []]⟩),
  (29, ⟨1, 24, .slice 39, .ps .nil []⟩),
  (34, ⟨1, 24, .slice 36, .ps .nil []⟩),
  (36, ⟨4, 56, .struct #[⟨"Kind", 3, 0, false, "", "", 0⟩, ⟨"N", 3, 1, false, "", "", 8⟩, ⟨"Name", 9, 2, false, "", "", 16⟩, ⟨"Of", 34, 3, false, "", "", 32⟩], .agg [.p (.int .i64 0), .p (.int .i64 0), .p (.string ByteArray.empty), .ps .nil []]⟩),
  (37, ⟨1, 16, .complex .f64, .p (.complex .f64 0 0)⟩),
  (39, ⟨11, 168, .struct #[⟨"Kind", 3, 0, false, "", "", 0⟩, ⟨"Name", 9, 1, false, "", "", 8⟩, ⟨"Other", 9, 2, false, "", "", 24⟩, ⟨"N", 3, 3, false, "", "", 40⟩, ⟨"E", 36, 4, false, "", "", 48⟩, ⟨"Body", 29, 8, false, "", "", 104⟩, ⟨"Else", 29, 9, false, "", "", 128⟩, ⟨"At", 37, 10, false, "", "", 152⟩], .agg [.p (.int .i64 0), .p (.string ByteArray.empty), .p (.string ByteArray.empty), .p (.int .i64 0), .p (.int .i64 0), .p (.int .i64 0), .p (.string ByteArray.empty), .ps .nil [], .ps .nil [], .ps .nil [], .p (.complex .f64 0 0)]⟩),
  (42, ⟨4, 48, .struct #[⟨"Kind", 3, 0, false, "", "", 0⟩, ⟨"Name", 9, 1, false, "", "", 8⟩, ⟨"N", 3, 2, false, "", "", 24⟩, ⟨"At", 37, 3, false, "", "", 32⟩], .agg [.p (.int .i64 0), .p (.string ByteArray.empty), .p (.int .i64 0), .p (.complex .f64 0 0)]⟩),
  (45, ⟨1, 24, .slice 3, .ps .nil []⟩),
  (49, ⟨1, 24, .slice 9, .ps .nil []⟩),
  (55, ⟨3, 72, .array 3 22, .agg [.ps .nil [], .ps .nil [], .ps .nil []]⟩),
  (73, ⟨5, 56, .struct #[⟨"What", 3, 0, false, "", "", 0⟩, ⟨"A", 3, 1, false, "", "", 8⟩, ⟨"B", 3, 2, false, "", "", 16⟩, ⟨"N", 3, 3, false, "", "", 24⟩, ⟨"E", 45, 4, false, "", "", 32⟩], .agg [.p (.int .i64 0), .p (.int .i64 0), .p (.int .i64 0), .p (.int .i64 0), .ps .nil []]⟩),
  (76, ⟨2, 32, .array 2 9, .agg [.p (.string ByteArray.empty), .p (.string ByteArray.empty)]⟩),
  (81, ⟨1, 8, .int .u64, .p (.int .u64 0)⟩),
  (84, ⟨8, 128, .array 8 9, .agg [.p (.string ByteArray.empty), .p (.string ByteArray.empty), .p (.string ByteArray.empty), .p (.string ByteArray.empty), .p (.string ByteArray.empty), .p (.string ByteArray.empty), .p (.string ByteArray.empty), .p (.string ByteArray.empty)]⟩),
  (90, ⟨1, 8, .int .u64, .p (.int .u64 0)⟩)]
def tb : TypeId → Option TI := lookT tbl
theorem rows : rowsOk Try.prog tbl := ⟨by kernel_rfl, by kernel_rfl, by kernel_rfl, by kernel_rfl, by kernel_rfl, by kernel_rfl, by kernel_rfl, by kernel_rfl, by kernel_rfl, by kernel_rfl, by kernel_rfl, by kernel_rfl, by kernel_rfl, by kernel_rfl, by kernel_rfl, by kernel_rfl, by kernel_rfl, by kernel_rfl, by kernel_rfl, by kernel_rfl, by kernel_rfl, trivial⟩
theorem hT : TabOk Try.prog tb := tab_ok rows (by kernel_rfl)
theorem hM : Try.prog.follows .mixedOrders = true := Checked.mixed Try.checked
def el_Act (l : List Act) : V := .ps .opt (List.map eAct l)
def el_Decl (l : List Decl) : V := .ps .opt (List.map eDecl l)
def el_LStmt (l : List (List Stmt)) : V := .ps .opt (List.map (fun l => V.ps .opt (lStmt l)) l)
def el_Stmt (l : List Stmt) : V := .ps .opt (lStmt l)
def el_Expr (l : List Expr) : V := .ps .opt (lExpr l)
def el_int (l : List Int) : V := .ps .opt (List.map e_i64 l)
def el_string (l : List ByteArray) : V := .ps .opt (List.map e_s l)
def s_Act : SE tb Act := { f := eAct, F := List.map eAct, hF := fun _ => rfl, sz := 5, hs := fun _ => rfl, h1 := fun _ => rfl, t := 22, e := 73, i0 := ⟨1, 24, .slice 73, .ps .nil []⟩, i1 := ⟨5, 56, .struct #[⟨"What", 3, 0, false, "", "", 0⟩, ⟨"A", 3, 1, false, "", "", 8⟩, ⟨"B", 3, 2, false, "", "", 16⟩, ⟨"N", 3, 3, false, "", "", 24⟩, ⟨"E", 45, 4, false, "", "", 32⟩], .agg [.p (.int .i64 0), .p (.int .i64 0), .p (.int .i64 0), .p (.int .i64 0), .ps .nil []]⟩, ht := by kernel_rfl, hd := rfl, he := by kernel_rfl, hz := rfl, hp := by decide, hb := by decide }
def s_Decl : SE tb Decl := { f := eDecl, F := List.map eDecl, hF := fun _ => rfl, sz := 4, hs := fun _ => rfl, h1 := fun _ => rfl, t := 23, e := 42, i0 := ⟨1, 24, .slice 42, .ps .nil []⟩, i1 := ⟨4, 48, .struct #[⟨"Kind", 3, 0, false, "", "", 0⟩, ⟨"Name", 9, 1, false, "", "", 8⟩, ⟨"N", 3, 2, false, "", "", 24⟩, ⟨"At", 37, 3, false, "", "", 32⟩], .agg [.p (.int .i64 0), .p (.string ByteArray.empty), .p (.int .i64 0), .p (.complex .f64 0 0)]⟩, ht := by kernel_rfl, hd := rfl, he := by kernel_rfl, hz := rfl, hp := by decide, hb := by decide }
def s_LStmt : SE tb (List Stmt) := { f := el_Stmt, F := List.map el_Stmt, hF := fun _ => rfl, sz := 1, hs := fun _ => rfl, h1 := fun _ => rfl, t := 24, e := 29, i0 := ⟨1, 24, .slice 29, .ps .nil []⟩, i1 := ⟨1, 24, .slice 39, .ps .nil []⟩, ht := by kernel_rfl, hd := rfl, he := by kernel_rfl, hz := rfl, hp := by decide, hb := by decide }
def s_Stmt : SE tb Stmt := { f := eStmt, F := lStmt, hF := lStmt_eq, sz := 11, hs := fun _ => rfl, h1 := fun _ => rfl, t := 29, e := 39, i0 := ⟨1, 24, .slice 39, .ps .nil []⟩, i1 := ⟨11, 168, .struct #[⟨"Kind", 3, 0, false, "", "", 0⟩, ⟨"Name", 9, 1, false, "", "", 8⟩, ⟨"Other", 9, 2, false, "", "", 24⟩, ⟨"N", 3, 3, false, "", "", 40⟩, ⟨"E", 36, 4, false, "", "", 48⟩, ⟨"Body", 29, 8, false, "", "", 104⟩, ⟨"Else", 29, 9, false, "", "", 128⟩, ⟨"At", 37, 10, false, "", "", 152⟩], .agg [.p (.int .i64 0), .p (.string ByteArray.empty), .p (.string ByteArray.empty), .p (.int .i64 0), .p (.int .i64 0), .p (.int .i64 0), .p (.string ByteArray.empty), .ps .nil [], .ps .nil [], .ps .nil [], .p (.complex .f64 0 0)]⟩, ht := by kernel_rfl, hd := rfl, he := by kernel_rfl, hz := rfl, hp := by decide, hb := by decide }
def s_Expr : SE tb Expr := { f := eExpr, F := lExpr, hF := lExpr_eq, sz := 4, hs := fun _ => rfl, h1 := fun _ => rfl, t := 34, e := 36, i0 := ⟨1, 24, .slice 36, .ps .nil []⟩, i1 := ⟨4, 56, .struct #[⟨"Kind", 3, 0, false, "", "", 0⟩, ⟨"N", 3, 1, false, "", "", 8⟩, ⟨"Name", 9, 2, false, "", "", 16⟩, ⟨"Of", 34, 3, false, "", "", 32⟩], .agg [.p (.int .i64 0), .p (.int .i64 0), .p (.string ByteArray.empty), .ps .nil []]⟩, ht := by kernel_rfl, hd := rfl, he := by kernel_rfl, hz := rfl, hp := by decide, hb := by decide }
def s_int : SE tb Int := { f := e_i64, F := List.map e_i64, hF := fun _ => rfl, sz := 1, hs := fun _ => rfl, h1 := fun _ => rfl, t := 45, e := 3, i0 := ⟨1, 24, .slice 3, .ps .nil []⟩, i1 := ⟨1, 8, .int .i64, .p (.int .i64 0)⟩, ht := by kernel_rfl, hd := rfl, he := by kernel_rfl, hz := rfl, hp := by decide, hb := by decide }
def s_string : SE tb ByteArray := { f := e_s, F := List.map e_s, hF := fun _ => rfl, sz := 1, hs := fun _ => rfl, h1 := fun _ => rfl, t := 49, e := 9, i0 := ⟨1, 24, .slice 9, .ps .nil []⟩, i1 := ⟨1, 16, .string, .p (.string ByteArray.empty)⟩, ht := by kernel_rfl, hd := rfl, he := by kernel_rfl, hz := rfl, hp := by decide, hb := by decide }

theorem en7 : Enters Try.prog 7 := enters Try.f7 Try.func7 rfl (by kernel_rfl)
theorem en8 : Enters Try.prog 8 := enters Try.f8 Try.func8 rfl (by kernel_rfl)
theorem en9 : Enters Try.prog 9 := enters Try.f9 Try.func9 rfl (by kernel_rfl)
theorem en10 : Enters Try.prog 10 := enters Try.f10 Try.func10 rfl (by kernel_rfl)
theorem en11 : Enters Try.prog 11 := enters Try.f11 Try.func11 rfl (by kernel_rfl)
theorem en12 : Enters Try.prog 12 := enters Try.f12 Try.func12 rfl (by kernel_rfl)
theorem en13 : Enters Try.prog 13 := enters Try.f13 Try.func13 rfl (by kernel_rfl)
theorem en14 : Enters Try.prog 14 := enters Try.f14 Try.func14 rfl (by kernel_rfl)
theorem en15 : Enters Try.prog 15 := enters Try.f15 Try.func15 rfl (by kernel_rfl)
theorem en16 : Enters Try.prog 16 := enters Try.f16 Try.func16 rfl (by kernel_rfl)
theorem en17 : Enters Try.prog 17 := enters Try.f17 Try.func17 rfl (by kernel_rfl)
theorem en18 : Enters Try.prog 18 := enters Try.f18 Try.func18 rfl (by kernel_rfl)
theorem en19 : Enters Try.prog 19 := enters Try.f19 Try.func19 rfl (by kernel_rfl)
theorem en20 : Enters Try.prog 20 := enters Try.f20 Try.func20 rfl (by kernel_rfl)
theorem en21 : Enters Try.prog 21 := enters Try.f21 Try.func21 rfl (by kernel_rfl)
theorem en22 : Enters Try.prog 22 := enters Try.f22 Try.func22 rfl (by kernel_rfl)
theorem en23 : Enters Try.prog 23 := enters Try.f23 Try.func23 rfl (by kernel_rfl)
theorem en24 : Enters Try.prog 24 := enters Try.f24 Try.func24 rfl (by kernel_rfl)
theorem en25 : Enters Try.prog 25 := enters Try.f25 Try.func25 rfl (by kernel_rfl)
theorem en26 : Enters Try.prog 26 := enters Try.f26 Try.func26 rfl (by kernel_rfl)
theorem en27 : Enters Try.prog 27 := enters Try.f27 Try.func27 rfl (by kernel_rfl)
theorem en28 : Enters Try.prog 28 := enters Try.f28 Try.func28 rfl (by kernel_rfl)
theorem en29 : Enters Try.prog 29 := enters Try.f29 Try.func29 rfl (by kernel_rfl)
theorem en30 : Enters Try.prog 30 := enters Try.f30 Try.func30 rfl (by kernel_rfl)
theorem en31 : Enters Try.prog 31 := enters Try.f31 Try.func31 rfl (by kernel_rfl)
theorem en32 : Enters Try.prog 32 := enters Try.f32 Try.func32 rfl (by kernel_rfl)
theorem en33 : Enters Try.prog 33 := enters Try.f33 Try.func33 rfl (by kernel_rfl)
theorem en34 : Enters Try.prog 34 := enters Try.f34 Try.func34 rfl (by kernel_rfl)
theorem en35 : Enters Try.prog 35 := enters Try.f35 Try.func35 rfl (by kernel_rfl)
theorem en36 : Enters Try.prog 36 := enters Try.f36 Try.func36 rfl (by kernel_rfl)
theorem en37 : Enters Try.prog 37 := enters Try.f37 Try.func37 rfl (by kernel_rfl)
theorem en38 : Enters Try.prog 38 := enters Try.f38 Try.func38 rfl (by kernel_rfl)
theorem en39 : Enters Try.prog 39 := enters Try.f39 Try.func39 rfl (by kernel_rfl)
theorem en40 : Enters Try.prog 40 := enters Try.f40 Try.func40 rfl (by kernel_rfl)
theorem en41 : Enters Try.prog 41 := enters Try.f41 Try.func41 rfl (by kernel_rfl)
theorem en42 : Enters Try.prog 42 := enters Try.f42 Try.func42 rfl (by kernel_rfl)
theorem en43 : Enters Try.prog 43 := enters Try.f43 Try.func43 rfl (by kernel_rfl)
theorem en44 : Enters Try.prog 44 := enters Try.f44 Try.func44 rfl (by kernel_rfl)
theorem en45 : Enters Try.prog 45 := enters Try.f45 Try.func45 rfl (by kernel_rfl)
theorem en46 : Enters Try.prog 46 := enters Try.f46 Try.func46 rfl (by kernel_rfl)
theorem en47 : Enters Try.prog 47 := enters Try.f47 Try.func47 rfl (by kernel_rfl)
theorem en48 : Enters Try.prog 48 := enters Try.f48 Try.func48 rfl (by kernel_rfl)
theorem en49 : Enters Try.prog 49 := enters Try.f49 Try.func49 rfl (by kernel_rfl)
theorem en50 : Enters Try.prog 50 := enters Try.f50 Try.func50 rfl (by kernel_rfl)
theorem en51 : Enters Try.prog 51 := enters Try.f51 Try.func51 rfl (by kernel_rfl)
theorem en52 : Enters Try.prog 52 := enters Try.f52 Try.func52 rfl (by kernel_rfl)
theorem en53 : Enters Try.prog 53 := enters Try.f53 Try.func53 rfl (by kernel_rfl)
theorem en54 : Enters Try.prog 54 := enters Try.f54 Try.func54 rfl (by kernel_rfl)
theorem en55 : Enters Try.prog 55 := enters Try.f55 Try.func55 rfl (by kernel_rfl)
theorem en57 : Enters Try.prog 57 := enters Try.f57 Try.func57 rfl (by kernel_rfl)

abbrev k_x : ByteArray := ⟨#[120]⟩
abbrev k_y : ByteArray := ⟨#[121]⟩
abbrev k_z : ByteArray := ⟨#[122]⟩
abbrev k_a : ByteArray := ⟨#[97]⟩
abbrev k_t : ByteArray := ⟨#[116]⟩
abbrev k_m : ByteArray := ⟨#[109]⟩
abbrev k_c : ByteArray := ⟨#[99]⟩
abbrev k_d : ByteArray := ⟨#[100]⟩
abbrev k_l : ByteArray := ⟨#[108]⟩
abbrev k_k : ByteArray := ⟨#[107]⟩

end Go.Su.Ytogllinpkijkpaa
