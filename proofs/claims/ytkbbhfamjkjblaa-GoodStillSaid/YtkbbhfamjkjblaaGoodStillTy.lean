/- The types of the law's arguments, in plain Lean, and as cold values. -/
import Derived.Test.YtkbbhfamjkjblaaAxX
set_option linter.unusedVariables false
namespace Go.Ax
open Go
structure MType where
  Bits : Int
  Signed : Bool
def MType.ls (x : MType) : List T := [T.int .i64 x.Bits, T.bool x.Signed]
def MType.enc (x : MType) : T := .agg x.ls
def MType.ok (K : Nat → Prop) (x : MType) : Prop := okI x.Bits ∧ okT x.Signed
theorem MType.enc_width (x : MType) : x.enc.width = 2 := rfl
theorem MType.part (x : MType) : x.enc.part 0 2 = some x.enc := rfl
theorem MType.l0 (x : MType) : T.leaf x.enc 0 = T.int .i64 x.Bits := rfl
theorem MType.l1 (x : MType) : T.leaf x.enc 1 = T.bool x.Signed := rfl
structure MShape where
  Room : Int
  Fields : List MType
def MShape.ls (x : MShape) : List T := [T.int .i64 x.Room, T.lst (List.map MType.enc x.Fields)]
def MShape.enc (x : MShape) : T := .agg x.ls
def MShape.ok (K : Nat → Prop) (x : MShape) : Prop := okI x.Room ∧ (okL K 16 (MType.ok K)) x.Fields
theorem MShape.enc_width (x : MShape) : x.enc.width = 2 := rfl
theorem MShape.part (x : MShape) : x.enc.part 0 2 = some x.enc := rfl
theorem MShape.l0 (x : MShape) : T.leaf x.enc 0 = T.int .i64 x.Room := rfl
theorem MShape.l1 (x : MShape) : T.leaf x.enc 1 = T.lst (List.map MType.enc x.Fields) := rfl
structure MStmt where
  Kind : Int
  A : Int
  B : Int
  N : Int
  Args : List Int
  Match : List Int
  Text : ByteArray
def MStmt.ls (x : MStmt) : List T := [T.int .i64 x.Kind, T.int .i64 x.A, T.int .i64 x.B, T.int .i64 x.N, T.lst (List.map (T.int .i64) x.Args), T.lst (List.map (T.int .i64) x.Match), T.str x.Text]
def MStmt.enc (x : MStmt) : T := .agg x.ls
def MStmt.ok (K : Nat → Prop) (x : MStmt) : Prop := okI x.Kind ∧ okI x.A ∧ okI x.B ∧ okI x.N ∧ (okL K 8 okI) x.Args ∧ (okL K 8 okI) x.Match ∧ (okS K) x.Text
theorem MStmt.enc_width (x : MStmt) : x.enc.width = 7 := rfl
theorem MStmt.part (x : MStmt) : x.enc.part 0 7 = some x.enc := rfl
theorem MStmt.l0 (x : MStmt) : T.leaf x.enc 0 = T.int .i64 x.Kind := rfl
theorem MStmt.l1 (x : MStmt) : T.leaf x.enc 1 = T.int .i64 x.A := rfl
theorem MStmt.l2 (x : MStmt) : T.leaf x.enc 2 = T.int .i64 x.B := rfl
theorem MStmt.l3 (x : MStmt) : T.leaf x.enc 3 = T.int .i64 x.N := rfl
theorem MStmt.l4 (x : MStmt) : T.leaf x.enc 4 = T.lst (List.map (T.int .i64) x.Args) := rfl
theorem MStmt.l5 (x : MStmt) : T.leaf x.enc 5 = T.lst (List.map (T.int .i64) x.Match) := rfl
theorem MStmt.l6 (x : MStmt) : T.leaf x.enc 6 = T.str x.Text := rfl
structure MTrans where
  S : MStmt
  To : Int
  Line : Int
def MTrans.ls (x : MTrans) : List T := [T.int .i64 x.S.Kind, T.int .i64 x.S.A, T.int .i64 x.S.B, T.int .i64 x.S.N, T.lst (List.map (T.int .i64) x.S.Args), T.lst (List.map (T.int .i64) x.S.Match), T.str x.S.Text, T.int .i64 x.To, T.int .i64 x.Line]
def MTrans.enc (x : MTrans) : T := .agg x.ls
def MTrans.ok (K : Nat → Prop) (x : MTrans) : Prop := (MStmt.ok K) x.S ∧ okI x.To ∧ okI x.Line
theorem MTrans.enc_width (x : MTrans) : x.enc.width = 9 := rfl
theorem MTrans.part (x : MTrans) : x.enc.part 0 9 = some x.enc := rfl
theorem MTrans.l0 (x : MTrans) : T.leaf x.enc 0 = T.int .i64 x.S.Kind := rfl
theorem MTrans.l1 (x : MTrans) : T.leaf x.enc 1 = T.int .i64 x.S.A := rfl
theorem MTrans.l2 (x : MTrans) : T.leaf x.enc 2 = T.int .i64 x.S.B := rfl
theorem MTrans.l3 (x : MTrans) : T.leaf x.enc 3 = T.int .i64 x.S.N := rfl
theorem MTrans.l4 (x : MTrans) : T.leaf x.enc 4 = T.lst (List.map (T.int .i64) x.S.Args) := rfl
theorem MTrans.l5 (x : MTrans) : T.leaf x.enc 5 = T.lst (List.map (T.int .i64) x.S.Match) := rfl
theorem MTrans.l6 (x : MTrans) : T.leaf x.enc 6 = T.str x.S.Text := rfl
theorem MTrans.l7 (x : MTrans) : T.leaf x.enc 7 = T.int .i64 x.To := rfl
theorem MTrans.l8 (x : MTrans) : T.leaf x.enc 8 = T.int .i64 x.Line := rfl
theorem MTrans.p0 (x : MTrans) : x.enc.part 0 7 = some x.S.enc := rfl
structure MLoc where
  Out : List MTrans
  Esc : List (List MTrans)
  Atomic : Bool
  Dstep : Bool
  End_ : Bool
  Accept : Bool
  Progress : Bool
def MLoc.ls (x : MLoc) : List T := [T.lst (List.map MTrans.enc x.Out), T.lst (List.map (fun l => T.lst (List.map MTrans.enc l)) x.Esc), T.bool x.Atomic, T.bool x.Dstep, T.bool x.End_, T.bool x.Accept, T.bool x.Progress]
def MLoc.enc (x : MLoc) : T := .agg x.ls
def MLoc.ok (K : Nat → Prop) (x : MLoc) : Prop := (okL K 112 (MTrans.ok K)) x.Out ∧ (okL K 24 (okL K 112 (MTrans.ok K))) x.Esc ∧ okT x.Atomic ∧ okT x.Dstep ∧ okT x.End_ ∧ okT x.Accept ∧ okT x.Progress
theorem MLoc.enc_width (x : MLoc) : x.enc.width = 7 := rfl
theorem MLoc.part (x : MLoc) : x.enc.part 0 7 = some x.enc := rfl
theorem MLoc.l0 (x : MLoc) : T.leaf x.enc 0 = T.lst (List.map MTrans.enc x.Out) := rfl
theorem MLoc.l1 (x : MLoc) : T.leaf x.enc 1 = T.lst (List.map (fun l => T.lst (List.map MTrans.enc l)) x.Esc) := rfl
theorem MLoc.l2 (x : MLoc) : T.leaf x.enc 2 = T.bool x.Atomic := rfl
theorem MLoc.l3 (x : MLoc) : T.leaf x.enc 3 = T.bool x.Dstep := rfl
theorem MLoc.l4 (x : MLoc) : T.leaf x.enc 4 = T.bool x.End_ := rfl
theorem MLoc.l5 (x : MLoc) : T.leaf x.enc 5 = T.bool x.Accept := rfl
theorem MLoc.l6 (x : MLoc) : T.leaf x.enc 6 = T.bool x.Progress := rfl
structure MProc where
  Name : ByteArray
  Params : Int
  Frame : List MType
  Init : List Int
  Locs : List MLoc
  Start : Int
  Final : Int
  Active : Int
  Prio : Int
  Provided : Int
def MProc.ls (x : MProc) : List T := [T.str x.Name, T.int .i64 x.Params, T.lst (List.map MType.enc x.Frame), T.lst (List.map (T.int .i64) x.Init), T.lst (List.map MLoc.enc x.Locs), T.int .i64 x.Start, T.int .i64 x.Final, T.int .i64 x.Active, T.int .i64 x.Prio, T.int .i64 x.Provided]
def MProc.enc (x : MProc) : T := .agg x.ls
def MProc.ok (K : Nat → Prop) (x : MProc) : Prop := (okS K) x.Name ∧ okI x.Params ∧ (okL K 16 (MType.ok K)) x.Frame ∧ (okL K 8 okI) x.Init ∧ (okL K 56 (MLoc.ok K)) x.Locs ∧ okI x.Start ∧ okI x.Final ∧ okI x.Active ∧ okI x.Prio ∧ okI x.Provided
theorem MProc.enc_width (x : MProc) : x.enc.width = 10 := rfl
theorem MProc.part (x : MProc) : x.enc.part 0 10 = some x.enc := rfl
theorem MProc.l0 (x : MProc) : T.leaf x.enc 0 = T.str x.Name := rfl
theorem MProc.l1 (x : MProc) : T.leaf x.enc 1 = T.int .i64 x.Params := rfl
theorem MProc.l2 (x : MProc) : T.leaf x.enc 2 = T.lst (List.map MType.enc x.Frame) := rfl
theorem MProc.l3 (x : MProc) : T.leaf x.enc 3 = T.lst (List.map (T.int .i64) x.Init) := rfl
theorem MProc.l4 (x : MProc) : T.leaf x.enc 4 = T.lst (List.map MLoc.enc x.Locs) := rfl
theorem MProc.l5 (x : MProc) : T.leaf x.enc 5 = T.int .i64 x.Start := rfl
theorem MProc.l6 (x : MProc) : T.leaf x.enc 6 = T.int .i64 x.Final := rfl
theorem MProc.l7 (x : MProc) : T.leaf x.enc 7 = T.int .i64 x.Active := rfl
theorem MProc.l8 (x : MProc) : T.leaf x.enc 8 = T.int .i64 x.Prio := rfl
theorem MProc.l9 (x : MProc) : T.leaf x.enc 9 = T.int .i64 x.Provided := rfl
structure MDim where
  I : Int
  Len : Int
  Stride : Int
def MDim.ls (x : MDim) : List T := [T.int .i64 x.I, T.int .i64 x.Len, T.int .i64 x.Stride]
def MDim.enc (x : MDim) : T := .agg x.ls
def MDim.ok (K : Nat → Prop) (x : MDim) : Prop := okI x.I ∧ okI x.Len ∧ okI x.Stride
theorem MDim.enc_width (x : MDim) : x.enc.width = 3 := rfl
theorem MDim.part (x : MDim) : x.enc.part 0 3 = some x.enc := rfl
theorem MDim.l0 (x : MDim) : T.leaf x.enc 0 = T.int .i64 x.I := rfl
theorem MDim.l1 (x : MDim) : T.leaf x.enc 1 = T.int .i64 x.Len := rfl
theorem MDim.l2 (x : MDim) : T.leaf x.enc 2 = T.int .i64 x.Stride := rfl
structure MVar where
  Scope : Int
  Slot : Int
  Who : Int
  Type_ : Int
  Dims : List MDim
def MVar.ls (x : MVar) : List T := [T.int .i64 x.Scope, T.int .i64 x.Slot, T.int .i64 x.Who, T.int .i64 x.Type_, T.lst (List.map MDim.enc x.Dims)]
def MVar.enc (x : MVar) : T := .agg x.ls
def MVar.ok (K : Nat → Prop) (x : MVar) : Prop := okI x.Scope ∧ okI x.Slot ∧ okI x.Who ∧ okI x.Type_ ∧ (okL K 24 (MDim.ok K)) x.Dims
theorem MVar.enc_width (x : MVar) : x.enc.width = 5 := rfl
theorem MVar.part (x : MVar) : x.enc.part 0 5 = some x.enc := rfl
theorem MVar.l0 (x : MVar) : T.leaf x.enc 0 = T.int .i64 x.Scope := rfl
theorem MVar.l1 (x : MVar) : T.leaf x.enc 1 = T.int .i64 x.Slot := rfl
theorem MVar.l2 (x : MVar) : T.leaf x.enc 2 = T.int .i64 x.Who := rfl
theorem MVar.l3 (x : MVar) : T.leaf x.enc 3 = T.int .i64 x.Type_ := rfl
theorem MVar.l4 (x : MVar) : T.leaf x.enc 4 = T.lst (List.map MDim.enc x.Dims) := rfl
structure MExpr where
  Op : Int
  N : Int
  A : Int
  B : Int
  C : Int
  V : MVar
  Args : List Int
  Match : List Int
def MExpr.ls (x : MExpr) : List T := [T.int .i64 x.Op, T.int .i64 x.N, T.int .i64 x.A, T.int .i64 x.B, T.int .i64 x.C, T.int .i64 x.V.Scope, T.int .i64 x.V.Slot, T.int .i64 x.V.Who, T.int .i64 x.V.Type_, T.lst (List.map MDim.enc x.V.Dims), T.lst (List.map (T.int .i64) x.Args), T.lst (List.map (T.int .i64) x.Match)]
def MExpr.enc (x : MExpr) : T := .agg x.ls
def MExpr.ok (K : Nat → Prop) (x : MExpr) : Prop := okI x.Op ∧ okI x.N ∧ okI x.A ∧ okI x.B ∧ okI x.C ∧ (MVar.ok K) x.V ∧ (okL K 8 okI) x.Args ∧ (okL K 8 okI) x.Match
theorem MExpr.enc_width (x : MExpr) : x.enc.width = 12 := rfl
theorem MExpr.part (x : MExpr) : x.enc.part 0 12 = some x.enc := rfl
theorem MExpr.l0 (x : MExpr) : T.leaf x.enc 0 = T.int .i64 x.Op := rfl
theorem MExpr.l1 (x : MExpr) : T.leaf x.enc 1 = T.int .i64 x.N := rfl
theorem MExpr.l2 (x : MExpr) : T.leaf x.enc 2 = T.int .i64 x.A := rfl
theorem MExpr.l3 (x : MExpr) : T.leaf x.enc 3 = T.int .i64 x.B := rfl
theorem MExpr.l4 (x : MExpr) : T.leaf x.enc 4 = T.int .i64 x.C := rfl
theorem MExpr.l5 (x : MExpr) : T.leaf x.enc 5 = T.int .i64 x.V.Scope := rfl
theorem MExpr.l6 (x : MExpr) : T.leaf x.enc 6 = T.int .i64 x.V.Slot := rfl
theorem MExpr.l7 (x : MExpr) : T.leaf x.enc 7 = T.int .i64 x.V.Who := rfl
theorem MExpr.l8 (x : MExpr) : T.leaf x.enc 8 = T.int .i64 x.V.Type_ := rfl
theorem MExpr.l9 (x : MExpr) : T.leaf x.enc 9 = T.lst (List.map MDim.enc x.V.Dims) := rfl
theorem MExpr.l10 (x : MExpr) : T.leaf x.enc 10 = T.lst (List.map (T.int .i64) x.Args) := rfl
theorem MExpr.l11 (x : MExpr) : T.leaf x.enc 11 = T.lst (List.map (T.int .i64) x.Match) := rfl
theorem MExpr.p5 (x : MExpr) : x.enc.part 5 5 = some x.V.enc := rfl
structure MModel where
  Globals : List MType
  Init : List Int
  Shapes : List MShape
  Chans : List Int
  Procs : List MProc
  Claim : Int
  Exprs : List MExpr
def MModel.ls (x : MModel) : List T := [T.lst (List.map MType.enc x.Globals), T.lst (List.map (T.int .i64) x.Init), T.lst (List.map MShape.enc x.Shapes), T.lst (List.map (T.int .i64) x.Chans), T.lst (List.map MProc.enc x.Procs), T.int .i64 x.Claim, T.lst (List.map MExpr.enc x.Exprs)]
def MModel.enc (x : MModel) : T := .agg x.ls
def MModel.ok (K : Nat → Prop) (x : MModel) : Prop := (okL K 16 (MType.ok K)) x.Globals ∧ (okL K 8 okI) x.Init ∧ (okL K 32 (MShape.ok K)) x.Shapes ∧ (okL K 8 okI) x.Chans ∧ (okL K 136 (MProc.ok K)) x.Procs ∧ okI x.Claim ∧ (okL K 144 (MExpr.ok K)) x.Exprs
theorem MModel.enc_width (x : MModel) : x.enc.width = 7 := rfl
theorem MModel.part (x : MModel) : x.enc.part 0 7 = some x.enc := rfl
theorem MModel.l0 (x : MModel) : T.leaf x.enc 0 = T.lst (List.map MType.enc x.Globals) := rfl
theorem MModel.l1 (x : MModel) : T.leaf x.enc 1 = T.lst (List.map (T.int .i64) x.Init) := rfl
theorem MModel.l2 (x : MModel) : T.leaf x.enc 2 = T.lst (List.map MShape.enc x.Shapes) := rfl
theorem MModel.l3 (x : MModel) : T.leaf x.enc 3 = T.lst (List.map (T.int .i64) x.Chans) := rfl
theorem MModel.l4 (x : MModel) : T.leaf x.enc 4 = T.lst (List.map MProc.enc x.Procs) := rfl
theorem MModel.l5 (x : MModel) : T.leaf x.enc 5 = T.int .i64 x.Claim := rfl
theorem MModel.l6 (x : MModel) : T.leaf x.enc 6 = T.lst (List.map MExpr.enc x.Exprs) := rfl
end Go.Ax
