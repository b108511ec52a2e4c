/- The types of the law's arguments, in plain Lean, and as cold values. -/
import Derived.Test.YtcpcbmebpmokbaaDoorAxX
set_option linter.unusedVariables false
namespace Go.Ax
open Go
structure MMove where
  Pid : Int
  Esc : Int
  Way : Int
  With : Int
  WithEsc : Int
  WithWay : Int
  Claim : Int
def MMove.ls (x : MMove) : List T := [T.int .i64 x.Pid, T.int .i64 x.Esc, T.int .i64 x.Way, T.int .i64 x.With, T.int .i64 x.WithEsc, T.int .i64 x.WithWay, T.int .i64 x.Claim]
def MMove.enc (x : MMove) : T := .agg x.ls
def MMove.ok (K : Nat → Prop) (x : MMove) : Prop := okI x.Pid ∧ okI x.Esc ∧ okI x.Way ∧ okI x.With ∧ okI x.WithEsc ∧ okI x.WithWay ∧ okI x.Claim
theorem MMove.enc_width (x : MMove) : x.enc.width = 7 := rfl
theorem MMove.part (x : MMove) : x.enc.part 0 7 = some x.enc := rfl
theorem MMove.l0 (x : MMove) : T.leaf x.enc 0 = T.int .i64 x.Pid := rfl
theorem MMove.l1 (x : MMove) : T.leaf x.enc 1 = T.int .i64 x.Esc := rfl
theorem MMove.l2 (x : MMove) : T.leaf x.enc 2 = T.int .i64 x.Way := rfl
theorem MMove.l3 (x : MMove) : T.leaf x.enc 3 = T.int .i64 x.With := rfl
theorem MMove.l4 (x : MMove) : T.leaf x.enc 4 = T.int .i64 x.WithEsc := rfl
theorem MMove.l5 (x : MMove) : T.leaf x.enc 5 = T.int .i64 x.WithWay := rfl
theorem MMove.l6 (x : MMove) : T.leaf x.enc 6 = T.int .i64 x.Claim := rfl
structure MFound where
  Kind : Int
  What : Int
  Err : Int
  At : Int
  Trail : List MMove
  Cycle : Int
  States : Int
  Steps : Int
def MFound.ls (x : MFound) : List T := [T.int .i64 x.Kind, T.int .i64 x.What, T.int .i64 x.Err, T.int .i64 x.At, T.lst (List.map MMove.enc x.Trail), T.int .i64 x.Cycle, T.int .i64 x.States, T.int .i64 x.Steps]
def MFound.enc (x : MFound) : T := .agg x.ls
def MFound.ok (K : Nat → Prop) (x : MFound) : Prop := okI x.Kind ∧ okI x.What ∧ okI x.Err ∧ okI x.At ∧ (okL K 56 (MMove.ok K)) x.Trail ∧ okI x.Cycle ∧ okI x.States ∧ okI x.Steps
theorem MFound.enc_width (x : MFound) : x.enc.width = 8 := rfl
theorem MFound.part (x : MFound) : x.enc.part 0 8 = some x.enc := rfl
theorem MFound.l0 (x : MFound) : T.leaf x.enc 0 = T.int .i64 x.Kind := rfl
theorem MFound.l1 (x : MFound) : T.leaf x.enc 1 = T.int .i64 x.What := rfl
theorem MFound.l2 (x : MFound) : T.leaf x.enc 2 = T.int .i64 x.Err := rfl
theorem MFound.l3 (x : MFound) : T.leaf x.enc 3 = T.int .i64 x.At := rfl
theorem MFound.l4 (x : MFound) : T.leaf x.enc 4 = T.lst (List.map MMove.enc x.Trail) := rfl
theorem MFound.l5 (x : MFound) : T.leaf x.enc 5 = T.int .i64 x.Cycle := rfl
theorem MFound.l6 (x : MFound) : T.leaf x.enc 6 = T.int .i64 x.States := rfl
theorem MFound.l7 (x : MFound) : T.leaf x.enc 7 = T.int .i64 x.Steps := rfl
end Go.Ax
