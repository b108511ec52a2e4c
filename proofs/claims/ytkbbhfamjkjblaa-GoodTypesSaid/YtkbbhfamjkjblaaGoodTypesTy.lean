/- The types of the law's arguments, in plain Lean, and as cold values. -/
import Derived.Test.YtkbbhfamjkjblaaAxX
set_option linter.unusedVariables false
namespace Go.Ax
open Go
structure MType where
  Bits : Int
  Signed : Bool
def MType.ls (x : MType) : List T := [T.int .i64 x.Bits, T.bool x.Signed]
def MType.enc (x : MType) : T := .agg x.ls
def MType.ok (x : MType) : Prop := okI x.Bits ∧ okT x.Signed
theorem MType.enc_width (x : MType) : x.enc.width = 2 := rfl
theorem MType.part (x : MType) : x.enc.part 0 2 = some x.enc := rfl
theorem MType.l0 (x : MType) : T.leaf x.enc 0 = T.int .i64 x.Bits := rfl
theorem MType.l1 (x : MType) : T.leaf x.enc 1 = T.bool x.Signed := rfl
structure MDim where
  I : Int
  Len : Int
  Stride : Int
def MDim.ls (x : MDim) : List T := [T.int .i64 x.I, T.int .i64 x.Len, T.int .i64 x.Stride]
def MDim.enc (x : MDim) : T := .agg x.ls
def MDim.ok (x : MDim) : Prop := okI x.I ∧ okI x.Len ∧ okI x.Stride
theorem MDim.enc_width (x : MDim) : x.enc.width = 3 := rfl
theorem MDim.part (x : MDim) : x.enc.part 0 3 = some x.enc := rfl
theorem MDim.l0 (x : MDim) : T.leaf x.enc 0 = T.int .i64 x.I := rfl
theorem MDim.l1 (x : MDim) : T.leaf x.enc 1 = T.int .i64 x.Len := rfl
theorem MDim.l2 (x : MDim) : T.leaf x.enc 2 = T.int .i64 x.Stride := rfl
structure MVar where
  Scope : Int
  Slot : Int
  Who : Int
  Type_ : Int
  Dims : List MDim
def MVar.ls (x : MVar) : List T := [T.int .i64 x.Scope, T.int .i64 x.Slot, T.int .i64 x.Who, T.int .i64 x.Type_, T.lst (List.map MDim.enc x.Dims)]
def MVar.enc (x : MVar) : T := .agg x.ls
def MVar.ok (x : MVar) : Prop := okI x.Scope ∧ okI x.Slot ∧ okI x.Who ∧ okI x.Type_ ∧ (okL 24 MDim.ok) x.Dims
theorem MVar.enc_width (x : MVar) : x.enc.width = 5 := rfl
theorem MVar.part (x : MVar) : x.enc.part 0 5 = some x.enc := rfl
theorem MVar.l0 (x : MVar) : T.leaf x.enc 0 = T.int .i64 x.Scope := rfl
theorem MVar.l1 (x : MVar) : T.leaf x.enc 1 = T.int .i64 x.Slot := rfl
theorem MVar.l2 (x : MVar) : T.leaf x.enc 2 = T.int .i64 x.Who := rfl
theorem MVar.l3 (x : MVar) : T.leaf x.enc 3 = T.int .i64 x.Type_ := rfl
theorem MVar.l4 (x : MVar) : T.leaf x.enc 4 = T.lst (List.map MDim.enc x.Dims) := rfl
end Go.Ax
