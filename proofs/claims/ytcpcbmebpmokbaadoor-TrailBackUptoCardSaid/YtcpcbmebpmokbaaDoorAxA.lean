/- Ax, part A: the abstract executor's words: cold values, frame values, objects, shapes, annotations, the executor. No program in sight. -/
import Derived.Calls
import Derived.Laws.Sem
set_option linter.unusedVariables false
set_option linter.unusedSimpArgs false
namespace Go.Ax
open Go

/-- Cold values: what memory that nobody writes any more holds. -/
inductive T where
  | bool (b : Bool)
  | int (k : IntKind) (n : Int)
  | str (s : ByteArray)
  | agg (ls : List T)
  | lst (xs : List T)
  | cp (e : T) (o : Nat)
  | fn (g : Nat) (caps : List T)
  | np
  | nf
  | ni
  /-- a value of an interface: is it other than nil? -/
  | er (b : Bool)
  | junk
  deriving Inhabited

def T.width : T → Nat
  | .agg ls => ls.length
  | _ => 1
def T.leaf : T → Nat → T
  | .agg ls, o => ls.getD o .junk
  | x, 0 => x
  | _, _ + 1 => .junk
def T.asInt (k : IntKind) : T → Option Int
  | .int k' n => if k' = k then some n else none
  | _ => none
def T.asBool : T → Option Bool
  | .bool b => some b
  | _ => none
def T.asStr : T → Option ByteArray
  | .str s => some s
  | _ => none
def T.asLst : T → Option (List T)
  | .lst xs => some xs
  | _ => none
def T.asRaw : T → Option T
  | .cp e o => some (.cp e o)
  | .fn g cs => some (.fn g cs)
  | .np => some .np
  | .nf => some .nf
  | .ni => some .ni
  | .er b => some (.er b)
  | _ => none
/-- the part of n leaves from o on, of a struct within a struct; the whole one stays as it is -/
def T.part (e : T) (o n : Nat) : Option T :=
  match e with
  | .agg ls => if o + n ≤ ls.length then some (if n = ls.length then .agg ls else .agg ((ls.drop o).take n)) else none
  | _ => none
/-- an element of a list, of so many leaves -/
def rd (xs : List T) (i : Int) (sz : Nat) : Option T :=
  if 0 ≤ i then (xs[i.toNat]?).bind fun e => if e.width = sz then some e else none else none

/-- Values of a frame. -/
inductive V where
  | t (x : T)
  | full (d : Nat)
  | rv (d off len : Nat)
  | bp (d o : Nat)
  | rp (d i o : Nat)
  /-- nil, or the box d itself, which is of type t -/
  | sp (d y : Nat)
  /-- the whole of the row d, whose elements are of type t -/
  | fb (d y : Nat)
  | agg (ls : List V)
  | fn (g : Nat) (caps : List V)
  | tup (vs : List V)
  | nilv
  | junk
  deriving Inhabited

inductive Ob where
  | none
  | box (n : Nat) (v : V)
  | row (sz : Nat) (xs : List T)
  deriving Inhabited

structure St where
  env : Nat → V
  objs : Nat → Ob

def St.putN (s : St) (d : Nat) (v : V) : St := { s with env := fun t => bif Nat.beq t d then v else s.env t }
def St.put (s : St) (d : Option Nat) (v : V) : St :=
  match d with
  | some d => s.putN d v
  | none => s
def St.setOb (s : St) (d : Nat) (o : Ob) : St := { s with objs := fun t => bif Nat.beq t d then o else s.objs t }

/-- What becomes of references to an object that goes. -/
def V.kill1 (d : Nat) : V → V
  | .full e => bif Nat.beq e d then .junk else .full e
  | .rv e a b => bif Nat.beq e d then .junk else .rv e a b
  | .bp e o => bif Nat.beq e d then .junk else .bp e o
  | .rp e i o => bif Nat.beq e d then .junk else .rp e i o
  | .sp e y => bif Nat.beq e d then .junk else .sp e y
  | .fb e y => bif Nat.beq e d then .junk else .fb e y
  | v => v
def V.kill2 (d : Nat) : V → V
  | .agg ls => .agg (ls.map (V.kill1 d))
  | .fn g cs => .fn g (cs.map (V.kill1 d))
  | v => V.kill1 d v
def V.kill (d : Nat) : V → V
  | .tup ls => .tup (ls.map (V.kill2 d))
  | v => V.kill2 d v
def Ob.kill (d : Nat) : Ob → Ob
  | .box n v => .box n (v.kill2 d)
  | o => o
def St.kill (s : St) (d : Nat) : St :=
  { env := fun t => (s.env t).kill d, objs := fun e => bif Nat.beq e d then .none else (s.objs e).kill d }
/-- room for a new object at d: what was there goes -/
def St.room (s : St) (d : Nat) : St :=
  match s.objs d with
  | .none => s
  | _ => s.kill d

def leafConst : Value → V
  | .int k n => .t (.int k n)
  | .bool b => .t (.bool b)
  | .string s => .t (.str s)
  | .slice none 0 0 => .nilv
  | .pointer none => .t .np
  | .nilFunc => .t .nf
  | .nilIface => .t .ni
  | _ => .junk
def ofConst : Value → V
  | .agg cs => if cs.toList.all Value.oneCell' = true then .agg (cs.toList.map leafConst) else .junk
  | .tuple vs => if vs.size = 0 then .tup [] else .junk
  | v => leafConst v
def St.val (s : St) : Operand → V
  | .tmp t => s.env t
  | .const v => ofConst v
  | .func f => .fn f []
  | .global _ => .junk

/-- a value as it reads at this moment, handed to who only reads -/
def V.out1 (objs : Nat → Ob) : V → Option T
  | .t x => some x
  | .nilv => some (.lst [])
  | .full d => match objs d with
    | .row _ xs => some (.lst xs)
    | _ => none
  | .rv d off len => match objs d with
    | .row _ xs => some (.lst ((xs.drop off).take len))
    | _ => none
  | _ => none
def V.outJ (objs : Nat → Ob) : V → Option T
  | .junk => some .junk
  | v => v.out1 objs
def outs1 (objs : Nat → Ob) : List V → Option (List T)
  | [] => some []
  | v :: vs => (v.outJ objs).bind fun x => (outs1 objs vs).bind fun xs => some (x :: xs)
def V.out2 (objs : Nat → Ob) : V → Option T
  | .agg ls => (outs1 objs ls).bind fun ts => some (.agg ts)
  | v => v.out1 objs
def V.out3 (objs : Nat → Ob) : V → Option T
  | .bp d o => match objs d with
    | .box _ v => (v.out2 objs).bind fun x => some (.cp x o)
    | _ => none
  | .rp d i o => match objs d with
    | .row _ xs => (xs[i]?).bind fun x => some (.cp x o)
    | _ => none
  | v => v.out2 objs
def outs3 (objs : Nat → Ob) : List V → Option (List T)
  | [] => some []
  | v :: vs => (v.out3 objs).bind fun x => (outs3 objs vs).bind fun xs => some (x :: xs)
def V.out (objs : Nat → Ob) : V → Option T
  | .fn g cs => (outs3 objs cs).bind fun ts => some (.fn g ts)
  | v => v.out3 objs
def outs (objs : Nat → Ob) : List V → Option (List T)
  | [] => some []
  | v :: vs => (v.out objs).bind fun x => (outs objs vs).bind fun xs => some (x :: xs)
/-- does it lead to what this frame may still write? -/
def V.hot1 : V → Bool
  | .t _ => false
  | .nilv => false
  | .junk => false
  | _ => true
def V.hot : V → Bool
  | .agg ls => ls.any V.hot1
  | .fn _ cs => cs.any V.hot1
  | v => v.hot1

/-- Results, part by part: cold, or a row of the callee's own, handed over; a struct of such leaves. -/
inductive RL where
  | t (x : T)
  | own (sz : Nat) (xs : List T)
  deriving Inhabited
inductive RV where
  | l (r : RL)
  | agg (ls : List RL)
  deriving Inhabited
def RV.leaves : RV → List RL
  | .l r => [r]
  | .agg ls => ls
def flatRV : List RV → List RL
  | [] => []
  | r :: rs => r.leaves ++ flatRV rs
/-- no slice and no pointer in it -/
def T.flat1 : T → Bool
  | .bool _ | .int _ _ | .str _ | .np | .nf | .ni | .er _ => true
  | _ => false
def T.flat : T → Bool
  | .agg ls => ls.all T.flat1
  | x => x.flat1
def V.flatV1 : V → Bool
  | .t x => x.flat
  | _ => true
def V.flatV : V → Bool
  | .agg ls => ls.all V.flatV1
  | .fn _ cs => cs.all V.flatV1
  | v => v.flatV1
def Ob.flat : Ob → Bool
  | .none => true
  | .box _ v => v.flatV
  | .row _ xs => xs.all T.flat

/-- names: (the callee's, the caller's) -/
def bwd : List (Nat × Nat) → Nat → Option Nat
  | [], _ => none
  | p :: ps, d => bif Nat.beq p.1 d then some p.2 else bwd ps d
def fwd : List (Nat × Nat) → Nat → Option Nat
  | [], _ => none
  | p :: ps, e => bif Nat.beq p.2 e then some p.1 else fwd ps e
def V.ren1 (f : Nat → Option Nat) : V → V
  | .full d => match f d with | some e => .full e | none => .junk
  | .rv d a b => match f d with | some e => .rv e a b | none => .junk
  | .bp d o => match f d with | some e => .bp e o | none => .junk
  | .rp d i o => match f d with | some e => .rp e i o | none => .junk
  | .sp d y => match f d with | some e => .sp e y | none => .junk
  | .fb d y => match f d with | some e => .fb e y | none => .junk
  | v => v
def V.ren2 (f : Nat → Option Nat) : V → V
  | .agg ls => .agg (ls.map (V.ren1 f))
  | .fn g cs => .fn g (cs.map (V.ren1 f))
  | v => v.ren1 f
def Ob.ren (f : Nat → Option Nat) : Ob → Ob
  | .box n v => .box n (v.ren2 f)
  | o => o
/-- does all that it leads to have a name? -/
def V.in1 (f : Nat → Option Nat) : V → Bool
  | .full d => (f d).isSome
  | .rv d _ _ => (f d).isSome
  | .bp d _ => (f d).isSome
  | .rp d _ _ => (f d).isSome
  | .sp d _ => (f d).isSome
  | .fb d _ => (f d).isSome
  | .tup _ => false
  | _ => true
def V.in2 (f : Nat → Option Nat) : V → Bool
  | .agg ls => ls.all (V.in1 f)
  | .fn _ cs => cs.all (V.in1 f)
  | v => v.in1 f
/-- What is said of a callee that writes what it is handed: the state at its beginning (arguments, objects), the one at its end (results, objects). -/
structure Mut : Type 1 where
  nargs : Nat
  /-- which of the caller's objects are handed over, under which names -/
  sub : List V → (Nat → Ob) → List (Nat × Nat)
  run : (R : Type) → St → (St → Option R) → Option R
  nres : Nat
  /-- the objects that there are at the end, but the boxes that were handed over -/
  outs : List Nat
  /-- what there is at the end leads to no cold memory -/
  flat : Bool
structure Summary : Type 1 where
  A : Type
  B : Type
  args : List T → Option A
  fn : A → Option B
  /-- what it hands back shares no memory with its arguments -/
  apart : Bool
  res : B → List RV
  m : Option Mut := none

end Go.Ax
