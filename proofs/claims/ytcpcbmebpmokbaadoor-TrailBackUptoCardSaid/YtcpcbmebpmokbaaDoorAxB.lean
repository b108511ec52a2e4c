/- Ax, part B: the executor: operations, regions, code, functions. -/
import Derived.Test.YtcpcbmebpmokbaaDoorAxA
import Derived.Still
import Derived.Laws.BytesArg
set_option linter.unusedVariables false
set_option linter.unusedSimpArgs false
namespace Go.Ax
open Go

def szOf (P : Program) (t : TypeId) : Option Nat := (P.info? t).map (·.size)
def zeroV (P : Program) (t : TypeId) : Option V := ((P.info? t).bind (·.zero)).map ofConst

section ops
variable {R : Type}

/-- a leaf, as its type has it -/
def ldLeaf (P : Program) (t : TypeId) (x : T) (k : V → Option R) : Option R :=
  match P.underlying t with
  | some (.int q) => (x.asInt q).bind fun n => k (.t (.int q n))
  | some .bool => x.asBool.bind fun b => k (.t (.bool b))
  | some .string => x.asStr.bind fun s => k (.t (.str s))
  | some (.slice _) => x.asLst.bind fun xs => k (.t (.lst xs))
  | some (.pointer _) => x.asRaw.bind fun x => k (.t x)
  | some (.func ..) => x.asRaw.bind fun x => k (.t x)
  | some (.interface _) => x.asRaw.bind fun x => k (.t x)
  | _ => none
def isAggT (P : Program) (t : TypeId) : Bool :=
  match P.underlying t with
  | some (.struct _) => true
  | some (.array _ _) => true
  | _ => false
def nzT (P : Program) (t : TypeId) : Bool :=
  match szOf P t with
  | some (_ + 1) => true
  | _ => false
def isLeafT (P : Program) (t : TypeId) : Bool :=
  match P.underlying t with
  | some (.struct _) => false
  | some (.array _ _) => false
  | some _ => true
  | none => false
def ldT (P : Program) (t : TypeId) (e : T) (o : Nat) (k : V → Option R) : Option R :=
  if isAggT P t = true then
    match szOf P t with
    | some n => (e.part o n).bind fun x => k (.t x)
    | none => none
  else ldLeaf P t (e.leaf o) k
def T.aggN (n : Nat) : T → Option T
  | .agg ls => if ls.length = n then some (.agg ls) else none
  | _ => none
def V.leaves (n : Nat) : V → Option (List V)
  | .agg ls => if ls.length = n then some ls else none
  | .t e => (e.aggN n).bind fun e => some ((List.range n).map fun i => .t (e.leaf i))
  | _ => none
def ldV (P : Program) (t : TypeId) (v : V) (o : Nat) (k : V → Option R) : Option R :=
  match v with
  | .t e => ldT P t e o k
  | .agg ls =>
    if isAggT P t = true then
      match szOf P t with
      | some n => if o + n ≤ ls.length then k (if n = ls.length then .agg ls else .agg ((ls.drop o).take n)) else none
      | none => none
    else match ls[o]? with
      | some (.t x) => ldLeaf P t x k
      | some v => if isLeafT P t = true then k v else none
      | none => none
  | v => if isLeafT P t = true then if o = 0 then k v else none else none
def ld (P : Program) (t : TypeId) (objs : Nat → Ob) (a : V) (k : V → Option R) : Option R :=
  match a with
  | .bp d o => match objs d with
    | .box _ v => ldV P t v o k
    | _ => none
  | .rp d i o => match objs d with
    | .row _ xs => (xs[i]?).bind fun e => ldT P t e o k
    | _ => none
  | .t (.cp e o) => ldT P t e o k
  | _ => none

def asAggV : V → Option V
  | .agg ls => some (.agg ls)
  | .t e => match e with
    | .agg ls => some (.t (.agg ls))
    | _ => none
  | _ => none
def T.one : T → Bool
  | .agg _ => false
  | _ => true
/-- a value of one cell -/
def V.one : V → Bool
  | .t x => x.one
  | .full _ => true
  | .rv _ _ _ => true
  | .bp _ _ => true
  | .rp _ _ _ => true
  | .fb _ _ => true
  | .nilv => true
  | _ => false
def killL : List Nat → V → V
  | [], v => v
  | d :: ds, v => (killL ds v).kill1 d
/-- the leaves of a struct, for good: its rows go cold, one after the other -/
def frzL : List Nat → List V → St → Option (List T × St)
  | _, [], s => some ([], s)
  | ks, v :: vs, s => match killL ks v with
    | .full d => match s.objs d with
      | .row _ xs => (frzL (d :: ks) vs (s.kill d)).bind fun q => some (.lst xs :: q.1, q.2)
      | _ => none
    | v => bif v.hot1 then none else (v.outJ s.objs).bind fun x => (frzL ks vs s).bind fun q => some (x :: q.1, q.2)
/-- a value put for good into memory that is cold in it: what was hot in it is so no more -/
def frz (ro : Bool) (v : V) (s : St) : Option (T × St) :=
  match v with
  | .full d => if ro = true then none else match s.objs d with
    | .row _ xs => some (.lst xs, s.kill d)
    | _ => none
  | .agg ls => if ro = true then (bif V.hot (.agg ls) then none else (V.out s.objs (.agg ls)).bind fun x => some (x, s))
      else (frzL [] ls s).bind fun p => some (.agg p.1, p.2)
  | v => bif v.hot then none else (v.out s.objs).bind fun x => some (x, s)
def frzOps (ro : Bool) : List Operand → St → Option (List T × St)
  | [], s => some ([], s)
  | x :: xs, s => (frz ro (s.val x) s).bind fun p => (frzOps ro xs p.2).bind fun q => some (p.1 :: q.1, q.2)
/-- may it be the content of a box of n cells? -/
def boxable (n : Nat) (v : V) : Option V :=
  match v with
  | .t e => if e.width = n then some v else none
  | .agg ls => if ls.length = n then some v else none
  | .full _ => if n = 1 then some v else none
  | .rv _ _ _ => if n = 1 then some v else none
  | .bp _ _ => if n = 1 then some v else none
  | .rp _ _ _ => if n = 1 then some v else none
  | .fn _ _ => if n = 1 then some v else none
  | .nilv => if n = 1 then some v else none
  | _ => none
def lset (ls : List V) (o : Nat) (vs : List V) : List V := ls.take o ++ vs ++ ls.drop (o + vs.length)
def V.fnB : V → Bool
  | .fn _ _ => true
  | _ => false
/-- one leaf of a box's content is written -/
def stLeaf (m : Nat) (w : V) (o : Nat) (v : V) : Option V :=
  match w with
  | .agg ls => if v.one = true ∧ o < ls.length then some (.agg (ls.set o v)) else none
  | .t e => if m = 1 then
      (match e with
        | .agg _ => none
        | _ => if o = 0 ∧ (v.one || v.fnB) = true then some v else none)
    else (V.leaves m (.t e)).bind fun ls => if v.one = true ∧ o < m then some (.agg (ls.set o v)) else none
  | .tup _ => none
  | .junk => none
  | _ => if m = 1 ∧ o = 0 ∧ (v.one || v.fnB) = true then some v else none
/-- the same, with what follows inside -/
def boxK (n : Nat) (v : V) (k : V → Option R) : Option R :=
  match v with
  | .t e => if e.width = n then k (.t e) else none
  | .agg ls => if ls.length = n then k (.agg ls) else none
  | .full d => if n = 1 then k (.full d) else none
  | .rv d o l => if n = 1 then k (.rv d o l) else none
  | .bp d o => if n = 1 then k (.bp d o) else none
  | .rp d i o => if n = 1 then k (.rp d i o) else none
  | .fn g cs => if n = 1 then k (.fn g cs) else none
  | .nilv => if n = 1 then k .nilv else none
  | _ => none
theorem boxK_eq {n : Nat} {v : V} {k : V → Option R} : boxK n v k = (boxable n v).bind k := by
  cases v <;> simp only [boxK, boxable] <;> first | rfl | (split <;> rfl)
def leavesK (n : Nat) (v : V) (k : List V → Option R) : Option R :=
  match v with
  | .agg ls => if ls.length = n then k ls else none
  | .t e => (e.aggN n).bind fun e => k ((List.range n).map fun i => .t (e.leaf i))
  | _ => none
theorem leavesK_eq {n : Nat} {v : V} {k : List V → Option R} : leavesK n v k = (V.leaves n v).bind k := by
  cases v <;> simp only [leavesK, V.leaves] <;> first | rfl | (split <;> rfl) | (rw [Option.bind_assoc]; rfl)
def stLeafK (m : Nat) (w : V) (o : Nat) (v : V) (k : V → Option R) : Option R :=
  match w with
  | .agg ls => if v.one = true ∧ o < ls.length then k (.agg (ls.set o v)) else none
  | .t e => if m = 1 then
      (match e with
        | .agg _ => none
        | _ => if o = 0 ∧ (v.one || v.fnB) = true then k v else none)
    else leavesK m (.t e) fun ls => if v.one = true ∧ o < m then k (.agg (ls.set o v)) else none
  | .tup _ => none
  | .junk => none
  | _ => if m = 1 ∧ o = 0 ∧ (v.one || v.fnB) = true then k v else none
theorem bind_ite' {α : Type} {c : Prop} [Decidable c] {x : α} {k : α → Option R} : (if c then some x else none).bind k = if c then k x else none := by split <;> rfl
theorem stLeafK_eq {m : Nat} {w : V} {o : Nat} {v : V} {k : V → Option R} : stLeafK m w o v k = (stLeaf m w o v).bind k := by
  cases w with
  | t e =>
    simp only [stLeafK, stLeaf]
    split
    · cases e <;> simp only [bind_ite'] <;> rfl
    · rw [leavesK_eq, Option.bind_assoc]; congr 1; funext ls; rw [bind_ite']
  | _ => simp only [stLeafK, stLeaf, bind_ite'] <;> rfl
def T.setLeaf (e : T) (o : Nat) (x : T) : T :=
  match e with
  | .agg ls => .agg (ls.set o x)
  | _ => x
def stTo (P : Program) (t : TypeId) (s : St) (a v : V) (k : St → Option R) : Option R :=
  match szOf P t with
  | none => none
  | some n =>
    match a with
    | .bp d o => match s.objs d with
      | .box m w =>
        if isAggT P t = true then
          if o = 0 ∧ n = m then boxK m v fun v => k (s.setOb d (.box m v))
          else leavesK m w fun ls => leavesK n v fun vs => if o + n ≤ m then k (s.setOb d (.box m (.agg (lset ls o vs)))) else none
        else if n = 1 then stLeafK m w o v fun w => k (s.setOb d (.box m w)) else none
      | _ => none
    | .rp d i o => match s.objs d with
      | .row sz xs => (frz true v s).bind fun p => (xs[i]?).bind fun e =>
          if isAggT P t = true then
            if o = 0 ∧ n = sz then if p.1.width = sz then k (s.setOb d (.row sz (xs.set i p.1))) else none else none
          else if n = 1 ∧ p.1.one = true ∧ o < sz then k (s.setOb d (.row sz (xs.set i (e.setLeaf o p.1)))) else none
      | _ => none
    | _ => none

/-- the objects behind a store -/
def stObj (P : Program) (t : TypeId) (objs : Nat → Ob) (a v : V) : Option (Nat → Ob) := stTo P t { env := fun _ => .junk, objs := objs } a v fun s => some s.objs

def bitOp (op : BinOp) (q : IntKind) (x y : Int) : Int :=
  let a := BitVec.ofInt q.bits x
  let b := BitVec.ofInt q.bits y
  match op with
  | .and => q.wrap (a &&& b).toNat
  | .or => q.wrap (a ||| b).toNat
  | .xor => q.wrap (a ^^^ b).toNat
  | _ => q.wrap (a &&& ~~~b).toNat
def strEq (x y : ByteArray) : Bool := x.toList == y.toList
def evBin (op : BinOp) (x y : V) (k : V → Option R) : Option R :=
  match x, y with
  | .t (.int q a), .t (.int q' b) =>
    match op with
    | .shl => if b < 0 then none else k (.t (.int q (q.wrap (a * 2 ^ (min b.toNat q.bits)))))
    | .shr => if b < 0 then none else k (.t (.int q (a.fdiv (2 ^ (min b.toNat q.bits)))))
    | _ =>
      if q = q' then
        match op with
        | .add => k (.t (.int q (q.wrap (a + b))))
        | .sub => k (.t (.int q (q.wrap (a - b))))
        | .mul => k (.t (.int q (q.wrap (a * b))))
        | .quo => if b = 0 then none else k (.t (.int q (q.wrap (a.tdiv b))))
        | .rem => if b = 0 then none else k (.t (.int q (a.tmod b)))
        | .and => k (.t (.int q (bitOp .and q a b)))
        | .or => k (.t (.int q (bitOp .or q a b)))
        | .xor => k (.t (.int q (bitOp .xor q a b)))
        | .andNot => k (.t (.int q (bitOp .andNot q a b)))
        | .eql => k (.t (.bool (a == b)))
        | .neq => k (.t (.bool (a != b)))
        | .lss => k (.t (.bool (decide (a < b))))
        | .leq => k (.t (.bool (decide (a ≤ b))))
        | .gtr => k (.t (.bool (decide (a > b))))
        | .geq => k (.t (.bool (decide (a ≥ b))))
        | _ => none
      else none
  | .t (.str a), .t (.str b) =>
    match op with
    | .add => if a.size + b.size ≤ 9223372036854775807 then k (.t (.str (a ++ b))) else none
    | .eql => k (.t (.bool (strEq a b)))
    | .neq => k (.t (.bool (!strEq a b)))
    | _ => none
  | _, _ => none
/-- two bools by their types -/
def evBinB (op : BinOp) (a b : Bool) (k : V → Option R) : Option R :=
  match op with
  | .eql => k (.t (.bool (a == b)))
  | .neq => k (.t (.bool (!(a == b))))
  | _ => none

def byteAt (s : ByteArray) (i : Int) : Option Int := if 0 ≤ i then (s[i.toNat]?).map fun b => (b.toNat : Int) else none
def substr (s : ByteArray) (l h : Int) : Option ByteArray := if 0 ≤ l ∧ l ≤ h ∧ h ≤ s.size then some (s.extract l.toNat h.toNat) else none
def chk (ys : List T) (sz : Nat) : Option (List T) := if ys.all (fun y => y.width == sz) = true then some ys else none

def V.asInt : V → Option (Int)
  | .t (.int _ n) => some n
  | _ => none
def V.asBool : V → Option Bool
  | .t (.bool b) => some b
  | _ => none

/-- what is appended: its elements -/
def srcOf (objs : Nat → Ob) : V → Option (List T)
  | .t (.lst ys) => some ys
  | .t (.str s) => some (s.data.toList.map fun b => .int .u8 b.toNat)
  | .nilv => some []
  | .full d => match objs d with
    | .row _ xs => some xs
    | _ => none
  | .rv d off len => match objs d with
    | .row _ xs => some ((xs.drop off).take len)
    | _ => none
  | _ => none

def roomRo (ro : Bool) (s : St) (d : Nat) (k : St → Option R) : Option R :=
  match s.objs d with
  | .none => k s
  | _ => if ro = true then none else k (s.kill d)

def notIntT (P : Program) (t : TypeId) : Bool :=
  match P.underlying t with
  | some (.int _) => false
  | none => false
  | _ => true
def zeroOk (i : TypeInfo) : Bool :=
  match i.zero with
  | some z => Nat.beq z.cells.size i.size
  | none => false
/-- so many elements of so many bytes can be appended to: what is grown takes no more than memory bears -/
def fitsB (n b : Nat) : Bool := Nat.ble (n * b) 140737488355328 || (Nat.ble b 4096 && Nat.ble (n * b) 200000000000000)
def evAppend (P : Program) (ro : Bool) (argTypes : Array TypeId) (dst : Nat) (s : St) (a x : V) (k : St → Option R) : Option R :=
  match argTypes[0]?, argTypes[1]? with
  | some sT, some xT =>
    match P.underlying sT with
    | some (.slice E) =>
      match P.info? E with
      | some i =>
        if notIntT P xT = false then none else
        if i.size = 0 then none else
        if zeroOk i = false then none else
        if i.bytes = 0 then none else
        (srcOf s.objs x).bind fun ys => (chk ys i.size).bind fun ys =>
        match a with
        | .nilv => if fitsB ys.length i.bytes = true then roomRo ro s dst fun s => k ((s.setOb dst (.row i.size ys)).putN dst (.full dst)) else none
        | .full d => if ro = true then none else
          match s.objs d with
          | .row sz xs => if sz = i.size then
              if fitsB (xs.length + ys.length) i.bytes = true then
                roomRo false (s.kill d) dst fun s => k ((s.setOb dst (.row i.size (xs ++ ys))).putN dst (.full dst)) else none
            else none
          | _ => none
        | .fb d t => if ro = true then none else
          match s.objs d with
          | .row sz xs => if sz = i.size ∧ t = E then
              if fitsB (xs.length + ys.length) i.bytes = true then
                roomRo false (s.kill d) dst fun s => k ((s.setOb dst (.row i.size (xs ++ ys))).putN dst (.fb dst E)) else none
            else none
          | _ => none
        | _ => none
      | none => none
    | _ => none
  | _, _ => none

def evLen (P : Program) (t : TypeId) (objs : Nat → Ob) (x : V) (k : V → Option R) : Option R :=
  match P.underlying t with
  | some .string => match x with
    | .t (.str b) => k (.t (.int .i64 b.size))
    | _ => none
  | some (.array n _) => k (.t (.int .i64 n))
  | some (.slice _) => match x with
    | .t (.lst xs) => k (.t (.int .i64 xs.length))
    | .nilv => k (.t (.int .i64 0))
    | .full d => match objs d with
      | .row _ xs => k (.t (.int .i64 xs.length))
      | _ => none
    | .rv _ _ len => k (.t (.int .i64 len))
    | _ => none
  | _ => none

def site (N d i : Nat) : Nat := d + N * (i + 1)
/-- a result part handed over: its value; the object that comes with it -/
def inOne (N d i : Nat) (r : RL) : V :=
  match r with
  | .t x => .t x
  | .own _ _ => .full (site N d i)
def inVals (N d : Nat) : Nat → List RL → List V
  | _, [] => []
  | i, r :: rs => inOne N d i r :: inVals N d (i + 1) rs
def inObs (N d : Nat) : Nat → List RL → St → St
  | _, [], s => s
  | i, .t _ :: rs, s => inObs N d (i + 1) rs s
  | i, .own sz xs :: rs, s => inObs N d (i + 1) rs (s.setOb (site N d i) (.row sz xs))
/-- the sites that results take: they must be free -/
def ownSites (N d : Nat) : Nat → List RL → List Nat
  | _, [] => []
  | i, .t _ :: r => ownSites N d (i + 1) r
  | i, .own _ _ :: r => site N d i :: ownSites N d (i + 1) r
def nodupB : List Nat → Bool
  | [] => true
  | d :: ds => !(ds.any fun e => Nat.beq d e) && nodupB ds
def rooms (ro : Bool) : List Nat → St → (St → Option R) → Option R
  | [], s, k => k s
  | d :: ds, s, k => roomRo ro s d fun s => rooms ro ds s k

/-- the parts out of their leaves -/
def asm : List RV → List V → List V
  | [], _ => []
  | .l _ :: rs, vs => vs.headD .junk :: asm rs vs.tail
  | .agg ls :: rs, vs => .agg (vs.take ls.length) :: asm rs (vs.drop ls.length)
/-- a row goes cold; who held it, holds it still -/
def V.cool1 (d : Nat) (xs : List T) : V → V
  | .full e => bif Nat.beq e d then .t (.lst xs) else .full e
  | v => v.kill1 d
def V.cool2 (d : Nat) (xs : List T) : V → V
  | .agg ls => .agg (ls.map (V.cool1 d xs))
  | .fn g cs => .fn g (cs.map (V.cool1 d xs))
  | v => v.cool1 d xs
def V.cool (d : Nat) (xs : List T) : V → V
  | .tup ls => .tup (ls.map (V.cool2 d xs))
  | v => v.cool2 d xs
def Ob.cool (d : Nat) (xs : List T) : Ob → Ob
  | .box n v => .box n (v.cool2 d xs)
  | o => o
def St.cool (s : St) (d : Nat) (xs : List T) : St :=
  { env := fun t => (s.env t).cool d xs, objs := fun e => bif Nat.beq e d then .none else (s.objs e).cool d xs }
/-- what a closure holds, handed over or read -/
def capsM (f : Nat → Option Nat) (objs : Nat → Ob) : List V → Option (List V)
  | [] => some []
  | v :: vs => bif v.in1 f then (capsM f objs vs).bind fun us => some (v.ren1 f :: us)
    else (v.out3 objs).bind fun x => (capsM f objs vs).bind fun us => some (.t x :: us)
/-- what is not handed over is read -/
def argR (f : Nat → Option Nat) (s : St) (v : V) : Option V :=
  match v with
  | .fn g cs => (capsM f (fun d => match f d with | some _ => .none | none => s.objs d) cs).bind fun cs => some (.fn g cs)
  | v => (v.out (fun d => match f d with | some _ => .none | none => s.objs d)).bind fun x => some (.t x)
/-- arguments, in the callee's names; what is not handed over is read, or goes cold -/
def argsM (flat : Bool) (f : Nat → Option Nat) : Nat → List V → St → Option (List V × St)
  | n + 1, v :: vs, s =>
    bif v.in2 f then (argsM flat f n vs s).bind fun q => some (v.ren2 f :: q.1, q.2)
    else bif flat then (argR f s v).bind fun u => (argsM flat f n vs s).bind fun q => some (u :: q.1, q.2)
    else match v with
      | .full d => match s.objs d with
        | .row _ xs => (argsM flat f n (vs.map (V.cool d xs)) (s.cool d xs)).bind fun q => some (.t (.lst xs) :: q.1, q.2)
        | _ => none
      | _ => none
  | _, _, s => some ([], s)
def entryM (σ : List (Nat × Nat)) (us : List V) (s : St) : St :=
  { env := fun t => us.getD t .junk, objs := fun d => match bwd σ d with | some e => (s.objs e).ren (fwd σ) | none => .none }
def Ob.isOb : Ob → Bool
  | .none => false
  | _ => true
/-- what was handed over and does not stay a box, goes -/
def killStep (p : Nat × Nat) (x s : St) : St :=
  match s.objs p.2, x.objs p.1 with
  | .none, _ => s
  | .box n _, .box m _ => bif Nat.beq n m then s else s.kill p.2
  | _, _ => s.kill p.2
def killM : List (Nat × Nat) → St → St → St
  | [], _, s => s
  | p :: ps, x, s => killM ps x (killStep p x s)
/-- new objects: their names -/
def newM (N dst : Nat) (σ : List (Nat × Nat)) : Nat → List Nat → List (Nat × Nat)
  | _, [] => []
  | i, e :: es => match bwd σ e with
    | some _ => newM N dst σ (i + 1) es
    | none => (e, site N dst i) :: newM N dst σ (i + 1) es
def killS : List (Nat × Nat) → St → St
  | [], s => s
  | p :: ps, s => killS ps (s.room p.2)
/-- new boxes bear no pinned name -/
def pinOk (x s : St) (p : Nat × Nat) : Bool :=
  match x.objs p.1 with
  | .box _ _ => Nat.blt p.2 2000000 || (s.objs p.2).isOb
  | _ => true
def backM (τ : List (Nat × Nat)) (x s : St) : St :=
  { env := s.env, objs := fun d => match fwd τ d with | some e => (x.objs e).ren (bwd τ) | none => s.objs d }
def resM (τ : List (Nat × Nat)) (n : Nat) (x : St) : List V := (List.range n).map fun i => (x.env i).ren2 (bwd τ)
/-- the caller's state, and what is new in it -/
def afterM (N : Nat) (M : Mut) (dst : Option Nat) (σ τ : List (Nat × Nat)) (s x : St) (k : St → Option R) : Option R :=
  bif nodupB ((τ ++ σ).map (·.1)) && nodupB ((τ ++ σ).map (·.2)) && (τ ++ σ).all (pinOk x (killS τ (killM σ x s))) then
    k ((backM (τ ++ σ) x (killS τ (killM σ x s))).put dst (match resM (τ ++ σ) M.nres x with | [v] => v | vs => .tup vs))
  else none
def evCallM (ro : Bool) (N : Nat) (M : Mut) (dst : Option Nat) (s : St) (vs : List V) (k : St → Option R) : Option R :=
  bif ro then none else
  bif Nat.beq vs.length M.nargs && nodupB ((M.sub vs s.objs).map (·.1)) && nodupB ((M.sub vs s.objs).map (·.2)) then
    (argsM M.flat (fwd (M.sub vs s.objs)) vs.length vs s).bind fun q =>
      bif (M.sub vs s.objs).all (fun p => (q.2.objs p.2).isOb && Nat.ble 2000000 p.1) then
        M.run R (entryM (M.sub vs s.objs) q.1 q.2) fun x => afterM N M dst (M.sub vs s.objs) (newM N (dst.getD 0) (M.sub vs s.objs) 0 M.outs) q.2 x k
      else none
  else none
def evCall (ro : Bool) (N : Nat) (C : Nat → Option Summary) (dst : Option Nat) (s : St) (g : Nat) (vs : List V) (k : St → Option R) : Option R :=
  match C g with
  | none => none
  | some S => match S.m with
   | some M => evCallM ro N M dst s vs k
   | none =>
    (outs s.objs vs).bind fun ts => (S.args ts).bind fun a =>
      if (vs.any V.hot && !S.apart) = true then none else
      (S.fn a).bind fun b =>
        bif nodupB (ownSites N (dst.getD 0) 0 (flatRV (S.res b))) then rooms ro (ownSites N (dst.getD 0) 0 (flatRV (S.res b))) s fun s =>
          k ((inObs N (dst.getD 0) 0 (flatRV (S.res b)) s).put dst (match asm (S.res b) (inVals N (dst.getD 0) 0 (flatRV (S.res b))) with | [v] => v | vs => .tup vs)) else none

def vals (s : St) (xs : List Operand) : List V := xs.map s.val

def setAll : List (Nat × T) → List T → List T
  | [], xs => xs
  | p :: ps, xs => setAll ps (xs.set p.1 p.2)
/-- a struct's or an array's leaves, part by part -/
def bldStruct (P : Program) (fs : Array Field) : List (Nat × V) → List V → Option (List V)
  | [], ls => some ls
  | p :: ps, ls => match fs[p.1]? with
    | some fd => match szOf P fd.type with
      | some n => if isAggT P fd.type = true then (p.2.leaves n).bind fun vs => if fd.offset + n ≤ ls.length then bldStruct P fs ps (lset ls fd.offset vs) else none
          else if n = 1 ∧ p.2.one = true then if fd.offset < ls.length then bldStruct P fs ps (ls.set fd.offset p.2) else none else none
      | none => none
    | none => none
def bldArr (n : Nat) : List (Nat × V) → List V → Option (List V)
  | [], ls => some ls
  | p :: ps, ls => if p.2.one = true ∧ p.1 < ls.length then bldArr n ps (ls.set p.1 p.2) else none

def bldStructK (P : Program) (fs : Array Field) : List (Nat × V) → List V → (List V → Option R) → Option R
  | [], ls, k => k ls
  | p :: ps, ls, k => match fs[p.1]? with
    | some fd => match szOf P fd.type with
      | some n => if isAggT P fd.type = true then leavesK n p.2 fun vs => if fd.offset + n ≤ ls.length then bldStructK P fs ps (lset ls fd.offset vs) k else none
          else if n = 1 ∧ p.2.one = true then if fd.offset < ls.length then bldStructK P fs ps (ls.set fd.offset p.2) k else none else none
      | none => none
    | none => none
theorem bldStructK_eq {P : Program} {fs : Array Field} {k : List V → Option R} : ∀ {ps : List (Nat × V)} {ls : List V}, bldStructK P fs ps ls k = (bldStruct P fs ps ls).bind k
  | [], _ => rfl
  | p :: ps, ls => by
    simp only [bldStructK, bldStruct]
    cases fs[p.1]? with
    | none => rfl
    | some fd =>
      simp only
      cases szOf P fd.type with
      | none => rfl
      | some n =>
        simp only
        split
        · rw [leavesK_eq, Option.bind_assoc]; congr 1; funext vs
          split
          · exact bldStructK_eq
          · rfl
        · split
          · split
            · exact bldStructK_eq
            · rfl
          · rfl
def bldArrK (n : Nat) : List (Nat × V) → List V → (List V → Option R) → Option R
  | [], ls, k => k ls
  | p :: ps, ls, k => if p.2.one = true ∧ p.1 < ls.length then bldArrK n ps (ls.set p.1 p.2) k else none
theorem bldArrK_eq {n : Nat} {k : List V → Option R} : ∀ {ps : List (Nat × V)} {ls : List V}, bldArrK n ps ls k = (bldArr n ps ls).bind k
  | [], _ => rfl
  | p :: ps, ls => by
    simp only [bldArrK, bldArr]
    split
    · exact bldArrK_eq
    · rfl
def T.aggO : T → Option T
  | .agg ls => some (.agg ls)
  | _ => none
def fieldK (v : V) (k : V → Option R) : Option R :=
  match v with
  | .agg ls => k (.agg ls)
  | .t e => e.aggO.bind fun e => k (.t e)
  | _ => none
theorem fieldK_eq {v : V} {k : V → Option R} : fieldK v k = (asAggV v).bind k := by
  cases v with
  | t e => cases e <;> rfl
  | _ => rfl
/-- cold values as they are -/
def outsC : List V → Option (List T)
  | [] => some []
  | v :: vs => bif v.hot then none else (v.out (fun _ => .none)).bind fun x => (outsC vs).bind fun xs => some (x :: xs)
/-- a call whose results are all cold -/
def evCallQ (C : Nat → Option Summary) (objs : Nat → Ob) (g : Nat) (vs : List V) (kv : V → Option R) : Option R :=
  match C g with
  | none => none
  | some S => match S.m with
   | some _ => none
   | none =>
    (outs objs vs).bind fun ts => (S.args ts).bind fun a =>
      if (vs.any V.hot && !S.apart) = true then none else
      (S.fn a).bind fun b =>
        bif (ownSites 0 0 0 (flatRV (S.res b))).isEmpty then
          kv (match asm (S.res b) (inVals 0 0 0 (flatRV (S.res b))) with | [v] => v | vs => .tup vs) else none
/-- a struct of whole numbers alone: their kinds -/
def intKs (P : Program) : Nat → List Field → Option (List IntKind)
  | _, [] => some []
  | i, f :: fs => bif (f.name == "_") || !Nat.beq f.offset i then none else
    match P.underlying f.type with
    | some (.int q) => (match szOf P f.type with
      | some 1 => (intKs P (i + 1) fs).bind fun ks => some (q :: ks)
      | _ => none)
    | _ => none
def structKs (P : Program) (t : TypeId) : Option (List IntKind) :=
  match P.underlying t with
  | some (.struct fs) => bif P.stoodInHeld t || P.eqGuardType P.depth t then none else intKs P 0 fs.toList
  | _ => none
def intsL : List IntKind → List T → Option (List Int)
  | [], [] => some []
  | q :: qs, x :: xs => (x.asInt q).bind fun n => (intsL qs xs).bind fun ns => some (n :: ns)
  | _, _ => none
def T.ints (ks : List IntKind) : T → Option (List Int)
  | .agg ls => intsL ks ls
  | _ => none
def evSt (op : BinOp) (ks : List IntKind) (u v : V) (k : V → Option R) : Option R :=
  (u.out2 (fun _ => .none)).bind fun a => (v.out2 (fun _ => .none)).bind fun b => (a.ints ks).bind fun ns => (b.ints ks).bind fun ms =>
    match op with
    | .eql => k (.t (.bool (ns == ms)))
    | .neq => k (.t (.bool (!(ns == ms))))
    | _ => none
/-- the operations that make no memory and write none: the value -/
def rowOf (objs : Nat → Ob) : V → Option (List T)
  | .t (.lst ys) => some ys
  | .nilv => some []
  | .full d => match objs d with
    | .row _ xs => some xs
    | _ => none
  | .rv d off len => match objs d with
    | .row _ xs => some ((xs.drop off).take len)
    | _ => none
  | _ => none
/-- bytes, as numbers -/
def numsT : List T → Option (List Int)
  | [] => some []
  | x :: xs => (x.asInt .u8).bind fun n => (numsT xs).bind fun ns => some (n :: ns)
def constO : Operand → Bool
  | .const _ => true
  | _ => false
def evQ (P : Program) (C : Nat → Option Summary) (o : Oper) (ρ : Operand → V) (objs : Nat → Ob) (put : V → Option R) : Option R :=
  match o.op with
  | .move x => put (ρ x)
  | .assign x => put (ρ x)
  | .pick c a b => match ρ c with
    | .t (.bool q) => match ρ a, ρ b with
      | .t (.bool x), .t (.bool y) => put (.t (.bool (if q = true then x else y)))
      | u, v => if q = true then put u else put v
    | _ => none
  | .load t a => ld P t objs (ρ a) put
  | .nilCheck x => match ρ x with
    | .bp d o => put (.bp d o)
    | .rp d i o => put (.rp d i o)
    | .t (.cp e o) => put (.t (.cp e o))
    | _ => none
  | .binOp op t x y _ => match structKs P t with
   | some ks => evSt op ks (ρ x) (ρ y) put
   | none => match ρ x, ρ y with
    | .t (.bool a), .t (.bool b) => (match P.underlying t with | some .bool => evBinB op a b put | _ => none)
    | .t (.er b), .t .ni => (match P.underlying t with | some (.interface _) => (bif constO y then evBinB op b false put else none) | _ => none)
    | .t .ni, .t .ni => (match P.underlying t with | some (.interface _) => (bif constO y then evBinB op true true put else none) | _ => none)
    | u, v => evBin op u v put
  | .unOp op _ x => match op, ρ x with
    | .not, .t (.bool b) => put (.t (.bool (!b)))
    | .neg, .t (.int q n) => put (.t (.int q (q.wrap (0 - n))))
    | .xor, .t (.int q n) => put (.t (.int q (bitOp .xor q (if q.signed = true then -1 else q.max) n)))
    | _, _ => none
  | .convert src dst x => match P.underlying src, P.underlying dst, ρ x with
    | some _, some (.int q), .t (.int _ n) => put (.t (.int q (q.wrap n)))
    | some .string, some .string, .t (.str b) => put (.t (.str b))
    | some (.slice e), some .string, v => (match P.underlying e with
      | some (.int .u8) => (rowOf objs v).bind fun xs => (numsT xs).bind fun ns => put (.t (.str (strOfNums ns)))
      | _ => none)
    | _, _, _ => none
  | .fieldAddr t x f => match P.underlying t with
    | some (.struct fs) => match fs[f]? with
      | some fd => if nzT P fd.type = true then
          match ρ x with
          | .bp d o => put (.bp d (o + fd.offset))
          | .rp d i o => put (.rp d i (o + fd.offset))
          | .t (.cp e o) => put (.t (.cp e (o + fd.offset)))
          | _ => none
        else none
      | none => none
    | _ => none
  | .field t x f => match P.underlying t with
    | some (.struct fs) => match fs[f]? with
      | some fd => fieldK (ρ x) fun u => ldV P fd.type u fd.offset put
      | none => none
    | _ => none
  | .indexAddr t x ix => (ρ ix).asInt.bind fun i => match P.underlying t with
    | some (.slice E) => match szOf P E with
      | some sz => match ρ x with
        | .t (.lst xs) => (rd xs i sz).bind fun e => put (.t (.cp e 0))
        | .full d => match objs d with
          | .row sz' xs => if sz' = sz then if 0 ≤ i ∧ i < xs.length then put (.rp d i.toNat 0) else none else none
          | _ => none
        | .rv d off len => match objs d with
          | .row sz' _ => if sz' = sz then if 0 ≤ i ∧ i < len then put (.rp d (off + i.toNat) 0) else none else none
          | _ => none
        | _ => none
      | none => none
    | some (.array n E) => match szOf P E with
      | some sz => if 0 ≤ i ∧ i < n then match ρ x with
          | .bp d o => put (.bp d (o + i.toNat * sz))
          | .t (.cp e o) => put (.t (.cp e (o + i.toNat * sz)))
          | _ => none
        else none
      | none => none
    | _ => none
  | .index t x ix => (ρ ix).asInt.bind fun i => match P.underlying t, ρ x with
    | some .string, .t (.str b) => (byteAt b i).bind fun n => put (.t (.int .u8 n))
    | some (.array n E), v => match szOf P E with
      | some sz => if 0 ≤ i ∧ i < n then (v.out (fun _ => .none)).bind fun e => e.aggO.bind fun e => ldT P E e (i.toNat * sz) put else none
      | none => none
    | _, _ => none
  | .extract x i => match ρ x with
    | .tup vs => (vs[i]?).bind put
    | _ => none
  | .slice t x lo hi mx => match mx with
    | some _ => none
    | none => match P.underlying t, ρ x with
      | some .string, .t (.str b) =>
        (match lo with | some l => (ρ l).asInt | none => some 0).bind fun l =>
        (match hi with | some h => (ρ h).asInt | none => some (b.size : Int)).bind fun h =>
        (substr b l h).bind fun r => put (.t (.str r))
      | some (.slice E), .t (.lst xs) =>
        (match lo with | some l => (ρ l).asInt | none => some 0).bind fun l =>
        (match hi with | some h => (ρ h).asInt | none => some (xs.length : Int)).bind fun h =>
        if (szOf P E).isSome = true ∧ 0 ≤ l ∧ l ≤ h ∧ h ≤ xs.length then (chk xs ((szOf P E).getD 0)).bind fun xs => put (.t (.lst ((xs.drop l.toNat).take (h.toNat - l.toNat)))) else none
      | some (.slice E), .full d => match objs d with
        | .row sz xs =>
          (match lo with | some l => (ρ l).asInt | none => some 0).bind fun l =>
          (match hi with | some h => (ρ h).asInt | none => some (xs.length : Int)).bind fun h =>
          if szOf P E = some sz then if 0 ≤ l ∧ l ≤ h ∧ h ≤ xs.length then put (.rv d l.toNat (h.toNat - l.toNat)) else none else none
        | _ => none
      | some (.slice E), .rv d off len => match objs d with
        | .row sz _ =>
          (match lo with | some l => (ρ l).asInt | none => some 0).bind fun l =>
          (match hi with | some h => (ρ h).asInt | none => some (len : Int)).bind fun h =>
          if szOf P E = some sz then if 0 ≤ l ∧ l ≤ h ∧ h ≤ len then put (.rv d (off + l.toNat) (h.toNat - l.toNat)) else none else none
        | _ => none
      | _, _ => none
  | .build t parts => match P.underlying t, zeroV P t with
    | some (.struct fs), some (.agg z) => if fs.toList.all (fun f => (szOf P f.type).isSome) = true then
      bldStructK P fs (parts.toList.map fun p => (p.1, ρ p.2)) z fun ls => put (.agg ls) else none
    | some (.array n E), some (.agg z) =>
      (match szOf P E with
       | some 1 => bldArrK n (parts.toList.map fun p => (p.1, ρ p.2)) z fun ls => put (.agg ls)
       | _ => none)
    | _, _ => none
  | .buildSlice t len parts => match P.underlying t with
    | some (.slice E) => match szOf P E, zeroV P E with
      | some sz, some z => if sz = 0 ∨ 16777216 < len * sz then none else
        (z.out (fun _ => .none)).bind fun z => if z.width = sz then
          (outsC (parts.toList.map fun p => ρ p.2)).bind fun xs => (chk xs sz).bind fun ys =>
            if (parts.toList.map (·.1)).all (fun i => Nat.blt i len) = true then
              put (.t (.lst (setAll ((parts.toList.map (·.1)).zip ys) (List.replicate len z))))
            else none
          else none
      | _, _ => none
    | _ => none
  | .makeFunc (.func g) first captured => if first.size = 0 ∧ (captured.toList.map ρ).all V.one = true then put (.fn g (captured.toList.map ρ)) else none
  | .call c => match c.callee with
    | .builtin .len => match c.args.toList, c.argTypes[0]? with
      | [x], some t => evLen P t objs (ρ x) put
      | _, _ => none
    | .builtin .max => match c.args.toList.map ρ with
      | [.t (.int q a), .t (.int _ b)] => put (.t (.int q (if b > a then b else a)))
      | _ => none
    | .builtin .min => match c.args.toList.map ρ with
      | [.t (.int q a), .t (.int _ b)] => put (.t (.int q (if b < a then b else a)))
      | _ => none
    | .value f => match ρ f with
      | .fn g caps => evCallQ C objs g (c.args.toList.map ρ ++ caps) put
      | .t (.fn g caps) => evCallQ C objs g (c.args.toList.map ρ ++ caps.map .t) put
      | _ => none
    | _ => none
  | _ => none

/-- is it the type of a builder: a pointer to itself, and bytes? -/
def isBld (P : Program) (t : TypeId) : Bool :=
  match (P.info? t).bind (·.zero) with
  | some (.agg cs) => Nat.beq cs.size 2 && (match cs[0]?, cs[1]?, P.underlying t with
    | some (Value.pointer none), some (Value.slice none 0 0), some (.struct fs) => Nat.beq fs.size 2 && (match fs[0]? with
      | some fd => (match P.underlying fd.type with
        | some (.pointer u) => Nat.beq u t
        | _ => false)
      | none => false)
    | _, _, _ => false)
  | _ => false
def evOp (P : Program) (ro : Bool) (N : Nat) (C : Nat → Option Summary) (o : Oper) (s : St) (k : St → Option R) : Option R :=
  match o.op with
  | .alloc t => match o.dst, szOf P t, zeroV P t with
    | some d, some n, some v => bif isBld P t then roomRo ro s d fun s => k ((s.setOb d (.box 2 (.agg [.sp d t, .nilv]))).putN d (.bp d 0))
      else roomRo ro s d fun s => boxK n v fun v => k ((s.setOb d (.box n v)).putN d (.bp d 0))
    | _, _, _ => none
  | .box t x => match o.dst, szOf P t with
    | some d, some n => roomRo ro s d fun s => boxK n (s.val x) fun v => k ((s.setOb d (.box n v)).putN d (.bp d 0))
    | _, _ => none
  | .store t a x => if ro = true then none else stTo P t s (s.val a) (s.val x) fun s => k (s.put o.dst (.tup []))
  | .buildSlice t len parts => match o.dst, P.underlying t with
    | some d, some (.slice E) => match szOf P E, zeroV P E with
      | some sz, some z => if sz = 0 ∨ 16777216 < len * sz then none else
        (z.out (fun _ => .none)).bind fun z => if z.width = sz then
          (frzOps ro (parts.toList.map (·.2)) s).bind fun q => (chk q.1 sz).bind fun ys =>
            if (parts.toList.map (·.1)).all (fun i => Nat.blt i len) = true then
              roomRo ro q.2 d fun s => k ((s.setOb d (.row sz (setAll ((parts.toList.map (·.1)).zip ys) (List.replicate len z)))).putN d (.full d))
            else none
          else none
      | _, _ => none
    | _, _ => none
  | .makeSlice t l c => match o.dst, P.underlying t with
    | some d, some (.slice E) => match P.info? E, zeroV P E with
      | some i, some z => if i.size = 0 then none else
        (z.out (fun _ => .none)).bind fun z => (s.val l).asInt.bind fun n => (s.val c).asInt.bind fun m =>
          if z.width = i.size ∧ 0 ≤ n ∧ n ≤ m ∧ m * i.bytes ≤ 140737488355328 ∧ m ≤ 9223372036854775807 then
            roomRo ro s d fun s => k ((s.setOb d (.row i.size (List.replicate n.toNat z))).putN d (.full d))
          else none
      | _, _ => none
    | _, _ => none
  | .call c => match c.callee with
    | .builtin .append => match o.dst, c.args.toList with
      | some d, [a, x] => evAppend P ro c.argTypes d s (s.val a) (s.val x) k
      | _, _ => none
    | .value f => match s.val f with
      | .fn g caps => evCall ro N C o.dst s g (vals s c.args.toList ++ caps) k
      | .t (.fn g caps) => evCall ro N C o.dst s g (vals s c.args.toList ++ caps.map .t) k
      | _ => none
    | _ => evQ P C o s.val s.objs fun v => k (s.put o.dst v)
  | _ => evQ P C o s.val s.objs fun v => k (s.put o.dst v)

/-- the temporaries that operations write -/
def dsts : List Oper → List Nat
  | [] => []
  | o :: os => match o.dst with
    | some d => d :: dsts os
    | none => dsts os
def junkAll (s : St) : List Nat → St
  | [] => s
  | d :: ds => (junkAll s ds).putN d .junk
def gEq (a b : Option (Nat × Bool)) : Bool :=
  match a, b with
  | none, none => true
  | some (i, x), some (j, y) => Nat.beq i j && (x == y)
  | _, _ => false
def spanG (ctx : Option (Nat × Bool)) : List Oper → List Oper × List Oper
  | [] => ([], [])
  | o :: os => bif gEq o.guard ctx then ([], o :: os) else let p := spanG ctx os; (o :: p.1, p.2)
def tmpOf (ops : Array Oper) (j : Nat) : Option Nat := (ops[j]?).bind (·.dst)
def okDst (N : Nat) (o : Oper) : Bool :=
  match o.dst with
  | some d => Nat.blt d N
  | none => true
/-- the run is passed over as a whole: its guards all say no -/
def skipB (N : Nat) (ops : Array Oper) (j : Nat) (w : Bool) : List Nat → List Oper → Bool
  | _, [] => true
  | ds, o :: os => okDst N o && (match o.guard with
      | some (g, x) => (Nat.beq g j && (x == w)) || (match tmpOf ops g with
        | some t => ds.any fun e => Nat.beq t e
        | none => false)
      | none => false) && skipB N ops j w (match o.dst with | some d => d :: ds | none => ds) os
def V.isJunk : V → Bool
  | .junk => true
  | _ => false
def okArgs (o : Oper) (s : St) : Bool := o.op.operands.toList.all fun x => !(s.val x).isJunk
def memB (t : Nat) (ds : List Nat) : Bool := ds.any fun e => Nat.beq t e
/-- operations that make or write memory -/
def loudOp : Op → Bool
  | .alloc _ | .box _ _ | .store _ _ _ | .buildSlice _ _ _ | .makeSlice _ _ _ => true
  | .call c => match c.callee with
    | .builtin .append => true
    | .value _ => true
    | _ => false
  | _ => false
def dependsB (ops : Array Oper) (j i : Nat) : Bool :=
  match ops[j]? with
  | some o => o.after.toList.any fun e => Region.binds .any e && Nat.beq e.on i
  | none => false
/-- each operation ahead of k is waited for by another one, k at the last -/
def succAll (ops : Array Oper) (k : Nat) : Bool := (List.range k).all fun i => (List.range (k + 1)).any fun j => Nat.blt i j && dependsB ops j i
/-- k waits for i, over others -/
def firm (ops : Array Oper) (k : Nat) : Nat → Nat → Bool
  | 0, _ => false
  | n + 1, i => dependsB ops k i || (List.range k).any fun j => Nat.blt i j && dependsB ops j i && firm ops k n j
/-- operations that don't look at memory -/
def floatOp : Op → Bool
  | .move _ | .assign _ | .binOp _ _ _ _ _ | .unOp _ _ _ | .build _ _ | .extract _ _ | .index _ _ _ | .pick _ _ _ => true
  | _ => false
/-- operations that look at rows alone, given what leads to rows -/
def readOp : Op → Bool
  | .load _ _ | .indexAddr _ _ _ | .slice _ _ _ _ _ | .convert _ _ _ => true
  | .call c => match c.callee with
    | .builtin .len => true
    | _ => false
  | _ => false
def storeOp : Op → Bool
  | .store _ _ _ => true
  | _ => false
def floatB (ops : Array Oper) (i : Nat) : Bool :=
  match ops[i]? with
  | some o => (match o.guard with | none => true | some _ => false) && (floatOp o.op || readOp o.op)
  | none => false
def readB (ops : Array Oper) (i : Nat) : Bool :=
  match ops[i]? with
  | some o => readOp o.op
  | none => false
def storeB (ops : Array Oper) (k : Nat) : Bool :=
  match ops[k]? with
  | some o => storeOp o.op
  | none => false
/-- a store that does not wait for it -/
def looseB (ops : Array Oper) (i : Nat) : Bool := (List.range ops.size).any fun k => Nat.blt i k && storeB ops k && !firm ops k k i
/-- a reader for which it does not wait -/
def looseR (ops : Array Oper) (k : Nat) : Bool := (List.range k).any fun i => readB ops i && !firm ops k k i
def V.rowy : V → Bool
  | .t _ | .full _ | .rv _ _ _ | .rp _ _ _ | .nilv => true
  | _ => false
def V.isBp : V → Bool
  | .bp _ _ => true
  | _ => false
def rdOk (ops : Array Oper) (i : Nat) (o : Oper) (s : St) : Bool := !readOp o.op || !looseB ops i || o.op.operands.toList.all fun x => (s.val x).rowy
def stOk (ops : Array Oper) (k : Nat) (o : Oper) (s : St) : Bool :=
  match o.op with
  | .store _ a _ => !looseR ops k || (s.val a).isBp
  | _ => true
def succOk (ops : Array Oper) (k : Nat) : Bool := succAll ops k || (storeB ops k && (List.range k).all fun i => firm ops k k i || floatB ops i)
def isOne : List Nat → Nat → Bool
  | [x], k => Nat.beq x k
  | _, _ => false
/-- what stands behind, waits for it -/
def predOk (ops : Array Oper) (k : Nat) : Bool := isOne (Region.ready .any ops ((Array.range ops.size).map fun i => Nat.blt i k)) k
def noG : Option (Nat × Bool) → Bool
  | none => true
  | some _ => false
def barOk (ops : Array Oper) (o : Oper) (k : Nat) : Bool := noG o.guard && loudOp o.op && succOk ops k && predOk ops k
/-- operations in their order; quiet: only those that make no memory and write none; whatever stands under a guard of this region must be quiet -/
def evOps (P : Program) (N : Nat) (C : Nat → Option Summary) (ops : Array Oper) : (fuel : Nat) → (quiet : Bool) → (ctx : Option (Nat × Bool)) → List Oper → St → (R : Type) → (St → Option R) → Option R
  | 0, _, _, _, _, _, _ => none
  | _ + 1, _, _, [], s, _, k => k s
  | n + 1, dr, ctx, o :: os, s, R, k =>
    bif gEq o.guard ctx then
      bif okDst N o then (bif dr then (bif noG ctx && barOk ops o (ops.size - (os.length + 1)) then (bif stOk ops (ops.size - (os.length + 1)) o s then evOp P false N C o s fun s => evOps P N C ops n dr ctx os s R k else none)
          else bif okArgs o s && (!noG ctx || rdOk ops (ops.size - (os.length + 1)) o s) then evQ P C o s.val s.objs fun v => evOps P N C ops n dr ctx os (s.put o.dst v) R k else none)
        else evOp P false N C o s fun s => evOps P N C ops n dr ctx os s R k) else none
    else match o.guard with
      | none => none
      | some (j, w) =>
        match tmpOf ops j with
        | none => none
        | some jd => match s.env jd with
          | .t (.bool b) =>
            let run := spanG ctx (o :: os)
            match run.2 with
            | p :: rest => match p.op, p.dst with
              | .pick (.tmp c) x y, some pd =>
                bif Nat.beq c jd && okDst N p && skipB N ops j w [] run.1 && !memB jd (dsts run.1) then
                  (if b = true then
                      (match w with
                      | true => evOps P N C ops n true (some (j, w)) run.1 s Bool fun s' => (s'.val x).asBool
                      | false => ((junkAll s (dsts run.1)).val x).asBool)
                    else
                      (match w with
                      | true => ((junkAll s (dsts run.1)).val y).asBool
                      | false => evOps P N C ops n true (some (j, w)) run.1 s Bool fun s' => (s'.val y).asBool)).bind fun u =>
                  evOps P N C ops n dr ctx rest ((junkAll s (dsts run.1)).putN pd (.t (.bool u))) R k
                else none
              | _, _ => none
            | [] => none
          | _ => none
end ops
end Go.Ax
