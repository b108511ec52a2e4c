/- Ax, part C: shapes (what is kept at a cut or a loop's head), annotations, code, functions. -/
import Derived.Test.YtcpcbmebpmokbaaDoorAxBa
set_option linter.unusedVariables false
set_option linter.unusedSimpArgs false
namespace Go.Ax
open Go

/-- What is kept of a temporary or of a box's leaf. -/
inductive Tm where
  | int (k : IntKind)
  | bool
  | str
  | lst
  | raw
  | full (d : Nat)
  | bp (d o : Nat)
  | sp (d y : Nat)
  | fb (d y : Nat)
  | nilv
  | fn (g : Nat) (caps : List (Nat × Nat))
  | arg (a : Ak)
  | junk
@[reducible] def Tm.Pay : Tm → Type
  | .int _ => Int
  | .bool => Bool
  | .str => ByteArray
  | .lst => List T
  | .raw => T
  | .arg a => a.Pay
  | _ => Unit
@[reducible] def Tms.Pay : List Tm → Type
  | [] => Unit
  | m :: ms => m.Pay × Tms.Pay ms
/-- where a row is found that is to be called otherwise: in a temporary; in a box -/
inductive RowAt where
  | tmp (t : Nat)
  | leaf (b j : Nat)
def rowAt (s : St) : RowAt → V
  | .tmp t => s.env t
  | .leaf b j => match s.objs b with
    | .box _ (.agg ls) => ls.getD j .junk
    | .box _ v => match j with
      | 0 => v
      | _ + 1 => .junk
    | _ => .junk
/-- an item: a temporary; an object: a row (the one called d; or the one that a temporary or a box holds, called d from now on); a box of leaves; a box of one cold value -/
inductive It where
  | tmp (t : Nat) (m : Tm)
  | row (o : Option RowAt) (d sz : Nat)
  | box (d : Nat) (ms : List Tm)
  | boxT (d n : Nat)
@[reducible] def It.Pay : It → Type
  | .tmp _ m => m.Pay
  | .row _ _ _ => List T
  | .box _ ms => Tms.Pay ms
  | .boxT _ _ => T
@[reducible] def Pay : List It → Type
  | [] => Unit
  | i :: is => i.Pay × Pay is
def It.rowOf (d : Nat) : It → Bool
  | .row _ e _ => Nat.beq e d
  | _ => false
def It.boxOf (d : Nat) : It → Bool
  | .box e _ => Nat.beq e d
  | .boxT e _ => Nat.beq e d
  | _ => false
def hasRow (sh : List It) (d : Nat) : Bool := sh.any (It.rowOf d)
def hasBox (sh : List It) (d : Nat) : Bool := sh.any (It.boxOf d)
/-- an object's name behind the cut, and ahead of it -/
def It.name : It → Option Nat
  | .tmp _ _ => none
  | .row _ d _ => some d
  | .box d _ => some d
  | .boxT d _ => some d
def It.src (s : St) : It → Option Nat
  | .tmp _ _ => none
  | .row o d _ => match o with
    | none => some d
    | some t => match rowAt s t with
      | .full e => some e
      | .fb e _ => some e
      | _ => none
  | .box d _ => some d
  | .boxT d _ => some d
def nm (s : St) (d : Nat) : List It → Option Nat
  | [] => none
  | i :: is => match i.name with
    | some e => bif Nat.beq e d then i.src s else nm s d is
    | none => nm s d is
def shOk (sh : List It) (s : St) : Bool := nodupB (sh.filterMap It.name) && nodupB (sh.filterMap (It.src s))

def capEq (p : V × Nat × Nat) : Bool :=
  match p.1 with
  | .bp d o => Nat.beq d p.2.1 && Nat.beq o p.2.2
  | _ => false
def prTm {R : Type} (sh : List It) (s : St) : (m : Tm) → V → (m.Pay → Option R) → Option R
  | .int q, v, k => match v with | .t x => (x.asInt q).bind k | _ => none
  | .bool, v, k => match v with | .t x => x.asBool.bind k | _ => none
  | .str, v, k => match v with | .t x => x.asStr.bind k | _ => none
  | .lst, v, k => match v with | .t x => x.asLst.bind k | .nilv => k [] | _ => none
  | .raw, v, k => bif v.hot then none else (v.out s.objs).bind k
  | .arg a, v, k => bif v.hot then none else (v.out s.objs).bind fun x => (a.dec x).bind k
  | .full d, v, k => bif hasRow sh d then (match v, nm s d sh with
      | .full e, some e' => bif Nat.beq e e' then k () else none
      | .nilv, none => k ()
      | .nilv, some e' => (match s.objs e' with | .none => k () | _ => none)
      | _, _ => none) else none
  | .bp d o, v, k => bif hasBox sh d then (match v with
      | .bp e p => bif Nat.beq e d && Nat.beq p o then k () else none
      | _ => none) else none
  | .sp d t, v, k => bif hasBox sh d then (match v with
      | .sp e u => bif Nat.beq e d && Nat.beq u t then k () else none
      | _ => none) else none
  | .fb d t, v, k => bif hasRow sh d then (match v, nm s d sh with
      | .fb e u, some e' => bif Nat.beq e e' && Nat.beq u t then k () else none
      | .nilv, none => k ()
      | .nilv, some e' => (match s.objs e' with | .none => k () | _ => none)
      | _, _ => none) else none
  | .nilv, v, k => match v with | .nilv => k () | _ => none
  | .fn g caps, v, k => bif caps.all (fun p => hasBox sh p.1) then (match v with
      | .fn h cs => bif Nat.beq h g && (cs.zip caps).all capEq && Nat.beq cs.length caps.length then k () else none
      | _ => none) else none
  | .junk, _, k => k ()
def inTm : (m : Tm) → m.Pay → V
  | .int q, n => .t (.int q n)
  | .bool, b => .t (.bool b)
  | .str, x => .t (.str x)
  | .lst, xs => .t (.lst xs)
  | .raw, x => .t x
  | .arg a, x => .t (a.enc x)
  | .full d, _ => .full d
  | .bp d o, _ => .bp d o
  | .sp d t, _ => .sp d t
  | .fb d t, _ => .fb d t
  | .nilv, _ => .nilv
  | .fn g caps, _ => .fn g (caps.map fun p => .bp p.1 p.2)
  | .junk, _ => .junk
def prTms {R : Type} (sh : List It) (s : St) : (ms : List Tm) → List V → (Tms.Pay ms → Option R) → Option R
  | [], [], k => k ()
  | m :: ms, v :: vs, k => prTm sh s m v fun p => prTms sh s ms vs fun q => k (p, q)
  | _, _, _ => none
def inTms : (ms : List Tm) → Tms.Pay ms → List V
  | [], _ => []
  | m :: ms, p => inTm m p.1 :: inTms ms p.2
def prIt {R : Type} (sh : List It) (s : St) : (i : It) → (i.Pay → Option R) → Option R
  | .tmp t m, k => prTm sh s m (s.env t) k
  | .row o d sz, k => match o with
    | none => match s.objs d with
      | .row sz' xs => bif Nat.beq sz' sz then k xs else none
      | .none => k []
      | _ => none
    | some t => match rowAt s t with
      | .full e => (match s.objs e with
        | .row sz' xs => bif Nat.beq sz' sz then k xs else none
        | _ => none)
      | .fb e _ => (match s.objs e with
        | .row sz' xs => bif Nat.beq sz' sz then k xs else none
        | _ => none)
      | .nilv => k []
      | _ => none
  | .box d ms, k => match s.objs d with
    | .box n v => bif Nat.beq n ms.length then (match v with
        | .agg ls => prTms sh s ms ls k
        | .t e => if n = 1 then (match e with | .agg _ => none | _ => prTms sh s ms [.t e] k) else leavesK n (.t e) fun ls => prTms sh s ms ls k
        | v => prTms sh s ms [v] k) else none
    | _ => none
  | .boxT d n, k => match s.objs d with
    | .box n' v => bif Nat.beq n' n && !v.hot then (v.out s.objs).bind k else none
    | _ => none
def inIt : (i : It) → i.Pay → St → St
  | .tmp t m, p, s => s.putN t (inTm m p)
  | .row _ d sz, xs, s => s.setOb d (.row sz xs)
  | .box d ms, p, s => s.setOb d (.box ms.length (match inTms ms p with | [v] => v | vs => .agg vs))
  | .boxT d n, x, s => s.setOb d (.box n (.t x))
def prSh {R : Type} (all : List It) (s : St) : (sh : List It) → (Pay sh → Option R) → Option R
  | [], k => k ()
  | i :: is, k => prIt all s i fun p => prSh all s is fun q => k (p, q)
/-- what is kept of the state s -/
def prS {R : Type} (sh : List It) (s : St) (k : Pay sh → Option R) : Option R := bif shOk sh s then prSh sh s sh k else none
def St.empty : St := { env := fun _ => .junk, objs := fun _ => .none }
def inSh : (sh : List It) → Pay sh → St
  | [], _ => St.empty
  | i :: is, p => inIt i p.1 (inSh is p.2)

/-- How code is left. -/
inductive X where
  | normal
  | exit (id : Nat)
  | goto (l : Nat)
  | ret

inductive Ann : Type → Type 1 where
  | d {R : Type} : Ann R
  | seq {R : Type} (a b : Ann R) : Ann R
  | cut {R : Type} (sh : List It) (a : Ann (Pay sh ⊕ R)) (b : Ann R) : Ann R
  | cond {R : Type} (a b : Ann R) : Ann R
  | block {R : Type} (a : Ann R) : Ann R
  | loop {R : Type} (sh : List It) (L : Nat → Pay sh → Option R) (a : Ann R) : Ann R
  | scope {R : Type} (a labs : Ann R) : Ann R
  | lab {R : Type} (l : Nat) (sh : List It) (L : Nat → Pay sh → Option R) (a more : Ann R) : Ann R

def regionFuel (ops : Array Oper) : Nat := 2 * ops.size + 1
/-- what follows a jump to label j, so much fuel left -/
def labK (n : Nat) : {R : Type} → Ann R → Nat → St → Option R
  | _, .lab l sh L _ more, j, s => bif Nat.beq j l then prS sh s fun p => L n p else labK n more j s
  | _, _, _, _ => none
def seqK {R : Type} (b : St → Option R) (k : X → St → Option R) : X → St → Option R
  | .normal, s => b s
  | e, s => k e s
def cutK {R : Type} (sh : List It) (k : X → St → Option R) : X → St → Option (Pay sh ⊕ R)
  | .normal, s => prS sh s fun p => some (.inl p)
  | e, s => (k e s).map .inr
def blockK {R : Type} (id : Nat) (k : X → St → Option R) : X → St → Option R
  | .exit j, s => bif Nat.beq j id then k .normal s else k (.exit j) s
  | e, s => k e s
def loopK {R : Type} (sh : List It) (L : Pay sh → Option R) (k : X → St → Option R) : X → St → Option R
  | .normal, s => prS sh s fun p => L p
  | e, s => k e s
def scopeK {R : Type} (n : Nat) (labs : Ann R) (k : X → St → Option R) : X → St → Option R
  | .goto j, s => labK n labs j s
  | e, s => k e s
def ev (P : Program) (N : Nat) (C : Nat → Option Summary) (fuel : Nat) : Code → (R : Type) → Ann R → St → (X → St → Option R) → Option R
  | .skip, _, _, s, k => k .normal s
  | .label _, _, _, s, k => k .normal s
  | .exit id, _, _, s, k => k (.exit id) s
  | .goto l, _, _, s, k => k (.goto l) s
  | .ret, _, _, s, k => k .ret s
  | .region _ ops dr, R, _, s, k => evOps P N C ops (regionFuel ops) dr none ops.toList s R (k .normal)
  | .seq a b, R, an, s, k => match an with
    | .cut sh x y =>
      (ev P N C fuel a (Pay sh ⊕ R) x s (cutK sh k)).bind fun r => match r with
          | .inl p => ev P N C fuel b R y (inSh sh p) k
          | .inr r => some r
    | .seq x y => ev P N C fuel a R x s (seqK (fun s' => ev P N C fuel b R y s' k) k)
    | _ => ev P N C fuel a R .d s (seqK (fun s' => ev P N C fuel b R .d s' k) k)
  | .cond c a b, R, an, s, k => (s.val c).asBool.bind fun q =>
      match an with
      | .cond x y => if q = true then ev P N C fuel a R x s k else ev P N C fuel b R y s k
      | _ => if q = true then ev P N C fuel a R .d s k else ev P N C fuel b R .d s k
  | .block id a, R, an, s, k => match an with
      | .block x => ev P N C fuel a R x s (blockK id k)
      | _ => ev P N C fuel a R .d s (blockK id k)
  | .loop _, _, an, s, _ => match an with
      | .loop sh L _ => prS sh s fun p => L fuel p
      | _ => none
  | .scope a, R, an, s, k => match an with
      | .scope x labs => ev P N C fuel a R x s (scopeK fuel labs k)
      | .block x => ev P N C fuel a R x s (scopeK fuel .d k)
      | _ => ev P N C fuel a R .d s (scopeK fuel .d k)
  | _, _, _, _, _ => none
/-- what is asked of the annotations: each loop's law is the law of its rounds -/
def Ok (P : Program) (N : Nat) (C : Nat → Option Summary) (fuel : Nat) : {R : Type} → Ann R → Code → (Nat → X → St → Option R) → Prop
  | _, .d, _, _ => True
  | R, .seq x y, .seq a b, k => Ok P N C fuel x a (fun _ => seqK (fun s' => ev P N C fuel b R y s' (k 0)) (k 0)) ∧ Ok P N C fuel y b k
  | R, .cut sh x y, .seq a b, k => Ok P N C fuel x a (fun _ => cutK sh (k 0)) ∧ Ok P N C fuel y b k
  | _, .cond x y, .cond _ a b, k => Ok P N C fuel x a k ∧ Ok P N C fuel y b k
  | _, .block x, .block id a, k => Ok P N C fuel x a (fun _ => blockK id (k 0))
  | _, .block x, .scope a, k => Ok P N C fuel x a (fun _ => scopeK fuel .d (k 0))
  | R, .loop sh L x, .loop a, k => (∀ p, L 0 p = none) ∧ ∀ n, (∀ p, L (n + 1) p = ev P N C fuel a R x (inSh sh p) (loopK sh (L n) (k 0))) ∧ Ok P N C fuel x a (fun _ => loopK sh (L n) (k 0))
  | _, .scope x labs, .scope a, k => Ok P N C fuel x a (fun _ => scopeK fuel labs (k 0)) ∧ Ok P N C fuel labs a (fun n => scopeK n labs (k 0))
  | R, .lab l sh L x more, a, k => (match findLabel a l with
    | some rest => (∀ p, L 0 p = none) ∧ ∀ n, (∀ p, L (n + 1) p = ev P N C fuel rest R x (inSh sh p) (k n)) ∧ Ok P N C fuel x rest (fun _ => k n)
    | none => False) ∧ Ok P N C fuel more a k
  | _, _, _, _ => True

/-- the shape of a result part: of a leaf; of a struct of leaves -/
inductive RSL where
  | t
  | own (sz : Nat)
inductive RS where
  | l (r : RSL)
  | agg (ls : List RSL)
def RS.t : RS := .l .t
def RS.own (sz : Nat) : RS := .l (.own sz)
/-- where a leaf is read -/
inductive Src where
  | whole (t : Nat)
  | leaf (t j : Nat)
def srcV (s : St) : Src → V
  | .whole t => s.env t
  | .leaf t j => match s.env t with
    | .agg ls => ls.getD j .junk
    | .t (.agg ls) => match ls[j]? with
      | some x => .t x
      | none => .junk
    | _ => .junk
def leavesS (t : Nat) : Nat → List RSL → List (RSL × Src)
  | _, [] => []
  | j, r :: rs => (r, .leaf t j) :: leavesS t (j + 1) rs
def flatS : List RS → List ResultVar → Option (List (RSL × Src))
  | [], [] => some []
  | .l r :: rs, .tmp t :: vs => (flatS rs vs).bind fun q => some ((r, .whole t) :: q)
  | .agg ls :: rs, .tmp t :: vs => (flatS rs vs).bind fun q => some (leavesS t 0 ls ++ q)
  | _, _ => none
def aggsB : List RS → List ResultVar → St → Bool
  | .agg ls :: rs, .tmp t :: vs, s => (match s.env t with
    | .agg us => Nat.beq us.length ls.length
    | .t (.agg us) => Nat.beq us.length ls.length
    | _ => false) && aggsB rs vs s
  | .l _ :: rs, _ :: vs, s => aggsB rs vs s
  | _, _, _ => true
/-- the parts that are handed back cold: what they hold is frozen, one after the other -/
def frzRes : List (RSL × Src) → St → Option (List T × St)
  | [], s => some ([], s)
  | (.t, x) :: fs, s => (frz false (srcV s x) s).bind fun p => (frzRes fs p.2).bind fun q => some (p.1 :: q.1, q.2)
  | (.own _, _) :: fs, s => frzRes fs s
/-- the rows handed over -/
def ownRes : List (RSL × Src) → List T → St → Option (List RL)
  | [], [], _ => some []
  | (.t, _) :: fs, x :: xs, s => (ownRes fs xs s).bind fun q => some (.t x :: q)
  | (.own sz, y) :: fs, xs, s => match srcV s y with
    | .full d => match s.objs d with
      | .row sz' ys => bif Nat.beq sz' sz then (ownRes fs xs s).bind fun q => some (.own sz ys :: q) else none
      | _ => none
    | .nilv => (ownRes fs xs s).bind fun q => some (.own sz [] :: q)
    | _ => none
  | _, _, _ => none
def ownIds : List (RSL × Src) → St → List Nat
  | [], _ => []
  | (.own _, y) :: fs, s => match srcV s y with
    | .full d => d :: ownIds fs s
    | _ => ownIds fs s
  | (.t, _) :: fs, s => ownIds fs s
def asmR : List RS → List RL → List RV
  | .l _ :: rs, x :: xs => .l x :: asmR rs xs
  | .agg ls :: rs, xs => .agg (xs.take ls.length) :: asmR rs (xs.drop ls.length)
  | _, _ => []
/-- results that lie in memory are read into temporaries -/
def preRes {R : Type} (P : Program) (N : Nat) : List ResultVar → St → (St → Option R) → Option R
  | [], s, k => k s
  | v :: vs, s, k => match v with
    | .tmp _ => preRes P N vs s k
    | .cell a t => bif Nat.blt a N then ld P t s.objs (s.env a) fun v => preRes P N vs (s.putN a v) k else none
def asTmp : ResultVar → ResultVar
  | .cell a _ => .tmp a
  | .tmp t => .tmp t
def resTmp : ResultVar → Nat
  | .cell a _ => a
  | .tmp t => t
def evRes (vs : List ResultVar) (rs : List RS) (s : St) : Option (List RV) :=
  (flatS rs vs).bind fun fs => (frzRes fs s).bind fun p =>
    bif nodupB (ownIds fs p.2) && aggsB rs vs s then (ownRes fs p.1 p.2).bind fun q => some (asmR rs q) else none
def argEnv : List T → Nat → V
  | [], _ => .junk
  | x :: xs, i => match i with | 0 => .t x | i + 1 => argEnv xs i
def retK (P : Program) (fn : Func) (rs : List RS) {R : Type} (k : List RV → Option R) (s : St) : Option R :=
  bif nodupB (fn.results.toList.map resTmp) then preRes P fn.ntmps fn.results.toList s fun s => (evRes (fn.results.toList.map asTmp) rs s).bind k else none
def fnK (P : Program) (fn : Func) (rs : List RS) {R : Type} (k : List RV → Option R) : X → St → Option R
  | .normal, s => retK P fn rs k s
  | .ret, s => retK P fn rs k s
  | _, _ => none
def evFn (P : Program) (C : Nat → Option Summary) (fuel : Nat) (fn : Func) (rs : List RS) (R : Type) (an : Ann R) (args : List T) (k : List RV → Option R) : Option R :=
  match fn.body with
  | none => none
  | some c => bif Nat.ble fn.ntmps 2000000 then ev P fn.ntmps C fuel c R an { env := argEnv args, objs := fun _ => .none } (fnK P fn rs k) else none
/-- the results, one by one -/
def resSt (vs : List ResultVar) (s : St) : St :=
  { env := fun i => match vs[i]? with | some v => s.env (resTmp v) | none => .junk, objs := s.objs }
/-- results that go cold -/
def frzM {R : Type} : Nat → List Bool → St → (St → Option R) → Option R
  | _, [], s, k => k s
  | i, b :: bs, s, k => bif b then (frz false (s.env i) s).bind fun p => frzM (i + 1) bs (p.2.putN i (.t p.1)) k else frzM (i + 1) bs s k
def retM (P : Program) (fn : Func) (fz : List Bool) (sh : List It) {R : Type} (k : Pay sh → Option R) (s : St) : Option R :=
  bif nodupB (fn.results.toList.map resTmp) && Nat.ble fz.length fn.results.size && Nat.ble fn.results.size 2000000 then preRes P fn.ntmps fn.results.toList s fun s => frzM 0 fz (resSt (fn.results.toList.map asTmp) s) fun s => prS sh s k else none
def fnKM (P : Program) (fn : Func) (fz : List Bool) (sh : List It) {R : Type} (k : Pay sh → Option R) : X → St → Option R
  | .normal, s => retM P fn fz sh k s
  | .ret, s => retM P fn fz sh k s
  | _, _ => none
/-- a function that writes what it is handed: from the state at its beginning to what is kept at its end -/
def evFnM (P : Program) (C : Nat → Option Summary) (fuel : Nat) (fn : Func) (fz : List Bool) (sh : List It) (R : Type) (an : Ann R) (se : St) (k : Pay sh → Option R) : Option R :=
  match fn.body with
  | none => none
  | some c => bif Nat.ble fn.ntmps 2000000 then ev P fn.ntmps C fuel c R an se (fnKM P fn fz sh k) else none
def RL.flat : RL → Bool
  | .t x => x.flat
  | .own _ xs => xs.all T.flat
end Go.Ax
