/- Ax, part Ba: kinds of cells and of arguments: how a cold value is taken apart. -/
import Derived.Test.YtcpcbmebpmokbaaDoorAxB
set_option linter.unusedVariables false
set_option linter.unusedSimpArgs false
namespace Go.Ax
open Go

/-- kinds of one cell -/
inductive Ck where
  | int (q : IntKind)
  | bool
  | str
  | lst
  | raw
  | ptr
  | err
@[reducible] def Ck.Pay : Ck → Type
  | .int _ => Int
  | .bool => Bool
  | .str => ByteArray
  | .lst => List T
  | .raw => T
  | .ptr => T
  | .err => Bool
def T.asErr : T → Option Bool
  | .er b => some b
  | _ => none
theorem ckErr_some {x : T} {b : Bool} (h : x.asErr = some b) : x = .er b := by
  cases x <;> simp [T.asErr] at h
  rw [h]
def T.asPtr : T → Option T
  | .cp e 0 => some e
  | _ => none
def Ck.dec : (c : Ck) → T → Option c.Pay
  | .int q, x => x.asInt q
  | .bool, x => x.asBool
  | .str, x => x.asStr
  | .lst, x => x.asLst
  | .raw, x => some x
  | .ptr, x => x.asPtr
  | .err, x => x.asErr
def Ck.enc : (c : Ck) → c.Pay → T
  | .int q, n => .int q n
  | .bool, b => .bool b
  | .str, s => .str s
  | .lst, xs => .lst xs
  | .raw, x => x
  | .ptr, e => .cp e 0
  | .err, b => .er b
theorem ckInt_some {q : IntKind} {x : T} {n : Int} (h : x.asInt q = some n) : x = .int q n := by
  cases x <;> simp [T.asInt] at h
  obtain ⟨rfl, rfl⟩ := h
  rfl
theorem ckBool_some {x : T} {b : Bool} (h : x.asBool = some b) : x = .bool b := by
  cases x <;> simp [T.asBool] at h
  rw [h]
theorem ckStr_some {x : T} {b : ByteArray} (h : x.asStr = some b) : x = .str b := by
  cases x <;> simp [T.asStr] at h
  rw [h]
theorem ckLst_some {x : T} {b : List T} (h : x.asLst = some b) : x = .lst b := by
  cases x <;> simp [T.asLst] at h
  rw [h]
theorem ckPtr_some {x e : T} (h : x.asPtr = some e) : x = .cp e 0 := by
  unfold T.asPtr at h
  split at h <;> simp_all
theorem Ck.dec_some {c : Ck} {x : T} {p : c.Pay} (h : c.dec x = some p) : x = c.enc p := by
  cases c with
  | int q => exact ckInt_some h
  | bool => exact ckBool_some h
  | str => exact ckStr_some h
  | lst => exact ckLst_some h
  | raw => exact Option.some.inj h
  | ptr => exact ckPtr_some h
  | err => exact ckErr_some h
@[reducible] def Cks.Pay : List Ck → Type
  | [] => Unit
  | c :: cs => c.Pay × Cks.Pay cs
def Cks.dec : (cs : List Ck) → List T → Option (Cks.Pay cs)
  | [], [] => some ()
  | c :: cs, x :: xs => (c.dec x).bind fun p => (Cks.dec cs xs).bind fun q => some (p, q)
  | _, _ => none
def Cks.enc : (cs : List Ck) → Cks.Pay cs → List T
  | [], _ => []
  | c :: cs, p => c.enc p.1 :: Cks.enc cs p.2
theorem Cks.dec_some : ∀ {cs : List Ck} {xs : List T} {p : Cks.Pay cs}, Cks.dec cs xs = some p → xs = Cks.enc cs p
  | [], [], _, _ => rfl
  | c :: cs, x :: xs, p, h => by
    simp only [Cks.dec, Option.bind_eq_some_iff, Option.some.injEq] at h
    obtain ⟨a, ha, b, hb, rfl⟩ := h
    show _ = c.enc a :: Cks.enc cs b
    rw [Ck.dec_some ha, Cks.dec_some hb]
  | [], _ :: _, _, h => by simp [Cks.dec] at h
  | _ :: _, [], _, h => by simp [Cks.dec] at h

/-- kinds of arguments: of a cell; the function g with what it holds -/
inductive Ak where
  | cell (c : Ck)
  | fn (g : Nat) (cs : List Ck)
@[reducible] def Ak.Pay : Ak → Type
  | .cell c => c.Pay
  | .fn _ cs => Cks.Pay cs
def Ak.dec : (a : Ak) → T → Option a.Pay
  | .cell c, x => c.dec x
  | .fn g cs, x => match x with
    | .fn h xs => bif Nat.beq h g then Cks.dec cs xs else none
    | _ => none
def Ak.enc : (a : Ak) → a.Pay → T
  | .cell c, p => c.enc p
  | .fn g cs, p => .fn g (Cks.enc cs p)
theorem Ak.dec_some {a : Ak} {x : T} {p : a.Pay} (h : a.dec x = some p) : x = a.enc p := by
  cases a with
  | cell c => exact Ck.dec_some h
  | fn g cs =>
    cases x with
    | fn k xs =>
      replace h : (bif Nat.beq k g then Cks.dec cs xs else none) = some p := h
      cases hb : Nat.beq k g with
      | false => rw [hb] at h; cases h
      | true =>
        rw [hb] at h
        have := Nat.eq_of_beq_eq_true hb
        subst this
        show _ = T.fn _ _
        rw [Cks.dec_some (cs := cs) (p := p) h]
    | _ => cases h
end Go.Ax
