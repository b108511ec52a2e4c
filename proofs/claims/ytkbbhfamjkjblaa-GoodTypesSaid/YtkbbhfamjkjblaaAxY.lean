/- Ax, part Y: tools for the plain laws: what a function returns; reads of typed lists; sums that fit. -/
import Derived.Test.YtkbbhfamjkjblaaAxX
set_option linter.unusedVariables false
set_option linter.unusedSimpArgs false
namespace Go.Ax
open Go

/-- it returns, and what it returns is so -/
def Ret {α : Type} (x : Option α) (Q : α → Prop) : Prop := ∃ a, x = some a ∧ Q a
theorem Ret.some {α : Type} {a : α} {Q : α → Prop} (h : Q a) : Ret (some a) Q := ⟨a, rfl, h⟩
theorem Ret.bind {α β : Type} {x : Option α} {f : α → Option β} {Q : β → Prop} (h : Ret x fun a => Ret (f a) Q) : Ret (x.bind f) Q := by
  obtain ⟨a, rfl, b, hb, hq⟩ := h
  exact ⟨b, hb, hq⟩
theorem Ret.bindB {α β : Type} {x : Option α} {f : α → Option β} {Q : β → Prop} {S : α → Prop} (h : Ret x S) (h' : ∀ a, S a → Ret (f a) Q) : Ret (x.bind f) Q := by
  obtain ⟨a, rfl, ha⟩ := h
  exact h' a ha
theorem Ret.mono {α : Type} {x : Option α} {Q Q' : α → Prop} (h : Ret x Q) (hq : ∀ a, Q a → Q' a) : Ret x Q' := by
  obtain ⟨a, h1, h2⟩ := h
  exact ⟨a, h1, hq a h2⟩
theorem Ret.ite {α : Type} {c : Prop} [Decidable c] {a b : Option α} {Q : α → Prop} (h1 : c → Ret a Q) (h2 : ¬ c → Ret b Q) : Ret (if c then a else b) Q := by
  by_cases h : c
  · rw [if_pos h]; exact h1 h
  · rw [if_neg h]; exact h2 h
theorem Ret.cutB {α R : Type} {x : Option (α ⊕ R)} {f : α → Option R} {Q : R → Prop} (h : Ret x fun v => match v with | .inl p => Ret (f p) Q | .inr r => Q r) : Ret (cutB x f) Q := by
  obtain ⟨a, rfl, h⟩ := h
  cases a with
  | inl p => exact h
  | inr r => exact ⟨r, rfl, h⟩
theorem Ret.eq {α : Type} {x : Option α} {a : α} {Q : α → Prop} (h : x = Option.some a) (hq : Q a) : Ret x Q := ⟨a, h, hq⟩
/-- boolean && and || as they are reckoned -/
theorem and_some {a : Bool} {x : Option Bool} {b : Bool} (h : a = true → x = some b) : (if a = true then x else some false) = some (a && b) := by
  cases a with
  | true => rw [if_pos rfl, h rfl]; rfl
  | false => rfl
theorem or_some {a : Bool} {x : Option Bool} {b : Bool} (h : a = false → x = some b) : (if a = true then some true else x) = some (a || b) := by
  cases a with
  | true => rfl
  | false => simp only [Bool.false_eq_true, if_false, h rfl, Bool.false_or]
theorem and_any {a b : Bool} : (if a = true then some b else some false) = some (a && b) := by cases a <;> rfl
theorem or_any {a b : Bool} : (if a = true then some true else some b) = some (a || b) := by cases a <;> rfl
/-- reads of a typed list -/
theorem rd_map {α : Type} {enc : α → T} {sz : Nat} (hw : ∀ x, (enc x).width = sz) {xs : List α} {i : Nat} (h : i < xs.length) : rd (xs.map enc) (i : Int) sz = some (enc xs[i]) := by
  unfold rd
  rw [if_pos (by omega)]
  have : ((i : Int)).toNat = i := by simp
  rw [this]
  simp [h, hw]
theorem rd_mapZ {α : Type} {enc : α → T} {sz : Nat} (hw : ∀ x, (enc x).width = sz) {xs : List α} {i : Int} (h0 : 0 ≤ i) (h : i < xs.length) : rd (xs.map enc) i sz = some (enc (xs[i.toNat]'(by omega))) := by
  obtain ⟨n, rfl⟩ := Int.eq_ofNat_of_zero_le h0
  exact rd_map hw (by omega)
theorem w64 {n : Int} (h0 : -9223372036854775808 ≤ n) (h1 : n ≤ 9223372036854775807) : IntKind.i64.wrap n = n := wrap_i64 h0 h1
theorem part_all {ls : List T} {n : Nat} (h : ls.length = n) : (T.agg ls).part 0 n = some (.agg ls) := by
  unfold T.part
  simp [h]
theorem chk_map {α : Type} {enc : α → T} {sz : Nat} (hw : ∀ x, (enc x).width = sz) (xs : List α) : chk (xs.map enc) sz = some (xs.map enc) := by
  unfold chk
  rw [if_pos]
  simp [hw]
end Go.Ax
namespace Go.Ax
open Go
theorem asInt_mk {q : IntKind} {n : Int} : T.asInt q (.int q n) = some n := by unfold T.asInt; exact if_pos rfl
theorem asBool_mk {b : Bool} : T.asBool (.bool b) = some b := rfl
theorem asStr_mk {b : ByteArray} : T.asStr (.str b) = some b := rfl
theorem asLst_mk {l : List T} : T.asLst (.lst l) = some l := rfl
theorem bind_mk {α β : Type} {a : α} {f : α → Option β} : (some a).bind f = f a := rfl
end Go.Ax
