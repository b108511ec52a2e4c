/- Ax, part Y: tools for the plain laws: what a function returns; reads of typed lists; sums that fit. -/
import Derived.Test.YtcpcbmebpmokbaaDoorAxX
set_option linter.unusedVariables false
set_option linter.unusedSimpArgs false
namespace Go.Ax
open Go

/-- it returns, and what it returns is so -/
def Ret {α : Type} (x : Option α) (Q : α → Prop) : Prop := ∃ a, x = some a ∧ Q a
theorem Ret.some {α : Type} {a : α} {Q : α → Prop} (h : Q a) : Ret (some a) Q := ⟨a, rfl, h⟩
theorem Ret.bind {α β : Type} {x : Option α} {f : α → Option β} {Q : β → Prop} (h : Ret x fun a => Ret (f a) Q) : Ret (x.bind f) Q := by
  obtain ⟨a, rfl, b, hb, hq⟩ := h
  exact ⟨b, hb, hq⟩
theorem Ret.bindB {α β : Type} {x : Option α} {f : α → Option β} {Q : β → Prop} {S : α → Prop} (h : Ret x S) (h' : ∀ a, S a → Ret (f a) Q) : Ret (x.bind f) Q := by
  obtain ⟨a, rfl, ha⟩ := h
  exact h' a ha
theorem Ret.mono {α : Type} {x : Option α} {Q Q' : α → Prop} (h : Ret x Q) (hq : ∀ a, Q a → Q' a) : Ret x Q' := by
  obtain ⟨a, h1, h2⟩ := h
  exact ⟨a, h1, hq a h2⟩
theorem Ret.ite {α : Type} {c : Prop} [Decidable c] {a b : Option α} {Q : α → Prop} (h1 : c → Ret a Q) (h2 : ¬ c → Ret b Q) : Ret (if c then a else b) Q := by
  by_cases h : c
  · rw [if_pos h]; exact h1 h
  · rw [if_neg h]; exact h2 h
theorem Ret.cutB {α R : Type} {x : Option (α ⊕ R)} {f : α → Option R} {Q : R → Prop} (h : Ret x fun v => match v with | .inl p => Ret (f p) Q | .inr r => Q r) : Ret (cutB x f) Q := by
  obtain ⟨a, rfl, h⟩ := h
  cases a with
  | inl p => exact h
  | inr r => exact ⟨r, rfl, h⟩
theorem Ret.eq {α : Type} {x : Option α} {a : α} {Q : α → Prop} (h : x = Option.some a) (hq : Q a) : Ret x Q := ⟨a, h, hq⟩
/-- boolean && and || as they are reckoned -/
theorem and_some {a : Bool} {x : Option Bool} {b : Bool} (h : a = true → x = some b) : (if a = true then x else some false) = some (a && b) := by
  cases a with
  | true => rw [if_pos rfl, h rfl]; rfl
  | false => rfl
theorem or_some {a : Bool} {x : Option Bool} {b : Bool} (h : a = false → x = some b) : (if a = true then some true else x) = some (a || b) := by
  cases a with
  | true => rfl
  | false => simp only [Bool.false_eq_true, if_false, h rfl, Bool.false_or]
theorem and_any {a b : Bool} : (if a = true then some b else some false) = some (a && b) := by cases a <;> rfl
theorem or_any {a b : Bool} : (if a = true then some true else some b) = some (a || b) := by cases a <;> rfl
/-- reads of a typed list -/
theorem rd_map {α : Type} {enc : α → T} {sz : Nat} (hw : ∀ x, (enc x).width = sz) {xs : List α} {i : Nat} (h : i < xs.length) : rd (xs.map enc) (i : Int) sz = some (enc xs[i]) := by
  unfold rd
  rw [if_pos (by omega)]
  have : ((i : Int)).toNat = i := by simp
  rw [this]
  simp [h, hw]
theorem rd_mapZ {α : Type} {enc : α → T} {sz : Nat} (hw : ∀ x, (enc x).width = sz) {xs : List α} {i : Int} (h0 : 0 ≤ i) (h : i < xs.length) : rd (xs.map enc) i sz = some (enc (xs[i.toNat]'(by omega))) := by
  obtain ⟨n, rfl⟩ := Int.eq_ofNat_of_zero_le h0
  exact rd_map hw (by omega)
theorem w64 {n : Int} (h0 : -9223372036854775808 ≤ n) (h1 : n ≤ 9223372036854775807) : IntKind.i64.wrap n = n := wrap_i64 h0 h1
theorem part_all {ls : List T} {n : Nat} (h : ls.length = n) : (T.agg ls).part 0 n = some (.agg ls) := by
  unfold T.part
  simp [h]
theorem chk_map {α : Type} {enc : α → T} {sz : Nat} (hw : ∀ x, (enc x).width = sz) (xs : List α) : chk (xs.map enc) sz = some (xs.map enc) := by
  unfold chk
  rw [if_pos]
  simp [hw]
end Go.Ax
namespace Go.Ax
open Go
theorem asInt_mk {q : IntKind} {n : Int} : T.asInt q (.int q n) = some n := by unfold T.asInt; exact if_pos rfl
theorem asBool_mk {b : Bool} : T.asBool (.bool b) = some b := rfl
theorem asStr_mk {b : ByteArray} : T.asStr (.str b) = some b := rfl
theorem asLst_mk {l : List T} : T.asLst (.lst l) = some l := rfl
theorem bind_mk {α β : Type} {a : α} {f : α → Option β} : (some a).bind f = f a := rfl
end Go.Ax
namespace Go.Ax
open Go
theorem leaf_int {q : IntKind} {n : Int} : T.leaf (.int q n) 0 = .int q n := rfl
theorem leaf_bool {b : Bool} : T.leaf (.bool b) 0 = .bool b := rfl
theorem leaf_str {b : ByteArray} : T.leaf (.str b) 0 = .str b := rfl
theorem leaf_lst {l : List T} : T.leaf (.lst l) 0 = .lst l := rfl
/-- the first one that is bad -/
def fbad {α : Type} (f : α → Bool) : List α → Nat → Option Nat
  | [], _ => none
  | x :: xs, i => if f x = true then fbad f xs (i + 1) else some i
theorem fbad_none {α : Type} {f : α → Bool} : ∀ {xs : List α} {i : Nat}, fbad f xs i = none ↔ xs.all f = true
  | [], _ => by simp [fbad]
  | x :: xs, i => by
    unfold fbad
    cases h : f x with
    | true => simp [h, fbad_none (xs := xs)]
    | false => simp [h]
theorem fbad_some {α : Type} {f : α → Bool} : ∀ {xs : List α} {i j : Nat}, fbad f xs i = some j → i ≤ j ∧ j < i + xs.length
  | [], _, _, h => by simp [fbad] at h
  | x :: xs, i, j, h => by
    unfold fbad at h
    split at h
    · have := fbad_some h
      simp only [List.length_cons]
      omega
    · simp only [Option.some.injEq] at h
      simp only [List.length_cons]
      omega
theorem wrap_succ {i n : Nat} (h : i < n) (hn : n ≤ 4611686018427387904) : IntKind.i64.wrap ((i : Int) + 1) = ((i + 1 : Nat) : Int) := by
  rw [w64 (by omega) (by omega)]; rfl
theorem loop_find {α R : Type} (xs : List α) (F : Nat → Int → Option R) (f : α → Bool) (fin : R) (out : Nat → R)
    (hstep : ∀ k i (h : i < xs.length), F (k + 1) (i : Int) = if f xs[i] = true then F k ((i + 1 : Nat) : Int) else some (out i))
    (hend : ∀ k, F (k + 1) (xs.length : Int) = some fin) :
    ∀ k, xs.length < k → F k 0 = some (match fbad f xs 0 with | none => fin | some i => out i) := by
  have main : ∀ (d k i : Nat), i + d = xs.length → d < k → F k (i : Int) = some (match fbad f (xs.drop i) i with | none => fin | some i => out i) := by
    intro d
    induction d with
    | zero =>
      intro k i hi hk
      obtain ⟨k, rfl⟩ : ∃ m, k = m + 1 := ⟨k - 1, by omega⟩
      have : i = xs.length := by omega
      subst this
      rw [hend, List.drop_length]; rfl
    | succ d ih =>
      intro k i hi hk
      obtain ⟨k, rfl⟩ : ∃ m, k = m + 1 := ⟨k - 1, by omega⟩
      rw [hstep k i (by omega), List.drop_eq_getElem_cons (by omega)]
      unfold fbad
      split
      · exact ih k (i + 1) (by omega) (by omega)
      · rfl
  intro k hk
  have := main xs.length k 0 (by omega) hk
  simpa using this
theorem loop_all {α R : Type} (xs : List α) (F : Nat → Int → Option R) (f : α → Bool) (fin out : R)
    (hstep : ∀ k i (h : i < xs.length), F (k + 1) (i : Int) = if f xs[i] = true then F k ((i + 1 : Nat) : Int) else some out)
    (hend : ∀ k, F (k + 1) (xs.length : Int) = some fin) : ∀ k, xs.length < k → F k 0 = some (if xs.all f = true then fin else out) := by
  intro k hk
  rw [loop_find xs F f fin (fun _ => out) hstep hend k hk]
  cases h : fbad f xs 0 with
  | none => rw [if_pos (fbad_none.1 h)]
  | some i =>
    rw [if_neg]
    intro ha
    rw [fbad_none.2 ha] at h
    cases h
end Go.Ax
namespace Go.Ax
theorem ite_flip {α : Type} (b : Bool) (x y : α) : (if b = true then x else y) = if (!b) = true then y else x := by cases b <;> rfl
theorem ite_flip' {α : Type} (b : Bool) (x y : α) : (if (!b) = true then x else y) = if b = true then y else x := by cases b <;> rfl
end Go.Ax
namespace Go.Ax
open Go
theorem loop_ret {R : Type} {n : Nat} (F : Nat → Int → Option R) (Q : R → Prop) (hstep : ∀ k i, i < n → Ret (F k ((i + 1 : Nat) : Int)) Q → Ret (F (k + 1) (i : Int)) Q)
    (hend : ∀ k, Ret (F (k + 1) (n : Int)) Q) : ∀ k, n < k → Ret (F k 0) Q := by
  have main : ∀ (d k i : Nat), i + d = n → d < k → Ret (F k (i : Int)) Q := by
    intro d
    induction d with
    | zero =>
      intro k i hi hk
      obtain ⟨k, rfl⟩ : ∃ m, k = m + 1 := ⟨k - 1, by omega⟩
      have : i = n := by omega
      subst this
      exact hend k
    | succ d ih =>
      intro k i hi hk
      obtain ⟨k, rfl⟩ : ∃ m, k = m + 1 := ⟨k - 1, by omega⟩
      exact hstep k i (by omega) (ih k (i + 1) (by omega) (by omega))
  intro k hk
  exact main n k 0 (by omega) hk
end Go.Ax
