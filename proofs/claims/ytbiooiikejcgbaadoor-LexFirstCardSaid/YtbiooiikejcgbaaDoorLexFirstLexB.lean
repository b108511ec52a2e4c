/- Layer 1: the document's blanks; letters and digits. -/
import Derived.Test.YtbiooiikejcgbaaDoorLexFirstLexA
set_option linter.unusedVariables false
set_option linter.unusedSimpArgs false
namespace Go.Ax
open Go
theorem wadd {a b : Nat} (h : a + b ≤ 1000000000) : IntKind.i64.wrap ((a : Int) + (b : Int)) = ((a + b : Nat) : Int) := by rw [w64 (by omega) (by omega)]; rfl
theorem wadd1 {a : Nat} (h : a ≤ 1000000000) : IntKind.i64.wrap ((a : Int) + 1) = ((a + 1 : Nat) : Int) := by rw [w64 (by omega) (by omega)]; rfl
theorem wadd2 {a : Nat} (h : a ≤ 1000000000) : IntKind.i64.wrap ((a : Int) + 2) = ((a + 2 : Nat) : Int) := by rw [w64 (by omega) (by omega)]; rfl
theorem wadd3 {a : Nat} (h : a ≤ 1000000000) : IntKind.i64.wrap ((a : Int) + 3) = ((a + 3 : Nat) : Int) := by rw [w64 (by omega) (by omega)]; rfl
theorem wsub {a b : Nat} (h : b ≤ a) (h' : a ≤ 1000000000) : IntKind.i64.wrap ((a : Int) - (b : Int)) = ((a - b : Nat) : Int) := by rw [w64 (by omega) (by omega)]; omega
theorem ref01_Blank_l0_is (q : Nat) (s : ByteArray) (i : Nat) (hs : s.size ≤ 70000) : ∀ (d j k : Nat), i + 2 ≤ j → d = s.size - j → j ≤ s.size + 2 → d < k →
    ref01_Blank_l0 q k s i j = some (if eoc s j < s.size then .inr (.inr (((eoc s j + 2 - i : Nat) : Int), 0, true, ())) else .inl ())
  | 0, j, k, hj, hd, hj2, hk => by
    obtain ⟨k, rfl⟩ : ∃ m, k = m + 1 := ⟨k - 1, by omega⟩
    unfold ref01_Blank_l0
    rw [if_neg (by simp; omega)]
    have : eoc s j = j := by unfold eoc; rw [← hd]; rfl
    rw [this, if_neg (by omega)]
  | d + 1, j, k, hj, hd, hj2, hk => by
    obtain ⟨k, rfl⟩ : ∃ m, k = m + 1 := ⟨k - 1, by omega⟩
    unfold ref01_Blank_l0
    rw [if_pos (by simp; omega), ref01_begins_is q s _ j (by show j + 2 ≤ _; omega) (fun h => by cases h)]
    simp only [bind_mk]
    have he : eoc s j = if atB s (ByteArray.mk #[42, 47]) j = true then j else eoc s (j + 1) := by
      have h1 : s.size - (j + 1) = d := by omega
      unfold eoc
      rw [← hd, h1]; rfl
    rw [he]
    cases hc : atB s (ByteArray.mk #[42, 47]) j with
    | true =>
      have := at_lt hc
      simp only [if_true]
      rw [if_pos (by omega), wadd2 (by omega), wsub (by omega) (by omega)]
    | false =>
      simp only [Bool.false_eq_true, if_false]
      rw [wadd1 (by omega)]
      exact ref01_Blank_l0_is q s i hs d (j + 1) k (by omega) (by omega) (by omega) (by omega)
theorem ref01_Blank_l1_is (q : Nat) (s : ByteArray) (i : Nat) (hs : s.size ≤ 70000) : ∀ (d j k : Nat), d = s.size - (i + j) → i + j ≤ s.size → d < k →
    ref01_Blank_l1 q k s i j = some (.inl (((eol s (i + j) - i : Nat) : Int), ()))
  | 0, j, k, hd, hj, hk => by
    obtain ⟨k, rfl⟩ : ∃ m, k = m + 1 := ⟨k - 1, by omega⟩
    unfold ref01_Blank_l1
    rw [wadd (by omega), if_neg (by simp; omega)]
    have : eol s (i + j) = i + j := by unfold eol; rw [← hd]; rfl
    simp only [bind_mk, Bool.false_eq_true, if_false]
    rw [this]
    congr 3; omega
  | d + 1, j, k, hd, hj, hk => by
    obtain ⟨k, rfl⟩ : ∃ m, k = m + 1 := ⟨k - 1, by omega⟩
    unfold ref01_Blank_l1
    rw [wadd (by omega), if_pos (by simp; omega), byteAt_is (by omega)]
    simp only [bind_mk]
    have he : eol s (i + j) = if (bt s (i + j) == 10) = true then i + j else eol s (i + j + 1) := by
      have h1 : s.size - (i + j + 1) = d := by omega
      unfold eol
      rw [← hd, h1]; rfl
    rw [he]
    by_cases hc : bt s (i + j) = 10
    · rw [hc]
      simp only [BEq.rfl, if_true]
      rw [if_neg (by decide)]
      congr 3; omega
    · rw [if_pos (by simp; omega), if_neg (by simp; exact hc), wadd1 (by omega)]
      exact ref01_Blank_l1_is q s i hs d (j + 1) k (by omega) (by omega) (by omega)
theorem ref01_Blank_is (q : Nat) (s : ByteArray) (i : Nat) (hi : i < s.size) (hs : s.size ≤ 70000) (hq : 70010 ≤ q) :
    ref01_Blank q s i = some (match blankS s i with | some (k, l) => ((k : Int), (l : Int), true, ()) | none => (0, 0, false, ())) := by
  unfold ref01_Blank blankS
  rw [byteAt_is hi, ref01_begins_is q s _ i (by show i + 2 ≤ _; omega) (fun h => by cases h), ref01_begins_is q s _ i (by show i + 2 ≤ _; omega) (fun h => by cases h), ref01_begins_is q s _ i (by show i + 2 ≤ _; omega) (fun h => by cases h)]
  simp only [bind_mk, or_any]
  by_cases h10 : bt s i = 10
  · rw [if_pos (by rw [h10]; rfl), if_pos h10]; rfl
  rw [if_neg (by simp; omega), if_neg h10]
  have hsp : ((((((bt s i : Nat) : Int) == 32) || (((bt s i : Nat) : Int) == 9)) || (((bt s i : Nat) : Int) == 12)) || (((bt s i : Nat) : Int) == 13)) = isSpc (bt s i) := by
    unfold isSpc
    have e : ∀ c : Nat, (((bt s i : Nat) : Int) == (c : Int)) = (bt s i == c) := fun c => by rw [Bool.eq_iff_iff]; simp; omega
    have e1 := e 32; have e2 := e 9; have e3 := e 12; have e4 := e 13
    simp only [Int.cast_ofNat_Int] at e1 e2 e3 e4
    rw [e1, e2, e3, e4]
  rw [hsp]
  cases isSpc (bt s i) with
  | true => rfl
  | false =>
  simp only [Bool.false_eq_true, if_false]
  cases hf : atB s (ByteArray.mk #[92, 10]) i with
  | true => rfl
  | false =>
  simp only [Bool.false_eq_true, if_false]
  cases hc : atB s (ByteArray.mk #[47, 42]) i with
  | true =>
    have hno : atB s (ByteArray.mk #[47, 47]) i = false := by
      rw [at2] at hc ⊢
      simp only [Bool.and_eq_true, beq_iff_eq] at hc
      rw [hc.2.2]
      simp
    rw [hno]
    have hlt := at_lt hc
    simp only [if_true, Bool.false_eq_true, if_false]
    rw [wadd2 (by omega), ref01_Blank_l0_is q s i hs _ (i + 2) q (by omega) rfl (by omega) (by omega)]
    by_cases h : eoc s (i + 2) < s.size
    · rw [if_pos h, if_pos h]; rfl
    · rw [if_neg h, if_neg h]; rfl
  | false =>
  simp only [Bool.false_eq_true, if_false]
  cases hl : atB s (ByteArray.mk #[47, 47]) i with
  | true =>
    simp only [if_true]
    have := ref01_Blank_l1_is q s i hs _ 0 q rfl (by omega) (by omega)
    rw [show ((0 : Int)) = ((0 : Nat) : Int) from rfl, this]
    rfl
  | false => rfl
/-! letters, digits -/
def letterS (c : Nat) : Bool := decide (97 ≤ c ∧ c ≤ 122) || decide (65 ≤ c ∧ c ≤ 90) || c == 95
def digitS (c : Nat) : Bool := decide (48 ≤ c ∧ c ≤ 57)
theorem lex_letter_all : ∀ c : Fin 256, lex_letter 0 ((c.val : Nat) : Int) = some (letterS c.val, ()) := by decide +kernel
theorem lex_digit_all : ∀ c : Fin 256, lex_digit 0 ((c.val : Nat) : Int) = some (digitS c.val, ()) := by decide +kernel
theorem ref01_Letter_all : ∀ c : Fin 256, ref01_Letter 0 ((c.val : Nat) : Int) = some (letterS c.val, ()) := by decide +kernel
theorem ref01_Digit_all : ∀ c : Fin 256, ref01_Digit 0 ((c.val : Nat) : Int) = some (digitS c.val, ()) := by decide +kernel
theorem lex_letter_is (q : Nat) (s : ByteArray) (i : Nat) : lex_letter q ((bt s i : Nat) : Int) = some (letterS (bt s i), ()) := lex_letter_all ⟨bt s i, bt_lt⟩
theorem lex_digit_is (q : Nat) (s : ByteArray) (i : Nat) : lex_digit q ((bt s i : Nat) : Int) = some (digitS (bt s i), ()) := lex_digit_all ⟨bt s i, bt_lt⟩
theorem ref01_Letter_is (q : Nat) (s : ByteArray) (i : Nat) : ref01_Letter q ((bt s i : Nat) : Int) = some (letterS (bt s i), ()) := ref01_Letter_all ⟨bt s i, bt_lt⟩
theorem ref01_Digit_is (q : Nat) (s : ByteArray) (i : Nat) : ref01_Digit q ((bt s i : Nat) : Int) = some (digitS (bt s i), ()) := ref01_Digit_all ⟨bt s i, bt_lt⟩
/-- the digit's number, as both sides reckon it -/
theorem digit_val : ∀ c : Fin 256, digitS c.val = true → IntKind.i64.wrap (IntKind.u8.wrap (((c.val : Nat) : Int) - (48 : Int))) = ((c.val - 48 : Nat) : Int) := by decide +kernel
end Go.Ax
