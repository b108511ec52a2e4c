/- Layer 1: a token: the program's side. -/
import Derived.Test.YtbiooiikejcgbaaDoorLexFirstLexB
set_option linter.unusedVariables false
set_option linter.unusedSimpArgs false
namespace Go.Ax
open Go
def nameEnd (s : ByteArray) (i : Nat) : Nat := ff (fun j => !(letterS (bt s j) || digitS (bt s j))) (s.size - i) i
def numEnd (s : ByteArray) (i : Nat) : Nat := ff (fun j => !digitS (bt s j)) (s.size - i) i
/-- the number of the digits from j on, behind a -/
def numV (s : ByteArray) : Nat → Nat → Nat → Nat
  | 0, _, a => a
  | d + 1, j, a => if digitS (bt s j) = true then numV s d (j + 1) (a * 10 + (bt s j - 48)) else a
theorem numV_ge (s : ByteArray) : ∀ (d j a : Nat), a ≤ numV s d j a
  | 0, _, _ => Nat.le_refl _
  | d + 1, j, a => by
    unfold numV
    split
    · exact Nat.le_trans (by omega) (numV_ge s d (j + 1) _)
    · exact Nat.le_refl _
/-- where the text ends whose bytes stand from j on -/
def txt (s : ByteArray) : Nat → Nat → Option Nat
  | 0, _ => none
  | d + 1, j => if j < s.size then
      if bt s j = 34 then some (j + 1) else if bt s j = 10 then none
      else if bt s j = 92 then (if j + 1 < s.size ∧ bt s (j + 1) ≠ 10 then txt s d (j + 2) else none) else txt s d (j + 1)
    else none
def escS (c : Nat) : Option (Nat × Nat) :=
  if c = 110 then some (10, 4) else if c = 116 then some (9, 4) else if c = 48 then some (0, 4) else if c = 92 then some (92, 4) else if c = 39 then some (39, 4) else none
/-- the number in quotes at i, how many bytes it has -/
def charS (s : ByteArray) (i : Nat) : Option (Nat × Nat) :=
  if i + 2 < s.size ∧ bt s (i + 2) = 39 ∧ bt s (i + 1) ≠ 39 ∧ bt s (i + 1) ≠ 92 ∧ bt s (i + 1) ≠ 10 then some (bt s (i + 1), 3)
  else if i + 3 < s.size ∧ bt s (i + 1) = 92 ∧ bt s (i + 3) = 39 then escS (bt s (i + 2)) else none
def marksL : List ByteArray := [ByteArray.mk #[33, 33], ByteArray.mk #[63, 63], ByteArray.mk #[45, 62], ByteArray.mk #[58, 58], ByteArray.mk #[43, 43], ByteArray.mk #[45, 45], ByteArray.mk #[60, 60], ByteArray.mk #[62, 62], ByteArray.mk #[60, 61], ByteArray.mk #[62, 61], ByteArray.mk #[61, 61], ByteArray.mk #[33, 61], ByteArray.mk #[38, 38], ByteArray.mk #[124, 124], ByteArray.mk #[46, 46], ByteArray.mk #[33], ByteArray.mk #[63], ByteArray.mk #[60], ByteArray.mk #[62], ByteArray.mk #[61], ByteArray.mk #[43], ByteArray.mk #[45], ByteArray.mk #[42], ByteArray.mk #[47], ByteArray.mk #[37], ByteArray.mk #[38], ByteArray.mk #[124], ByteArray.mk #[94], ByteArray.mk #[126], ByteArray.mk #[40], ByteArray.mk #[41], ByteArray.mk #[91], ByteArray.mk #[93], ByteArray.mk #[123], ByteArray.mk #[125], ByteArray.mk #[44], ByteArray.mk #[59], ByteArray.mk #[58], ByteArray.mk #[46], ByteArray.mk #[64], ByteArray.mk #[35]]
def markS (s : ByteArray) (i : Nat) : Option Nat := fbad (fun m => !atB s m i) marksL 0
theorem marks_size : ∀ m ∈ marksL, m.size = 1 ∨ m.size = 2 := by
  intro m hm
  simp only [marksL, List.mem_cons, List.not_mem_nil, or_false] at hm
  rcases hm with h | h | h | h | h | h | h | h | h | h | h | h | h | h | h | h | h | h | h | h | h | h | h | h | h | h | h | h | h | h | h | h | h | h | h | h | h | h | h | h | h <;> subst h <;> first | exact .inl rfl | exact .inr rfl
/-- the token at i: what is wrong; or its kind, where its text begins and ends, its number, its bytes -/
def tokS (s : ByteArray) (i : Nat) : Nat ⊕ (Nat × Nat × Nat × Nat × Nat) :=
  if letterS (bt s i) = true then (if 32 < nameEnd s i - i then .inl 5 else .inr (1, i, nameEnd s i, 0, nameEnd s i - i))
  else if digitS (bt s i) = true then (if 2147483647 < numV s (s.size - i) i 0 then .inl 4 else .inr (2, i, numEnd s i, numV s (s.size - i) i 0, numEnd s i - i))
  else if bt s i = 34 then (match txt s s.size (i + 1) with
    | none => .inl 3
    | some e => if 200 < e - i - 2 then .inl 5 else .inr (3, i + 1, e - 1, 0, e - i))
  else if bt s i = 39 then (match charS s i with
    | none => .inl 3
    | some (v, n) => .inr (2, i, i + n, v, n))
  else (match markS s i with
    | none => .inl 2
    | some m => .inr (4, i, i + (marksL.getD m emp).size, 0, (marksL.getD m emp).size))

/-! the program -/
theorem ff_step (p : Nat → Bool) (n i : Nat) (h : i < n) : ff p (n - i) i = if p i = true then i else ff p (n - (i + 1)) (i + 1) := by
  obtain ⟨d, hd⟩ : ∃ d, n - i = d + 1 := ⟨n - i - 1, by omega⟩
  have h1 : n - (i + 1) = d := by omega
  rw [hd, h1]; rfl
theorem ff_end (p : Nat → Bool) (n i : Nat) (h : n ≤ i) : ff p (n - i) i = i := by
  have : n - i = 0 := by omega
  rw [this]; rfl
theorem lex_token_l0_is (q : Nat) (s : ByteArray) (i : Nat) (hs : s.size ≤ 70000) : ∀ (d j k : Nat) (x4 : Int × Int × Int × ByteArray × Int × Unit), d = s.size - j → j ≤ s.size → d < k →
    lex_token_l0 q k s i j x4 = some (.inl (s, (i : Int), (), ((nameEnd s j : Nat) : Int), x4, ()))
  | d, j, 0, x4, hd, hj, hk => by omega
  | d, j, k + 1, x4, hd, hj, hk => by
    unfold lex_token_l0
    by_cases hlt : j < s.size
    · rw [if_pos (by simp; omega), byteAt_is hlt]
      simp only [bind_mk, lex_letter_is, lex_digit_is, or_any]
      have he : nameEnd s j = if (!(letterS (bt s j) || digitS (bt s j))) = true then j else nameEnd s (j + 1) := ff_step _ _ _ hlt
      rw [he]
      cases letterS (bt s j) || digitS (bt s j) with
      | true =>
        simp only [if_true, Bool.not_true, Bool.false_eq_true, if_false]
        rw [wadd1 (by omega)]
        exact lex_token_l0_is q s i hs (d - 1) (j + 1) k _ (by omega) (by omega) (by omega)
      | false => rfl
    · rw [if_neg (by simp; omega)]
      have he : nameEnd s j = j := ff_end _ _ _ (by omega)
      rw [he]; rfl
theorem lex_token_l1_is (q : Nat) (s : ByteArray) (i : Nat) (hs : s.size ≤ 70000) : ∀ (d j k a : Nat), d = s.size - j → j ≤ s.size → d < k → a ≤ 2147483647 →
    (numV s d j a ≤ 2147483647 → lex_token_l1 q k s i j (0, 0, 0, emp, (a : Int), ()) = some (.inl (s, (i : Int), (), ((numEnd s j : Nat) : Int), (0, 0, 0, emp, ((numV s d j a : Nat) : Int), ()), ()))) ∧
    (2147483647 < numV s d j a → ∃ t, lex_token_l1 q k s i j (0, 0, 0, emp, (a : Int), ()) = some (.inr (t, 0, 4, ())))
  | d, j, 0, a, hd, hj, hk, ha => by omega
  | 0, j, k + 1, a, hd, hj, hk, ha => by
    have he : numEnd s j = j := ff_end _ _ _ (by omega)
    refine ⟨fun _ => ?_, fun h => by simp only [numV] at h; omega⟩
    unfold lex_token_l1
    rw [if_neg (by simp; omega), he]; rfl
  | d + 1, j, k + 1, a, hd, hj, hk, ha => by
    have hlt : j < s.size := by omega
    have he : numEnd s j = if (!digitS (bt s j)) = true then j else numEnd s (j + 1) := ff_step _ _ _ hlt
    cases hdg : digitS (bt s j) with
    | false =>
      have hv : numV s (d + 1) j a = a := by unfold numV; rw [hdg]; rfl
      refine ⟨fun _ => ?_, fun h => by omega⟩
      unfold lex_token_l1
      rw [if_pos (by simp; omega), byteAt_is hlt]
      simp only [bind_mk, lex_digit_is, hdg, Bool.false_eq_true, if_false]
      rw [he, hdg, hv]; rfl
    | true =>
      have hv : numV s (d + 1) j a = numV s d (j + 1) (a * 10 + (bt s j - 48)) := by rw [numV]; rw [hdg]; rfl
      have hd9 : 48 ≤ bt s j ∧ bt s j ≤ 57 := by simpa [digitS] using hdg
      have hval := digit_val ⟨bt s j, bt_lt⟩ hdg
      simp only at hval
      have hN : IntKind.i64.wrap (IntKind.i64.wrap ((a : Int) * 10) + ((bt s j - 48 : Nat) : Int)) = ((a * 10 + (bt s j - 48) : Nat) : Int) := by
        rw [w64 (n := (a : Int) * 10) (by omega) (by omega), w64 (by omega) (by omega)]
        omega
      have hge := numV_ge s d (j + 1) (a * 10 + (bt s j - 48))
      have hbody : lex_token_l1 q (k + 1) s i j (0, 0, 0, emp, (a : Int), ()) = if decide (((a * 10 + (bt s j - 48) : Nat) : Int) > 2147483647) = true then some (.inr ((0, 0, 0, emp, ((a * 10 + (bt s j - 48) : Nat) : Int), ()), 0, 4, ())) else lex_token_l1 q k s i ((j + 1 : Nat) : Int) (0, 0, 0, emp, ((a * 10 + (bt s j - 48) : Nat) : Int), ()) := by
        rw [lex_token_l1]
        rw [if_pos (by simp; omega), byteAt_is hlt]
        simp only [bind_mk, lex_digit_is, hdg, if_true, hval, hN, wadd1 (show j ≤ 1000000000 by omega)]
      rw [hbody, hv, he, hdg]
      simp only [Bool.not_true, Bool.false_eq_true, if_false]
      by_cases hbig : 2147483647 < a * 10 + (bt s j - 48)
      · rw [if_pos (by simp; omega)]
        exact ⟨fun h => by omega, fun _ => ⟨_, rfl⟩⟩
      · rw [if_neg (by simp; omega)]
        exact lex_token_l1_is q s i hs d (j + 1) k _ (by omega) (by omega) (by omega) (by omega)
theorem lex_textual_l0_is (q : Nat) (s : ByteArray) (i : Nat) (hs : s.size ≤ 70000) : ∀ (d j k : Nat), i < j → j ≤ s.size + 1 → s.size + 1 ≤ j + d → d < k →
    lex_textual_l0 q k s i j = some (match txt s d j with
      | none => .inl ()
      | some e => if 200 < e - i - 2 then .inr (0, 5, ()) else .inr ((e : Int), 0, ()))
  | d, j, 0, hij, hj, hd, hk => by omega
  | 0, j, k + 1, hij, hj, hd, hk => by
    unfold lex_textual_l0
    rw [if_neg (by simp; omega)]; rfl
  | d + 1, j, k + 1, hij, hj, hd, hk => by
    unfold lex_textual_l0 txt
    by_cases hlt : j < s.size
    · rw [if_pos (by simp; omega), byteAt_is hlt, if_pos hlt]
      simp only [bind_mk]
      by_cases h10 : bt s j = 10
      · have h34 : bt s j ≠ 34 := by omega
        rw [if_neg (by rw [h10]; decide), if_neg h34, if_pos h10]
      rw [if_pos (by simp; omega)]
      by_cases h34 : bt s j = 34
      · rw [if_pos h34]
        have e1 : (((bt s j : Nat) : Int) == 34) = true := by rw [h34]; rfl
        simp only [e1, if_true, bind_mk]
        have hw : IntKind.i64.wrap (IntKind.i64.wrap ((j : Int) - (i : Int)) - 1) = ((j - i - 1 : Nat) : Int) := by
          rw [wsub (by omega) (by omega), w64 (by omega) (by omega)]; omega
        rw [hw]
        by_cases hl : 200 < j - i - 1
        · rw [if_pos (by simp; omega)]
          have : 200 < j + 1 - i - 2 := by omega
          simp only [this, if_true]; rfl
        · rw [if_neg (by simp; omega), wadd1 (by omega)]
          have : ¬ 200 < j + 1 - i - 2 := by omega
          simp only [this, if_false]; rfl
      · have e1 : (((bt s j : Nat) : Int) == 34) = false := by simp; omega
        rw [if_neg h34, if_neg h10]
        simp only [e1, Bool.false_eq_true, if_false, bind_mk]
        by_cases h92 : bt s j = 92
        · rw [if_pos h92]
          have e2 : (((bt s j : Nat) : Int) == 92) = true := by rw [h92]; rfl
          simp only [e2, if_true, bind_mk, wadd1 (show j ≤ 1000000000 by omega)]
          by_cases hn : j + 1 < s.size
          · rw [if_pos (by simp; omega), byteAt_is hn]
            simp only [bind_mk]
            by_cases hb : bt s (j + 1) = 10
            · have : ¬ (j + 1 < s.size ∧ bt s (j + 1) ≠ 10) := fun h => h.2 hb
              rw [if_neg (by rw [hb]; decide), if_neg this]
              simp only [cutB_inl]
              rw [wadd1 (by omega)]
              -- the next round ends
              obtain ⟨k', rfl⟩ : ∃ m, k = m + 1 := ⟨k - 1, by omega⟩
              unfold lex_textual_l0
              rw [if_pos (by simp; omega), byteAt_is hn]
              simp only [bind_mk]
              rw [if_neg (by rw [hb]; decide)]
            · rw [if_pos (by simp; omega), if_pos ⟨hn, hb⟩]
              simp only [cutB_inl]
              rw [wadd1 (by omega)]
              have := lex_textual_l0_is q s i hs d (j + 2) k (by omega) (by omega) (by omega) (by omega)
              exact this
          · rw [if_neg (by simp; omega)]
            have : ¬ (j + 1 < s.size ∧ bt s (j + 1) ≠ 10) := fun h => hn h.1
            rw [if_neg this]
            simp only [bind_mk, Bool.false_eq_true, if_false, cutB_inl]
            rw [wadd1 (by omega)]
            obtain ⟨k', rfl⟩ : ∃ m, k = m + 1 := ⟨k - 1, by omega⟩
            unfold lex_textual_l0
            rw [if_neg (by simp; omega)]; rfl
        · rw [if_neg h92]
          have e2 : (((bt s j : Nat) : Int) == 92) = false := by simp; omega
          simp only [e2, Bool.false_eq_true, if_false, bind_mk, cutB_inl]
          rw [wadd1 (by omega)]
          exact lex_textual_l0_is q s i hs d (j + 1) k (by omega) (by omega) (by omega) (by omega)
    · rw [if_neg (by simp; omega), if_neg hlt]; rfl
theorem lex_textual_is (q : Nat) (s : ByteArray) (i : Nat) (hi : i < s.size) (hs : s.size ≤ 70000) (hq : 70010 ≤ q) :
    lex_textual q s i = some (match txt s s.size (i + 1) with
      | none => (0, 3, ())
      | some e => if 200 < e - i - 2 then (0, 5, ()) else ((e : Int), 0, ())) := by
  unfold lex_textual
  rw [wadd1 (by omega), lex_textual_l0_is q s i hs s.size (i + 1) q (by omega) (by omega) (by omega) (by omega)]
  cases txt s s.size (i + 1) with
  | none => rfl
  | some e =>
    simp only
    split <;> rfl
end Go.Ax
