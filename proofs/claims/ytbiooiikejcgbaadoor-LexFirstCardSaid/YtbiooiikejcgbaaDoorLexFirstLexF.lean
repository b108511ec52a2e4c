/- Layer 1: a token: the document's side. -/
import Derived.Test.YtbiooiikejcgbaaDoorLexFirstLexE
set_option linter.unusedVariables false
set_option linter.unusedSimpArgs false
namespace Go.Ax
open Go
theorem ib (a c : Nat) : (((a : Nat) : Int) == ((c : Nat) : Int)) = (a == c) := by rw [Bool.eq_iff_iff]; simp; omega
theorem ibn (a c : Nat) : (((a : Nat) : Int) != ((c : Nat) : Int)) = (a != c) := by unfold bne; rw [ib]
theorem i39 (a : Nat) : (((a : Nat) : Int) == 39) = (a == 39) := ib a 39
theorem i92 (a : Nat) : (((a : Nat) : Int) == 92) = (a == 92) := ib a 92
theorem i10 (a : Nat) : (((a : Nat) : Int) == 10) = (a == 10) := ib a 10
theorem i34 (a : Nat) : (((a : Nat) : Int) == 34) = (a == 34) := ib a 34
theorem n39 (a : Nat) : (((a : Nat) : Int) != 39) = (a != 39) := ibn a 39
theorem n92 (a : Nat) : (((a : Nat) : Int) != 92) = (a != 92) := ibn a 92
theorem n10 (a : Nat) : (((a : Nat) : Int) != 10) = (a != 10) := ibn a 10
theorem esc_all : ∀ c : Fin 256, (if (((c.val : Nat) : Int) == (110 : Int)) = true then some (.inr ((10, 4, ()))) else if (((c.val : Nat) : Int) == (116 : Int)) = true then some (.inr ((9, 4, ()))) else if (((c.val : Nat) : Int) == (48 : Int)) = true then some (.inr ((0, 4, ())))
    else if (((c.val : Nat) : Int) == (92 : Int)) = true then some (.inr ((92, 4, ()))) else if (((c.val : Nat) : Int) == (39 : Int)) = true then some (.inr ((39, 4, ()))) else some (.inl (())) : Option (Unit ⊕ (Int × Int × Unit))) = some (match escS c.val with | some (v, n) => .inr ((v : Int), (n : Int), ()) | none => .inl ()) := by decide +kernel
theorem ref01_char_is (q : Nat) (s : ByteArray) (i : Nat) (hi : i < s.size) (hs : s.size ≤ 70000) : ref01_char q s i = some (match charS s i with | some (v, n) => ((v : Int), (n : Int), ()) | none => (0, 0, ())) := by
  unfold ref01_char charS
  rw [wadd1 (by omega), wadd2 (by omega), wadd3 (by omega)]
  have c1 : ((if (decide (((i + 2 : Nat) : Int) < (s.size : Int))) = true then (byteAt s ((i + 2 : Nat) : Int)).bind fun v1 => some (v1 == (39 : Int)) else some false).bind fun v2 =>
      (if v2 = true then (byteAt s ((i + 1 : Nat) : Int)).bind fun v3 => some (v3 != (39 : Int)) else some false).bind fun v4 =>
      (if v4 = true then (byteAt s ((i + 1 : Nat) : Int)).bind fun v5 => some (v5 != (92 : Int)) else some false).bind fun v6 =>
      (if v6 = true then (byteAt s ((i + 1 : Nat) : Int)).bind fun v7 => some (v7 != (10 : Int)) else some false)) = some (decide (i + 2 < s.size ∧ bt s (i + 2) = 39 ∧ bt s (i + 1) ≠ 39 ∧ bt s (i + 1) ≠ 92 ∧ bt s (i + 1) ≠ 10)) := by
    by_cases h : i + 2 < s.size
    · rw [if_pos (by simp; omega), byteAt_is h, byteAt_is (show i + 1 < s.size by omega)]
      simp only [bind_mk, i39, n39, n92, n10, and_any]
      congr 1
      rw [Bool.eq_iff_iff]
      simp [h, and_assoc]
    · rw [if_neg (by simp; omega)]
      simp [h]
  have c2 : ((if (decide (((i + 3 : Nat) : Int) < (s.size : Int))) = true then (byteAt s ((i + 1 : Nat) : Int)).bind fun v11 => some (v11 == (92 : Int)) else some false).bind fun v12 =>
      (if v12 = true then (byteAt s ((i + 3 : Nat) : Int)).bind fun v13 => some (v13 == (39 : Int)) else some false)) = some (decide (i + 3 < s.size ∧ bt s (i + 1) = 92 ∧ bt s (i + 3) = 39)) := by
    by_cases h : i + 3 < s.size
    · rw [if_pos (by simp; omega), byteAt_is h, byteAt_is (show i + 1 < s.size by omega)]
      simp only [bind_mk, i39, i92, and_any]
      congr 1
      rw [Bool.eq_iff_iff]
      simp [h]
    · rw [if_neg (by simp; omega)]
      simp [h]
  have step : ∀ (A : Option Bool) (B : Option Bool), A = some (decide (i + 2 < s.size ∧ bt s (i + 2) = 39 ∧ bt s (i + 1) ≠ 39 ∧ bt s (i + 1) ≠ 92 ∧ bt s (i + 1) ≠ 10)) → B = some (decide (i + 3 < s.size ∧ bt s (i + 1) = 92 ∧ bt s (i + 3) = 39)) →
      (A.bind fun v8 => if v8 = true then (byteAt s ((i + 1 : Nat) : Int)).bind fun v9 => some (IntKind.i64.wrap v9, 3, ()) else
        cutB (B.bind fun v14 => if v14 = true then (byteAt s ((i + 2 : Nat) : Int)).bind fun v15 =>
          (if (v15 == (110 : Int)) = true then some (.inr ((10, 4, ()))) else if (v15 == (116 : Int)) = true then some (.inr ((9, 4, ()))) else if (v15 == (48 : Int)) = true then some (.inr ((0, 4, ())))
            else if (v15 == (92 : Int)) = true then some (.inr ((92, 4, ()))) else if (v15 == (39 : Int)) = true then some (.inr ((39, 4, ()))) else some (.inl (()))) else some (.inl (()))) fun p10 => some (0, 0, ())) =
      some (match (if i + 2 < s.size ∧ bt s (i + 2) = 39 ∧ bt s (i + 1) ≠ 39 ∧ bt s (i + 1) ≠ 92 ∧ bt s (i + 1) ≠ 10 then some (bt s (i + 1), 3)
        else if i + 3 < s.size ∧ bt s (i + 1) = 92 ∧ bt s (i + 3) = 39 then escS (bt s (i + 2)) else none) with | some (v, n) => ((v : Int), (n : Int), ()) | none => (0, 0, ())) := by
    rintro A B rfl rfl
    simp only [bind_mk]
    by_cases h1 : i + 2 < s.size ∧ bt s (i + 2) = 39 ∧ bt s (i + 1) ≠ 39 ∧ bt s (i + 1) ≠ 92 ∧ bt s (i + 1) ≠ 10
    · rw [if_pos (decide_eq_true h1), if_pos h1, byteAt_is (by omega)]
      simp only [bind_mk]
      have := bt_lt (s := s) (i := i + 1)
      rw [w64 (by omega) (by omega)]; rfl
    · rw [if_neg (by simpa using h1), if_neg h1]
      by_cases h2 : i + 3 < s.size ∧ bt s (i + 1) = 92 ∧ bt s (i + 3) = 39
      · rw [if_pos (decide_eq_true h2), if_pos h2, byteAt_is (by omega)]
        simp only [bind_mk]
        have := esc_all ⟨bt s (i + 2), bt_lt⟩
        simp only at this
        rw [this]
        cases escS (bt s (i + 2)) with
        | none => rfl
        | some r => rfl
      · rw [if_neg (by simpa using h2), if_neg h2]; rfl
  have := step _ _ c1 c2
  simp only [Option.bind_assoc] at this ⊢
  exact this
theorem ref01_quoted_l0_is (q : Nat) (s : ByteArray) (i : Nat) (hs : s.size ≤ 70000) : ∀ (d j k : Nat), i < j → j ≤ s.size + 1 → s.size + 1 ≤ j + d → d < k →
    ∃ u : Unit ⊕ (Int × Unit), ref01_quoted_l0 q k s i j = some u ∧ (cutB (some u) fun p1 => some (0, ())) = some (match txt s d j with | none => (0, ()) | some e => (((e - i : Nat) : Int), ()))
  | d, j, 0, hij, hj, hd, hk => by omega
  | 0, j, k + 1, hij, hj, hd, hk => by
    refine ⟨.inl (), ?_, rfl⟩
    unfold ref01_quoted_l0
    rw [if_neg (by simp; omega)]
  | d + 1, j, k + 1, hij, hj, hd, hk => by
    unfold ref01_quoted_l0 txt
    by_cases hlt : j < s.size
    · rw [if_pos (by simp; omega), byteAt_is hlt, if_pos hlt]
      simp only [bind_mk, i34, i10, i92]
      by_cases h34 : bt s j = 34
      · rw [if_pos h34, h34]
        refine ⟨.inr (((j + 1 - i : Nat) : Int), ()), ?_, rfl⟩
        simp only [BEq.rfl, if_true, cutB_inr]
        rw [wadd1 (by omega), wsub (by omega) (by omega)]
      rw [if_neg h34, if_neg (by simpa using h34)]
      by_cases h10 : bt s j = 10
      · rw [if_pos h10, h10]
        exact ⟨.inr (0, ()), rfl, rfl⟩
      rw [if_neg h10, if_neg (by simpa using h10)]
      by_cases h92 : bt s j = 92
      · rw [if_pos h92, if_pos (by rw [h92]; rfl)]
        rw [wadd1 (by omega)]
        by_cases hn : j + 1 < s.size
        · rw [if_pos (by simp; omega), byteAt_is hn]
          simp only [bind_mk, i10]
          by_cases hb : bt s (j + 1) = 10
          · have : ¬ (j + 1 < s.size ∧ bt s (j + 1) ≠ 10) := fun h => h.2 hb
            rw [if_neg this, hb]
            exact ⟨.inr (0, ()), rfl, rfl⟩
          · rw [if_neg (show ¬ (bt s (j + 1) == 10) = true by simpa using hb), if_pos (show j + 1 < s.size ∧ bt s (j + 1) ≠ 10 from ⟨hn, hb⟩)]
            simp only [cutB_inl]
            rw [wadd1 (by omega)]
            exact ref01_quoted_l0_is q s i hs d (j + 2) k (by omega) (by omega) (by omega) (by omega)
        · rw [if_neg (by simp; omega)]
          have : ¬ (j + 1 < s.size ∧ bt s (j + 1) ≠ 10) := fun h => hn h.1
          rw [if_neg this]
          simp only [bind_mk, Bool.false_eq_true, if_false, cutB_inl]
          rw [wadd1 (by omega)]
          obtain ⟨k', rfl⟩ : ∃ m, k = m + 1 := ⟨k - 1, by omega⟩
          refine ⟨.inl (), ?_, rfl⟩
          unfold ref01_quoted_l0
          rw [if_neg (by simp; omega)]
      · rw [if_neg h92, if_neg (by simpa using h92)]
        simp only [cutB_inl]
        rw [wadd1 (by omega)]
        exact ref01_quoted_l0_is q s i hs d (j + 1) k (by omega) (by omega) (by omega) (by omega)
    · rw [if_neg (by simp; omega), if_neg hlt]
      exact ⟨.inl (), rfl, rfl⟩
theorem ref01_quoted_is (q : Nat) (s : ByteArray) (i : Nat) (hi : i < s.size) (hs : s.size ≤ 70000) (hq : 70010 ≤ q) :
    ref01_quoted q s i = some (match txt s s.size (i + 1) with | none => (0, ()) | some e => (((e - i : Nat) : Int), ())) := by
  unfold ref01_quoted
  obtain ⟨u, h1, h2⟩ := ref01_quoted_l0_is q s i hs s.size (i + 1) q (by omega) (by omega) (by omega) (by omega)
  rw [wadd1 (by omega), h1, h2]
theorem ref01_Next_l0_is (q : Nat) (s : ByteArray) (i : Nat) (hs : s.size ≤ 70000) : ∀ (d n k : Nat) (x4 : Int × Int × Int × ByteArray × Int × Unit), d = s.size - (i + n) → i + n ≤ s.size → d < k →
    ref01_Next_l0 q k s i n x4 = some (.inl (s, (i : Int), (), ((nameEnd s (i + n) - i : Nat) : Int), x4, ()))
  | d, n, 0, x4, hd, hj, hk => by omega
  | d, n, k + 1, x4, hd, hj, hk => by
    unfold ref01_Next_l0
    rw [wadd (by omega)]
    by_cases hlt : i + n < s.size
    · rw [if_pos (by simp; omega), byteAt_is hlt]
      simp only [bind_mk, ref01_Letter_is, ref01_Digit_is, or_any]
      have he : nameEnd s (i + n) = if (!(letterS (bt s (i + n)) || digitS (bt s (i + n)))) = true then i + n else nameEnd s (i + n + 1) := ff_step _ _ _ hlt
      rw [he]
      cases letterS (bt s (i + n)) || digitS (bt s (i + n)) with
      | true =>
        simp only [if_true, Bool.not_true, Bool.false_eq_true, if_false]
        rw [wadd1 (by omega)]
        exact ref01_Next_l0_is q s i hs (d - 1) (n + 1) k _ (by omega) (by omega) (by omega)
      | false =>
        simp only [Bool.not_false, if_true, Bool.false_eq_true, if_false]
        have : i + n - i = n := by omega
        rw [this]
    · rw [if_neg (by simp; omega)]
      have he : nameEnd s (i + n) = i + n := ff_end _ _ _ (by omega)
      have : i + n - i = n := by omega
      rw [he, this]; rfl
theorem ref01_Next_l1_is (q : Nat) (s : ByteArray) (i : Nat) (hs : s.size ≤ 70000) : ∀ (d n k a : Nat) (x5 : Int × Int × Int × ByteArray × Int × Unit), d = s.size - (i + n) → i + n ≤ s.size → d < k →
    ref01_Next_l1 q k s i n ((min a 1099511627776 : Nat) : Int) x5 = some (.inl (s, (i : Int), (), ((numEnd s (i + n) - i : Nat) : Int), ((min (numV s d (i + n) a) 1099511627776 : Nat) : Int), x5, ()))
  | d, n, 0, a, x5, hd, hj, hk => by omega
  | 0, n, k + 1, a, x5, hd, hj, hk => by
    unfold ref01_Next_l1
    rw [wadd (by omega), if_neg (by simp; omega)]
    have he : numEnd s (i + n) = i + n := ff_end _ _ _ (by omega)
    have : i + n - i = n := by omega
    rw [he, this]; rfl
  | d + 1, n, k + 1, a, x5, hd, hj, hk => by
    have hlt : i + n < s.size := by omega
    unfold ref01_Next_l1
    rw [wadd (by omega), if_pos (by simp; omega), byteAt_is hlt]
    simp only [bind_mk, ref01_Digit_is]
    have he : numEnd s (i + n) = if (!digitS (bt s (i + n))) = true then i + n else numEnd s (i + n + 1) := ff_step _ _ _ hlt
    rw [he]
    cases hdg : digitS (bt s (i + n)) with
    | true =>
      have hd9 : 48 ≤ bt s (i + n) ∧ bt s (i + n) ≤ 57 := by simpa [digitS] using hdg
      have hval := digit_val ⟨bt s (i + n), bt_lt⟩ hdg
      simp only at hval
      have hv : numV s (d + 1) (i + n) a = numV s d (i + n + 1) (a * 10 + (bt s (i + n) - 48)) := by rw [numV]; rw [hdg]; rfl
      rw [hv]
      simp only [if_true, Bool.not_true, Bool.false_eq_true, if_false, hval]
      have hN : IntKind.i64.wrap (IntKind.i64.wrap ((10 : Int) * ((min a 1099511627776 : Nat) : Int)) + ((bt s (i + n) - 48 : Nat) : Int)) = ((min a 1099511627776 * 10 + (bt s (i + n) - 48) : Nat) : Int) := by
        rw [w64 (n := (10 : Int) * _) (by omega) (by omega), w64 (by omega) (by omega)]
        omega
      rw [hN, wadd1 (by omega)]
      have hm : (if (1099511627776 : Int) < ((min a 1099511627776 * 10 + (bt s (i + n) - 48) : Nat) : Int) then (1099511627776 : Int) else ((min a 1099511627776 * 10 + (bt s (i + n) - 48) : Nat) : Int)) = ((min (a * 10 + (bt s (i + n) - 48)) 1099511627776 : Nat) : Int) := by
        split <;> omega
      rw [hm]
      exact ref01_Next_l1_is q s i hs d (n + 1) k _ _ (by omega) (by omega) (by omega)
    | false =>
      have hv : numV s (d + 1) (i + n) a = a := by rw [numV]; rw [hdg]; rfl
      have : i + n - i = n := by omega
      simp only [Bool.not_false, if_true, Bool.false_eq_true, if_false, hv, this]
theorem ref01_Next_l2_is (q : Nat) (s : ByteArray) (i : Nat) (hi : i < s.size) (hs : s.size ≤ 70000) (hq : 70010 ≤ q) :
    ref01_Next_l2 q q s i 0 (marksL.map T.str) (0, 0, 0, emp, 0, ()) = some (match markS s i with
      | none => .inl ((), (0, 0, 0, emp, 0, ()), ())
      | some m => .inr ((4, (i : Int), 0, marksL.getD m emp, 0, ()), (((marksL.getD m emp).size : Nat) : Int), 0, ())) := by
  have := loop_find marksL (fun k j => ref01_Next_l2 q k s i j (marksL.map T.str) (0, 0, 0, emp, 0, ())) (fun m => !atB s m i)
    (.inl ((), (0, 0, 0, emp, 0, ()), ())) (fun m => .inr ((4, (i : Int), 0, marksL.getD m emp, 0, ()), (((marksL.getD m emp).size : Nat) : Int), 0, ()))
    (fun k j h => by
      have hm := marks_size marksL[j] (List.getElem_mem h)
      have hl41 : marksL.length = 41 := rfl
      simp only [ref01_Next_l2]
      have hr : (0 : Int) ≤ (j : Int) ∧ (j : Int) < ((marksL.map T.str).length : Int) := by simp; omega
      have hx : (marksL.map T.str)[(Int.toNat (j : Int))]? = some (T.str marksL[j]) := by
        rw [Int.toNat_natCast, List.getElem?_map, List.getElem?_eq_getElem h]; rfl
      rw [if_pos (by simp; omega), if_pos hr, hx]
      simp only [asInt_mk, asBool_mk, asStr_mk, asLst_mk, bind_mk, if_true, leaf_int, leaf_bool, leaf_str, leaf_lst]
      rw [ref01_begins_is q s _ i (by omega) (fun h0 => by omega)]
      simp only [bind_mk]
      rw [wadd1 (by omega)]
      have hg : marksL.getD j emp = marksL[j] := by rw [List.getD_eq_getElem?_getD, List.getElem?_eq_getElem h]; rfl
      rw [hg, if_pos hr, if_pos hr]
      cases atB s marksL[j] i <;> rfl)
    (fun k => by simp only [ref01_Next_l2]; rw [if_neg (by simp)]) q (by show 41 < q; omega)
  rw [this]
  unfold markS
  cases fbad (fun m => !atB s m i) marksL 0 <;> rfl
/-- A TOKEN, by the document. -/
theorem ref01_Next_is (q : Nat) (s : ByteArray) (i : Nat) (hi : i < s.size) (hs : s.size ≤ 70000) (hq : 70010 ≤ q) :
    ref01_Next q s i = some (match tokS s i with
    | .inl e => ((0, 0, 0, emp, 0, ()), 0, (e : Int), ())
    | .inr (k, a, b, v, n) => (((k : Int), (i : Int), 0, s.extract a b, (v : Int), ()), (n : Int), 0, ())) := by
  unfold ref01_Next tokS
  rw [byteAt_is hi]
  simp only [bind_mk, ref01_Letter_is, ref01_Digit_is]
  cases hl : letterS (bt s i) with
  | true =>
    simp only [if_true]
    obtain ⟨n1, n2⟩ := nameEnd_ge s i (by omega)
    have h0 : ref01_Next_l0 q q s i 0 (0, 0, 0, emp, 0, ()) = _ := ref01_Next_l0_is q s i hs (s.size - (i + 0)) 0 q _ rfl (by omega) (by omega)
    rw [h0]
    simp only [cutB_inl, Nat.add_zero]
    by_cases h : 32 < nameEnd s i - i
    · rw [if_pos h, if_pos (by simp; omega)]; rfl
    · rw [if_neg h, if_neg (by simp; omega), wadd (by omega)]
      have : i + (nameEnd s i - i) = nameEnd s i := by omega
      rw [this, substr_is n1 n2]; rfl
  | false =>
  simp only [Bool.false_eq_true, if_false]
  cases hd : digitS (bt s i) with
  | true =>
    simp only [if_true]
    obtain ⟨n1, n2⟩ := numEnd_ge s i (by omega)
    have h0 : ref01_Next_l1 q q s i 0 0 (0, 0, 0, emp, 0, ()) = _ := ref01_Next_l1_is q s i hs (s.size - (i + 0)) 0 q 0 _ rfl (by omega) (by omega)
    rw [h0]
    simp only [cutB_inl, Nat.add_zero]
    by_cases h : 2147483647 < numV s (s.size - i) i 0
    · rw [if_pos h, if_pos (by simp; omega)]; rfl
    · rw [if_neg h, if_neg (by simp; omega), wadd (by omega)]
      have : i + (numEnd s i - i) = numEnd s i := by omega
      have hm : min (numV s (s.size - i) i 0) 1099511627776 = numV s (s.size - i) i 0 := by omega
      rw [this, substr_is n1 n2, hm]; rfl
  | false =>
  simp only [Bool.false_eq_true, if_false, i39, i34]
  by_cases h39 : bt s i = 39
  · have h34 : bt s i ≠ 34 := by omega
    rw [if_neg h34, if_pos h39, if_pos (by rw [h39]; rfl), ref01_char_is q s i hi hs]
    simp only [bind_mk]
    cases hx : charS s i with
    | none => rfl
    | some r =>
      obtain ⟨v, n⟩ := r
      obtain ⟨c1, c2⟩ := charS_le s i v n hx
      simp only
      have hz : ((n : Int) == 0) = false := by simp; omega
      rw [hz]
      simp only [Bool.false_eq_true, if_false]
      rw [wadd (by omega), substr_is (by omega) c1]; rfl
  rw [if_neg (show ¬ (bt s i == 39) = true by simpa using h39)]
  by_cases h34 : bt s i = 34
  · rw [if_pos h34, if_pos (by rw [h34]; rfl), ref01_quoted_is q s i hi hs hq]
    simp only [bind_mk]
    cases hx : txt s s.size (i + 1) with
    | none => rfl
    | some x =>
      obtain ⟨x1, x2⟩ := txt_ge s _ _ _ hx
      simp only
      have hz : (((x - i : Nat) : Int) == 0) = false := by simp; omega
      have hw : IntKind.i64.wrap (((x - i : Nat) : Int) - 2) = ((x - i - 2 : Nat) : Int) := by rw [w64 (by omega) (by omega)]; omega
      rw [hz, hw]
      simp only [Bool.false_eq_true, if_false]
      by_cases h : 200 < x - i - 2
      · rw [if_pos h, if_pos (by simp; omega)]; rfl
      · rw [if_neg h, if_neg (by simp; omega)]
        have hw2 : IntKind.i64.wrap (((i + (x - i) : Nat) : Int) - 1) = ((x - 1 : Nat) : Int) := by rw [w64 (by omega) (by omega)]; omega
        rw [wadd1 (by omega), wadd (by omega), hw2, substr_is (by omega) (by omega)]; rfl
  rw [if_neg h34, if_neg h39, if_neg (show ¬ (bt s i == 34) = true by simpa using h34)]
  simp only [cutB_inl]
  have hm : ref01_Marks q = some (marksL.map T.str, ()) := rfl
  rw [hm]
  simp only [bind_mk]
  rw [ref01_Next_l2_is q s i hi hs hq]
  cases hm : markS s i with
  | none => rfl
  | some m =>
    obtain ⟨hm1, hm2⟩ := mark_get hm
    have hsz := marks_size _ (List.getElem_mem hm1)
    have hg : marksL.getD m emp = marksL[m] := by rw [List.getD_eq_getElem?_getD, List.getElem?_eq_getElem hm1]; rfl
    obtain ⟨_, h2⟩ := atB_ext (by omega) hm2
    simp only [cutB_inr]
    rw [hg, h2]
    rfl
end Go.Ax
