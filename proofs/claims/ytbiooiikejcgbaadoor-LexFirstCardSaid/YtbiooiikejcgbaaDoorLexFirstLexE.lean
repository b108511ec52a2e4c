/- Layer 1: a token: the program's side, whole. -/
import Derived.Test.YtbiooiikejcgbaaDoorLexFirstLexD
set_option linter.unusedVariables false
set_option linter.unusedSimpArgs false
namespace Go.Ax
open Go
theorem str_width (x : ByteArray) : (T.str x).width = 1 := rfl
theorem nameEnd_ge (s : ByteArray) (i : Nat) (hi : i ≤ s.size) : i ≤ nameEnd s i ∧ nameEnd s i ≤ s.size := by
  obtain ⟨h1, h2, _, _⟩ := ff_spec (fun j => !(letterS (bt s j) || digitS (bt s j))) (s.size - i) i
  exact ⟨h1, by have : nameEnd s i ≤ i + (s.size - i) := h2; omega⟩
theorem numEnd_ge (s : ByteArray) (i : Nat) (hi : i ≤ s.size) : i ≤ numEnd s i ∧ numEnd s i ≤ s.size := by
  obtain ⟨h1, h2, _, _⟩ := ff_spec (fun j => !digitS (bt s j)) (s.size - i) i
  exact ⟨h1, by have : numEnd s i ≤ i + (s.size - i) := h2; omega⟩
theorem txt_ge (s : ByteArray) : ∀ (d j e : Nat), txt s d j = some e → j + 1 ≤ e ∧ e ≤ s.size
  | 0, _, _, h => by cases h
  | d + 1, j, e, h => by
    unfold txt at h
    split at h
    · split at h
      · simp only [Option.some.injEq] at h; omega
      · split at h
        · cases h
        · split at h
          · split at h
            · have := txt_ge s d (j + 2) e h; omega
            · cases h
          · have := txt_ge s d (j + 1) e h; omega
    · cases h
theorem charS_le (s : ByteArray) (i v n : Nat) (h : charS s i = some (v, n)) : i + n ≤ s.size ∧ 3 ≤ n := by
  unfold charS at h
  split at h
  · simp only [Option.some.injEq, Prod.mk.injEq] at h; omega
  · split at h
    · rename_i h2
      unfold escS at h
      repeat' split at h
      all_goals first | (simp only [Option.some.injEq, Prod.mk.injEq] at h; omega) | cases h
    · cases h
theorem atB_ext {s w : ByteArray} {i : Nat} (hw : 0 < w.size) (h : atB s w i = true) : i + w.size ≤ s.size ∧ s.extract i (i + w.size) = w := by
  rw [← occ_piece s w i (fun h0 => by omega)] at h
  simp only [Bool.and_eq_true, decide_eq_true_eq] at h
  refine ⟨h.1, ?_⟩
  have h2 := h.2
  unfold strEq at h2
  rw [ByteArray.toList_eq, ByteArray.toList_eq, beq_iff_eq] at h2
  apply ByteArray.ext
  exact Array.toList_inj.1 h2
theorem mark_get {s : ByteArray} {i m : Nat} (h : markS s i = some m) : ∃ hm : m < marksL.length, atB s (marksL[m]) i = true := by
  unfold markS at h
  have hb := fbad_some h
  refine ⟨by omega, ?_⟩
  have key : ∀ (l : List ByteArray) (a j : Nat), fbad (fun m => !atB s m i) l a = some j → ∃ (hj : j - a < l.length), a ≤ j ∧ atB s (l[j - a]) i = true := by
    intro l
    induction l with
    | nil => intro a j h; simp [fbad] at h
    | cons x l ih =>
      intro a j h
      unfold fbad at h
      cases hx : atB s x i with
      | true =>
        rw [hx] at h
        simp only [Bool.not_true, Bool.false_eq_true, if_false, Option.some.injEq] at h
        subst h
        refine ⟨by simp, Nat.le_refl _, ?_⟩
        simp [hx]
      | false =>
        rw [hx] at h
        simp only [Bool.not_false, if_true] at h
        obtain ⟨hj, h1, h2⟩ := ih (a + 1) j h
        refine ⟨by simp only [List.length_cons]; omega, by omega, ?_⟩
        have : j - a = (j - (a + 1)) + 1 := by omega
        simp only [this, List.getElem_cons_succ]
        exact h2
  obtain ⟨hj, _, h2⟩ := key marksL 0 m h
  simpa using h2
theorem lex_token_l2_is (q : Nat) (s : ByteArray) (i : Nat) (hi : i < s.size) (hs : s.size ≤ 70000) (hq : 70010 ≤ q) :
    lex_token_l2 q q s i (marksL.map T.str) ((marksL.map T.str).length : Int) 0 (0, 0, 0, emp, 0, ()) = some (match markS s i with
      | none => .inl ((), (0, 0, 0, emp, 0, ()), ())
      | some m => .inr ((4, 0, 0, marksL.getD m emp, 0, ()), ((i + (marksL.getD m emp).size : Nat) : Int), 0, ())) := by
  have := loop_find marksL (fun k j => lex_token_l2 q k s i (marksL.map T.str) ((marksL.map T.str).length : Int) j (0, 0, 0, emp, 0, ())) (fun m => !atB s m i)
    (.inl ((), (0, 0, 0, emp, 0, ()), ())) (fun m => .inr ((4, 0, 0, marksL.getD m emp, 0, ()), ((i + (marksL.getD m emp).size : Nat) : Int), 0, ()))
    (fun k j h => by
      have hm := marks_size marksL[j] (List.getElem_mem h)
      have hl41 : marksL.length = 41 := rfl
      simp only [lex_token_l2]
      rw [if_pos (by simp; omega), rd_map str_width h]
      simp only [asInt_mk, asBool_mk, asStr_mk, asLst_mk, bind_mk, if_true, leaf_int, leaf_bool, leaf_str, leaf_lst]
      have hsub : substr s (i : Int) (s.size : Int) = some (s.extract i s.size) := substr_is (by omega) (Nat.le_refl _)
      rw [hsub]
      simp only [bind_mk]
      rw [has_is q s _ i (by omega)]
      simp only [bind_mk]
      rw [wadd1 (by omega)]
      have hg : marksL.getD j emp = marksL[j] := by rw [List.getD_eq_getElem?_getD, List.getElem?_eq_getElem h]; rfl
      rw [hg, wadd (by omega)]
      cases atB s marksL[j] i <;> rfl)
    (fun k => by simp only [lex_token_l2]; rw [if_neg (by simp)]) q (by show 41 < q; omega)
  rw [this]
  unfold markS
  cases fbad (fun m => !atB s m i) marksL 0 <;> rfl
/-- A TOKEN, by the program. -/
theorem lex_token_is (q : Nat) (s : ByteArray) (i : Nat) (hi : i < s.size) (hs : s.size ≤ 70000) (hq : 70010 ≤ q) :
    match tokS s i with
    | .inl e => ∃ t, lex_token q s i (marksL.map T.str) = some (t, 0, (e : Int), ())
    | .inr (k, a, b, v, n) => lex_token q s i (marksL.map T.str) = some (((k : Int), 0, 0, s.extract a b, (v : Int), ()), ((i + n : Nat) : Int), 0, ()) := by
  obtain ⟨p, hp⟩ : ∃ p, q = p + 1 := ⟨q - 1, by omega⟩
  unfold tokS
  have head : lex_token q s i (marksL.map T.str) = (if letterS (bt s i) = true then lex_token_g0 q q s i i (0, 0, 0, emp, 0, ()) else if digitS (bt s i) = true then lex_token_g1 q q s i i (0, 0, 0, emp, 0, ())
      else if (((bt s i : Nat) : Int) == 34) = true then lex_token_g2 q q s i (0, 0, 0, emp, 0, ()) else if (((bt s i : Nat) : Int) == 39) = true then lex_token_g3 q q s i (0, 0, 0, emp, 0, ())
      else cutB (lex_token_l2 q q s i (marksL.map T.str) ((marksL.map T.str).length : Int) 0 (0, 0, 0, emp, 0, ())) fun p23 => some ((p23.2.1.1, p23.2.1.2.1, p23.2.1.2.2.1, p23.2.1.2.2.2.1, p23.2.1.2.2.2.2.1, ()), 0, 2, ())) := by
    unfold lex_token
    rw [byteAt_is hi]
    simp only [bind_mk, lex_letter_is, lex_digit_is]
  rw [head]
  cases hl : letterS (bt s i) with
  | true =>
    simp only [if_true]
    obtain ⟨n1, n2⟩ := nameEnd_ge s i (by omega)
    have hg : ∀ k, lex_token_g0 q (k + 1) s i i (0, 0, 0, emp, 0, ()) = if decide (((nameEnd s i - i : Nat) : Int) > 32) = true then some ((0, 0, 0, emp, 0, ()), 0, 5, ()) else some ((1, 0, 0, s.extract i (nameEnd s i), 0, ()), ((nameEnd s i : Nat) : Int), 0, ()) := fun k => by
      simp only [lex_token_g0]
      rw [lex_token_l0_is q s i hs (s.size - i) i q _ rfl (by omega) (by omega)]
      simp only [cutB_inl]
      rw [wsub (by omega) (by omega), substr_is n1 n2]
      rfl
    replace hg := hg p
    rw [← hp] at hg
    rw [hg]
    by_cases h : 32 < nameEnd s i - i
    · rw [if_pos h, if_pos (by simp; omega)]; exact ⟨_, rfl⟩
    · rw [if_neg h, if_neg (by simp; omega)]
      have : i + (nameEnd s i - i) = nameEnd s i := by omega
      simp only [this]; rfl
  | false =>
  simp only [Bool.false_eq_true, if_false]
  cases hd : digitS (bt s i) with
  | true =>
    simp only [if_true]
    obtain ⟨n1, n2⟩ := numEnd_ge s i (by omega)
    obtain ⟨l1, l2⟩ := lex_token_l1_is q s i hs (s.size - i) i q 0 rfl (by omega) (by omega) (by omega)
    have hg : ∀ k, lex_token_g1 q (k + 1) s i i (0, 0, 0, emp, 0, ()) = cutB (lex_token_l1 q q s i i (0, 0, 0, emp, 0, ())) fun p9 => (substr p9.1 p9.2.1 p9.2.2.2.1).bind fun v14 => some ((2, 0, 0, v14, p9.2.2.2.2.1.2.2.2.2.1, ()), p9.2.2.2.1, 0, ()) := fun k => by
      unfold lex_token_g1; rfl
    replace hg := hg p
    rw [← hp] at hg
    rw [hg]
    by_cases h : 2147483647 < numV s (s.size - i) i 0
    · rw [if_pos h]
      obtain ⟨t, ht⟩ := l2 h
      refine ⟨t, ?_⟩
      have ht' : lex_token_l1 q q s i i (0, 0, 0, emp, 0, ()) = _ := ht
      rw [ht']; rfl
    · rw [if_neg h]
      have ht' : lex_token_l1 q q s i i (0, 0, 0, emp, 0, ()) = _ := l1 (by omega)
      rw [ht']
      simp only [cutB_inl]
      rw [substr_is n1 n2]
      have : i + (numEnd s i - i) = numEnd s i := by omega
      simp only [this, bind_mk]; rfl
  | false =>
  simp only [Bool.false_eq_true, if_false]
  by_cases h34 : bt s i = 34
  · have e : (((bt s i : Nat) : Int) == 34) = true := by rw [h34]; rfl
    rw [if_pos h34, e]
    simp only [if_true]
    have ht := lex_textual_is q s i hi hs hq
    have hg : ∀ k, lex_token_g2 q (k + 1) s i (0, 0, 0, emp, 0, ()) = (lex_textual q s i).bind fun v15 => if (v15.2.1 != (0 : Int)) = true then some ((0, 0, 0, emp, 0, ()), 0, v15.2.1, ()) else (substr s (IntKind.i64.wrap ((i : Int) + 1)) (IntKind.i64.wrap (v15.1 - 1))).bind fun v16 => some ((3, 0, 0, v16, 0, ()), v15.1, 0, ()) := fun k => by
      unfold lex_token_g2; rfl
    replace hg := hg p
    rw [← hp] at hg
    rw [hg, ht]
    cases hx : txt s s.size (i + 1) with
    | none => exact ⟨_, rfl⟩
    | some x =>
      obtain ⟨x1, x2⟩ := txt_ge s _ _ _ hx
      simp only
      by_cases h : 200 < x - i - 2
      · rw [if_pos h, if_pos h]; exact ⟨_, rfl⟩
      · rw [if_neg h, if_neg h]
        simp only [bind_mk]
        have hw : IntKind.i64.wrap ((x : Int) - 1) = ((x - 1 : Nat) : Int) := by rw [w64 (by omega) (by omega)]; omega
        rw [if_neg (by decide), wadd1 (by omega), hw, substr_is (by omega) (by omega)]
        have : i + (x - i) = x := by omega
        simp only [this, bind_mk]; rfl
  rw [if_neg h34]
  have e : (((bt s i : Nat) : Int) == 34) = false := by simp; omega
  rw [e]
  simp only [Bool.false_eq_true, if_false]
  by_cases h39 : bt s i = 39
  · have e : (((bt s i : Nat) : Int) == 39) = true := by rw [h39]; rfl
    rw [if_pos h39, e]
    simp only [if_true]
    have ht := lex_quoted_is q s i hi hs h39
    have hg : ∀ k, lex_token_g3 q (k + 1) s i (0, 0, 0, emp, 0, ()) = (substr s i s.size).bind fun v17 => (lex_quoted q v17).bind fun v18 => if (v18.2.1 == (0 : Int)) = true then some ((0, 0, 0, emp, v18.1, ()), 0, 3, ()) else (substr s i (IntKind.i64.wrap ((i : Int) + v18.2.1))).bind fun v19 => some ((2, 0, 0, v19, v18.1, ()), IntKind.i64.wrap ((i : Int) + v18.2.1), 0, ()) := fun k => by
      unfold lex_token_g3; rfl
    replace hg := hg p
    rw [← hp] at hg
    have hsub : substr s (i : Int) (s.size : Int) = some (s.extract i s.size) := substr_is (by omega) (Nat.le_refl _)
    rw [hg, hsub]
    simp only [bind_mk]
    rw [ht]
    cases hx : charS s i with
    | none => exact ⟨_, rfl⟩
    | some r =>
      obtain ⟨v, n⟩ := r
      obtain ⟨c1, c2⟩ := charS_le s i v n hx
      simp only [bind_mk]
      have hz : ((n : Int) == 0) = false := by simp; omega
      rw [hz]
      simp only [Bool.false_eq_true, if_false]
      rw [wadd (by omega), substr_is (by omega) c1]
      rfl
  rw [if_neg h39]
  have e : (((bt s i : Nat) : Int) == 39) = false := by simp; omega
  rw [e]
  simp only [Bool.false_eq_true, if_false]
  rw [lex_token_l2_is q s i hi hs hq]
  cases hm : markS s i with
  | none => exact ⟨_, rfl⟩
  | some m =>
    obtain ⟨hm1, hm2⟩ := mark_get hm
    have hsz := marks_size _ (List.getElem_mem hm1)
    have hg : marksL.getD m emp = marksL[m] := by rw [List.getD_eq_getElem?_getD, List.getElem?_eq_getElem hm1]; rfl
    obtain ⟨_, h2⟩ := atB_ext (by omega) hm2
    simp only [cutB_inr]
    rw [hg, h2]
    rfl
end Go.Ax
