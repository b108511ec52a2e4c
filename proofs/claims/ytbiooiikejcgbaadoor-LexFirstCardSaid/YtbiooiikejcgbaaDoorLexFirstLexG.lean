/- Layer 1: the tokens of a source: both sides say the same. -/
import Derived.Test.YtbiooiikejcgbaaDoorLexFirstLexF
set_option linter.unusedVariables false
set_option linter.unusedSimpArgs false
namespace Go.Ax
open Go
structure TokR where
  k : Nat
  p : Nat
  ln : Nat
  a : Nat
  b : Nat
  v : Nat
def TokR.enc (s : ByteArray) (t : TokR) : T := T.agg [T.int .i64 (t.k : Int), T.int .i64 (t.p : Int), T.int .i64 (t.ln : Int), T.str (s.extract t.a t.b), T.int .i64 (t.v : Int)]
/-- the tokens from i on; or what is wrong, and where -/
def runS (s : ByteArray) : Nat → Nat → Nat → Nat → (Nat × Nat) ⊕ List TokR
  | 0, _, _, _ => .inl (0, 0)
  | f + 1, i, ln, c => if i = s.size then .inr [⟨0, i, ln, 0, 0, 0⟩] else match blankS s i with
    | none => .inl (3, i)
    | some (n, l) => if 0 < n then runS s f (i + n) (ln + l) c else match tokS s i with
      | .inl e => .inl (e, i)
      | .inr (k, a, b, v, n) => if c = 8191 then .inl (8, i) else match runS s f (i + n) ln (c + 1) with
        | .inl e => .inl e
        | .inr ts => .inr (⟨k, i, ln, a, b, v⟩ :: ts)
theorem blankS_le {s : ByteArray} {i n l : Nat} (hi : i < s.size) (h : blankS s i = some (n, l)) : i + n ≤ s.size ∧ l ≤ n := by
  unfold blankS at h
  split at h
  · simp only [Option.some.injEq, Prod.mk.injEq] at h; omega
  split at h
  · simp only [Option.some.injEq, Prod.mk.injEq] at h; omega
  split at h
  · rename_i hf
    have := at_lt hf
    simp only [Option.some.injEq, Prod.mk.injEq] at h; omega
  split at h
  · have h1 : i ≤ eol s i := (ff_spec _ _ _).1
    have h2 : eol s i ≤ i + (s.size - i) := (ff_spec _ _ _).2.1
    simp only [Option.some.injEq, Prod.mk.injEq] at h; omega
  split at h
  · split at h
    · rename_i hc he
      have h1 : i + 2 ≤ eoc s (i + 2) := (ff_spec _ _ _).1
      have h4 : atB s (ByteArray.mk #[42, 47]) (eoc s (i + 2)) = true := (ff_spec (fun j => atB s (ByteArray.mk #[42, 47]) j) (s.size - (i + 2)) (i + 2)).2.2.2 (show eoc s (i + 2) < _ by omega)
      have := at_lt h4
      simp only [Option.some.injEq, Prod.mk.injEq] at h; omega
    · cases h
  · simp only [Option.some.injEq, Prod.mk.injEq] at h; omega
theorem nameEnd_gt {s : ByteArray} {i : Nat} (hi : i < s.size) (h : letterS (bt s i) = true) : i + 1 ≤ nameEnd s i := by
  have he : nameEnd s i = if (!(letterS (bt s i) || digitS (bt s i))) = true then i else nameEnd s (i + 1) := ff_step _ _ _ hi
  rw [he, h]
  exact (nameEnd_ge s (i + 1) (by omega)).1
theorem numEnd_gt {s : ByteArray} {i : Nat} (hi : i < s.size) (h : digitS (bt s i) = true) : i + 1 ≤ numEnd s i := by
  have he : numEnd s i = if (!digitS (bt s i)) = true then i else numEnd s (i + 1) := ff_step _ _ _ hi
  rw [he, h]
  exact (numEnd_ge s (i + 1) (by omega)).1
theorem tokS_err {s : ByteArray} {i e : Nat} (h : tokS s i = .inl e) : e = 2 ∨ e = 3 ∨ e = 4 ∨ e = 5 := by
  unfold tokS at h
  repeat' split at h
  all_goals first | (simp only [Sum.inl.injEq] at h; omega) | cases h
theorem tokS_le {s : ByteArray} {i k a b v n : Nat} (hi : i < s.size) (h : tokS s i = .inr (k, a, b, v, n)) :
    1 ≤ n ∧ i + n ≤ s.size ∧ 1 ≤ k ∧ (k ≠ 3 → a = i ∧ b = i + n) ∧ (k = 3 → a = i + 1 ∧ b = i + n - 1 ∧ 2 ≤ n) := by
  unfold tokS at h
  split at h
  · rename_i hl
    split at h
    · cases h
    · have := nameEnd_gt hi hl
      have := nameEnd_ge s i (by omega)
      simp only [Sum.inr.injEq, Prod.mk.injEq] at h; omega
  split at h
  · rename_i hl hd
    split at h
    · cases h
    · have := numEnd_gt hi hd
      have := numEnd_ge s i (by omega)
      simp only [Sum.inr.injEq, Prod.mk.injEq] at h; omega
  split at h
  · split at h
    · cases h
    · rename_i x hx
      have := txt_ge s _ _ _ hx
      split at h
      · cases h
      · simp only [Sum.inr.injEq, Prod.mk.injEq] at h; omega
  split at h
  · split at h
    · cases h
    · rename_i v' n' hx
      have := charS_le s i v' n' hx
      simp only [Sum.inr.injEq, Prod.mk.injEq] at h; omega
  split at h
  · cases h
  · rename_i m hm
    obtain ⟨hm1, hm2⟩ := mark_get hm
    have hsz := marks_size _ (List.getElem_mem hm1)
    have hg : marksL.getD m emp = marksL[m] := by rw [List.getD_eq_getElem?_getD, List.getElem?_eq_getElem hm1]; rfl
    obtain ⟨h1, _⟩ := atB_ext (by omega) hm2
    rw [hg] at h
    simp only [Sum.inr.injEq, Prod.mk.injEq] at h; omega
theorem fits48 {n : Nat} (h : n ≤ 10000) : fitsB n 48 = true := by
  unfold fitsB
  rw [Nat.ble_eq_true_of_le (by omega), Bool.true_or]
theorem clone_is (q : Nat) (x : ByteArray) (h : x.size ≤ 281474976710656) : strings_Clone q x = some (x, ()) := by
  unfold strings_Clone lib_internal_stringslite_Clone
  rw [if_pos h]; rfl
def fin (s : ByteArray) (acc : List T) : (Nat × Nat) ⊕ List TokR → List T × Int × Int × Unit
  | .inl (e, p) => ([], (e : Int), (p : Int), ())
  | .inr ts => (acc ++ ts.map (TokR.enc s), 0, 0, ())
theorem fin_cons (s : ByteArray) (acc : List T) (t : TokR) (r : (Nat × Nat) ⊕ List TokR) : fin s (acc ++ [t.enc s]) r = fin s acc (match r with | .inl e => .inl e | .inr ts => .inr (t :: ts)) := by
  cases r with
  | inl e => rfl
  | inr ts => simp [fin]
theorem emp_ext (s : ByteArray) : s.extract 0 0 = emp := by
  apply ByteArray.ext
  rw [ByteArray.data_extract]
  show s.data.extract 0 0 = #[]
  simp
theorem substr_all {s : ByteArray} {i : Nat} (hi : i ≤ s.size) : substr s (i : Int) (s.size : Int) = some (s.extract i s.size) := substr_is hi (Nat.le_refl _)
theorem lex_Tokens_g0_is (q : Nat) (s : ByteArray) (hs : s.size ≤ 70000) (hq : 70010 ≤ q) : ∀ (f k i ln : Nat) (acc : List T), i ≤ s.size → s.size - i < f → s.size - i < k → ln ≤ i + 1 → acc.length ≤ 8191 →
    lex_Tokens_g0 q k s i ln acc (marksL.map T.str) = some (fin s acc (runS s f i ln acc.length))
  | 0, _, _, _, _, _, h, _, _, _ => by omega
  | _ + 1, 0, _, _, _, _, _, h, _, _ => by omega
  | f + 1, k + 1, i, ln, acc, hi, hf, hk, hln, hacc => by
    unfold runS
    simp only [lex_Tokens_g0]
    by_cases he : i = s.size
    · rw [if_pos (by subst he; simp), if_pos he]
      rw [if_pos (by exact fits48 (by simp; omega))]
      simp only [fin, List.map, TokR.enc, emp_ext]
      rw [he]; rfl
    · have hlt : i < s.size := by omega
      rw [if_neg (by simp; omega), if_neg he, substr_all (by omega)]
      simp only [bind_mk]
      rw [lex_blank_is q s i hlt hs]
      cases hb : blankS s i with
      | none => rfl
      | some r =>
        obtain ⟨n, l⟩ := r
        obtain ⟨b1, b2⟩ := blankS_le hlt hb
        simp only [bind_mk]
        rw [if_neg (by simp)]
        by_cases hn : 0 < n
        · rw [if_pos (by simp; omega), if_pos hn, wadd (by omega), wadd (by omega)]
          exact lex_Tokens_g0_is q s hs hq f k (i + n) (ln + l) acc b1 (by omega) (by omega) (by omega) hacc
        · rw [if_neg (by simp; omega), if_neg hn]
          have ht := lex_token_is q s i hlt hs hq
          cases hx : tokS s i with
          | inl e =>
            rw [hx] at ht
            obtain ⟨t, ht⟩ := ht
            have he := tokS_err hx
            rw [ht]
            simp only [bind_mk]
            have hz : ((e : Int) == 0) = false := by simp; omega
            have hz2 : ((e : Int) != 0) = true := by unfold bne; rw [hz]; rfl
            rw [hz]
            simp only [Bool.false_eq_true, if_false, bind_mk, cutB_inl, hz2, if_true]
            rfl
          | inr r =>
            obtain ⟨tk, a, b, v, n'⟩ := r
            rw [hx] at ht
            simp only at ht
            obtain ⟨t1, t2, t3, t4, t5⟩ := tokS_le hlt hx
            rw [ht]
            simp only [bind_mk]
            have hz : ((0 : Int) == 0) = true := rfl
            simp only [hz, if_true]
            by_cases hc : acc.length = 8191
            · have hc' : ((acc.length : Int) == 8191) = true := by rw [hc]; rfl
              rw [hc', if_pos hc]
              rfl
            · have hc' : ((acc.length : Int) == 8191) = false := by simp; omega
              rw [hc', if_neg hc]
              simp only [bind_mk, Bool.false_eq_true, if_false, cutB_inl]
              have hz3 : ((0 : Int) != 0) = false := rfl
              rw [hz3]
              simp only [Bool.false_eq_true, if_false]
              rw [clone_is q _ (by rw [ByteArray.size_extract]; omega)]
              simp only [bind_mk]
              rw [if_pos (by exact fits48 (by simp; omega))]
              have ih := lex_Tokens_g0_is q s hs hq f k (i + n') ln (acc ++ [TokR.enc s ⟨tk, i, ln, a, b, v⟩]) t2 (by omega) (by omega) (by omega) (by simp; omega)
              rw [fin_cons] at ih
              have hl : (acc ++ [TokR.enc s ⟨tk, i, ln, a, b, v⟩]).length = acc.length + 1 := by simp
              rw [hl] at ih
              exact ih
theorem ref01_Tokens_l0_is (q : Nat) (s : ByteArray) (hs : s.size ≤ 70000) (hq : 70010 ≤ q) : ∀ (f k i ln : Nat) (acc : List T), i ≤ s.size → s.size - i < f → s.size - i < k → ln ≤ i + 1 → acc.length ≤ 8191 →
    (cutB (ref01_Tokens_l0 q k s ln i acc) fun p1 => if fitsB (p1.2.2.2.1.length + ([T.agg [T.int .i64 (0 : Int), T.int .i64 p1.2.2.1, T.int .i64 p1.2.1, T.str emp, T.int .i64 (0 : Int)]]).length) 48 = true then
      some ((p1.2.2.2.1 ++ [T.agg [T.int .i64 (0 : Int), T.int .i64 p1.2.2.1, T.int .i64 p1.2.1, T.str emp, T.int .i64 (0 : Int)]]), 0, 0, ()) else none) = some (fin s acc (runS s f i ln acc.length))
  | 0, _, _, _, _, _, h, _, _, _ => by omega
  | _ + 1, 0, _, _, _, _, _, h, _, _ => by omega
  | f + 1, k + 1, i, ln, acc, hi, hf, hk, hln, hacc => by
    unfold runS
    simp only [ref01_Tokens_l0]
    by_cases he : i = s.size
    · rw [if_neg (by subst he; simp), if_pos he]
      simp only [cutB_inl]
      rw [if_pos (by exact fits48 (by simp; omega))]
      simp only [fin, List.map, TokR.enc, emp_ext]
      rfl
    · have hlt : i < s.size := by omega
      rw [if_pos (by simp; omega), if_neg he]
      rw [ref01_Blank_is q s i hlt hs hq]
      cases hb : blankS s i with
      | none => rfl
      | some r =>
        obtain ⟨n, l⟩ := r
        obtain ⟨b1, b2⟩ := blankS_le hlt hb
        simp only [bind_mk]
        rw [if_neg (by simp)]
        by_cases hn : 0 < n
        · rw [if_pos (by simp; omega), if_pos hn, wadd (by omega), wadd (by omega)]
          exact ref01_Tokens_l0_is q s hs hq f k (i + n) (ln + l) acc b1 (by omega) (by omega) (by omega) hacc
        · rw [if_neg (by simp; omega), if_neg hn, ref01_Next_is q s i hlt hs hq]
          cases hx : tokS s i with
          | inl e =>
            have he := tokS_err hx
            simp only [bind_mk]
            have hz2 : ((e : Int) != 0) = true := by simp; omega
            rw [hz2]
            rfl
          | inr r =>
            obtain ⟨tk, a, b, v, n'⟩ := r
            obtain ⟨t1, t2, t3, t4, t5⟩ := tokS_le hlt hx
            simp only [bind_mk]
            have hz3 : ((0 : Int) != 0) = false := rfl
            rw [hz3]
            simp only [Bool.false_eq_true, if_false]
            by_cases hc : acc.length = 8191
            · have hc' : ((acc.length : Int) == 8191) = true := by rw [hc]; rfl
              rw [hc', if_pos hc]
              rfl
            · have hc' : ((acc.length : Int) == 8191) = false := by simp; omega
              rw [hc', if_neg hc]
              simp only [Bool.false_eq_true, if_false]
              rw [if_pos (by exact fits48 (by simp; omega)), wadd (by omega)]
              have ih := ref01_Tokens_l0_is q s hs hq f k (i + n') ln (acc ++ [TokR.enc s ⟨tk, i, ln, a, b, v⟩]) t2 (by omega) (by omega) (by omega) (by simp; omega)
              rw [fin_cons] at ih
              have hl : (acc ++ [TokR.enc s ⟨tk, i, ln, a, b, v⟩]).length = acc.length + 1 := by simp
              rw [hl] at ih
              exact ih
/-- the tokens of a source -/
def tokensS (s : ByteArray) : List T × Int × Int × Unit := if 65535 < s.size then ([], 1, 65535, ()) else fin s [] (runS s (s.size + 1) 0 1 0)
theorem ref01_Tokens_is (q : Nat) (s : ByteArray) (hq : 70010 ≤ q) : ref01_Tokens q s = some (tokensS s) := by
  unfold ref01_Tokens tokensS
  by_cases h : 65535 < s.size
  · rw [if_pos (by simp; omega), if_pos h]
  · rw [if_neg (by simp; omega), if_neg h]
    exact ref01_Tokens_l0_is q s (by omega) hq (s.size + 1) q 0 1 [] (by omega) (by omega) (by omega) (by omega) (by simp)
theorem fields_marks (q : Nat) : lib_strings_Fields q (ByteArray.mk #[33, 33, 32, 63, 63, 32, 45, 62, 32, 58, 58, 32, 43, 43, 32, 45, 45, 32, 60, 60, 32, 62, 62, 32, 60, 61, 32, 62, 61, 32, 61, 61, 32, 33, 61, 32, 38, 38, 32, 124, 124, 32, 46, 46, 32, 33, 32, 63, 32, 60, 32, 62, 32, 61, 32, 43, 32, 45, 32, 42, 32, 47, 32, 37, 32, 38, 32, 124, 32, 94, 32, 126, 32, 40, 32, 41, 32, 91, 32, 93, 32, 123, 32, 125, 32, 44, 32, 59, 32, 58, 32, 46, 32, 64, 32, 35]) = some (marksL.map T.str, ()) := by
  unfold lib_strings_Fields
  rw [if_pos (by refine ⟨?_, ?_⟩ <;> decide +kernel)]
  rfl
theorem lex_Tokens_is (q : Nat) (s : ByteArray) (hq : 70010 ≤ q) : lex_Tokens q s = some (tokensS s) := by
  unfold tokensS
  by_cases h : 65535 < s.size
  · unfold lex_Tokens
    rw [if_pos (by simp; omega), if_pos h]
  · rw [if_neg h]
    have hfit : ∀ t : T, fitsB (([] : List T).length + [t].length) 48 = true := fun _ => rfl
    have e : lex_Tokens q s = lex_Tokens_g0 q (q + 1) s (0 : Int) (1 : Int) [] (marksL.map T.str) := by
      unfold lex_Tokens
      rw [if_neg (by simp; omega), fields_marks]
      simp only [lex_Tokens_g0, hfit, if_true, List.nil_append, bind_mk]
      congr 1
      cases substr s (0 : Int) (s.size : Int) with
      | none => rfl
      | some v8 =>
      simp only [bind_mk]
      cases lex_blank q v8 with
      | none => rfl
      | some v9 =>
      simp only [bind_mk]
      congr 2
      cases lex_token q s 0 (marksL.map T.str) with
      | none => rfl
      | some v =>
      simp only [bind_mk]
      have h8 : ((0 : Int) == 8191) = false := rfl
      have h9 : ((([] : List T).length : Int) == 8191) = false := rfl
      simp only [h8, h9]
      cases (v.2.2.1 == (0 : Int)) <;> rfl
    rw [e]
    exact lex_Tokens_g0_is q s (by omega) hq (s.size + 1) (q + 1) 0 1 [] (by omega) (by omega) (by omega) (by omega) (by simp)
end Go.Ax
