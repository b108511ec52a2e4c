/- Layer 23: the document's side: the numbers of a line. -/
import Derived.Test.YtcpcbmebpmokbaaDoorTrailTextsTrH
set_option linter.unusedVariables false
set_option linter.unusedSimpArgs false
namespace Go.Ax
open Go
theorem nDigits_le : ∀ (k u : Nat), u < 10 ^ (k + 1) → Lib.nDigits u ≤ k + 1
  | 0, u, h => by rw [Lib.nDigits_small (by simpa using h)]; omega
  | k + 1, u, h => by
    by_cases h10 : u < 10
    · rw [Lib.nDigits_small h10]; omega
    · rw [Lib.nDigits_big h10]
      rw [Nat.pow_succ] at h
      have := nDigits_le k (u / 10) (by omega)
      omega
theorem itoa_len20 {n : Int} (h : okI n) : 1 ≤ (Lib.itoa n).length ∧ (Lib.itoa n).length ≤ 20 := by
  obtain ⟨h1, h2⟩ := h
  have hp := decDigits_pos n.natAbs
  have hl : (Lib.decDigits n.natAbs).length ≤ 19 := by
    rw [Lib.decDigits_length]; exact nDigits_le 18 _ (by omega)
  rcases itoa_cases n with ⟨_, e⟩ | ⟨_, e⟩ <;> rw [e]
  · rw [List.length_cons]; omega
  · omega
theorem ref23_number_some (q : Nat) (t : ByteArray) (v : Int) (hq : 64 ≤ q) (h : numS t = some v) : ref23_number q t = some (v, true, ()) := by
  obtain ⟨ho, e⟩ := numS_iff.1 h
  obtain ⟨l1, l20⟩ := itoa_len20 ho
  obtain ⟨ho1, ho2⟩ := ho
  have hss : t.data.toList = Lib.itoa v := by rw [e]; rfl
  have hsz : t.size = (Lib.itoa v).length := by rw [← hss]; rfl
  have hv := val_dec v.natAbs
  have hdig := decDigits_dig v.natAbs
  unfold ref23_number
  rw [or_any]
  simp only [bind_mk]
  have c0 : (decide ((t.size : Int) < 1) || decide ((t.size : Int) > 20)) = false := by
    rw [Bool.or_eq_false_iff]; exact ⟨decide_eq_false (by omega), decide_eq_false (by omega)⟩
  rw [c0]
  simp only [Bool.false_eq_true, if_false]
  have hlt : 0 < t.data.toList.length := by rw [hss]; omega
  rw [show ((0 : Int)) = ((0 : Nat) : Int) from rfl, byteAt_bl hlt]
  simp only [bind_mk]
  have hdec := Decimal_is q hq v ⟨ho1, ho2⟩
  have hstr : strEq (dec v) t = true := by rw [strEq_is]; simp [e]
  rcases itoa_cases v with ⟨hn, e2⟩ | ⟨hn, e2⟩
  · have hf : t.data.toList[0] = 45 := by
      have : t.data.toList = 45 :: Lib.decDigits v.natAbs := by rw [hss, e2]
      simp only [this, List.getElem_cons_zero]
    rw [hf]
    have h45 : (((45 : UInt8).toNat : Int) == 45) = true := rfl
    rw [h45]
    simp only [if_true, cutB_inl]
    have := num_digits q t true 9223372036854775808 (by decide) (by omega) (Lib.decDigits v.natAbs) q 1 0 (by rw [hss, e2]; rfl) (by rw [hsz, e2, List.length_cons]; omega) hdig (by rw [hv]; omega) (by rw [e2, List.length_cons] at l20; omega)
    simp only [if_true] at this
    rw [hv] at this
    have hv2 : -((v.natAbs : Nat) : Int) = v := by omega
    rw [hv2] at this
    have e0 : -((0 : Nat) : Int) = ((0 : Nat) : Int) := rfl
    rw [e0] at this
    have e1 : ((1 : Nat) : Int) = 1 := rfl
    rw [e1] at this
    rw [this, cutB_inl]
    simp only
    rw [hdec]
    simp only [bind_mk]
    rw [hstr]
  · have hf : ¬ (t.data.toList[0].toNat = 45) := by
      have hm : t.data.toList[0] ∈ Lib.decDigits v.natAbs := by rw [← e2, ← hss]; exact List.getElem_mem hlt
      have := hdig _ hm
      unfold isDig at this
      omega
    have h45 : ((t.data.toList[0].toNat : Int) == 45) = false := by rw [beq_eq_false_iff_ne]; omega
    rw [h45]
    simp only [Bool.false_eq_true, if_false, cutB_inl]
    have := num_digits q t false 9223372036854775807 (by decide) (by omega) (Lib.decDigits v.natAbs) q 0 0 (by rw [hss, e2]; rfl) (by rw [hsz, e2]; omega) hdig (by rw [hv]; omega) (by rw [e2] at l20; omega)
    simp only [Bool.false_eq_true, if_false] at this
    rw [hv] at this
    have hv2 : ((v.natAbs : Nat) : Int) = v := by omega
    rw [hv2] at this
    rw [show ((0 : Int)) = ((0 : Nat) : Int) from rfl] at this
    rw [this, cutB_inl]
    simp only
    rw [hdec]
    simp only [bind_mk]
    rw [hstr]
theorem ref23_number_none (q : Nat) (t : ByteArray) (hq : 64 ≤ q) (h : numS t = none) : ∃ m, ref23_number q t = some (m, false, ()) := by
  unfold ref23_number
  rw [or_any]
  simp only [bind_mk]
  by_cases c0 : (decide ((t.size : Int) < 1) || decide ((t.size : Int) > 20)) = true
  · rw [c0]; exact ⟨0, rfl⟩
  have c1 : (decide ((t.size : Int) < 1) || decide ((t.size : Int) > 20)) = false := by simpa using c0
  rw [c1]
  rw [Bool.or_eq_false_iff] at c1
  have s1 := of_decide_eq_false c1.1
  have s2 := of_decide_eq_false c1.2
  simp only [Bool.false_eq_true, if_false]
  have hlt : 0 < t.data.toList.length := by show 0 < t.size; omega
  rw [show ((0 : Int)) = ((0 : Nat) : Int) from rfl, byteAt_bl hlt]
  simp only [bind_mk]
  have fin : ∀ (kn : Int) (i : Nat), i ≤ t.size → ∃ m, (cutB (ref23_number_l0 q q t ((0 : Nat) : Int) kn (i : Int)) fun p4 => (ref12_Decimal q p4.2.1).bind fun v10 => some (p4.2.1, (strEq v10.1 p4.1), ())) = some (m, false, ()) := by
    intro kn i hi
    rcases num_any q t (by omega) (t.size - i) q i ((0 : Nat) : Int) kn (by omega) (by omega) ⟨by decide, by decide⟩ with ⟨m, ho, e⟩ | e
    · rw [e, cutB_inl]
      simp only
      rw [Decimal_is q hq m ho]
      simp only [bind_mk]
      have : strEq (dec m) t = false := by
        rw [strEq_is]
        refine decide_eq_false fun he => ?_
        rw [numS_iff.2 ⟨ho, he.symm⟩] at h
        cases h
      rw [this]
      exact ⟨m, rfl⟩
    · rw [e, cutB_inr]
      exact ⟨0, rfl⟩
  split
  · exact fin 1 1 (by omega)
  · exact fin 0 0 (by omega)
theorem ref23_numbers_is (q : Nat) (s w : ByteArray) (m : Nat) (hm : m ≤ 100) (hs : s.size ≤ 1048576) (hq : 1048600 ≤ q) : ref23_numbers q s w (m : Int) = some (encN (numbersS s w m)) := by
  have hss : s.data.toList.length = s.size := rfl
  have split : ∀ (rest : List UInt8) (k frm : Nat) (cur : List UInt8) (acc : List (List UInt8)), s.data.toList.drop frm = cur ++ rest → frm + cur.length + rest.length = s.size → rest.length + 1 < k → acc.length ≤ frm + cur.length →
      ref23_numbers_l0 q k s w (m : Int) (frm : Int) ((frm + cur.length : Nat) : Int) ((acc.map bl).map T.str) = some (.inl (w, (m : Int), (), ((acc ++ cutAt 32 cur rest).map bl).map T.str, ())) := by
    intro rest
    induction rest with
    | nil =>
      intro k frm cur acc hd hl hk ha
      obtain ⟨k, rfl⟩ : ∃ m, k = m + 2 := ⟨k - 2, by simp only [List.length_nil] at hk; omega⟩
      simp only [List.length_nil] at hl
      rw [ref23_numbers_l0, if_pos (by simp; omega)]
      have e1 : (((frm + cur.length : Nat) : Int) == (s.size : Int)) = true := by
        have : frm + cur.length = s.size := by omega
        rw [this]; simp
      rw [e1]
      simp only [if_true, bind_mk]
      have hsub : substr s (frm : Int) ((frm + cur.length : Nat) : Int) = some (bl cur) := by
        rw [substr_bl (by omega) (by omega), hd, Nat.add_sub_cancel_left, List.append_nil, List.take_of_length_le (Nat.le_refl _)]
      rw [hsub]
      simp only [bind_mk]
      rw [if_pos (fits_of (by simp; omega)), cutB_inl]
      simp only
      rw [w64 (n := ((frm + cur.length : Nat) : Int) + 1) (by omega) (by omega)]
      rw [ref23_numbers_l0, if_neg (by simp; omega)]
      simp [cutAt]
    | cons c l ih =>
      intro k frm cur acc hd hl hk ha
      simp only [List.length_cons] at hl hk
      obtain ⟨k, rfl⟩ : ∃ m, k = m + 1 := ⟨k - 1, by omega⟩
      have hlt : frm + cur.length < s.data.toList.length := by omega
      have hc : s.data.toList[frm + cur.length] = c := by
        have h1 : (s.data.toList.drop frm)[cur.length]? = some c := by rw [hd]; simp
        rw [List.getElem?_drop, List.getElem?_eq_getElem hlt] at h1
        exact Option.some.inj h1
      rw [ref23_numbers_l0, if_pos (by simp; omega)]
      have e1 : (((frm + cur.length : Nat) : Int) == (s.size : Int)) = false := by rw [beq_eq_false_iff_ne]; omega
      rw [e1, byteAt_bl hlt, hc]
      simp only [Bool.false_eq_true, if_false, bind_mk]
      by_cases h32 : c = 32
      · subst h32
        have e2 : (((32 : UInt8).toNat : Int) == 32) = true := rfl
        rw [e2]
        simp only [if_true]
        have hsub : substr s (frm : Int) ((frm + cur.length : Nat) : Int) = some (bl cur) := by
          rw [substr_bl (by omega) (by omega), hd, Nat.add_sub_cancel_left, List.take_left']
          rfl
        rw [hsub]
        simp only [bind_mk]
        rw [if_pos (fits_of (by simp; omega)), cutB_inl]
        simp only
        rw [w64 (n := ((frm + cur.length : Nat) : Int) + 1) (by omega) (by omega)]
        have hd' : s.data.toList.drop (frm + cur.length + 1) = [] ++ l := by
          rw [show frm + cur.length + 1 = frm + (cur.length + 1) by omega, ← List.drop_drop, hd]
          rw [show cur.length + 1 = (cur ++ [32]).length by simp, show cur ++ 32 :: l = (cur ++ [32]) ++ l by simp, List.drop_left]
          rfl
        have := ih k (frm + cur.length + 1) [] (acc ++ [cur]) hd' (by simp only [List.length_nil]; omega) (by omega) (by simp only [List.length_append, List.length_cons, List.length_nil]; omega)
        simp only [List.map_append, List.map_cons, List.map_nil, List.length_nil, Nat.add_zero, List.append_assoc, List.singleton_append] at this
        rw [show (((frm + cur.length : Nat) : Int) + 1) = ((frm + cur.length + 1 : Nat) : Int) from rfl]
        simp only [cutAt, if_true, List.map_append, List.map_cons]
        exact this
      · have e2 : (((c.toNat : Nat) : Int) == 32) = false := by
          rw [beq_eq_false_iff_ne]
          intro h
          exact h32 (UInt8.toNat_inj.1 (by show c.toNat = 32; omega))
        rw [e2]
        simp only [Bool.false_eq_true, if_false, cutB_inl]
        rw [w64 (n := ((frm + cur.length : Nat) : Int) + 1) (by omega) (by omega)]
        have := ih k frm (cur ++ [c]) acc (by rw [hd]; simp) (by rw [List.length_append, List.length_singleton]; omega) (by omega) (by rw [List.length_append, List.length_singleton]; omega)
        rw [List.length_append, List.length_singleton] at this
        rw [show (((frm + cur.length : Nat) : Int) + 1) = ((frm + (cur.length + 1) : Nat) : Int) by omega]
        simp only [cutAt, if_neg h32]
        exact this
  have loop : ∀ (ts : List (List UInt8)), ts.length ≤ 1048600 → ∀ (d k i : Nat) (acc : List Int), i + d = ts.length → d < k → acc.length ≤ i →
      ref23_numbers_l1 q k (i : Int) ((ts.map bl).map T.str) (acc.map (T.int .i64)) = some (match numsS (ts.drop i) with
        | some l => .inl ((), (acc ++ l).map (T.int .i64), ())
        | none => .inr ([], false, ())) := by
    intro ts htl d
    induction d with
    | zero =>
      intro k i acc hi hk ha
      obtain ⟨k, rfl⟩ : ∃ m, k = m + 1 := ⟨k - 1, by omega⟩
      rw [ref23_numbers_l1, if_neg (by simp; omega), List.drop_eq_nil_of_le (by omega)]
      simp only [numsS, List.append_nil]
    | succ d ih =>
      intro k i acc hi hk ha
      obtain ⟨k, rfl⟩ : ∃ m, k = m + 1 := ⟨k - 1, by omega⟩
      have hlt : i < ts.length := by omega
      have hg : ((ts.map bl).map T.str)[Int.toNat (i : Int)]? = some (T.str (bl ts[i])) := by
        rw [Int.toNat_natCast]; simp [hlt]
      rw [ref23_numbers_l1, if_pos (by simp; omega), if_pos (by simp; omega), hg]
      simp only [MMove.enc_width, MMove.part, MMove.l0, MMove.l1, MMove.l2, MMove.l3, MMove.l4, MMove.l5, MMove.l6, MFound.enc_width, MFound.part, MFound.l0, MFound.l1, MFound.l2, MFound.l3, MFound.l4, MFound.l5, MFound.l6, MFound.l7, asInt_mk, asBool_mk, asStr_mk, asLst_mk, bind_mk, if_true, leaf_int, leaf_bool, leaf_str, leaf_lst]
      rw [List.drop_eq_getElem_cons hlt, numsS]
      cases hn : numS (bl ts[i]) with
      | none =>
        obtain ⟨v, h1⟩ := ref23_number_none q _ (by omega) hn
        rw [h1]
        rfl
      | some n =>
        rw [ref23_number_some q _ _ (by omega) hn]
        simp only [bind_mk, Bool.not_true, Bool.false_eq_true, if_false]
        rw [if_pos (fits_of (by simp; omega)), wrap_succ hlt (by omega)]
        have := ih k (i + 1) (acc ++ [n]) (by omega) (by omega) (by simp; omega)
        rw [List.map_append] at this
        rw [show [T.int .i64 n] = List.map (T.int .i64) [n] from rfl, this]
        cases numsS (ts.drop (i + 1)) with
        | none => rfl
        | some l => simp [Option.bind]
  have hlen := cutAt_len 32 s.data.toList []
  unfold ref23_numbers
  have h0 := split s.data.toList q 0 [] [] rfl (by simp only [List.length_nil]; omega) (by omega) (Nat.le_refl _)
  simp only [List.map_nil, List.nil_append] at h0
  rw [show ((0 : Int)) = ((0 : Nat) : Int) from rfl]
  have e0 : ((0 + ([] : List UInt8).length : Nat) : Int) = ((0 : Nat) : Int) := rfl
  rw [e0] at h0
  rw [h0, cutB_inl]
  simp only
  unfold numbersS
  cases hc : cutAt 32 [] s.data.toList with
  | nil => rw [hc] at hlen; simp at hlen
  | cons h ts =>
    rw [hc] at hlen
    simp only [List.length_cons] at hlen
    have hL : (List.map T.str (List.map bl (h :: ts))).length = ts.length + 1 := by simp
    rw [if_pos (by rw [hL]; omega)]
    have hg : (List.map T.str (List.map bl (h :: ts)))[0]? = some (T.str (bl h)) := rfl
    rw [hg, hL, w64 (by omega) (by omega)]
    simp only [MMove.enc_width, MMove.part, MMove.l0, MMove.l1, MMove.l2, MMove.l3, MMove.l4, MMove.l5, MMove.l6, MFound.enc_width, MFound.part, MFound.l0, MFound.l1, MFound.l2, MFound.l3, MFound.l4, MFound.l5, MFound.l6, MFound.l7, asInt_mk, asBool_mk, asStr_mk, asLst_mk, bind_mk, if_true, leaf_int, leaf_bool, leaf_str, leaf_lst]
    unfold numbersL
    simp only
    by_cases hw : bl h = w ∧ ts.length = m
    · rw [if_pos hw]
      have e1 : strEq (bl h) w = true := by rw [strEq_is]; simp [hw.1]
      have e2 : (((ts.length + 1 : Nat) : Int) != ((m : Int) + 1)) = false := by rw [hw.2]; simp
      rw [e1, e2]
      simp only [Bool.not_true, Bool.false_eq_true, if_false, bind_mk]
      have := loop (h :: ts) (by simp only [List.length_cons]; omega) ts.length q 1 [] (by simp only [List.length_cons]; omega) (by omega) (Nat.zero_le _)
      rw [show ([] : List T) = List.map (T.int .i64) [] from rfl, show ((1 : Int)) = ((1 : Nat) : Int) from rfl, this]
      simp only [List.drop_succ_cons, List.drop_zero]
      cases numsS ts with
      | none => rfl
      | some l => rfl
    · rw [if_neg hw]
      have : (if (!strEq (bl h) w) = true then some true else some (((ts.length + 1 : Nat) : Int) != ((m : Int) + 1))) = some true := by
        rw [strEq_is]
        by_cases hh : bl h = w
        · have : ts.length ≠ m := fun e => hw ⟨hh, e⟩
          have e2 : (((ts.length + 1 : Nat) : Int) != ((m : Int) + 1)) = true := by simp; omega
          rw [e2]; simp [hh]
        · simp [hh]
      rw [this]
      rfl
end Go.Ax
