/- Layer 23: the document's side: what it prints; the number of a text. -/
import Derived.Test.YtcpcbmebpmokbaaDoorTrailTextsTrG
set_option linter.unusedVariables false
set_option linter.unusedSimpArgs false
namespace Go.Ax
open Go
theorem ref23_line_is (q : Nat) (w : List UInt8) (ns : List Int) (hn : ∀ n ∈ ns, okI n) (hq : ns.length < q) (hq2 : 64 ≤ q) (hl : w.length + ns.length * 22 ≤ 1000000) :
    ref23_line q (bl w) (ns.map (T.int .i64)) = some (bl (lineS w ns), ()) := by
  have loop : ∀ (d k i : Nat) (acc : List UInt8), i + d = ns.length → d < k → acc.length ≤ 1000 + i * 22 + w.length →
      ref23_line_l0 q k (bl acc) (ns.map (T.int .i64)) (i : Int) = some (.inl (bl (acc ++ numsL (ns.drop i)), ())) := by
    intro d
    induction d with
    | zero =>
      intro k i acc hi hk ha
      obtain ⟨k, rfl⟩ : ∃ m, k = m + 1 := ⟨k - 1, by omega⟩
      rw [ref23_line_l0, if_neg (by simp; omega), List.drop_eq_nil_of_le (by omega)]
      show _ = some (Sum.inl (bl (acc ++ []), ()))
      rw [List.append_nil]
    | succ d ih =>
      intro k i acc hi hk ha
      obtain ⟨k, rfl⟩ : ∃ m, k = m + 1 := ⟨k - 1, by omega⟩
      have hlt : i < ns.length := by omega
      have ho := hn ns[i] (List.getElem_mem hlt)
      have hd := Lib.itoa_length_le ns[i] ho.1 ho.2
      have s0 : (bl acc).size + (ByteArray.mk #[32]).size ≤ 9223372036854775807 := by show acc.length + 1 ≤ _; omega
      rw [ref23_line_l0, if_pos (by simp; omega), if_pos s0, rd_map intw hlt]
      simp only [MMove.enc_width, MMove.part, MMove.l0, MMove.l1, MMove.l2, MMove.l3, MMove.l4, MMove.l5, MMove.l6, MFound.enc_width, MFound.part, MFound.l0, MFound.l1, MFound.l2, MFound.l3, MFound.l4, MFound.l5, MFound.l6, MFound.l7, asInt_mk, asBool_mk, asStr_mk, asLst_mk, bind_mk, if_true, leaf_int, leaf_bool, leaf_str, leaf_lst]
      rw [Decimal_is q hq2 _ ho]
      simp only [bind_mk]
      have e1 : bl acc ++ (ByteArray.mk #[32]) = bl (acc ++ [32]) := (bl_app acc [32]).symm
      have e2 : bl (acc ++ [32]) ++ dec ns[i] = bl (acc ++ (32 :: Lib.itoa ns[i])) := by
        unfold dec; rw [← bl_app, List.append_assoc]; rfl
      have s1 : (bl (acc ++ [32])).size + (dec ns[i]).size ≤ 9223372036854775807 := by
        show (acc ++ [32]).length + (Lib.itoa ns[i]).length ≤ _
        rw [List.length_append, List.length_singleton]; omega
      rw [e1, if_pos s1, e2, wrap_succ hlt (by omega)]
      rw [ih k (i + 1) _ (by omega) (by omega) (by rw [List.length_append, List.length_cons]; omega)]
      rw [List.drop_eq_getElem_cons hlt, numsL_cons, List.append_assoc]
  unfold ref23_line
  rw [show ((0 : Int)) = ((0 : Nat) : Int) from rfl, loop ns.length q 0 w (by omega) hq (by omega), cutB_inl]
  have hL := numsL_len hn
  have s3 : (bl (w ++ numsL (ns.drop 0))).size + (ByteArray.mk #[10]).size ≤ 9223372036854775807 := by
    rw [bl_size, List.length_append, List.drop_zero]; show _ + 1 ≤ _; omega
  rw [if_pos s3]
  have e3 : bl (w ++ numsL (ns.drop 0)) ++ (ByteArray.mk #[10]) = bl (lineS w ns) := by
    rw [List.drop_zero]; exact (bl_app (w ++ numsL ns) [10]).symm
  rw [e3]
theorem ref23_Print_is (q : Nat) (f : MFound) (ho : f.ok ksmall) (hq : 1048600 ≤ q) :
    ref23_Print q f.enc = some (if printOk f = true then (bl (printS f), 0, ()) else (emp, 42, ())) := by
  have hfo := ho
  obtain ⟨o0, o1, o2, o3, ⟨⟨ol, ok⟩, oT⟩, o5, o6, o7⟩ := hfo
  have hlen : f.Trail.length ≤ 1048576 := ok
  have loop : ∀ (d k i : Nat) (acc : List UInt8), i + d = f.Trail.length → d < k → acc.length ≤ 1000 + i * 165 →
      ref23_Print_l0 q k (bl acc) (i : Int) f.enc = some (.inl (bl (acc ++ movesS f.Cycle i (f.Trail.drop i)), ())) := by
    intro d
    induction d with
    | zero =>
      intro k i acc hi hk ha
      obtain ⟨k, rfl⟩ : ∃ m, k = m + 1 := ⟨k - 1, by omega⟩
      rw [ref23_Print_l0]
      simp only [MMove.enc_width, MMove.part, MMove.l0, MMove.l1, MMove.l2, MMove.l3, MMove.l4, MMove.l5, MMove.l6, MFound.enc_width, MFound.part, MFound.l0, MFound.l1, MFound.l2, MFound.l3, MFound.l4, MFound.l5, MFound.l6, MFound.l7, asInt_mk, asBool_mk, asStr_mk, asLst_mk, bind_mk, if_true, leaf_int, leaf_bool, leaf_str, leaf_lst, List.length_map]
      rw [if_neg (by simp; omega), List.drop_eq_nil_of_le (by omega), movesS, List.append_nil]
    | succ d ih =>
      intro k i acc hi hk ha
      obtain ⟨k, rfl⟩ : ∃ m, k = m + 1 := ⟨k - 1, by omega⟩
      have hlt : i < f.Trail.length := by omega
      have hv := oT f.Trail[i] (List.getElem_mem hlt)
      have hvl := numsL_len (MMove.nums_ok hv)
      have hv7 : (f.Trail[i]).nums.length = 7 := rfl
      have hML := moveS_len (c := f.Cycle) (i := i) hv
      have step : ref23_line q (ByteArray.mk #[109, 111, 118, 101]) ((f.Trail[i]).nums.map (T.int .i64)) = some (bl (lineS wMove (f.Trail[i]).nums), ()) :=
        ref23_line_is q wMove _ (MMove.nums_ok hv) (by omega) (by omega) (by rw [hv7]; decide)
      simp only [MMove.nums, List.map_cons, List.map_nil] at step
      rw [ref23_Print_l0]
      simp only [MMove.enc_width, MMove.part, MMove.l0, MMove.l1, MMove.l2, MMove.l3, MMove.l4, MMove.l5, MMove.l6, MFound.enc_width, MFound.part, MFound.l0, MFound.l1, MFound.l2, MFound.l3, MFound.l4, MFound.l5, MFound.l6, MFound.l7, asInt_mk, asBool_mk, asStr_mk, asLst_mk, bind_mk, if_true, leaf_int, leaf_bool, leaf_str, leaf_lst, List.length_map]
      rw [if_pos (by simp; omega), rd_map MMove.enc_width hlt]
      simp only [MMove.enc_width, MMove.part, MMove.l0, MMove.l1, MMove.l2, MMove.l3, MMove.l4, MMove.l5, MMove.l6, MFound.enc_width, MFound.part, MFound.l0, MFound.l1, MFound.l2, MFound.l3, MFound.l4, MFound.l5, MFound.l6, MFound.l7, asInt_mk, asBool_mk, asStr_mk, asLst_mk, bind_mk, if_true, leaf_int, leaf_bool, leaf_str, leaf_lst]
      unfold moveS at hML
      by_cases hc : (i : Int) = f.Cycle
      · have hcb : ((i : Int) == f.Cycle) = true := by simpa using hc
        rw [if_pos hc] at hML
        simp only [List.length_append, MMove.nums] at hML
        have s0 : (bl acc).size + (ByteArray.mk #[99, 121, 99, 108, 101, 10]).size ≤ 9223372036854775807 := by show acc.length + 6 ≤ _; omega
        rw [if_pos hcb, if_pos s0]
        simp only [cutB_inl]
        simp only [MMove.enc_width, MMove.part, MMove.l0, MMove.l1, MMove.l2, MMove.l3, MMove.l4, MMove.l5, MMove.l6, MFound.enc_width, MFound.part, MFound.l0, MFound.l1, MFound.l2, MFound.l3, MFound.l4, MFound.l5, MFound.l6, MFound.l7, asInt_mk, asBool_mk, asStr_mk, asLst_mk, bind_mk, if_true, leaf_int, leaf_bool, leaf_str, leaf_lst]
        rw [step]
        simp only [bind_mk]
        have e1 : bl acc ++ (ByteArray.mk #[99, 121, 99, 108, 101, 10]) = bl (acc ++ (wCycle ++ [10])) := (bl_app acc _).symm
        rw [e1, if_pos (by
          show (acc ++ (wCycle ++ [10])).length + (lineS wMove _).length ≤ _
          simp only [List.length_append]
          omega), ← bl_app]
        rw [wrap_succ hlt (by omega), ih k (i + 1) _ (by omega) (by omega) (by
          simp only [List.length_append]
          omega)]
        rw [List.drop_eq_getElem_cons hlt, movesS, moveS, if_pos hc]
        simp only [List.append_assoc, MMove.nums]
      · have hcb : ((i : Int) == f.Cycle) = false := by simpa using hc
        rw [if_neg hc] at hML
        simp only [List.length_append, List.length_nil, MMove.nums] at hML
        rw [hcb]
        simp only [Bool.false_eq_true, if_false, cutB_inl]
        simp only [MMove.enc_width, MMove.part, MMove.l0, MMove.l1, MMove.l2, MMove.l3, MMove.l4, MMove.l5, MMove.l6, MFound.enc_width, MFound.part, MFound.l0, MFound.l1, MFound.l2, MFound.l3, MFound.l4, MFound.l5, MFound.l6, MFound.l7, asInt_mk, asBool_mk, asStr_mk, asLst_mk, bind_mk, if_true, leaf_int, leaf_bool, leaf_str, leaf_lst]
        rw [step]
        simp only [bind_mk]
        rw [if_pos (by
          show acc.length + (lineS wMove _).length ≤ _
          omega), ← bl_app]
        rw [wrap_succ hlt (by omega), ih k (i + 1) _ (by omega) (by omega) (by
          simp only [List.length_append]
          omega)]
        rw [List.drop_eq_getElem_cons hlt, movesS, moveS, if_neg hc]
        simp only [List.append_assoc, List.nil_append, MMove.nums]
  unfold ref23_Print
  simp only [MMove.enc_width, MMove.part, MMove.l0, MMove.l1, MMove.l2, MMove.l3, MMove.l4, MMove.l5, MMove.l6, MFound.enc_width, MFound.part, MFound.l0, MFound.l1, MFound.l2, MFound.l3, MFound.l4, MFound.l5, MFound.l6, MFound.l7, asInt_mk, asBool_mk, asStr_mk, asLst_mk, bind_mk, if_true, leaf_int, leaf_bool, leaf_str, leaf_lst, or_any, List.length_map]
  rw [Print_head]
  cases hp : printOk f with
  | false => rfl
  | true =>
    simp only [Bool.not_true, Bool.false_eq_true, if_false, if_true]
    have hfl := numsL_len (MFound.nums_ok ho)
    have h6 : f.nums.length = 6 := rfl
    have h1 := ref23_line_is q wFound f.nums (MFound.nums_ok ho) (by rw [h6]; omega) (by omega) (by rw [h6]; decide)
    simp only [MFound.nums, List.map_cons, List.map_nil] at h1
    rw [show (ByteArray.mk #[102, 111, 117, 110, 100]) = bl wFound from rfl, h1]
    simp only [bind_mk]
    have hL : (lineS wFound f.nums).length ≤ 140 := by
      unfold lineS
      simp only [List.length_append, wFound, List.length_cons, List.length_nil]; omega
    rw [show ((0 : Int)) = ((0 : Nat) : Int) from rfl, loop f.Trail.length q 0 _ (by omega) (by omega) (by simp only [MFound.nums] at hL; omega)]
    simp only [cutB_inl, List.drop_zero]
    rfl
/-! ### a number -/
/-- where all bytes are digits, and what they spell fits -/
theorem num_digits (q : Nat) (s : ByteArray) (neg : Bool) (M : Nat) (hM : M ≤ if neg = true then 9223372036854775808 else 9223372036854775807) (hs : s.size ≤ 2000000) :
    ∀ (l : List UInt8) (k i a : Nat), s.data.toList.drop i = l → i + l.length = s.size → (∀ c ∈ l, isDig c) → val a l ≤ M → l.length < k →
    ref23_number_l0 q k s (if neg = true then -(a : Int) else (a : Int)) (if neg = true then 1 else 0) (i : Int) = some (.inl (s, (if neg = true then -((val a l : Nat) : Int) else ((val a l : Nat) : Int)), ())) := by
  intro l
  induction l with
  | nil =>
    intro k i a hd hi hdig hv hk
    obtain ⟨k, rfl⟩ : ∃ m, k = m + 1 := ⟨k - 1, by omega⟩
    simp only [List.length_nil] at hi
    rw [ref23_number_l0, if_neg (by simp; omega), val_nil]
  | cons c l ih =>
    intro k i a hd hi hdig hv hk
    obtain ⟨k, rfl⟩ : ∃ m, k = m + 1 := ⟨k - 1, by omega⟩
    simp only [List.length_cons] at hi hk
    have hss : s.data.toList.length = s.size := rfl
    have hlt : i < s.data.toList.length := by omega
    have hc : s.data.toList[i] = c := by
      have := List.drop_eq_getElem_cons hlt
      rw [hd] at this
      exact (List.cons.inj this).1.symm
    have hd' : s.data.toList.drop (i + 1) = l := by
      have := List.drop_eq_getElem_cons hlt
      rw [hd] at this
      exact (List.cons.inj this).2.symm
    have hcd := hdig c (List.mem_cons_self ..)
    unfold isDig at hcd
    rw [val_cons] at hv
    have hge := val_ge l (a * 10 + (c.toNat - 48))
    have hM2 : M ≤ 9223372036854775808 := by split at hM <;> omega
    rw [ref23_number_l0, if_pos (by simp; omega), byteAt_bl hlt, hc]
    simp only [bind_mk, or_any]
    have e1 : (decide ((c.toNat : Int) < 48) || decide ((c.toNat : Int) > 57)) = false := by
      rw [Bool.or_eq_false_iff]; exact ⟨decide_eq_false (by omega), decide_eq_false (by omega)⟩
    rw [e1]
    simp only [Bool.false_eq_true, if_false]
    have e2 : IntKind.i64.wrap (IntKind.u8.wrap ((c.toNat : Int) - 48)) = ((c.toNat - 48 : Nat) : Int) := by
      have : ((c.toNat : Int) - 48) = ((c.toNat - 48 : Nat) : Int) := by omega
      rw [this]
      have hlt10 : c.toNat - 48 < 10 := by omega
      generalize c.toNat - 48 = m at *
      clear this e1 hge hv
      revert hlt10
      revert m
      decide
    rw [e2]
    cases neg with
    | true =>
      simp only [if_true] at hM ih ⊢
      have hb : ((1 : Int) == 1) = true := rfl
      rw [hb]
      simp only [if_true, cutB_inl]
      have w1 : IntKind.i64.wrap (0 - ((c.toNat - 48 : Nat) : Int)) = -((c.toNat - 48 : Nat) : Int) := by rw [w64 (by omega) (by omega)]; omega
      have w2 : IntKind.i64.wrap (-(a : Int) * 10) = -((a * 10 : Nat) : Int) := by rw [w64 (by omega) (by omega)]; omega
      have w3 : IntKind.i64.wrap (-((a * 10 : Nat) : Int) + -((c.toNat - 48 : Nat) : Int)) = -((a * 10 + (c.toNat - 48) : Nat) : Int) := by rw [w64 (by omega) (by omega)]; omega
      rw [w1, w2, w3, wrap_succ (n := s.size) (by omega) (by omega), val_cons]
      exact ih k (i + 1) _ hd' (by omega) (fun x hx => hdig x (List.mem_cons_of_mem _ hx)) hv (by omega)
    | false =>
      simp only [Bool.false_eq_true, if_false] at hM ih ⊢
      have hb : ((0 : Int) == 1) = false := rfl
      rw [hb]
      simp only [Bool.false_eq_true, if_false, cutB_inl]
      have w2 : IntKind.i64.wrap ((a : Int) * 10) = ((a * 10 : Nat) : Int) := by rw [w64 (by omega) (by omega)]; omega
      have w3 : IntKind.i64.wrap (((a * 10 : Nat) : Int) + ((c.toNat - 48 : Nat) : Int)) = ((a * 10 + (c.toNat - 48) : Nat) : Int) := by rw [w64 (by omega) (by omega)]; omega
      rw [w2, w3, wrap_succ (n := s.size) (by omega) (by omega), val_cons]
      exact ih k (i + 1) _ hd' (by omega) (fun x hx => hdig x (List.mem_cons_of_mem _ hx)) hv (by omega)
theorem wrap_ok (n : Int) : okI (IntKind.i64.wrap n) := by
  unfold okI; rw [IntKind.wrap_i64]; omega
/-- at any bytes -/
theorem num_any (q : Nat) (s : ByteArray) (hs : s.size ≤ 2000000) : ∀ (d k i : Nat) (n kn : Int), i + d = s.size → d < k → okI n →
    (∃ m, okI m ∧ ref23_number_l0 q k s n kn (i : Int) = some (.inl (s, m, ()))) ∨ ref23_number_l0 q k s n kn (i : Int) = some (.inr (0, false, ())) := by
  intro d
  induction d with
  | zero =>
    intro k i n kn hi hk ho
    obtain ⟨k, rfl⟩ : ∃ m, k = m + 1 := ⟨k - 1, by omega⟩
    rw [ref23_number_l0, if_neg (by simp; omega)]
    exact .inl ⟨n, ho, rfl⟩
  | succ d ih =>
    intro k i n kn hi hk ho
    obtain ⟨k, rfl⟩ : ∃ m, k = m + 1 := ⟨k - 1, by omega⟩
    have hss : s.data.toList.length = s.size := rfl
    have hlt : i < s.data.toList.length := by omega
    rw [ref23_number_l0, if_pos (by simp; omega), byteAt_bl hlt]
    simp only [bind_mk, or_any]
    split
    · exact .inr rfl
    · split
      · simp only [cutB_inl]
        rw [wrap_succ (n := s.size) (by omega) (by omega)]
        exact ih k (i + 1) _ _ (by omega) (by omega) (wrap_ok _)
      · simp only [cutB_inl]
        rw [wrap_succ (n := s.size) (by omega) (by omega)]
        exact ih k (i + 1) _ _ (by omega) (by omega) (wrap_ok _)
end Go.Ax
