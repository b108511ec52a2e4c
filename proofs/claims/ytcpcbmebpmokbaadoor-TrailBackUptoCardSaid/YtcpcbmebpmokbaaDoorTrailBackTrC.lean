/- Layer 23: the program's side: what it prints. -/
import Derived.Test.YtcpcbmebpmokbaaDoorTrailBackGen0
import Derived.Test.YtcpcbmebpmokbaaDoorTrailBackTrB
set_option linter.unusedVariables false
set_option linter.unusedSimpArgs false
namespace Go.Ax
open Go
theorem intw (n : Int) : (T.int .i64 n).width = 1 := rfl
theorem trail_line_is (q : Nat) (w : List UInt8) (ns : List Int) (hn : ∀ n ∈ ns, okI n) (hq : ns.length < q) (hl : w.length + ns.length * 22 ≤ 1000000) :
    trail_line q (bl w) (ns.map (T.int .i64)) = some (bl (lineS w ns), ()) := by
  have loop : ∀ (d k i : Nat) (acc : List UInt8), i + d = ns.length → d < k → acc.length ≤ 1000 + i * 22 + w.length →
      trail_line_l0 q k (bl acc) (ns.map (T.int .i64)) (ns.length : Int) (i : Int) = some (.inl (bl (acc ++ numsL (ns.drop i)), ())) := by
    intro d
    induction d with
    | zero =>
      intro k i acc hi hk ha
      obtain ⟨k, rfl⟩ : ∃ m, k = m + 1 := ⟨k - 1, by omega⟩
      rw [trail_line_l0, if_neg (by simp; omega), List.drop_eq_nil_of_le (by omega)]
      show _ = some (Sum.inl (bl (acc ++ []), ()))
      rw [List.append_nil]
    | succ d ih =>
      intro k i acc hi hk ha
      obtain ⟨k, rfl⟩ : ∃ m, k = m + 1 := ⟨k - 1, by omega⟩
      have hlt : i < ns.length := by omega
      have ho := hn ns[i] (List.getElem_mem hlt)
      have hd := Lib.itoa_length_le ns[i] ho.1 ho.2
      rw [trail_line_l0, if_pos (by simp; omega), rd_map intw hlt]
      simp only [MMove.enc_width, MMove.part, MMove.l0, MMove.l1, MMove.l2, MMove.l3, MMove.l4, MMove.l5, MMove.l6, MFound.enc_width, MFound.part, MFound.l0, MFound.l1, MFound.l2, MFound.l3, MFound.l4, MFound.l5, MFound.l6, MFound.l7, asInt_mk, asBool_mk, asStr_mk, asLst_mk, bind_mk, if_true, leaf_int, leaf_bool, leaf_str, leaf_lst]
      have e1 : lib_strconv_Itoa q ns[i] = some (bl (Lib.itoa ns[i]), ()) := by unfold lib_strconv_Itoa; exact if_pos ho
      rw [e1]
      simp only [bind_mk]
      have e2 : (ByteArray.mk #[32]) ++ bl (Lib.itoa ns[i]) = bl (32 :: Lib.itoa ns[i]) := (bl_app [32] _).symm
      rw [e2]
      have s1 : (ByteArray.mk #[32]).size + (bl (Lib.itoa ns[i])).size ≤ 9223372036854775807 := by show 1 + (Lib.itoa ns[i]).length ≤ _; omega
      have s2 : (bl acc).size + (bl (32 :: Lib.itoa ns[i])).size ≤ 9223372036854775807 := by rw [bl_size, bl_size, List.length_cons]; omega
      rw [if_pos s1, if_pos s2, ← bl_app, wrap_succ hlt (by omega)]
      rw [ih k (i + 1) _ (by omega) (by omega) (by rw [List.length_append, List.length_cons]; omega)]
      rw [List.drop_eq_getElem_cons hlt, numsL_cons, List.append_assoc]
  unfold trail_line
  rw [List.length_map, show ((0 : Int)) = ((0 : Nat) : Int) from rfl, loop ns.length q 0 w (by omega) hq (by omega), cutB_inl]
  have hL := numsL_len hn
  have s3 : (bl (w ++ numsL (ns.drop 0))).size + (ByteArray.mk #[10]).size ≤ 9223372036854775807 := by
    rw [bl_size, List.length_append, List.drop_zero]; show _ + 1 ≤ _; omega
  rw [if_pos s3]
  have e3 : bl (w ++ numsL (ns.drop 0)) ++ (ByteArray.mk #[10]) = bl (lineS w ns) := by
    rw [List.drop_zero]; exact (bl_app (w ++ numsL ns) [10]).symm
  rw [e3]
def byT (l : List UInt8) : List T := l.map fun b => T.int .u8 b.toNat
theorem byT_app (a b : List UInt8) : byT (a ++ b) = byT a ++ byT b := List.map_append
theorem byT_len (a : List UInt8) : (byT a).length = a.length := List.length_map _
theorem write_is (q : Nat) (t acc : List UInt8) (u : Unit × Unit × Unit) (h : acc.length + t.length ≤ 140737488355328) :
    strings_Builder_WriteString_w q (bl t) (byT acc) u = some ((t.length : Int), T.ni, byT (acc ++ t), ((), (), ()), ()) := by
  unfold strings_Builder_WriteString_w
  have e : (List.map (fun b => T.int .u8 b.toNat) (bl t).data.toList) = t.map fun b : UInt8 => T.int .u8 b.toNat := rfl
  rw [e, chk_map (enc := fun b : UInt8 => T.int .u8 b.toNat) (fun _ => rfl)]
  simp only [bind_mk]
  have e2 : (t.map fun b : UInt8 => T.int .u8 b.toNat) = byT t := rfl
  rw [e2, byT_len, byT_len, if_pos (fits_of (by omega)), byT_app]
  rfl
theorem build_is {l : List UInt8} (h : l.length ≤ 140737488355328) : bldStr (byT l) = some (bl l) := bldStr_bytesT (s := bl l) h
theorem Print_head (f : MFound) : (((decide (f.Kind < 1) || decide (f.Kind > 4)) || decide (f.Cycle < -1)) || decide (f.Cycle ≥ (f.Trail.length : Int))) = !printOk f := by
  unfold printOk; rw [Bool.not_not]
theorem movesS_len {c : Int} : ∀ {l : List MMove} {i : Nat}, (∀ v ∈ l, v.ok ksmall) → (movesS c i l).length ≤ l.length * 165
  | [], i, _ => Nat.zero_le _
  | v :: l, i, h => by
    have h1 := moveS_len (c := c) (i := i) (h v (List.mem_cons_self ..))
    have h2 := movesS_len (c := c) (l := l) (i := i + 1) fun x hx => h x (List.mem_cons_of_mem _ hx)
    rw [movesS, List.length_append, List.length_cons]; omega
theorem trail_Print_is (q : Nat) (f : MFound) (ho : f.ok ksmall) (hq : 1048600 ≤ q) :
    trail_Print q f.enc = some (if printOk f = true then (bl (printS f), 0, ()) else (emp, 42, ())) := by
  have hfo := ho
  obtain ⟨o0, o1, o2, o3, ⟨⟨ol, ok⟩, oT⟩, o5, o6, o7⟩ := hfo
  have hlen : f.Trail.length ≤ 1048576 := ok
  have loop : ∀ (d k i : Nat) (acc : List UInt8) (u : Unit × Unit × Unit), i + d = f.Trail.length → d < k → acc.length ≤ 1000 + i * 165 →
      trail_Print_l0 q k (f.Trail.map MMove.enc) (f.Trail.length : Int) (i : Int) (byT acc) f.enc u = some (.inl ((), byT (acc ++ movesS f.Cycle i (f.Trail.drop i)), ((), (), ()), ())) := by
    intro d
    induction d with
    | zero =>
      intro k i acc u hi hk ha
      obtain ⟨k, rfl⟩ : ∃ m, k = m + 1 := ⟨k - 1, by omega⟩
      rw [trail_Print_l0, if_neg (by simp; omega), List.drop_eq_nil_of_le (by omega), movesS, List.append_nil]
    | succ d ih =>
      intro k i acc u hi hk ha
      obtain ⟨k, rfl⟩ : ∃ m, k = m + 1 := ⟨k - 1, by omega⟩
      have hlt : i < f.Trail.length := by omega
      have hv := oT f.Trail[i] (List.getElem_mem hlt)
      have hvl := numsL_len (MMove.nums_ok hv)
      have hv7 : (f.Trail[i]).nums.length = 7 := rfl
      have step : ∀ acc' : List UInt8, acc'.length ≤ 1010 + i * 165 → trail_line q (ByteArray.mk #[109, 111, 118, 101]) ((f.Trail[i]).nums.map (T.int .i64)) = some (bl (lineS wMove (f.Trail[i]).nums), ()) ∧
          strings_Builder_WriteString_w q (bl (lineS wMove (f.Trail[i]).nums)) (byT acc') ((), (), ()) = some (((lineS wMove (f.Trail[i]).nums).length : Int), T.ni, byT (acc' ++ lineS wMove (f.Trail[i]).nums), ((), (), ()), ()) := fun acc' ha' =>
        ⟨trail_line_is q wMove _ (MMove.nums_ok hv) (by omega) (by rw [hv7]; decide), write_is q _ acc' _ (by
          unfold lineS
          simp only [List.length_append, wMove, List.length_cons, List.length_nil]; omega)⟩
      rw [trail_Print_l0, if_pos (by simp; omega), rd_map MMove.enc_width hlt]
      simp only [MMove.enc_width, MMove.part, MMove.l0, MMove.l1, MMove.l2, MMove.l3, MMove.l4, MMove.l5, MMove.l6, MFound.enc_width, MFound.part, MFound.l0, MFound.l1, MFound.l2, MFound.l3, MFound.l4, MFound.l5, MFound.l6, MFound.l7, asInt_mk, asBool_mk, asStr_mk, asLst_mk, bind_mk, if_true, leaf_int, leaf_bool, leaf_str, leaf_lst]
      by_cases hc : (i : Int) = f.Cycle
      · have hcb : ((i : Int) == f.Cycle) = true := by simpa using hc
        rw [if_pos hcb, show (ByteArray.mk #[99, 121, 99, 108, 101, 10]) = bl (wCycle ++ [10]) from rfl, write_is q _ acc _ (by show acc.length + 6 ≤ _; omega)]
        simp only [bind_mk, cutB_inl]
        simp only [MMove.enc_width, MMove.part, MMove.l0, MMove.l1, MMove.l2, MMove.l3, MMove.l4, MMove.l5, MMove.l6, MFound.enc_width, MFound.part, MFound.l0, MFound.l1, MFound.l2, MFound.l3, MFound.l4, MFound.l5, MFound.l6, MFound.l7, asInt_mk, asBool_mk, asStr_mk, asLst_mk, bind_mk, if_true, leaf_int, leaf_bool, leaf_str, leaf_lst]
        obtain ⟨h1, h2⟩ := step (acc ++ (wCycle ++ [10])) (by rw [List.length_append]; show _ + 6 ≤ _; omega)
        simp only [MMove.nums, List.map_cons, List.map_nil] at h1 h2
        rw [h1]
        simp only [bind_mk]
        rw [h2]
        simp only [bind_mk]
        rw [wrap_succ hlt (by omega), ih k (i + 1) _ _ (by omega) (by omega) (by
          have := moveS_len (c := f.Cycle) (i := i) hv
          unfold moveS at this
          rw [if_pos hc] at this
          simp only [List.length_append, MMove.nums] at this ⊢
          omega)]
        rw [List.drop_eq_getElem_cons hlt, movesS, moveS, if_pos hc]
        simp only [List.append_assoc, MMove.nums]
      · have hcb : ((i : Int) == f.Cycle) = false := by simpa using hc
        rw [hcb]
        simp only [Bool.false_eq_true, if_false, cutB_inl]
        simp only [MMove.enc_width, MMove.part, MMove.l0, MMove.l1, MMove.l2, MMove.l3, MMove.l4, MMove.l5, MMove.l6, MFound.enc_width, MFound.part, MFound.l0, MFound.l1, MFound.l2, MFound.l3, MFound.l4, MFound.l5, MFound.l6, MFound.l7, asInt_mk, asBool_mk, asStr_mk, asLst_mk, bind_mk, if_true, leaf_int, leaf_bool, leaf_str, leaf_lst]
        obtain ⟨h1, h2⟩ := step acc (by omega)
        simp only [MMove.nums, List.map_cons, List.map_nil] at h1 h2
        rw [h1]
        simp only [bind_mk]
        rw [h2]
        simp only [bind_mk]
        rw [wrap_succ hlt (by omega), ih k (i + 1) _ _ (by omega) (by omega) (by
          have := moveS_len (c := f.Cycle) (i := i) hv
          unfold moveS at this
          rw [if_neg hc] at this
          simp only [List.length_append, List.length_nil, MMove.nums] at this ⊢
          omega)]
        rw [List.drop_eq_getElem_cons hlt, movesS, moveS, if_neg hc]
        simp only [List.append_assoc, List.nil_append, MMove.nums]
  unfold trail_Print
  simp only [MMove.enc_width, MMove.part, MMove.l0, MMove.l1, MMove.l2, MMove.l3, MMove.l4, MMove.l5, MMove.l6, MFound.enc_width, MFound.part, MFound.l0, MFound.l1, MFound.l2, MFound.l3, MFound.l4, MFound.l5, MFound.l6, MFound.l7, asInt_mk, asBool_mk, asStr_mk, asLst_mk, bind_mk, if_true, leaf_int, leaf_bool, leaf_str, leaf_lst, or_any, List.length_map]
  rw [Print_head]
  cases hp : printOk f with
  | false => rfl
  | true =>
    simp only [Bool.not_true, Bool.false_eq_true, if_false, if_true]
    have hfl := numsL_len (MFound.nums_ok ho)
    have h6 : f.nums.length = 6 := rfl
    have h1 := trail_line_is q wFound f.nums (MFound.nums_ok ho) (by rw [h6]; omega) (by rw [h6]; decide)
    simp only [MFound.nums, List.map_cons, List.map_nil] at h1
    rw [show (ByteArray.mk #[102, 111, 117, 110, 100]) = bl wFound from rfl, h1]
    simp only [bind_mk]
    have hL : (lineS wFound f.nums).length ≤ 140 := by
      unfold lineS
      simp only [List.length_append, wFound, List.length_cons, List.length_nil]; omega
    have h2 := write_is q (lineS wFound f.nums) [] ((), (), ()) (by rw [List.length_nil]; omega)
    simp only [MFound.nums] at h2
    rw [show ([] : List T) = byT [] from rfl, h2]
    simp only [bind_mk]
    rw [show ((0 : Int)) = ((0 : Nat) : Int) from rfl, loop f.Trail.length q 0 _ _ (by omega) (by omega) (by rw [List.nil_append]; simp only [MFound.nums] at hL; omega)]
    simp only [cutB_inl]
    have hM := movesS_len (c := f.Cycle) (i := 0) oT
    rw [build_is (by rw [List.length_append, List.nil_append, List.drop_zero]; simp only [MFound.nums] at hL; omega)]
    simp only [bind_mk, List.nil_append, List.drop_zero]
    rfl
end Go.Ax
