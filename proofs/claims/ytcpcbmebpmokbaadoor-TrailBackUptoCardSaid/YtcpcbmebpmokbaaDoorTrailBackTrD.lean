/- Layer 23: the program's side: what it reads. -/
import Derived.Test.YtcpcbmebpmokbaaDoorTrailBackTrC
set_option linter.unusedVariables false
set_option linter.unusedSimpArgs false
namespace Go.Ax
open Go
def encN : Option (List Int) → List T × Bool × Unit
  | some l => (l.map (T.int .i64), true, ())
  | none => ([], false, ())
theorem strw (s : ByteArray) : (T.str s).width = 1 := rfl
theorem pi_some {s : ByteArray} {n : Int} (q : Nat) (h : numS s = some n) (hs : s.size ≤ 281474976710656) : lib_strconv_ParseInt q s 10 64 = some (n, false, ()) ∧ lib_strconv_FormatInt q n 10 = some (s, ()) := by
  obtain ⟨ho, e⟩ := numS_iff.1 h
  have hp : Lib.parseIntB 64 s.data.toList = .ok n := by
    have := parseIntB_itoa ho
    rw [e]; exact this
  refine ⟨?_, ?_⟩
  · unfold lib_strconv_ParseInt
    rw [if_pos ⟨rfl, rfl, hs⟩, hp]
  · unfold lib_strconv_FormatInt
    rw [if_pos ⟨rfl, ho.1, ho.2⟩, e]; rfl
theorem pi_none {s : ByteArray} (q : Nat) (h : numS s = none) (hs : s.size ≤ 281474976710656) : ∃ v e, lib_strconv_ParseInt q s 10 64 = some (v, e, ()) ∧
    (if (!(e == false)) = true then some true else (lib_strconv_FormatInt q v 10).bind fun v10 => some (!strEq v10.1 s)) = some true := by
  unfold lib_strconv_ParseInt
  rw [if_pos ⟨rfl, rfl, hs⟩]
  unfold numS at h
  split
  · rename_i v hv
    rw [hv] at h
    have ho := parseIntB_okI hv
    refine ⟨v, false, rfl, ?_⟩
    have : ¬ dec v = s := fun e => by simp [e] at h
    show (lib_strconv_FormatInt q v 10).bind (fun v10 => some (!strEq v10.1 s)) = some true
    unfold lib_strconv_FormatInt
    rw [if_pos ⟨rfl, ho.1, ho.2⟩]
    simp only [bind_mk]
    have e2 : strEq (dec v) s = false := by rw [strEq_is]; simp [this]
    have e3 : strEq ({ data := (Lib.itoa v).toArray } : ByteArray) s = false := e2
    rw [e3]; rfl
  · exact ⟨_, true, rfl, rfl⟩
  · exact ⟨_, true, rfl, rfl⟩
theorem trail_numbers_is (q : Nat) (s w : ByteArray) (m : Nat) (hm : m ≤ 100) (hs : s.size ≤ 300000000) (hq : 300000100 ≤ q) : trail_numbers q s w (m : Int) = some (encN (numbersS s w m)) := by
  have loop : ∀ (ts : List (List UInt8)), (∀ x ∈ ts, x.length ≤ 300000000) → ts.length ≤ 300000100 → ∀ (d k i : Nat) (acc : List Int), i + d = ts.length → d < k → acc.length = i →
      trail_numbers_l0 q k ((ts.map bl).map T.str) (ts.length : Int) (i : Int) (acc.map (T.int .i64)) = some (match numsS (ts.drop i) with
        | some l => .inl ((), (acc ++ l).map (T.int .i64), ())
        | none => .inr ([], false, ())) := by
    intro ts hts htl d
    induction d with
    | zero =>
      intro k i acc hi hk ha
      obtain ⟨k, rfl⟩ : ∃ m, k = m + 1 := ⟨k - 1, by omega⟩
      rw [trail_numbers_l0, if_neg (by simp; omega), List.drop_eq_nil_of_le (by omega)]
      simp only [numsS, List.append_nil]
    | succ d ih =>
      intro k i acc hi hk ha
      obtain ⟨k, rfl⟩ : ∃ m, k = m + 1 := ⟨k - 1, by omega⟩
      have hlt : i < ts.length := by omega
      have hsz : (bl ts[i]).size ≤ 281474976710656 := by
        have := hts ts[i] (List.getElem_mem hlt)
        rw [bl_size]; omega
      have hlt' : i < (ts.map bl).length := by simpa using hlt
      rw [trail_numbers_l0, if_pos (by simp; omega), rd_map strw hlt']
      have hg : (ts.map bl)[i] = bl ts[i] := by simp
      rw [hg]
      simp only [MMove.enc_width, MMove.part, MMove.l0, MMove.l1, MMove.l2, MMove.l3, MMove.l4, MMove.l5, MMove.l6, MFound.enc_width, MFound.part, MFound.l0, MFound.l1, MFound.l2, MFound.l3, MFound.l4, MFound.l5, MFound.l6, MFound.l7, asInt_mk, asBool_mk, asStr_mk, asLst_mk, bind_mk, if_true, leaf_int, leaf_bool, leaf_str, leaf_lst]
      rw [List.drop_eq_getElem_cons hlt, numsS]
      cases hn : numS (bl ts[i]) with
      | none =>
        obtain ⟨v, e, h1, h2⟩ := pi_none q hn hsz
        rw [h1]
        simp only [bind_mk]
        rw [h2]
        rfl
      | some n =>
        obtain ⟨h1, h2⟩ := pi_some q hn hsz
        rw [h1]
        simp only [bind_mk]
        rw [h2]
        simp only [bind_mk]
        have e2 : strEq (bl ts[i]) (bl ts[i]) = true := by rw [strEq_bl]; simp
        rw [e2]
        simp only [beq_self_eq_true, Bool.not_true, Bool.false_eq_true, if_false, bind_mk]
        rw [if_pos (fits_of (by simp; omega)), wrap_succ hlt (by omega)]
        have := ih k (i + 1) (acc ++ [n]) (by omega) (by omega) (by simp [ha])
        rw [List.map_append] at this
        rw [show [T.int .i64 n] = List.map (T.int .i64) [n] from rfl, this]
        cases numsS (ts.drop (i + 1)) with
        | none => rfl
        | some l => simp [Option.bind]
  unfold trail_numbers
  have hsp : lib_strings_Split q s (ByteArray.mk #[32]) = some (((cutAt 32 [] s.data.toList).map bl).map T.str, ()) := by
    unfold lib_strings_Split
    rw [if_pos ⟨by omega, by decide⟩, splitB_blank]
  rw [hsp]
  simp only [bind_mk]
  have hlen := cutAt_len 32 s.data.toList []
  have hsize := cutAt_size 32 s.data.toList []
  have hss : s.data.toList.length = s.size := rfl
  unfold numbersS
  cases hc : cutAt 32 [] s.data.toList with
  | nil => rw [hc] at hlen; simp at hlen
  | cons h ts =>
    rw [hc] at hlen hsize
    simp only [List.length_cons] at hlen
    have hrd : rd (List.map T.str (List.map bl (h :: ts))) (0 : Int) 1 = some (T.str (bl h)) := rfl
    rw [hrd]
    simp only [MMove.enc_width, MMove.part, MMove.l0, MMove.l1, MMove.l2, MMove.l3, MMove.l4, MMove.l5, MMove.l6, MFound.enc_width, MFound.part, MFound.l0, MFound.l1, MFound.l2, MFound.l3, MFound.l4, MFound.l5, MFound.l6, MFound.l7, asInt_mk, asBool_mk, asStr_mk, asLst_mk, bind_mk, if_true, leaf_int, leaf_bool, leaf_str, leaf_lst]
    have hL : (List.map T.str (List.map bl (h :: ts))).length = ts.length + 1 := by simp
    rw [hL, w64 (by omega) (by omega)]
    unfold numbersL
    simp only
    by_cases hw : bl h = w ∧ ts.length = m
    · rw [if_pos hw]
      have e1 : strEq (bl h) w = true := by rw [strEq_is]; simp [hw.1]
      have e2 : (((ts.length + 1 : Nat) : Int) != ((m : Int) + 1)) = false := by rw [hw.2]; simp
      rw [e1, e2]
      simp only [Bool.not_true, Bool.false_eq_true, if_false, bind_mk]
      rw [if_pos ⟨trivial, by omega, by omega, by omega⟩, chk_map strw]
      simp only [bind_mk, List.map_cons]
      have e3 : List.take (Int.toNat ((ts.length + 1 : Nat) : Int) - 1) (List.drop 1 (T.str (bl h) :: List.map T.str (List.map bl ts))) = List.map T.str (List.map bl ts) := by
        rw [Int.toNat_natCast, List.drop_one, List.tail_cons]
        exact List.take_of_length_le (by simp)
      rw [e3]
      have hL2 : (List.map T.str (List.map bl ts)).length = ts.length := by simp
      rw [hL2]
      have := loop ts (fun x hx => by have := hsize x (List.mem_cons_of_mem _ hx); simp only [List.length_nil] at this; omega) (by omega) ts.length q 0 [] (by omega) (by omega) rfl
      rw [show ([] : List T) = List.map (T.int .i64) [] from rfl, show ((0 : Int)) = ((0 : Nat) : Int) from rfl, this, List.drop_zero]
      cases numsS ts with
      | none => rfl
      | some l => rfl
    · rw [if_neg hw]
      have : (if (!strEq (bl h) w) = true then some true else some (((ts.length + 1 : Nat) : Int) != ((m : Int) + 1))) = some true := by
        rw [strEq_is]
        by_cases hh : bl h = w
        · have : ts.length ≠ m := fun e => hw ⟨hh, e⟩
          have e2 : (((ts.length + 1 : Nat) : Int) != ((m : Int) + 1)) = true := by simp; omega
          rw [e2]; simp [hh]
        · simp [hh]
      rw [this]
      rfl
end Go.Ax
