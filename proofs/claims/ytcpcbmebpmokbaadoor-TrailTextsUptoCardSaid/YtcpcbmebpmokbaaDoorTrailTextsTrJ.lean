/- Layer 23: the document's side: what it reads. -/
import Derived.Test.YtcpcbmebpmokbaaDoorTrailTextsTrI
set_option linter.unusedVariables false
set_option linter.unusedSimpArgs false
namespace Go.Ax
open Go
/-- what follows the loop -/
def refFin (p1 : ByteArray × Unit × Unit × Int × Bool × Int × List T × (Int × Int × Int × Int × Unit × Int × Int × Int × Unit) × (Int × Int × Int × Int × Unit × Int × Int × Int × Unit) × Unit) : Option ((Int × Int × Int × Int × List T × Int × Int × Int × Unit) × Int × Int × Unit) :=
  (if (decide (p1.2.2.2.2.2.1 < (p1.1.size : Int))) = true then some true else some (p1.2.2.2.1 == (0 : Int))).bind fun v45 =>
  (if v45 = true then some true else some p1.2.2.2.2.1).bind fun v46 =>
  if v46 = true then (
  some ((0, 0, 0, 0, [], 0, 0, 0, ()), 43, p1.2.2.2.2.2.1, ()))
  else (
  some ((p1.2.2.2.2.2.2.2.2.1.1, p1.2.2.2.2.2.2.2.2.1.2.1, p1.2.2.2.2.2.2.2.2.1.2.2.1, p1.2.2.2.2.2.2.2.2.1.2.2.2.1, p1.2.2.2.2.2.2.1, p1.2.2.2.2.2.2.2.2.1.2.2.2.2.2.1, p1.2.2.2.2.2.2.2.2.1.2.2.2.2.2.2.1, p1.2.2.2.2.2.2.2.2.1.2.2.2.2.2.2.2.1, ()), 0, 0, ()))
theorem ref23_Parse_l0_is (q : Nat) (s : ByteArray) (hs : s.size ≤ 1048576) (hq : 1048600 ≤ q) : ∀ (rest : List UInt8) (k n frm : Nat) (cur : List UInt8) (du : Bool) (f : MFound) (x8 : Int × Int × Int × Int × Unit × Int × Int × Int × Unit),
    s.data.toList.drop frm = cur ++ rest → frm + cur.length + rest.length = s.size → f.Trail.length ≤ frm → n ≤ frm → rest.length < k →
    cutB (ref23_Parse_l0 q k s (n : Int) du (frm : Int) ((frm + cur.length : Nat) : Int) (f.Trail.map MMove.enc) x8 (fT f)) refFin = some (encP (parseP frm cur rest (decide (n = 0)) du f)) := by
  have hss : s.data.toList.length = s.size := rfl
  intro rest
  induction rest with
  | nil =>
    intro k n frm cur du f x8 hd hl ht hn hk
    obtain ⟨k, rfl⟩ : ∃ m, k = m + 1 := ⟨k - 1, by omega⟩
    simp only [List.length_nil] at hl
    rw [ref23_Parse_l0, if_neg (by simp; omega), cutB_inl]
    unfold refFin
    simp only [or_any, bind_mk]
    unfold parseP
    by_cases hc : cur = [] ∧ decide (n = 0) = false ∧ du = false
    · rw [if_pos hc]
      obtain ⟨h1, h2, h3⟩ := hc
      subst h1; subst h3
      simp only [List.length_nil] at hl
      have hn0 : n ≠ 0 := of_decide_eq_false h2
      have : (decide ((frm : Int) < (s.size : Int)) || ((n : Int) == 0) || false) = false := by
        have a1 : decide ((frm : Int) < (s.size : Int)) = false := decide_eq_false (by omega)
        have a2 : ((n : Int) == 0) = false := by rw [beq_eq_false_iff_ne]; omega
        rw [a1, a2]; rfl
      rw [this]
      rfl
    · rw [if_neg hc]
      have : (decide ((frm : Int) < (s.size : Int)) || ((n : Int) == 0) || du) = true := by
        by_cases g1 : cur = []
        · by_cases g2 : n = 0
          · have a2 : ((n : Int) == 0) = true := by rw [g2]; rfl
            rw [a2, Bool.or_true, Bool.true_or]
          · cases du with
            | true => rw [Bool.or_true]
            | false => exact absurd ⟨g1, decide_eq_false g2, rfl⟩ hc
        · have : cur.length ≠ 0 := fun e => g1 (List.length_eq_zero_iff.1 e)
          have a1 : decide ((frm : Int) < (s.size : Int)) = true := decide_eq_true (by omega)
          rw [a1, Bool.true_or, Bool.true_or]
      rw [this]
      rfl
  | cons c l ih =>
    intro k n frm cur du f x8 hd hl ht hn hk
    obtain ⟨k, rfl⟩ : ∃ m, k = m + 1 := ⟨k - 1, by omega⟩
    simp only [List.length_cons] at hl hk
    have hlt : frm + cur.length < s.data.toList.length := by omega
    have hc : s.data.toList[frm + cur.length] = c := by
      have h1 : (s.data.toList.drop frm)[cur.length]? = some c := by rw [hd]; simp
      rw [List.getElem?_drop, List.getElem?_eq_getElem hlt] at h1
      exact Option.some.inj h1
    rw [ref23_Parse_l0, if_pos (by simp; omega), byteAt_bl hlt, hc]
    simp only [bind_mk]
    unfold parseP
    by_cases h10 : c = 10
    · subst h10
      have e2 : (((10 : UInt8).toNat : Int) != 10) = false := rfl
      rw [e2, if_pos rfl]
      simp only [Bool.false_eq_true, if_false]
      have hsub : substr s (frm : Int) ((frm + cur.length : Nat) : Int) = some (bl cur) := by
        rw [substr_bl (by omega) (by omega), hd, Nat.add_sub_cancel_left, List.take_left']
        rfl
      have hcl : cur.length ≤ 1048576 := by omega
      rw [hsub]
      simp only [bind_mk]
      rw [show (ByteArray.mk #[102, 111, 117, 110, 100]) = bl wFound from rfl, show (ByteArray.mk #[109, 111, 118, 101]) = bl wMove from rfl, show (ByteArray.mk #[99, 121, 99, 108, 101]) = bl wCycle from rfl]
      have hn6 := ref23_numbers_is q (bl cur) (bl wFound) 6 (by decide) (by rw [bl_size]; omega) hq
      have hn7 := ref23_numbers_is q (bl cur) (bl wMove) 7 (by decide) (by rw [bl_size]; omega) hq
      have h6 : ((6 : Nat) : Int) = 6 := rfl
      have h7 : ((7 : Nat) : Int) = 7 := rfl
      rw [h6] at hn6
      rw [h7] at hn7
      rw [hn6, hn7]
      simp only [bind_mk]
      have hd' : s.data.toList.drop (frm + cur.length + 1) = [] ++ l := by
        rw [show frm + cur.length + 1 = frm + (cur.length + 1) by omega, ← List.drop_drop, hd]
        rw [show cur.length + 1 = (cur ++ [10]).length by simp, show cur ++ 10 :: l = (cur ++ [10]) ++ l by simp, List.drop_left]
        rfl
      have next : ∀ (d : Bool) (g : MFound) (y8 : Int × Int × Int × Int × Unit × Int × Int × Int × Unit), g.Trail.length ≤ f.Trail.length + 1 →
          cutB (ref23_Parse_l0 q k s (IntKind.i64.wrap ((n : Int) + 1)) d (IntKind.i64.wrap (((frm + cur.length : Nat) : Int) + 1)) (IntKind.i64.wrap (((frm + cur.length : Nat) : Int) + 1)) (g.Trail.map MMove.enc) y8 (fT g)) refFin =
            some (encP (parseP (frm + cur.length + 1) [] l false d g)) := by
        intro d g y8 hg
        rw [w64 (n := ((frm + cur.length : Nat) : Int) + 1) (by omega) (by omega), w64 (n := (n : Int) + 1) (by omega) (by omega)]
        have := ih k (n + 1) (frm + cur.length + 1) [] d g y8 hd' (by simp only [List.length_nil]; omega) (by omega) (by omega) (by omega)
        rw [decide_eq_false (show ¬ n + 1 = 0 by omega)] at this
        exact this
      have hlines : ((n : Int) == 0) = decide (n = 0) := by
        by_cases h : n = 0
        · subst h; rfl
        · rw [decide_eq_false h, beq_eq_false_iff_ne]; omega
      have hlines2 : decide ((n : Int) > 0) = !decide (n = 0) := by
        by_cases h : n = 0
        · subst h; rfl
        · rw [decide_eq_false h]; exact decide_eq_true (by omega)
      simp only [hlines, hlines2, and_any, bind_mk, strEq_bl]
      cases hfi : decide (n = 0) with
      | true =>
        simp only [Bool.true_and, Bool.not_true, Bool.false_and, Bool.false_eq_true, if_false, stepP, if_true]
        cases hN : numbersS (bl cur) (bl wFound) 6 with
        | none => rfl
        | some ns =>
          obtain ⟨hl6, _⟩ := numbersS_len hN
          have g0 := geti (a := ns) (j := 0) (by omega)
          have g1 := geti (a := ns) (j := 1) (by omega)
          have g2 := geti (a := ns) (j := 2) (by omega)
          have g3 := geti (a := ns) (j := 3) (by omega)
          have g4 := geti (a := ns) (j := 4) (by omega)
          have g5 := geti (a := ns) (j := 5) (by omega)
          simp only [encN, List.length_map, hl6, lti (j := 0) (n := 6) (by decide) (by decide), lti (j := 1) (n := 6) (by decide) (by decide), lti (j := 2) (n := 6) (by decide) (by decide), lti (j := 3) (n := 6) (by decide) (by decide), lti (j := 4) (n := 6) (by decide) (by decide), lti (j := 5) (n := 6) (by decide) (by decide),
            if_true, g0, g1, g2, g3, g4, g5, MMove.enc_width, MMove.part, MMove.l0, MMove.l1, MMove.l2, MMove.l3, MMove.l4, MMove.l5, MMove.l6, MFound.enc_width, MFound.part, MFound.l0, MFound.l1, MFound.l2, MFound.l3, MFound.l4, MFound.l5, MFound.l6, MFound.l7, asInt_mk, asBool_mk, asStr_mk, asLst_mk, bind_mk, if_true, leaf_int, leaf_bool, leaf_str, leaf_lst, Bool.not_true, Bool.false_eq_true, if_false, and_any]
          by_cases hk4 : 1 ≤ ns.getD 0 0 ∧ ns.getD 0 0 ≤ 4
          · have e1 : (decide (ns.getD 0 0 ≥ 1) && decide (ns.getD 0 0 ≤ 4)) = true := by rw [decide_eq_true (show ns.getD 0 0 ≥ 1 from hk4.1), decide_eq_true hk4.2]; rfl
            rw [e1, if_pos hk4]
            simp only [if_true, cutB_inl]
            exact next du { f with Kind := ns.getD 0 0, What := ns.getD 1 0, Err := ns.getD 2 0, At := ns.getD 3 0, States := ns.getD 4 0, Steps := ns.getD 5 0 } _ (Nat.le_succ _)
          · have e1 : (decide (ns.getD 0 0 ≥ 1) && decide (ns.getD 0 0 ≤ 4)) = false := by
              by_cases g : ns.getD 0 0 ≥ 1
              · rw [decide_eq_false (show ¬ ns.getD 0 0 ≤ 4 by omega), Bool.and_false]
              · rw [decide_eq_false g, Bool.false_and]
            rw [e1, if_neg hk4]
            rfl
      | false =>
        simp only [Bool.false_and, Bool.not_false, Bool.true_and, Bool.false_eq_true, if_false, bind_mk, stepP]
        by_cases hcy : cur = wCycle ∧ f.Cycle < 0
        · have e1 : (decide (cur = wCycle) && decide ((fT f).2.2.2.2.2.1 < 0)) = true := by
            rw [decide_eq_true hcy.1, Bool.true_and]; exact decide_eq_true hcy.2
          rw [if_pos hcy, e1]
          simp only [bind_mk, if_true, cutB_inl, List.length_map]
          exact next true { f with Cycle := (f.Trail.length : Int) } _ (Nat.le_succ _)
        · have e1 : (decide (cur = wCycle) && decide ((fT f).2.2.2.2.2.1 < 0)) = false := by
            by_cases h1 : cur = wCycle
            · have : ¬ f.Cycle < 0 := fun h => hcy ⟨h1, h⟩
              rw [show (fT f).2.2.2.2.2.1 = f.Cycle from rfl]
              simp [this]
            · simp [h1]
          rw [if_neg hcy, e1]
          simp only [bind_mk, Bool.false_eq_true, if_false]
          cases hN : numbersS (bl cur) (bl wMove) 7 with
          | none => rfl
          | some ns =>
            obtain ⟨hl7, _⟩ := numbersS_len hN
            have g0 := geti (a := ns) (j := 0) (by omega)
            have g1 := geti (a := ns) (j := 1) (by omega)
            have g2 := geti (a := ns) (j := 2) (by omega)
            have g3 := geti (a := ns) (j := 3) (by omega)
            have g4 := geti (a := ns) (j := 4) (by omega)
            have g5 := geti (a := ns) (j := 5) (by omega)
            have g6 := geti (a := ns) (j := 6) (by omega)
            simp only [encN, List.length_map, hl7, lti (j := 0) (n := 7) (by decide) (by decide), lti (j := 1) (n := 7) (by decide) (by decide), lti (j := 2) (n := 7) (by decide) (by decide), lti (j := 3) (n := 7) (by decide) (by decide), lti (j := 4) (n := 7) (by decide) (by decide), lti (j := 5) (n := 7) (by decide) (by decide), lti (j := 6) (n := 7) (by decide) (by decide),
              if_true, g0, g1, g2, g3, g4, g5, g6, MMove.enc_width, MMove.part, MMove.l0, MMove.l1, MMove.l2, MMove.l3, MMove.l4, MMove.l5, MMove.l6, MFound.enc_width, MFound.part, MFound.l0, MFound.l1, MFound.l2, MFound.l3, MFound.l4, MFound.l5, MFound.l6, MFound.l7, asInt_mk, asBool_mk, asStr_mk, asLst_mk, bind_mk, if_true, leaf_int, leaf_bool, leaf_str, leaf_lst, Bool.not_true, Bool.false_eq_true, if_false, chk_move]
            rw [if_pos (fits_of (by simp; omega))]
            simp only [cutB_inl]
            have := next false { f with Trail := f.Trail ++ [⟨ns.getD 0 0, ns.getD 1 0, ns.getD 2 0, ns.getD 3 0, ns.getD 4 0, ns.getD 5 0, ns.getD 6 0⟩] } (x8.1, x8.2.1, x8.2.2.1, x8.2.2.2.1, (), x8.2.2.2.2.2.1, x8.2.2.2.2.2.2.1, x8.2.2.2.2.2.2.2.1, ()) (by simp)
            rw [List.map_append] at this
            exact this
    · have e2 : (((c.toNat : Nat) : Int) != 10) = true := by
        rw [bne_iff_ne]
        intro h
        exact h10 (UInt8.toNat_inj.1 (by show c.toNat = 10; omega))
      rw [e2, if_neg h10]
      simp only [if_true, cutB_inl]
      rw [w64 (n := ((frm + cur.length : Nat) : Int) + 1) (by omega) (by omega)]
      have := ih k n frm (cur ++ [c]) du f (x8.1, x8.2.1, x8.2.2.1, x8.2.2.2.1, (), x8.2.2.2.2.2.1, x8.2.2.2.2.2.2.1, x8.2.2.2.2.2.2.2.1, ()) (by rw [hd]; simp) (by rw [List.length_append, List.length_singleton]; omega) ht hn (by omega)
      rw [List.length_append, List.length_singleton] at this
      rw [show (((frm + cur.length : Nat) : Int) + 1) = ((frm + (cur.length + 1) : Nat) : Int) by omega]
      exact this
theorem ref23_Parse_is (q : Nat) (s : ByteArray) (hs : s.size ≤ 1048576) (hq : 1048600 ≤ q) : ref23_Parse q s = some (encP (parseS s)) := by
  have := ref23_Parse_l0_is q s hs hq s.data.toList q 0 0 [] false zFound (0, 0, 0, 0, (), 0, 0, 0, ()) rfl (by show 0 + 0 + s.size = s.size; omega) (Nat.le_refl _) (Nat.le_refl _) (by show s.size < _; omega)
  exact this
end Go.Ax
