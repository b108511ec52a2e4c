/- Layer 23: the program's side: Parse. -/
import Derived.Test.YtcpcbmebpmokbaaDoorTrailBackTrD
set_option linter.unusedVariables false
set_option linter.unusedSimpArgs false
namespace Go.Ax
open Go
def fT (f : MFound) : Int × Int × Int × Int × Unit × Int × Int × Int × Unit := (f.Kind, f.What, f.Err, f.At, (), f.Cycle, f.States, f.Steps, ())
theorem geti {a : List Int} {j : Nat} (h : j < a.length) : (a.map (T.int .i64))[j]? = some (T.int .i64 (a.getD j 0)) := by
  rw [List.getElem?_map, List.getElem?_eq_getElem h, List.getD_eq_getElem?_getD, List.getElem?_eq_getElem h]; rfl
theorem lti {j : Int} {n : Nat} (h0 : 0 ≤ j) (h : j < n) : (0 ≤ j ∧ j < ((n : Nat) : Int)) = True := by simp; omega
theorem chk_move (a b c d e f g : Int) : chk [T.agg [T.int .i64 a, T.int .i64 b, T.int .i64 c, T.int .i64 d, T.int .i64 e, T.int .i64 f, T.int .i64 g]] 7 = some [MMove.enc ⟨a, b, c, d, e, f, g⟩] :=
  chk_map (enc := MMove.enc) MMove.enc_width [⟨a, b, c, d, e, f, g⟩]
theorem ib10 (q : Nat) (s : ByteArray) : lib_strings_IndexByte q s 10 = some (Lib.indexByte s.data.toList 10, ()) := rfl
theorem stepP_grow {t : List UInt8} {fi du d : Bool} {f g : MFound} (h : stepP t fi du f = some (d, g)) : g.Trail.length ≤ f.Trail.length + 1 := by
  unfold stepP at h
  split at h
  · obtain ⟨a, _, h⟩ := Option.bind_eq_some_iff.1 h
    split at h
    · simp only [Option.some.injEq, Prod.mk.injEq] at h
      rw [← h.2]; exact Nat.le_succ _
    · cases h
  · split at h
    · simp only [Option.some.injEq, Prod.mk.injEq] at h
      rw [← h.2]; exact Nat.le_succ _
    · obtain ⟨a, _, h⟩ := Option.bind_eq_some_iff.1 h
      simp only [Option.some.injEq, Prod.mk.injEq] at h
      rw [← h.2]; simp
theorem trail_Parse_g0_is (q : Nat) (s : ByteArray) (hs : s.size ≤ 300000000) (hq : 300000100 ≤ q) : ∀ (k : Nat) (rest : List UInt8) (a : Nat) (fi du : Bool) (f : MFound) (x7 : Int × Int × Int × Int × Unit × Int × Int × Int × Unit),
    s.data.toList.drop a = rest → a + rest.length = s.size → f.Trail.length ≤ a → rest.length < k →
    trail_Parse_g0 q k s (a : Int) fi du (f.Trail.map MMove.enc) x7 (fT f) = some (encP (parseP a [] rest fi du f)) := by
  intro k
  induction k with
  | zero => intro rest a fi du f x7 _ _ _ hk; omega
  | succ k ih =>
    intro rest a fi du f x7 hr ha ht hk
    have hss : s.data.toList.length = s.size := rfl
    rw [trail_Parse_g0]
    simp only [and_any, bind_mk]
    have hsub : substr s (a : Int) (s.size : Int) = some (bl rest) := by
      rw [← hss, substr_bl (by omega) (Nat.le_refl _), hr, hss, List.take_of_length_le (by omega)]
    rcases index_parts 10 rest with ⟨hi, hno⟩ | ⟨l1, l2, hl, hno, hi⟩
    · rw [parseP_none rest a [] fi du f hno, List.nil_append]
      by_cases he : rest = [] ∧ fi = false ∧ du = false
      · obtain ⟨e1, e2, e3⟩ := he
        subst e1; subst e2; subst e3
        have : (((a : Int) == (s.size : Int)) && !false && !false) = true := by
          simp only [List.length_nil] at ha
          simp; omega
        rw [if_pos this, if_pos ⟨rfl, rfl, rfl⟩]
        rfl
      · have : (((a : Int) == (s.size : Int)) && !fi && !du) = false := by
          cases fi <;> cases du <;> simp <;> intro h <;> exact he ⟨List.length_eq_zero_iff.1 (by omega), rfl, rfl⟩
        rw [this, if_neg he]
        simp only [Bool.false_eq_true, if_false]
        rw [hsub]
        simp only [bind_mk, ib10, hi]
        rfl
    · have hlen : rest.length = l1.length + 1 + l2.length := by rw [hl, List.length_append, List.length_cons]; omega
      have : (((a : Int) == (s.size : Int)) && !fi && !du) = false := by
        have : ((a : Int) == (s.size : Int)) = false := by rw [beq_eq_false_iff_ne]; omega
        rw [this]; rfl
      rw [this]
      simp only [Bool.false_eq_true, if_false]
      rw [hsub]
      simp only [bind_mk, ib10, hi]
      rw [if_neg (by simp), w64 (by omega) (by omega)]
      have hsub2 : substr s (a : Int) ((a : Int) + (l1.length : Int)) = some (bl l1) := by
        have := substr_bl (s := s) (l := a) (h := a + l1.length) (by omega) (by omega)
        rw [hr, hl] at this
        rw [show ((a : Int) + (l1.length : Int)) = ((a + l1.length : Nat) : Int) by omega, this]
        congr 2
        rw [Nat.add_sub_cancel_left, List.take_left']
        rfl
      rw [hsub2]
      simp only [bind_mk]
      rw [show (ByteArray.mk #[102, 111, 117, 110, 100]) = bl wFound from rfl, show (ByteArray.mk #[109, 111, 118, 101]) = bl wMove from rfl, show (ByteArray.mk #[99, 121, 99, 108, 101]) = bl wCycle from rfl]
      have hn6 := trail_numbers_is q (bl l1) (bl wFound) 6 (by decide) (by rw [bl_size]; omega) hq
      have hn7 := trail_numbers_is q (bl l1) (bl wMove) 7 (by decide) (by rw [bl_size]; omega) hq
      have h6 : ((6 : Nat) : Int) = 6 := rfl
      have h7 : ((7 : Nat) : Int) = 7 := rfl
      rw [h6] at hn6
      rw [h7] at hn7
      rw [hn6, hn7, hl, parseP_line l1 l2 a [] fi du f hno, List.nil_append]
      -- what follows a line that is right
      have next : ∀ (d : Bool) (g : MFound) (y7 : Int × Int × Int × Int × Unit × Int × Int × Int × Unit), g.Trail.length ≤ f.Trail.length + 1 →
          trail_Parse_g0 q k s (IntKind.i64.wrap ((a : Int) + (IntKind.i64.wrap ((l1.length : Int) + (1 : Int))))) false d (g.Trail.map MMove.enc) y7 (fT g) = some (encP (parseP (a + l1.length + 1) [] l2 false d g)) := by
        intro d g y7 hg
        rw [w64 (n := (l1.length : Int) + 1) (by omega) (by omega), w64 (by omega) (by omega)]
        rw [show ((a : Int) + ((l1.length : Int) + 1)) = ((a + l1.length + 1 : Nat) : Int) by omega]
        refine ih l2 (a + l1.length + 1) false d g y7 ?_ (by omega) (by omega) (by omega)
        rw [show a + l1.length + 1 = a + (l1.length + 1) by omega, ← List.drop_drop, hr, hl]
        rw [show l1.length + 1 = (l1 ++ [10]).length by simp, show l1 ++ 10 :: l2 = (l1 ++ [10]) ++ l2 by simp, List.drop_left]
      cases fi with
      | true =>
        simp only [if_true, bind_mk, stepP]
        cases hN : numbersS (bl l1) (bl wFound) 6 with
        | none => rfl
        | some ns =>
          obtain ⟨hl6, _⟩ := numbersS_len hN
          have g0 := geti (a := ns) (j := 0) (by omega)
          have g1 := geti (a := ns) (j := 1) (by omega)
          have g2 := geti (a := ns) (j := 2) (by omega)
          have g3 := geti (a := ns) (j := 3) (by omega)
          have g4 := geti (a := ns) (j := 4) (by omega)
          have g5 := geti (a := ns) (j := 5) (by omega)
          simp only [encN, List.length_map, hl6, lti (j := 0) (n := 6) (by decide) (by decide), lti (j := 1) (n := 6) (by decide) (by decide), lti (j := 2) (n := 6) (by decide) (by decide), lti (j := 3) (n := 6) (by decide) (by decide), lti (j := 4) (n := 6) (by decide) (by decide), lti (j := 5) (n := 6) (by decide) (by decide),
            if_true, g0, g1, g2, g3, g4, g5, MMove.enc_width, MMove.part, MMove.l0, MMove.l1, MMove.l2, MMove.l3, MMove.l4, MMove.l5, MMove.l6, MFound.enc_width, MFound.part, MFound.l0, MFound.l1, MFound.l2, MFound.l3, MFound.l4, MFound.l5, MFound.l6, MFound.l7, asInt_mk, asBool_mk, asStr_mk, asLst_mk, bind_mk, if_true, leaf_int, leaf_bool, leaf_str, leaf_lst, Bool.not_true, Bool.false_eq_true, if_false, or_any]
          by_cases hk4 : 1 ≤ ns.getD 0 0 ∧ ns.getD 0 0 ≤ 4
          · have e1 : (decide (ns.getD 0 0 < 1) || decide (ns.getD 0 0 > 4)) = false := by rw [Bool.or_eq_false_iff]; exact ⟨decide_eq_false (by omega), decide_eq_false (by omega)⟩
            rw [e1, if_pos hk4]
            simp only [Bool.false_eq_true, if_false, cutB_inl]
            exact next du { f with Kind := ns.getD 0 0, What := ns.getD 1 0, Err := ns.getD 2 0, At := ns.getD 3 0, States := ns.getD 4 0, Steps := ns.getD 5 0 } _ (Nat.le_succ _)
          · have e1 : (decide (ns.getD 0 0 < 1) || decide (ns.getD 0 0 > 4)) = true := by
              by_cases g : ns.getD 0 0 < 1
              · rw [decide_eq_true g]; rfl
              · rw [decide_eq_true (show ns.getD 0 0 > 4 by omega), Bool.or_true]
            rw [e1, if_neg hk4]
            rfl
      | false =>
        simp only [Bool.false_eq_true, if_false, bind_mk, stepP, strEq_bl]
        by_cases hcy : l1 = wCycle ∧ f.Cycle < 0
        · have e1 : (decide (l1 = wCycle) && decide ((fT f).2.2.2.2.2.1 < 0)) = true := by
            rw [decide_eq_true hcy.1, Bool.true_and]; exact decide_eq_true hcy.2
          rw [if_pos hcy, e1]
          simp only [bind_mk, if_true, cutB_inl, List.length_map]
          exact next true { f with Cycle := (f.Trail.length : Int) } _ (Nat.le_succ _)
        · have e1 : (decide (l1 = wCycle) && decide ((fT f).2.2.2.2.2.1 < 0)) = false := by
            by_cases h1 : l1 = wCycle
            · have : ¬ f.Cycle < 0 := fun h => hcy ⟨h1, h⟩
              rw [show (fT f).2.2.2.2.2.1 = f.Cycle from rfl]
              simp [this]
            · simp [h1]
          rw [if_neg hcy, e1]
          simp only [bind_mk, Bool.false_eq_true, if_false]
          cases hN : numbersS (bl l1) (bl wMove) 7 with
          | none => rfl
          | some ns =>
            obtain ⟨hl7, _⟩ := numbersS_len hN
            have g0 := geti (a := ns) (j := 0) (by omega)
            have g1 := geti (a := ns) (j := 1) (by omega)
            have g2 := geti (a := ns) (j := 2) (by omega)
            have g3 := geti (a := ns) (j := 3) (by omega)
            have g4 := geti (a := ns) (j := 4) (by omega)
            have g5 := geti (a := ns) (j := 5) (by omega)
            have g6 := geti (a := ns) (j := 6) (by omega)
            simp only [encN, List.length_map, hl7, lti (j := 0) (n := 7) (by decide) (by decide), lti (j := 1) (n := 7) (by decide) (by decide), lti (j := 2) (n := 7) (by decide) (by decide), lti (j := 3) (n := 7) (by decide) (by decide), lti (j := 4) (n := 7) (by decide) (by decide), lti (j := 5) (n := 7) (by decide) (by decide), lti (j := 6) (n := 7) (by decide) (by decide),
              if_true, g0, g1, g2, g3, g4, g5, g6, MMove.enc_width, MMove.part, MMove.l0, MMove.l1, MMove.l2, MMove.l3, MMove.l4, MMove.l5, MMove.l6, MFound.enc_width, MFound.part, MFound.l0, MFound.l1, MFound.l2, MFound.l3, MFound.l4, MFound.l5, MFound.l6, MFound.l7, asInt_mk, asBool_mk, asStr_mk, asLst_mk, bind_mk, if_true, leaf_int, leaf_bool, leaf_str, leaf_lst, Bool.not_true, Bool.false_eq_true, if_false, chk_move]
            rw [if_pos (fits_of (by simp; omega))]
            simp only [cutB_inl]
            have := next false { f with Trail := f.Trail ++ [⟨ns.getD 0 0, ns.getD 1 0, ns.getD 2 0, ns.getD 3 0, ns.getD 4 0, ns.getD 5 0, ns.getD 6 0⟩] } (x7.1, x7.2.1, x7.2.2.1, x7.2.2.2.1, (), x7.2.2.2.2.2.1, x7.2.2.2.2.2.2.1, x7.2.2.2.2.2.2.2.1, ()) (by simp)
            rw [List.map_append] at this
            exact this
theorem trail_Parse_is (q : Nat) (s : ByteArray) (hs : s.size ≤ 300000000) (hq : 300000100 ≤ q) : trail_Parse q s = some (encP (parseS s)) := by
  have := trail_Parse_g0_is q s hs hq (q + 1) s.data.toList 0 true false zFound (0, 0, 0, 0, (), 0, 0, 0, ()) rfl (by show 0 + s.size = s.size; omega) (Nat.le_refl _) (by show s.size < _; omega)
  have e : trail_Parse q s = trail_Parse_g0 q (q + 1) s ((0 : Nat) : Int) true false (zFound.Trail.map MMove.enc) (0, 0, 0, 0, (), 0, 0, 0, ()) (fT zFound) := by
    rw [trail_Parse_g0, trail_Parse]
    simp only [if_true]
    rfl
  rw [e, this]
  rfl
end Go.Ax
