/- Layer 1: a number in quotes, the marks: the program's side. -/
import Derived.Test.YtbiooiikejcgbaaDoorLexFirstLexC
set_option linter.unusedVariables false
set_option linter.unusedSimpArgs false
namespace Go.Ax
open Go
/-- the first place from i on with the byte c -/
def fb (s : ByteArray) (c : UInt8) (i : Nat) : Nat := ff (fun j => bt s j == c.toNat) (s.size - i) i
theorem fb_index (s : ByteArray) (c : UInt8) (i : Nat) (hi : i ≤ s.size) : Lib.indexByte (s.data.toList.drop i) c = if fb s c i < s.size then ((fb s c i - i : Nat) : Int) else -1 := by
  obtain ⟨g1, g2, g3, g4⟩ := ff_spec (fun j => bt s j == c.toNat) (s.size - i) i
  have hn : s.data.toList.length = s.size := (Lib.size_eq s).symm
  have hge := Lib.indexByte_ge (s.data.toList.drop i) c
  by_cases h : Lib.indexByte (s.data.toList.drop i) c = -1
  · have hno := Lib.indexByte_none h
    rw [if_neg, h]
    intro hlt
    have hb := g4 (show fb s c i < _ by unfold fb at *; omega)
    have := hno (fb s c i - i)
    rw [List.getElem?_drop] at this
    have hb2 := getD_ne (k := i + (fb s c i - i)) this (by rw [hn]; have : i ≤ fb s c i := g1; omega)
    have : i + (fb s c i - i) = fb s c i := by have : i ≤ fb s c i := g1; omega
    rw [this] at hb2
    have hb : (bt s (fb s c i) == c.toNat) = true := hb
    unfold bt at hb
    rw [hb2] at hb; cases hb
  · obtain ⟨o, ho⟩ : ∃ o : Nat, Lib.indexByte (s.data.toList.drop i) c = o := ⟨(Lib.indexByte (s.data.toList.drop i) c).toNat, by omega⟩
    obtain ⟨h1, h2⟩ := Lib.indexByte_some ho
    rw [List.getElem?_drop] at h1
    have hlt : i + o < s.data.toList.length := (List.getElem?_eq_some_iff.1 h1).1
    have e : fb s c i = i + o := ff_uniq _ (by omega) (by omega) (fun k hk1 hk2 => by
      have := h2 (k - i) (by omega)
      rw [List.getElem?_drop] at this
      have := getD_ne this (by omega)
      have e2 : i + (k - i) = k := by omega
      rw [e2] at this
      exact this) (fun _ => by
      show (bt s (i + o) == c.toNat) = true
      unfold bt
      rw [List.getD_eq_getElem?_getD, h1]; simp)
    rw [ho, e, if_pos (by omega)]
    congr 1; omega
theorem drop_one' {l : List UInt8} {i : Nat} (h : i < l.length) : l.drop i = l.getD i 0 :: l.drop (i + 1) := by
  rw [List.drop_eq_getElem_cons h, List.getD_eq_getElem?_getD, List.getElem?_eq_getElem h]; rfl
theorem at4 (s : ByteArray) (a b c d : UInt8) (i : Nat) : atB s (ByteArray.mk #[a, b, c, d]) i = (decide (i + 3 < s.size) && (bt s i == a.toNat && (bt s (i + 1) == b.toNat && (bt s (i + 2) == c.toNat && bt s (i + 3) == d.toNat)))) := by
  unfold atB Lib.occAt bt
  rw [Lib.size_eq]
  by_cases h : i + 3 < s.data.toList.length
  · rw [drop_one' (by omega : i < _), drop_one' (by omega : i + 1 < _), drop_one' (by omega : i + 1 + 1 < _), drop_one' (by omega : i + 1 + 1 + 1 < _)]
    simp only [h, decide_true, Bool.true_and, List.isPrefixOf, Bool.and_true, beq_nat]
    rw [Bool.beq_comm (a := a.toNat), Bool.beq_comm (a := b.toNat), Bool.beq_comm (a := c.toNat), Bool.beq_comm (a := d.toNat)]
  · simp only [h, decide_false, Bool.false_and]
    have hl : (s.data.toList.drop i).length ≤ 3 := by rw [List.length_drop]; omega
    match s.data.toList.drop i, hl with
    | [], _ => rfl
    | [x], _ => simp [List.isPrefixOf]
    | [x, y], _ => simp [List.isPrefixOf]
    | [x, y, z], _ => simp [List.isPrefixOf]
def escP (c : Int) : Option (Unit ⊕ (Int × Int × Unit)) :=
  (if (decide (Lib.indexByte [110, 10, 116, 9, 48, 0, 92, 92, 39, 39] c.toNat.toUInt8 ≥ (0 : Int))) = true then some ((Int.tmod (Lib.indexByte [110, 10, 116, 9, 48, 0, 92, 92, 39, 39] c.toNat.toUInt8) (2 : Int)) == (0 : Int)) else some false).bind fun v13 =>
  if v13 = true then (
  (byteAt (ByteArray.mk #[110, 10, 116, 9, 48, 0, 92, 92, 39, 39]) (IntKind.i64.wrap (Lib.indexByte [110, 10, 116, 9, 48, 0, 92, 92, 39, 39] c.toNat.toUInt8 + (1 : Int)))).bind fun v14 =>
  some (.inr (((IntKind.i64.wrap (v14)), 4, ()))))
  else (
  some (.inl (())))
theorem escP_all : ∀ c : Fin 256, c.val ≠ 39 → escP ((c.val : Nat) : Int) = some (match escS c.val with | some (v, n) => .inr ((v : Int), (n : Int), ()) | none => .inl ()) := by decide +kernel
theorem lex_quoted_is (q : Nat) (s : ByteArray) (i : Nat) (hi : i < s.size) (hs : s.size ≤ 70000) (h39 : bt s i = 39) :
    lex_quoted q (s.extract i s.size) = some (match charS s i with | some (v, n) => ((v : Int), (n : Int), ()) | none => (0, 0, ())) := by
  have hsz := size_ext (a := i) (Nat.le_refl s.size)
  have hn : s.data.toList.length = s.size := (Lib.size_eq s).symm
  have hsub : substr (s.extract i s.size) (1 : Int) ((s.extract i s.size).size : Int) = some (s.extract (i + 1) s.size) := by
    have h1 : substr (s.extract i s.size) ((1 : Nat) : Int) ((s.extract i s.size).size : Int) = _ := substr_is (by rw [hsz]; omega) (Nat.le_refl _)
    have e : (s.extract i s.size).extract 1 (s.extract i s.size).size = s.extract (i + 1) s.size := by
      apply ByteArray.ext
      rw [ByteArray.data_extract, ByteArray.data_extract, ByteArray.data_extract, Array.extract_extract, hsz]
      congr 1
      show min (i + (s.size - i)) s.size = _
      omega
    rw [e] at h1
    exact h1
  obtain ⟨g1, g2, g3, g4⟩ := ff_spec (fun j => bt s j == (39 : UInt8).toNat) (s.size - (i + 1)) (i + 1)
  have g1 : i + 1 ≤ fb s 39 (i + 1) := g1
  have g2 : fb s 39 (i + 1) ≤ i + 1 + (s.size - (i + 1)) := g2
  have noq : ∀ j, i + 1 ≤ j → j < fb s 39 (i + 1) → bt s j ≠ 39 := fun j h1 h2 h3 => by
    have := g3 j h1 h2
    simp only [h3] at this
    cases this
  have isq : fb s 39 (i + 1) < s.size → bt s (fb s 39 (i + 1)) = 39 := fun h => by
    have h5 : (bt s (fb s 39 (i + 1)) == (39 : UInt8).toNat) = true := g4 (show fb s 39 (i + 1) < _ by omega)
    exact beq_iff_eq.1 h5
  have hidx : Lib.index (s.data.toList.drop (i + 1)) [39] = _ := (Lib.index_one _ _).trans (fb_index s 39 (i + 1) (by omega))
  unfold lex_quoted
  rw [hsub]
  simp only [bind_mk]
  unfold lib_strings_Cut
  rw [if_pos (by rw [size_ext (Nat.le_refl _)]; omega)]
  simp only [bind_mk]
  rw [has_is q s _ i (by omega), at4]
  simp only [bind_mk]
  rw [data_tail]
  generalize hp : fb s 39 (i + 1) = p at *
  have cutv : Lib.cut (s.data.toList.drop (i + 1)) [39] = if p < s.size then ((s.data.toList.drop (i + 1)).take (p - (i + 1)), (s.data.toList.drop (i + 1)).drop (p - (i + 1) + 1), true) else (s.data.toList.drop (i + 1), [], false) := by
    unfold Lib.cut
    rw [hidx]
    by_cases h : p < s.size
    · rw [if_pos h, if_pos h, if_pos (by omega), Int.toNat_natCast]; rfl
    · rw [if_neg h, if_neg h, if_neg (by omega)]
  have cutv' : Lib.cut (s.data.toList.drop (i + 1)) (ByteArray.mk #[39]).data.toList = _ := cutv
  rw [cutv']
  have e39 : (39 : UInt8).toNat = 39 := rfl
  have e92 : (92 : UInt8).toNat = 92 := rfl
  have h39b : (bt s i == 39) = true := by rw [h39]; rfl
  rw [e39, e92, h39b, Bool.true_and]
  by_cases hA : i + 3 < s.size ∧ bt s (i + 1) = 92 ∧ bt s (i + 2) = 39 ∧ bt s (i + 3) = 39
  · obtain ⟨a1, a2, a3, a4⟩ := hA
    have hc : charS s i = some (39, 4) := by
      unfold charS
      rw [if_neg (fun h => h.2.2.2.1 a2), if_pos ⟨a1, a2, a4⟩, a3]; rfl
    have hd : decide (i + 3 < s.size) = true := decide_eq_true a1
    rw [hc, a2, a3, a4, hd]
    rfl
  have hAb : (decide (i + 3 < s.size) && (bt s (i + 1) == 92 && (bt s (i + 2) == 39 && bt s (i + 3) == 39))) = false := by
    rw [Bool.eq_false_iff]
    intro h
    simp only [Bool.and_eq_true, decide_eq_true_eq, beq_iff_eq] at h
    exact hA ⟨h.1, h.2.1, h.2.2.1, h.2.2.2⟩
  rw [hAb]
  simp only [Bool.false_eq_true, if_false]
  by_cases hlt : p < s.size
  rotate_left
  · -- no quote
    have hc : charS s i = none := by
      unfold charS
      rw [if_neg (fun h => noq (i + 2) (by omega) (by omega) h.2.1), if_neg (fun h => noq (i + 3) (by omega) (by omega) h.2.2)]
    rw [if_neg hlt, hc]
    have e1 : (((ByteArray.mk (s.data.toList.drop (i + 1)).toArray).size : Int) == IntKind.i64.wrap (((s.extract i s.size).size : Int) - 1)) = true := by
      have : (ByteArray.mk (s.data.toList.drop (i + 1)).toArray).size = s.size - (i + 1) := by
        show (s.data.toList.drop (i + 1)).toArray.size = _
        rw [List.size_toArray, List.length_drop, hn]
      rw [this, hsz, w64 (by omega) (by omega)]
      simp only [beq_iff_eq]; omega
    simp only [e1, if_true, bind_mk]
    rfl
  have hq39 := isq hlt
  rw [if_pos hlt]
  have hb1 : (ByteArray.mk ((s.data.toList.drop (i + 1)).take (p - (i + 1))).toArray).size = p - (i + 1) := by
    show ((s.data.toList.drop (i + 1)).take (p - (i + 1))).toArray.size = _
    rw [List.size_toArray, List.length_take, List.length_drop, hn]; omega
  have hb2 : (ByteArray.mk ((s.data.toList.drop (i + 1)).drop (p - (i + 1) + 1)).toArray).size = s.size - (p + 1) := by
    show ((s.data.toList.drop (i + 1)).drop (p - (i + 1) + 1)).toArray.size = _
    rw [List.size_toArray, List.length_drop, List.length_drop, hn]; omega
  have e1 : (((ByteArray.mk ((s.data.toList.drop (i + 1)).take (p - (i + 1))).toArray).size : Int) == IntKind.i64.wrap (((s.extract i s.size).size : Int) - 1)) = false := by
    rw [hb1, hsz, w64 (by omega) (by omega), beq_eq_false_iff_ne]; omega
  have e2 : (IntKind.i64.wrap (IntKind.i64.wrap (((ByteArray.mk ((s.data.toList.drop (i + 1)).drop (p - (i + 1) + 1)).toArray).size : Int) + ((ByteArray.mk ((s.data.toList.drop (i + 1)).take (p - (i + 1))).toArray).size : Int)) + 2) != ((s.extract i s.size).size : Int)) = false := by
    rw [hb1, hb2, hsz, wadd (by omega), wadd2 (by omega), bne_eq_false_iff_eq]; omega
  simp only [e1, e2, Bool.false_eq_true, if_false, bind_mk]
  by_cases hp2 : p = i + 2
  · subst hp2
    have hbody : ByteArray.mk ((s.data.toList.drop (i + 1)).take (i + 2 - (i + 1))).toArray = ByteArray.mk #[s.data.toList.getD (i + 1) 0] := by
      rw [show i + 2 - (i + 1) = 1 by omega, drop_one' (by omega)]; rfl
    rw [hbody]
    have es : ∀ c : UInt8, strEq (ByteArray.mk #[s.data.toList.getD (i + 1) 0]) (ByteArray.mk #[c]) = (bt s (i + 1) == c.toNat) := fun c => by
      unfold strEq
      rw [ByteArray.toList_eq, ByteArray.toList_eq]
      show ([s.data.toList.getD (i + 1) 0] == [c]) = _
      unfold bt
      rw [← beq_nat]
      simp
    have e3 : (((ByteArray.mk #[s.data.toList.getD (i + 1) 0]).size : Int) == 1) = true := rfl
    have e4 : (((ByteArray.mk #[s.data.toList.getD (i + 1) 0]).size : Int) == 2) = false := rfl
    have e10 : (10 : UInt8).toNat = 10 := rfl
    simp only [e3, e4, es, e92, e10, if_true, bind_mk]
    have hn39 : bt s (i + 1) ≠ 39 := noq (i + 1) (by omega) (by omega)
    by_cases hc : bt s (i + 1) ≠ 92 ∧ bt s (i + 1) ≠ 10
    · have hcs : charS s i = some (bt s (i + 1), 3) := by
        unfold charS
        rw [if_pos ⟨hlt, hq39, hn39, hc.1, hc.2⟩]
      have c1 : (!(bt s (i + 1) == 92)) = true := by simp; exact hc.1
      have c2 : (!(bt s (i + 1) == 10)) = true := by simp; exact hc.2
      rw [hcs, c1, c2]
      simp only [if_true, bind_mk]
      have hby : byteAt (ByteArray.mk #[s.data.toList.getD (i + 1) 0]) (0 : Int) = some ((bt s (i + 1) : Nat) : Int) := byteAt_is (i := 0) (by show 0 < 1; omega)
      rw [hby]
      simp only [bind_mk]
      have := bt_lt (s := s) (i := i + 1)
      rw [w64 (by omega) (by omega)]
      rfl
    · have hcs : charS s i = none := by
        unfold charS
        rw [if_neg (fun h => hc ⟨h.2.2.2.1, h.2.2.2.2⟩), if_neg (fun h => hA ⟨h.1, h.2.1, hq39, h.2.2⟩)]
      rw [hcs]
      have c12 : (if (!(bt s (i + 1) == 92)) = true then some (!(bt s (i + 1) == 10)) else some false) = some false := by
        by_cases h92 : bt s (i + 1) = 92
        · rw [h92]; rfl
        · have h10 : bt s (i + 1) = 10 := by
            by_cases h : bt s (i + 1) = 10
            · exact h
            · exact absurd ⟨h92, h⟩ hc
          rw [h10]; rfl
      rw [c12]
      rfl
  · have e3 : (((ByteArray.mk ((s.data.toList.drop (i + 1)).take (p - (i + 1))).toArray).size : Int) == 1) = false := by
      rw [hb1, beq_eq_false_iff_ne]; omega
    simp only [e3, Bool.false_eq_true, if_false, bind_mk]
    by_cases hp3 : p = i + 3
    · subst hp3
      have hbody : ByteArray.mk ((s.data.toList.drop (i + 1)).take (i + 3 - (i + 1))).toArray = ByteArray.mk #[s.data.toList.getD (i + 1) 0, s.data.toList.getD (i + 2) 0] := by
        rw [show i + 3 - (i + 1) = 2 by omega, drop_two (by omega)]; rfl
      rw [hbody]
      have e4 : (((ByteArray.mk #[s.data.toList.getD (i + 1) 0, s.data.toList.getD (i + 2) 0]).size : Int) == 2) = true := rfl
      have hby0 : byteAt (ByteArray.mk #[s.data.toList.getD (i + 1) 0, s.data.toList.getD (i + 2) 0]) (0 : Int) = some ((bt s (i + 1) : Nat) : Int) := byteAt_is (i := 0) (by show 0 < 2; omega)
      have hby1 : byteAt (ByteArray.mk #[s.data.toList.getD (i + 1) 0, s.data.toList.getD (i + 2) 0]) (1 : Int) = some ((bt s (i + 2) : Nat) : Int) := byteAt_is (i := 1) (by show 1 < 2; omega)
      rw [e4, hby0]
      simp only [if_true, bind_mk]
      have hn39 : bt s (i + 2) ≠ 39 := noq (i + 2) (by omega) (by omega)
      by_cases h92 : bt s (i + 1) = 92
      · rw [h92, hby1]
        have ee : (((92 : Nat) : Int) == 92) = true := rfl
        rw [ee]
        simp only [if_true, bind_mk]
        have hcs : charS s i = escS (bt s (i + 2)) := by
          unfold charS
          rw [if_neg (fun h => hn39 h.2.1), if_pos ⟨hlt, h92, hq39⟩]
        rw [hcs]
        unfold lib_strings_IndexByte
        simp only [bind_mk]
        have := escP_all ⟨bt s (i + 2), bt_lt⟩ hn39
        simp only at this
        show cutB (escP ((bt s (i + 2) : Nat) : Int)) _ = _
        rw [this]
        cases escS (bt s (i + 2)) with
        | none => rfl
        | some r => rfl
      · have ee : (((bt s (i + 1) : Nat) : Int) == 92) = false := by simp; omega
        rw [ee]
        simp only [Bool.false_eq_true, if_false]
        have hcs : charS s i = none := by
          unfold charS
          rw [if_neg (fun h => hn39 h.2.1), if_neg (fun h => h92 h.2.1)]
        rw [hcs]; rfl
    · have e4 : (((ByteArray.mk ((s.data.toList.drop (i + 1)).take (p - (i + 1))).toArray).size : Int) == 2) = false := by
        rw [hb1, beq_eq_false_iff_ne]; omega
      simp only [e4, Bool.false_eq_true, if_false, bind_mk]
      have hcs : charS s i = none := by
        unfold charS
        by_cases hp1 : p = i + 1
        · subst hp1
          rw [if_neg (fun h => h.2.2.1 hq39), if_neg (fun h => by have := h.2.1; rw [hq39] at this; cases this)]
        · rw [if_neg (fun h => noq (i + 2) (by omega) (by omega) h.2.1), if_neg (fun h => noq (i + 3) (by omega) (by omega) h.2.2)]
      rw [hcs]; rfl
end Go.Ax
