/- Layer 1: bytes and blanks: what both sides come to, in plain Lean. -/
import Derived.Test.YtbiooiikejcgbaaDoorLexFirstGen0
import Derived.Test.YtbiooiikejcgbaaDoorAxY
import Derived.Lib.IndexMore
import Derived.Lib.IndexLaws
import Derived.Lib.IndexBytes
import Derived.Lib.IndexAny
set_option linter.unusedVariables false
set_option linter.unusedSimpArgs false
namespace Go.Ax
open Go
/-- byte i, as a number -/
def bt (s : ByteArray) (i : Nat) : Nat := (s.data.toList.getD i 0).toNat
theorem bt_lt {s : ByteArray} {i : Nat} : bt s i < 256 := UInt8.toNat_lt _
theorem byteAt_is {s : ByteArray} {i : Nat} (h : i < s.size) : byteAt s (i : Int) = some ((bt s i : Nat) : Int) := by
  unfold byteAt bt
  rw [if_pos (by omega), Int.toNat_natCast]
  show (s.data[i]?).map _ = _
  rw [← Array.getElem?_toList, List.getD_eq_getElem?_getD]
  have : i < s.data.toList.length := by rw [← Lib.size_eq]; exact h
  rw [List.getElem?_eq_getElem this]
  rfl
theorem substr_is {s : ByteArray} {l h : Nat} (hl : l ≤ h) (hh : h ≤ s.size) : substr s (l : Int) (h : Int) = some (s.extract l h) := by
  unfold substr
  rw [if_pos (by omega), Int.toNat_natCast, Int.toNat_natCast]
theorem size_ext {s : ByteArray} {a c : Nat} (hc : c ≤ s.size) : (s.extract a c).size = c - a := by
  rw [ByteArray.size_extract]; omega
theorem data_tail (s : ByteArray) (i : Nat) : (s.extract i s.size).data.toList = s.data.toList.drop i := Lib.extract_to_end s i
theorem bt_tail {s : ByteArray} {i j : Nat} : bt (s.extract i s.size) j = bt s (i + j) := by
  unfold bt
  rw [data_tail, List.getD_eq_getElem?_getD, List.getElem?_drop, ← List.getD_eq_getElem?_getD]
/-- does the text w stand in s at i? -/
def atB (s w : ByteArray) (i : Nat) : Bool := Lib.occAt s.data.toList w.data.toList i
theorem occ_piece (s w : ByteArray) (i : Nat) (hw0 : w.size = 0 → i ≤ s.size) : (decide (i + w.size ≤ s.size) && strEq (s.extract i (i + w.size)) w) = atB s w i := by
  unfold atB strEq
  by_cases h : i + w.size ≤ s.size
  · rw [← Lib.occ_of_piece s w i h]; simp [h]
  · have : Lib.occAt s.data.toList w.data.toList i = false := by
      cases ho : Lib.occAt s.data.toList w.data.toList i with
      | false => rfl
      | true =>
        unfold Lib.occAt at ho
        have := (List.isPrefixOf_iff_prefix.1 ho).length_le
        rw [List.length_drop, ← Lib.size_eq, ← Lib.size_eq] at this
        by_cases hw : w.size = 0
        · have := hw0 hw; omega
        · omega
    simp [h, this]
theorem ref01_begins_is (q : Nat) (s w : ByteArray) (i : Nat) (hi : i + w.size ≤ 1000000000) (hw0 : w.size = 0 → i ≤ s.size) : ref01_begins q s i w = some (atB s w i, ()) := by
  unfold ref01_begins
  have e : IntKind.i64.wrap ((i : Int) + (w.size : Int)) = ((i + w.size : Nat) : Int) := by rw [w64 (by omega) (by omega)]; rfl
  rw [e, ← occ_piece s w i hw0]
  by_cases h : i + w.size ≤ s.size
  · rw [if_pos (by simp; omega), substr_is (by omega) h]
    simp [h]
  · rw [if_neg (by simp; omega)]
    simp [h]
theorem has_is (q : Nat) (s w : ByteArray) (i : Nat) (hi : i ≤ s.size) : strings_HasPrefix q (s.extract i s.size) w = some (atB s w i, ()) := by
  unfold strings_HasPrefix internal_stringslite_HasPrefix
  rw [← occ_piece s w i fun _ => hi]
  have hs := size_ext (a := i) (Nat.le_refl s.size)
  by_cases h : i + w.size ≤ s.size
  · rw [if_pos (by rw [hs]; simp; omega)]
    have : substr (s.extract i s.size) 0 (w.size : Int) = some ((s.extract i s.size).extract 0 w.size) := substr_is (l := 0) (by omega) (by rw [hs]; omega)
    rw [this]
    have e : (s.extract i s.size).extract 0 w.size = s.extract i (i + w.size) := by
      apply ByteArray.ext
      rw [ByteArray.data_extract, ByteArray.data_extract, ByteArray.data_extract, Array.extract_extract]
      congr 1
      show min (i + w.size) s.size = _
      omega
    rw [e]
    simp [h]
  · rw [if_neg (by rw [hs]; simp; omega)]
    simp [h]
theorem drop_two {l : List UInt8} {i : Nat} (h : i + 1 < l.length) : l.drop i = l.getD i 0 :: l.getD (i + 1) 0 :: l.drop (i + 2) := by
  rw [List.drop_eq_getElem_cons (by omega : i < l.length), List.drop_eq_getElem_cons h, List.getD_eq_getElem?_getD, List.getD_eq_getElem?_getD, List.getElem?_eq_getElem, List.getElem?_eq_getElem]
  rfl
theorem beq_nat (a b : UInt8) : (a == b) = (a.toNat == b.toNat) := by
  rw [Bool.eq_iff_iff]; simp [UInt8.toNat_inj]
theorem at2 (s : ByteArray) (a b : UInt8) (i : Nat) : atB s (ByteArray.mk #[a, b]) i = (decide (i + 1 < s.size) && (bt s i == a.toNat && bt s (i + 1) == b.toNat)) := by
  unfold atB Lib.occAt bt
  rw [Lib.size_eq]
  by_cases h : i + 1 < s.data.toList.length
  · rw [drop_two h]
    simp only [h, decide_true, Bool.true_and, List.isPrefixOf, Bool.and_true, beq_nat]
    rw [Bool.beq_comm, Bool.beq_comm (a := b.toNat)]
  · simp only [h, decide_false, Bool.false_and]
    have hl : (s.data.toList.drop i).length ≤ 1 := by rw [List.length_drop]; omega
    match s.data.toList.drop i, hl with
    | [], _ => rfl
    | [x], _ => simp [List.isPrefixOf]
/-- the first place from i on, so many tried, at which p is so -/
def ff (p : Nat → Bool) : Nat → Nat → Nat
  | 0, i => i
  | d + 1, i => if p i = true then i else ff p d (i + 1)
theorem ff_spec (p : Nat → Bool) : ∀ (d i : Nat), i ≤ ff p d i ∧ ff p d i ≤ i + d ∧ (∀ j, i ≤ j → j < ff p d i → p j = false) ∧ (ff p d i < i + d → p (ff p d i) = true)
  | 0, i => ⟨Nat.le_refl _, Nat.le_refl _, fun j h1 h2 => by simp only [ff] at h2; omega, fun h => by simp only [ff] at h; omega⟩
  | d + 1, i => by
    unfold ff
    by_cases h : p i = true
    · rw [if_pos h]
      exact ⟨Nat.le_refl _, by omega, fun j h1 h2 => by omega, fun _ => h⟩
    · rw [if_neg h]
      obtain ⟨h1, h2, h3, h4⟩ := ff_spec p d (i + 1)
      refine ⟨by omega, by omega, fun j hj1 hj2 => ?_, fun hlt => h4 (by omega)⟩
      rcases Nat.eq_or_lt_of_le hj1 with rfl | hj1
      · simpa using h
      · exact h3 j hj1 hj2
theorem ff_uniq (p : Nat → Bool) {d i j : Nat} (h1 : i ≤ j) (h2 : j ≤ i + d) (h3 : ∀ k, i ≤ k → k < j → p k = false) (h4 : j < i + d → p j = true) : ff p d i = j := by
  obtain ⟨g1, g2, g3, g4⟩ := ff_spec p d i
  rcases Nat.lt_trichotomy (ff p d i) j with h | h | h
  · have := g4 (by omega)
    rw [h3 _ g1 h] at this; cases this
  · exact h
  · have := h4 (by omega)
    rw [g3 j h1 h] at this; cases this
/-- where the line ends -/
def eol (s : ByteArray) (i : Nat) : Nat := ff (fun j => bt s j == 10) (s.size - i) i
/-- where the comment's end begins -/
def eoc (s : ByteArray) (i : Nat) : Nat := ff (fun j => atB s (ByteArray.mk #[42, 47]) j) (s.size - i) i
def isSpc (c : Nat) : Bool := c == 32 || c == 9 || c == 12 || c == 13
/-- the blank at i: its bytes, the lines that it ends; none: a comment without an end -/
def blankS (s : ByteArray) (i : Nat) : Option (Nat × Nat) :=
  if bt s i = 10 then some (1, 1) else if isSpc (bt s i) = true then some (1, 0)
  else if atB s (ByteArray.mk #[92, 10]) i = true then some (2, 0)
  else if atB s (ByteArray.mk #[47, 47]) i = true then some (eol s i - i, 0)
  else if atB s (ByteArray.mk #[47, 42]) i = true then (if eoc s (i + 2) < s.size then some (eoc s (i + 2) + 2 - i, 0) else none)
  else some (0, 0)
theorem toU (c : Nat) : ((c : Int)).toNat.toUInt8 = UInt8.ofNat c := by rw [Int.toNat_natCast]
theorem spc_is : ∀ c : Fin 256, decide (Lib.indexByte [32, 9, 12, 13] (UInt8.ofNat c.val) ≥ 0) = isSpc c.val := by decide +kernel
theorem getD_ne {l : List UInt8} {k : Nat} {c : UInt8} (h : l[k]? ≠ some c) (hk : k < l.length) : ((l.getD k 0).toNat == c.toNat) = false := by
  rw [List.getD_eq_getElem?_getD, List.getElem?_eq_getElem hk]
  rw [List.getElem?_eq_getElem hk] at h
  simp only [Option.getD_some]
  rw [beq_eq_false_iff_ne]
  intro e
  exact h (by rw [UInt8.toNat_inj.1 e])
theorem eol_index (s : ByteArray) (i : Nat) (hi : i ≤ s.size) : Lib.indexByte (s.data.toList.drop i) 10 = if eol s i < s.size then ((eol s i - i : Nat) : Int) else -1 := by
  obtain ⟨g1, g2, g3, g4⟩ := ff_spec (fun j => bt s j == 10) (s.size - i) i
  have hn : s.data.toList.length = s.size := (Lib.size_eq s).symm
  have hge := Lib.indexByte_ge (s.data.toList.drop i) 10
  by_cases h : Lib.indexByte (s.data.toList.drop i) 10 = -1
  · have hno := Lib.indexByte_none h
    rw [if_neg, h]
    intro hlt
    have hb := g4 (show eol s i < _ by unfold eol at *; omega)
    have := hno (eol s i - i)
    rw [List.getElem?_drop] at this
    have hb2 := getD_ne (k := i + (eol s i - i)) this (by rw [hn]; have : i ≤ eol s i := g1; omega)
    have : i + (eol s i - i) = eol s i := by have : i ≤ eol s i := g1; omega
    rw [this] at hb2
    have hb : (bt s (eol s i) == 10) = true := hb
    unfold bt at hb
    have e10 : (10 : UInt8).toNat = 10 := rfl
    rw [e10] at hb2
    rw [hb2] at hb; cases hb
  · obtain ⟨o, ho⟩ : ∃ o : Nat, Lib.indexByte (s.data.toList.drop i) 10 = o := ⟨(Lib.indexByte (s.data.toList.drop i) 10).toNat, by omega⟩
    obtain ⟨h1, h2⟩ := Lib.indexByte_some ho
    rw [List.getElem?_drop] at h1
    have hlt : i + o < s.data.toList.length := (List.getElem?_eq_some_iff.1 h1).1
    have e : eol s i = i + o := ff_uniq _ (by omega) (by omega) (fun k hk1 hk2 => by
      have := h2 (k - i) (by omega)
      rw [List.getElem?_drop] at this
      have := getD_ne this (by omega)
      have e2 : i + (k - i) = k := by omega
      rw [e2] at this
      exact this) (fun _ => by
      show (bt s (i + o) == 10) = true
      unfold bt
      rw [List.getD_eq_getElem?_getD, h1]; rfl)
    rw [ho, e, if_pos (by omega)]
    congr 1; omega
theorem eoc_index (s : ByteArray) (i : Nat) (hi : i ≤ s.size) : Lib.index (s.data.toList.drop i) [42, 47] = if eoc s i < s.size then ((eoc s i - i : Nat) : Int) else -1 := by
  obtain ⟨g1, g2, g3, g4⟩ := ff_spec (fun j => atB s (ByteArray.mk #[42, 47]) j) (s.size - i) i
  have hn : s.data.toList.length = s.size := (Lib.size_eq s).symm
  have occ : ∀ j, Lib.occAt (s.data.toList.drop i) [42, 47] j = atB s (ByteArray.mk #[42, 47]) (i + j) := fun j => by
    unfold atB Lib.occAt
    rw [List.drop_drop]
  rcases Lib.index_spec (s.data.toList.drop i) [42, 47] with ⟨h1, h2⟩ | ⟨o, h1, h2, h3, h4⟩
  · rw [h1, if_neg]
    intro hlt
    have hb := g4 (show eoc s i < _ by unfold eoc at *; omega)
    have := h2 (eoc s i - i) (by rw [List.length_drop]; omega)
    rw [occ] at this
    have e : i + (eoc s i - i) = eoc s i := by have : i ≤ eoc s i := g1; omega
    rw [e] at this
    have hb : atB s (ByteArray.mk #[42, 47]) (eoc s i) = true := hb
    rw [this] at hb; cases hb
  · rw [List.length_drop, hn] at h2
    rw [occ] at h3
    have hlt : i + o + 1 < s.size := by
      rw [at2] at h3
      simp only [Bool.and_eq_true, decide_eq_true_eq] at h3
      exact h3.1
    have e : eoc s i = i + o := ff_uniq _ (by omega) (by omega) (fun k hk1 hk2 => by
      have := h4 (k - i) (by omega)
      rw [occ] at this
      have e2 : i + (k - i) = k := by omega
      rw [e2] at this
      exact this) (fun _ => h3)
    rw [h1, e, if_pos (by omega)]
    congr 1; omega
theorem at_lt {s : ByteArray} {a b : UInt8} {i : Nat} (h : atB s (ByteArray.mk #[a, b]) i = true) : i + 1 < s.size := by
  rw [at2] at h
  simp only [Bool.and_eq_true, decide_eq_true_eq] at h
  exact h.1
theorem lex_blank_is (q : Nat) (s : ByteArray) (i : Nat) (hi : i < s.size) (hs : s.size ≤ 70000) :
    lex_blank q (s.extract i s.size) = some (match blankS s i with | some (k, l) => ((k : Int), (l : Int), ()) | none => (-1, 0, ())) := by
  unfold lex_blank blankS
  have hsz := size_ext (a := i) (Nat.le_refl s.size)
  have hb : byteAt (s.extract i s.size) (0 : Int) = some ((bt s i : Nat) : Int) := by
    have := byteAt_is (s := s.extract i s.size) (i := 0) (by rw [hsz]; omega)
    rw [bt_tail] at this
    exact this
  rw [hb]
  simp only [bind_mk]
  by_cases h10 : bt s i = 10
  · rw [if_pos (by rw [h10]; rfl), if_pos h10]; rfl
  rw [if_neg (by simp; omega), if_neg h10]
  have hsp : decide ((Lib.indexByte [32, 9, 12, 13] ((bt s i : Nat) : Int).toNat.toUInt8) ≥ (0 : Int)) = isSpc (bt s i) := by
    rw [toU]; exact spc_is ⟨bt s i, bt_lt⟩
  unfold lib_strings_IndexByte
  simp only [bind_mk]
  rw [hsp]
  cases isSpc (bt s i) with
  | true => rfl
  | false =>
  simp only [Bool.false_eq_true, if_false]
  rw [has_is q s _ i (by omega)]
  simp only [bind_mk]
  cases hf : atB s (ByteArray.mk #[92, 10]) i with
  | true => rfl
  | false =>
  simp only [Bool.false_eq_true, if_false]
  rw [has_is q s _ i (by omega)]
  simp only [bind_mk]
  cases hl : atB s (ByteArray.mk #[47, 47]) i with
  | true =>
    simp only [if_true]
    rw [data_tail, show ((10 : Int)).toNat.toUInt8 = 10 from rfl, eol_index s i (by omega)]
    have g1 : i ≤ eol s i := (ff_spec _ _ _).1
    have g2 : eol s i ≤ i + (s.size - i) := (ff_spec _ _ _).2.1
    by_cases h : eol s i < s.size
    · rw [if_pos h, if_neg (by simp)]
      rfl
    · rw [if_neg h, if_pos (by decide)]
      have e : eol s i = s.size := by omega
      rw [e, hsz]; rfl
  | false =>
  simp only [Bool.false_eq_true, if_false]
  rw [has_is q s _ i (by omega)]
  simp only [bind_mk]
  cases hc : atB s (ByteArray.mk #[47, 42]) i with
  | false => rfl
  | true =>
    simp only [if_true]
    have hlt := at_lt hc
    have hsub : substr (s.extract i s.size) (2 : Int) ((s.extract i s.size).size : Int) = some (s.extract (i + 2) s.size) := by
      have h1 : substr (s.extract i s.size) ((2 : Nat) : Int) ((s.extract i s.size).size : Int) = _ := substr_is (by rw [hsz]; omega) (Nat.le_refl _)
      have e : (s.extract i s.size).extract 2 (s.extract i s.size).size = s.extract (i + 2) s.size := by
        apply ByteArray.ext
        rw [ByteArray.data_extract, ByteArray.data_extract, ByteArray.data_extract, Array.extract_extract, hsz]
        congr 1
        show min (i + (s.size - i)) s.size = _
        omega
      rw [e] at h1
      exact h1
    rw [hsub]
    simp only [bind_mk]
    unfold lib_strings_Index
    rw [if_pos (by rw [size_ext (Nat.le_refl _)]; omega)]
    simp only [bind_mk]
    rw [data_tail, eoc_index s (i + 2) (by omega)]
    have g1 : i + 2 ≤ eoc s (i + 2) := (ff_spec _ _ _).1
    by_cases h : eoc s (i + 2) < s.size
    · rw [if_pos h, if_pos h, if_neg (by simp)]
      show some (IntKind.i64.wrap (((eoc s (i + 2) - (i + 2) : Nat) : Int) + 4), _) = _
      rw [w64 (by omega) (by omega)]
      congr 2; omega
    · rw [if_neg h, if_neg h]; rfl
end Go.Ax
