/- Layer 1: what is wrong at a place is told whatever stands behind it. -/
import Derived.Test.YtbiooiikejcgbaaDoorLexFirstLexG
set_option linter.unusedVariables false
set_option linter.unusedSimpArgs false
namespace Go.Ax
open Go
theorem at1 (s : ByteArray) (a : UInt8) (i : Nat) : atB s (ByteArray.mk #[a]) i = (decide (i < s.size) && bt s i == a.toNat) := by
  unfold atB Lib.occAt bt
  rw [Lib.size_eq]
  by_cases h : i < s.data.toList.length
  · rw [drop_one' h]
    simp only [h, decide_true, Bool.true_and, List.isPrefixOf, Bool.and_true, beq_nat]
    rw [Bool.beq_comm]
  · simp only [h, decide_false, Bool.false_and]
    rw [List.drop_eq_nil_of_le (by omega)]; rfl
theorem marks_shape : ∀ m ∈ marksL, (∃ a, m = ByteArray.mk #[a]) ∨ (∃ a b, m = ByteArray.mk #[a, b] ∧ b.toNat ≠ 32) := by
  intro m hm
  simp only [marksL, List.mem_cons, List.not_mem_nil, or_false] at hm
  rcases hm with h | h | h | h | h | h | h | h | h | h | h | h | h | h | h | h | h | h | h | h | h | h | h | h | h | h | h | h | h | h | h | h | h | h | h | h | h | h | h | h | h <;> subst h <;> first | exact .inl ⟨_, rfl⟩ | exact .inr ⟨_, _, rfl, by decide⟩
/-- t is as s is up to the place p, with a blank behind it -/
structure Agree (s t : ByteArray) (p : Nat) : Prop where
  hs : p < s.size
  ht : p + 1 < t.size
  eq : ∀ j, j ≤ p → bt t j = bt s j
  sp : bt t (p + 1) = 32
section
variable {s t : ByteArray} {p : Nat}
theorem Agree.aAt2 (h : Agree s t p) {i : Nat} (hi : i + 1 ≤ p) (a b : UInt8) : atB t (ByteArray.mk #[a, b]) i = atB s (ByteArray.mk #[a, b]) i := by
  have h1 := h.hs; have h2 := h.ht
  rw [Go.Ax.at2, Go.Ax.at2, h.eq i (by omega), h.eq (i + 1) hi]
  congr 1
  rw [decide_eq_decide]; omega
theorem Agree.aAt2p (h : Agree s t p) (a b : UInt8) (hb : b.toNat ≠ 32) : atB t (ByteArray.mk #[a, b]) p = false := by
  rw [Go.Ax.at2, h.sp]
  have : ((32 : Nat) == b.toNat) = false := by simp; omega
  rw [this]; simp
theorem Agree.aAt1 (h : Agree s t p) {i : Nat} (hi : i ≤ p) (a : UInt8) : atB t (ByteArray.mk #[a]) i = atB s (ByteArray.mk #[a]) i := by
  have h1 := h.hs; have h2 := h.ht
  rw [Go.Ax.at1, Go.Ax.at1, h.eq i hi]
  congr 1
  rw [decide_eq_decide]; omega
theorem Agree.aEol (h : Agree s t p) {i : Nat} (hi : i ≤ p) (he : eol s i ≤ p) : Go.Ax.eol t i = Go.Ax.eol s i := by
  have h1 := h.hs; have h2 := h.ht
  obtain ⟨g1, g2, g3, g4⟩ := ff_spec (fun j => bt s j == 10) (s.size - i) i
  have e1 : i ≤ Go.Ax.eol s i := g1
  exact ff_uniq _ g1 (by show Go.Ax.eol s i ≤ _; omega) (fun k hk1 hk2 => by
    have hk2 : k < Go.Ax.eol s i := hk2
    show (bt t k == 10) = false
    rw [h.eq k (by omega)]; exact g3 k hk1 hk2) (fun _ => by
    show (bt t (Go.Ax.eol s i) == 10) = true
    rw [h.eq _ he]
    exact g4 (by show Go.Ax.eol s i < _; omega))
theorem Agree.aEoc (h : Agree s t p) {i : Nat} (he : eoc s i + 1 ≤ p) (hi : i ≤ p) : Go.Ax.eoc t i = Go.Ax.eoc s i := by
  have h1 := h.hs; have h2 := h.ht
  obtain ⟨g1, g2, g3, g4⟩ := ff_spec (fun j => atB s (ByteArray.mk #[42, 47]) j) (s.size - i) i
  have e1 : i ≤ Go.Ax.eoc s i := g1
  exact ff_uniq _ g1 (by show Go.Ax.eoc s i ≤ _; omega) (fun k hk1 hk2 => by
    have hk2 : k < Go.Ax.eoc s i := hk2
    show atB t _ k = false
    rw [h.aAt2 (by omega)]; exact g3 k hk1 hk2) (fun _ => by
    show atB t _ (Go.Ax.eoc s i) = true
    rw [h.aAt2 he]
    exact g4 (by show Go.Ax.eoc s i < _; omega))
theorem Agree.blank (h : Agree s t p) {i n l : Nat} (hi : i ≤ p) (hb : blankS s i = some (n, l)) (hn : i + n ≤ p) : blankS t i = some (n, l) := by
  have h1 := h.hs; have h2 := h.ht
  unfold blankS at hb ⊢
  rw [h.eq i hi]
  by_cases c1 : bt s i = 10
  · rw [if_pos c1] at hb ⊢; exact hb
  rw [if_neg c1] at hb ⊢
  by_cases c2 : isSpc (bt s i) = true
  · rw [if_pos c2] at hb ⊢; exact hb
  rw [if_neg c2] at hb ⊢
  rcases Nat.eq_or_lt_of_le hi with hip | hip
  · -- the place itself: no blank
    subst hip
    rw [h.aAt2p 92 10 (by decide), h.aAt2p 47 47 (by decide), h.aAt2p 47 42 (by decide)]
    simp only [Bool.false_eq_true, if_false]
    split at hb
    · simp only [Option.some.injEq, Prod.mk.injEq] at hb; omega
    split at hb
    · rename_i hc
      have := at_lt hc
      have g : Go.Ax.eol s i = if (bt s i == 10) = true then i else Go.Ax.eol s (i + 1) := ff_step _ _ _ (by omega)
      have hf : (bt s i == 10) = false := by simpa using c1
      rw [hf] at g
      simp only [Bool.false_eq_true, if_false] at g
      have : i + 1 ≤ Go.Ax.eol s (i + 1) := (ff_spec _ _ _).1
      simp only [Option.some.injEq, Prod.mk.injEq] at hb; omega
    split at hb
    · split at hb
      · have : i + 2 ≤ Go.Ax.eoc s (i + 2) := (ff_spec _ _ _).1
        simp only [Option.some.injEq, Prod.mk.injEq] at hb; omega
      · cases hb
    · exact hb
  · rw [h.aAt2 hip, h.aAt2 hip, h.aAt2 hip]
    by_cases c3 : atB s (ByteArray.mk #[92, 10]) i = true
    · rw [if_pos c3] at hb ⊢; exact hb
    rw [if_neg c3] at hb ⊢
    by_cases c4 : atB s (ByteArray.mk #[47, 47]) i = true
    · rw [if_pos c4] at hb ⊢
      have e1 : i ≤ Go.Ax.eol s i := (ff_spec _ _ _).1
      have he : Go.Ax.eol s i ≤ p := by
        simp only [Option.some.injEq, Prod.mk.injEq] at hb; omega
      rw [h.aEol hi he]; exact hb
    rw [if_neg c4] at hb ⊢
    by_cases c5 : atB s (ByteArray.mk #[47, 42]) i = true
    · rw [if_pos c5] at hb ⊢
      have hlt := at_lt c5
      split at hb
      · rename_i hlt2
        have e1 : i + 2 ≤ Go.Ax.eoc s (i + 2) := (ff_spec _ _ _).1
        have he : Go.Ax.eoc s (i + 2) + 2 ≤ p := by
          simp only [Option.some.injEq, Prod.mk.injEq] at hb; omega
        rw [h.aEoc (by omega) (by omega), if_pos (by omega)]; exact hb
      · cases hb
    · rw [if_neg c5] at hb ⊢; exact hb
theorem Agree.aName (h : Agree s t p) {i : Nat} (hi : i ≤ p) (he : nameEnd s i ≤ p) : Go.Ax.nameEnd t i = Go.Ax.nameEnd s i := by
  have h1 := h.hs; have h2 := h.ht
  obtain ⟨g1, g2, g3, g4⟩ := ff_spec (fun j => !(letterS (bt s j) || digitS (bt s j))) (s.size - i) i
  have e1 : i ≤ Go.Ax.nameEnd s i := g1
  exact ff_uniq _ g1 (by show Go.Ax.nameEnd s i ≤ _; omega) (fun k hk1 hk2 => by
    have hk2 : k < Go.Ax.nameEnd s i := hk2
    show (!(letterS (bt t k) || digitS (bt t k))) = false
    rw [h.eq k (by omega)]; exact g3 k hk1 hk2) (fun _ => by
    show (!(letterS (bt t (Go.Ax.nameEnd s i)) || digitS (bt t (Go.Ax.nameEnd s i)))) = true
    rw [h.eq _ he]
    exact g4 (by show Go.Ax.nameEnd s i < _; omega))
theorem Agree.aNum (h : Agree s t p) {i : Nat} (hi : i ≤ p) (he : numEnd s i ≤ p) : Go.Ax.numEnd t i = Go.Ax.numEnd s i := by
  have h1 := h.hs; have h2 := h.ht
  obtain ⟨g1, g2, g3, g4⟩ := ff_spec (fun j => !digitS (bt s j)) (s.size - i) i
  have e1 : i ≤ Go.Ax.numEnd s i := g1
  exact ff_uniq _ g1 (by show Go.Ax.numEnd s i ≤ _; omega) (fun k hk1 hk2 => by
    have hk2 : k < Go.Ax.numEnd s i := hk2
    show (!digitS (bt t k)) = false
    rw [h.eq k (by omega)]; exact g3 k hk1 hk2) (fun _ => by
    show (!digitS (bt t (Go.Ax.numEnd s i))) = true
    rw [h.eq _ he]
    exact g4 (by show Go.Ax.numEnd s i < _; omega))
theorem Agree.aVal (h : Agree s t p) (e : Nat) (he : e ≤ p) (hstop : digitS (bt s e) = false) : ∀ (d d' j a : Nat), j ≤ e → e - j < d → e - j < d' → Go.Ax.numV t d' j a = Go.Ax.numV s d j a
  | 0, _, _, _, _, h, _ => by omega
  | _ + 1, 0, _, _, _, _, h => by omega
  | d + 1, d' + 1, j, a, hj, hd, hd' => by
    unfold Go.Ax.numV
    rw [h.eq j (by omega)]
    by_cases hje : j = e
    · subst hje
      rw [hstop]; rfl
    · split
      · exact Agree.aVal h e he hstop d d' (j + 1) _ (by omega) (by omega) (by omega)
      · rfl
theorem Agree.aTxt (h : Agree s t p) (e : Nat) (he : e ≤ p) : ∀ (d d' j : Nat), Go.Ax.txt s d j = some e → p < j + d' → Go.Ax.txt t d' j = some e
  | 0, _, _, h, _ => by cases h
  | d + 1, 0, j, hx, hd => by
    have := (txt_ge s _ _ _ hx).1
    omega
  | d + 1, d' + 1, j, hx, hd => by
    have h1 := h.hs; have h2 := h.ht
    have hge := (txt_ge s _ _ _ hx).1
    unfold Go.Ax.txt at hx ⊢
    rw [if_pos (by omega)] at hx
    rw [if_pos (by omega), h.eq j (by omega)]
    by_cases c1 : bt s j = 34
    · rw [if_pos c1] at hx ⊢; exact hx
    rw [if_neg c1] at hx ⊢
    by_cases c2 : bt s j = 10
    · rw [if_pos c2] at hx; cases hx
    rw [if_neg c2] at hx ⊢
    by_cases c3 : bt s j = 92
    · rw [if_pos c3] at hx ⊢
      split at hx
      · rename_i hc
        have hge2 := (txt_ge s _ _ _ hx).1
        rw [if_pos ⟨by omega, by rw [h.eq (j + 1) (by omega)]; exact hc.2⟩]
        exact Agree.aTxt h e he d d' (j + 2) hx (by omega)
      · cases hx
    · rw [if_neg c3] at hx ⊢
      exact Agree.aTxt h e he d d' (j + 1) hx (by omega)
theorem fbad_congr {α : Type} {f g : α → Bool} : ∀ {l : List α} {i : Nat}, (∀ x ∈ l, f x = g x) → fbad f l i = fbad g l i
  | [], _, _ => rfl
  | x :: l, i, h => by
    unfold fbad
    rw [h x (by simp), fbad_congr fun y hy => h y (List.mem_cons_of_mem _ hy)]
theorem Agree.aMark (h : Agree s t p) {i : Nat} (hi : i + 1 ≤ p) : markS t i = markS s i := by
  unfold markS
  refine fbad_congr fun m hm => ?_
  rcases marks_shape m hm with ⟨a, rfl⟩ | ⟨a, b, rfl, _⟩
  · rw [h.aAt1 (by omega)]
  · rw [h.aAt2 hi]
theorem Agree.tok (h : Agree s t p) {i k a b v n : Nat} (hi : i ≤ p) (hx : tokS s i = .inr (k, a, b, v, n)) (hn : i + n ≤ p) : tokS t i = .inr (k, a, b, v, n) := by
  have h1 := h.hs; have h2 := h.ht
  have hle := tokS_le (by omega) hx
  unfold tokS at hx ⊢
  rw [h.eq i hi]
  by_cases c1 : letterS (bt s i) = true
  · rw [if_pos c1] at hx ⊢
    split at hx
    · cases hx
    · rename_i c
      have := nameEnd_ge s i (by omega)
      have he : nameEnd s i ≤ p := by simp only [Sum.inr.injEq, Prod.mk.injEq] at hx; omega
      rw [h.aName hi he, if_neg c]; exact hx
  rw [if_neg c1] at hx ⊢
  by_cases c2 : digitS (bt s i) = true
  · rw [if_pos c2] at hx ⊢
    split at hx
    · cases hx
    · rename_i c
      have hne := numEnd_ge s i (by omega)
      have he : numEnd s i ≤ p := by simp only [Sum.inr.injEq, Prod.mk.injEq] at hx; omega
      have hstop : digitS (bt s (numEnd s i)) = false := by
        have h5 : (!digitS (bt s (numEnd s i))) = true := (ff_spec (fun j => !digitS (bt s j)) (s.size - i) i).2.2.2 (show numEnd s i < _ by omega)
        simpa using h5
      rw [h.aNum hi he, h.aVal (numEnd s i) he hstop (s.size - i) (t.size - i) i 0 hne.1 (by omega) (by omega), if_neg c]; exact hx
  rw [if_neg c2] at hx ⊢
  by_cases c3 : bt s i = 34
  · rw [if_pos c3] at hx ⊢
    split at hx
    · cases hx
    · rename_i e he
      split at hx
      · cases hx
      · rename_i c
        have hge := txt_ge s _ _ _ he
        have hep : e ≤ p := by simp only [Sum.inr.injEq, Prod.mk.injEq] at hx; omega
        rw [h.aTxt e hep s.size t.size (i + 1) he (by omega)]
        simp only
        rw [if_neg c]; exact hx
  rw [if_neg c3] at hx ⊢
  by_cases c4 : bt s i = 39
  · rw [if_pos c4] at hx ⊢
    split at hx
    · cases hx
    · rename_i v' n' he
      have hcl := charS_le s i v' n' he
      have hnp : i + n' ≤ p := by simp only [Sum.inr.injEq, Prod.mk.injEq] at hx; omega
      have hc : charS t i = charS s i := by
        unfold charS at he ⊢
        rw [h.eq (i + 1) (by omega), h.eq (i + 2) (by omega)]
        by_cases d1 : i + 2 < s.size ∧ bt s (i + 2) = 39 ∧ bt s (i + 1) ≠ 39 ∧ bt s (i + 1) ≠ 92 ∧ bt s (i + 1) ≠ 10
        · rw [if_pos d1, if_pos ⟨by omega, d1.2⟩]
        · rw [if_neg d1] at he ⊢
          rw [if_neg (fun q => d1 ⟨by omega, q.2⟩)]
          split at he
          · rename_i d2
            have h4 : n' = 4 := by
              unfold escS at he
              repeat' split at he
              all_goals first | (simp only [Option.some.injEq, Prod.mk.injEq] at he; omega) | cases he
            rw [if_pos d2, h.eq (i + 3) (by omega), if_pos ⟨by omega, d2.2⟩]
          · cases he
      rw [hc, he]; exact hx
  rw [if_neg c4] at hx ⊢
  rw [h.aMark (by omega)]
  exact hx
theorem Agree.bad (h : Agree s t p) (hx : tokS s p = .inl 2) : tokS t p = .inl 2 := by
  unfold tokS at hx ⊢
  rw [h.eq p (Nat.le_refl _)]
  by_cases c1 : letterS (bt s p) = true
  · rw [if_pos c1] at hx
    split at hx <;> simp at hx
  rw [if_neg c1] at hx ⊢
  by_cases c2 : digitS (bt s p) = true
  · rw [if_pos c2] at hx
    split at hx <;> simp at hx
  rw [if_neg c2] at hx ⊢
  by_cases c3 : bt s p = 34
  · rw [if_pos c3] at hx
    split at hx
    · simp at hx
    · split at hx <;> simp at hx
  rw [if_neg c3] at hx ⊢
  by_cases c4 : bt s p = 39
  · rw [if_pos c4] at hx
    split at hx <;> simp at hx
  rw [if_neg c4] at hx ⊢
  have hm : markS s p = none := by
    cases hm : markS s p with
    | none => rfl
    | some m => rw [hm] at hx; simp at hx
  have hall := fbad_none.1 (show fbad (fun m => !atB s m p) marksL 0 = none from hm)
  have : markS t p = none := by
    unfold markS
    rw [fbad_none, List.all_eq_true]
    intro m hmm
    have hs := List.all_eq_true.1 hall m hmm
    rcases marks_shape m hmm with ⟨a, rfl⟩ | ⟨a, b, rfl, hb⟩
    · rw [h.aAt1 (Nat.le_refl _)]; exact hs
    · rw [h.aAt2p a b hb]; rfl
  rw [this]
theorem runS_pos (s : ByteArray) : ∀ (f i ln c e p : Nat), i ≤ s.size → e ≠ 0 → runS s f i ln c = .inl (e, p) → i ≤ p ∧ p < s.size
  | 0, _, _, _, _, _, _, h0, h => by
    simp only [runS, Sum.inl.injEq, Prod.mk.injEq] at h; omega
  | f + 1, i, ln, c, e, p, hi, h0, h => by
    unfold runS at h
    split at h
    · cases h
    · have hlt : i < s.size := by omega
      split at h
      · simp only [Sum.inl.injEq, Prod.mk.injEq] at h; omega
      · rename_i n l hbl
        obtain ⟨b1, b2⟩ := blankS_le hlt hbl
        split at h
        · have := runS_pos s f _ _ c e p b1 h0 h; omega
        · split at h
          · simp only [Sum.inl.injEq, Prod.mk.injEq] at h; omega
          · rename_i k a b v n' htk
            obtain ⟨t1, t2, _⟩ := tokS_le hlt htk
            split at h
            · simp only [Sum.inl.injEq, Prod.mk.injEq] at h; omega
            · split at h
              · rename_i e' hr
                simp only [Sum.inl.injEq] at h
                subst h
                have := runS_pos s f _ _ _ e p t2 h0 hr; omega
              · cases h
theorem Agree.run (h : Agree s t p) : ∀ (f f' i ln c : Nat), i ≤ s.size → runS s f i ln c = .inl (2, p) → p + 1 - i ≤ f' → runS t f' i ln c = .inl (2, p)
  | 0, _, _, _, _, _, hx, _ => by simp [runS] at hx
  | f + 1, f', i, ln, c, hi, hx, hf => by
    have h1 := h.hs; have h2 := h.ht
    have hp := runS_pos s (f + 1) i ln c 2 p hi (by omega) hx
    obtain ⟨f', rfl⟩ : ∃ m, f' = m + 1 := ⟨f' - 1, by omega⟩
    unfold runS at hx ⊢
    rw [if_neg (by omega)] at hx ⊢
    have hlt : i < s.size := by omega
    split at hx
    · simp only [Sum.inl.injEq, Prod.mk.injEq] at hx; omega
    · rename_i n l hbl
      obtain ⟨b1, b2⟩ := blankS_le hlt hbl
      split at hx
      · rename_i hn
        have hp2 := runS_pos s f _ _ c 2 p b1 (by omega) hx
        rw [h.blank hp.1 hbl hp2.1]
        simp only
        rw [if_pos hn]
        exact Agree.run h f f' _ _ c b1 hx (by omega)
      · rename_i hn
        rw [h.blank hp.1 hbl (by omega)]
        simp only
        rw [if_neg hn]
        split at hx
        · rename_i e he
          simp only [Sum.inl.injEq, Prod.mk.injEq] at hx
          obtain ⟨rfl, rfl⟩ := hx
          rw [h.bad he]
        · rename_i k a b v n' htk
          obtain ⟨t1, t2, _⟩ := tokS_le hlt htk
          split at hx
          · simp only [Sum.inl.injEq, Prod.mk.injEq] at hx; omega
          · rename_i hc
            split at hx
            · rename_i e' hr
              simp only [Sum.inl.injEq] at hx
              subst hx
              have hp2 := runS_pos s f _ _ _ 2 p t2 (by omega) hr
              rw [h.tok hp.1 htk hp2.1]
              simp only
              rw [if_neg hc, Agree.run h f f' _ _ _ t2 hr (by omega)]
            · cases hx
end
theorem bt_app_left {x y : ByteArray} {j : Nat} (h : j < x.size) : bt (x ++ y) j = bt x j := by
  unfold bt
  rw [ByteArray.data_append, Array.toList_append, List.getD_eq_getElem?_getD, List.getElem?_append_left (by rw [← Lib.size_eq]; exact h), ← List.getD_eq_getElem?_getD]
theorem bt_app_right {x y : ByteArray} {j : Nat} : bt (x ++ y) (x.size + j) = bt y j := by
  unfold bt
  rw [ByteArray.data_append, Array.toList_append, List.getD_eq_getElem?_getD, List.getElem?_append_right (by rw [← Lib.size_eq]; omega), ← Lib.size_eq]
  rw [show x.size + j - x.size = j by omega, ← List.getD_eq_getElem?_getD]
theorem bt_head {s : ByteArray} {a j : Nat} (hj : j < a) (ha : a ≤ s.size) : bt (s.extract 0 a) j = bt s j := by
  unfold bt
  rw [Lib.extract_data, List.drop_zero, List.getD_eq_getElem?_getD, List.getElem?_take_of_lt (by omega), ← List.getD_eq_getElem?_getD]
theorem law01_LexFirst_is (q : Nat) (s more : ByteArray) (hq : 70010 ≤ q) : law01_LexFirst q s more = some (true, ()) := by
  unfold law01_LexFirst
  rw [lex_Tokens_is q s hq, ref01_Tokens_is q s hq]
  simp only [bind_mk, or_any]
  have a2 : ((tokensS s).2.1 == (tokensS s).2.1) = true := by simp
  have a3 : ((tokensS s).2.2.1 == (tokensS s).2.2.1) = true := by simp
  cases hc : (((tokensS s).2.1 != (2 : Int)) || decide ((s.size : Int) > (60000 : Int))) || decide ((more.size : Int) > (5000 : Int)) with
  | true => simp only [if_true, a2, a3, bind_mk]
  | false =>
    simp only [Bool.or_eq_false_iff, decide_eq_false_iff_not] at hc
    obtain ⟨⟨c1, c2⟩, c3⟩ := hc
    have hsz : s.size ≤ 60000 := by omega
    have hmz : more.size ≤ 5000 := by omega
    simp only [Bool.false_eq_true, if_false]
    have c1 : (tokensS s).2.1 = 2 := by simpa using c1
    have hbig : ¬ 65535 < s.size := by omega
    obtain ⟨p, hrun⟩ : ∃ p, runS s (s.size + 1) 0 1 0 = .inl (2, p) := by
      unfold tokensS at c1
      rw [if_neg hbig] at c1
      cases hr : runS s (s.size + 1) 0 1 0 with
      | inl r =>
        obtain ⟨e, p⟩ := r
        rw [hr] at c1
        have c1 : (e : Int) = 2 := c1
        refine ⟨p, ?_⟩
        congr 2; omega
      | inr ts => rw [hr] at c1; cases c1
    have hts : tokensS s = ([], 2, (p : Int), ()) := by
      unfold tokensS
      rw [if_neg hbig, hrun]; rfl
    obtain ⟨_, hp⟩ := runS_pos s _ 0 1 0 2 p (by omega) (by omega) hrun
    rw [hts]
    simp only
    have d1 : decide ((p : Int) < 0) = false := by simp
    have d2 : decide ((p : Int) ≥ (s.size : Int)) = false := by simp; omega
    have hsub : substr s (0 : Int) (((p + 1 : Nat)) : Int) = some (s.extract 0 (p + 1)) := substr_is (l := 0) (by omega) (by omega)
    simp only [d1, d2, Bool.or_self, Bool.false_eq_true, if_false]
    rw [wadd1 (by omega), hsub]
    simp only [bind_mk]
    have z1 : (s.extract 0 (p + 1)).size = p + 1 := by rw [size_ext (by omega)]; omega
    have z2 : (ByteArray.mk #[32]).size = 1 := rfl
    have z3 : (s.extract 0 (p + 1) ++ ByteArray.mk #[32]).size = p + 2 := by rw [ByteArray.size_append, z1, z2]
    rw [if_pos (by rw [z1, z2]; omega), if_pos (by rw [z3]; omega)]
    obtain ⟨t, ht⟩ : ∃ t, t = s.extract 0 (p + 1) ++ ByteArray.mk #[32] ++ more := ⟨_, rfl⟩
    have z4 : t.size = p + 2 + more.size := by rw [ht, ByteArray.size_append, z3]
    have hag : Agree s t p := ⟨hp, by omega, fun j hj => by
      rw [ht, bt_app_left (by rw [z3]; omega), bt_app_left (by rw [z1]; omega), bt_head (by omega) (by omega)], by
      rw [ht, bt_app_left (by rw [z3]; omega)]
      have := bt_app_right (x := s.extract 0 (p + 1)) (y := ByteArray.mk #[32]) (j := 0)
      rw [z1, Nat.add_zero] at this
      rw [this]; rfl⟩
    have hrt := hag.run (s.size + 1) (t.size + 1) 0 1 0 (by omega) hrun (by omega)
    have htt : tokensS t = ([], 2, (p : Int), ()) := by
      unfold tokensS
      rw [if_neg (by omega), hrt]; rfl
    rw [← ht, lex_Tokens_is q t hq, htt]
    simp
end Go.Ax
