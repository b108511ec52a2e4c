/- Layer 1: each token stands where it says. -/
import Derived.Test.YtbiooiikejcgbaaDoorLexPlacesLexG
set_option linter.unusedVariables false
set_option linter.unusedSimpArgs false
namespace Go.Ax
open Go
inductive Blanks (s : ByteArray) : Nat → Nat → Prop
  | refl (a : Nat) : Blanks s a a
  | step (a n l b : Nat) (ha : a < s.size) (h : blankS s a = some (n, l)) (hn : 0 < n) (hb : Blanks s (a + n) b) : Blanks s a b
theorem Blanks.le {s : ByteArray} {a b : Nat} (h : Blanks s a b) : a ≤ b := by
  induction h with
  | refl a => exact Nat.le_refl _
  | step a n l b ha h hn hb ih => omega
theorem Blanks.trans {s : ByteArray} {a b c : Nat} (h : Blanks s a b) (h' : Blanks s b c) : Blanks s a c := by
  induction h with
  | refl a => exact h'
  | step a n l b ha h hn hb ih => exact .step a n l c ha h hn (ih h')
def tokOK (s : ByteArray) (t : TokR) (n : Nat) : Prop :=
  t.p + n ≤ s.size ∧ (t.k ≠ 3 → (s.extract t.a t.b).size = n ∧ s.extract t.p (t.p + n) = s.extract t.a t.b) ∧ (t.k = 3 → (s.extract t.a t.b).size + 2 = n ∧ s.extract (t.p + 1) (t.p + n - 1) = s.extract t.a t.b)
def Tiled (s : ByteArray) : Nat → List TokR → Prop
  | _, [] => False
  | e, t :: ts => Blanks s e t.p ∧ ∃ n, tokOK s t n ∧ ((t.k = 0 ∧ ts = [] ∧ t.p + n = s.size) ∨ (t.k ≠ 0 ∧ Tiled s (t.p + n) ts))
theorem extract_self (s : ByteArray) (i : Nat) : s.extract i i = emp := by
  apply ByteArray.ext
  rw [ByteArray.data_extract]
  show s.data.extract i i = #[]
  simp
  omega
theorem runS_tiled (s : ByteArray) : ∀ (f i ln c e : Nat) (ts : List TokR), i ≤ s.size → Blanks s e i → runS s f i ln c = .inr ts → Tiled s e ts
  | 0, _, _, _, _, _, _, _, h => by cases h
  | f + 1, i, ln, c, e, ts, hi, hb, h => by
    unfold runS at h
    split at h
    · rename_i he
      simp only [Sum.inr.injEq] at h
      subst h
      refine ⟨hb, 0, ⟨by simp; omega, fun _ => ?_, fun h => by cases h⟩, .inl ⟨rfl, rfl, he⟩⟩
      show (s.extract 0 0).size = 0 ∧ s.extract i (i + 0) = s.extract 0 0
      rw [Nat.add_zero, extract_self, extract_self]
      exact ⟨rfl, rfl⟩
    · rename_i he
      have hlt : i < s.size := by omega
      split at h
      · cases h
      · rename_i n l hbl
        obtain ⟨b1, b2⟩ := blankS_le hlt hbl
        split at h
        · rename_i hn
          exact runS_tiled s f (i + n) _ c e ts b1 (hb.trans (.step i n l (i + n) hlt hbl hn (.refl _))) h
        · split at h
          · cases h
          · rename_i k a b v n' htk
            obtain ⟨t1, t2, t3, t4, t5⟩ := tokS_le hlt htk
            split at h
            · cases h
            · split at h
              · cases h
              · rename_i ts' hr
                simp only [Sum.inr.injEq] at h
                subst h
                have ih := runS_tiled s f (i + n') ln (c + 1) (i + n') ts' t2 (.refl _) hr
                refine ⟨hb, n', ⟨t2, fun hk => ?_, fun hk => ?_⟩, .inr ⟨by show k ≠ 0; omega, ih⟩⟩
                · obtain ⟨rfl, rfl⟩ := t4 hk
                  exact ⟨by dsimp only; rw [size_ext t2]; omega, rfl⟩
                · obtain ⟨rfl, rfl, h2⟩ := t5 hk
                  refine ⟨by dsimp only; rw [size_ext (by omega)]; omega, ?_⟩
                  rfl
theorem strEq_self (x : ByteArray) : strEq x x = true := by unfold strEq; simp
theorem places_l1_is (q : Nat) (s : ByteArray) (hs : s.size ≤ 70000) (hq : 70010 ≤ q) (t : TokR) (x3 : Int) (x5 : List T) : ∀ (e : Nat), Blanks s e t.p → t.p ≤ s.size → ∀ k, t.p - e < k →
    law01_LexPlaces_l1 q k s e x3 x5 (t.enc s) = some (.inl (s, (), (t.p : Int), x3, (), x5, t.enc s, ())) := by
  intro e hb
  generalize hp : t.p = p at hb
  intro hps
  induction hb with
  | refl a =>
    intro k hk
    obtain ⟨k, rfl⟩ : ∃ m, k = m + 1 := ⟨k - 1, by omega⟩
    unfold law01_LexPlaces_l1
    have hl : T.leaf (t.enc s) 1 = T.int .i64 (t.p : Int) := rfl
    rw [hl, asInt_mk, hp]
    simp only [bind_mk]
    rw [if_neg (by simp)]
  | step a n l b ha h hn hb ih =>
    intro k hk
    have hle := hb.le
    obtain ⟨k, rfl⟩ : ∃ m, k = m + 1 := ⟨k - 1, by omega⟩
    unfold law01_LexPlaces_l1
    have hl : T.leaf (t.enc s) 1 = T.int .i64 (t.p : Int) := rfl
    rw [hl, asInt_mk, hp]
    simp only [bind_mk]
    rw [if_pos (by simp; omega), ref01_Blank_is q s a ha hs hq, h]
    simp only [bind_mk]
    have hz : ((n : Int) == 0) = false := by simp; omega
    rw [hz]
    simp only [Bool.not_true, Bool.false_eq_true, if_false, bind_mk]
    rw [wadd (by omega)]
    exact ih hp hps k (by omega)
theorem places_step (q : Nat) (s : ByteArray) (hs : s.size ≤ 70000) (hq : 70010 ≤ q) (all : List TokR) (hall : all.length ≤ 9000) (i e n k : Nat) (hi : i < all.length) (hb : Blanks s e all[i].p) (ht : tokOK s all[i] n)
    (hk : all[i].k = 0 ↔ i + 1 = all.length) : law01_LexPlaces_l0 q (k + 1) s e i (all.map (TokR.enc s)) = law01_LexPlaces_l0 q k s ((all[i].p + n : Nat) : Int) ((i + 1 : Nat) : Int) (all.map (TokR.enc s)) := by
  have hget : (all.map (TokR.enc s))[(Int.toNat (i : Int))]? = some (all[i].enc s) := by
    rw [Int.toNat_natCast, List.getElem?_map, List.getElem?_eq_getElem hi]; rfl
  generalize htt : all[i] = t at *
  obtain ⟨h1, h2, h3⟩ := ht
  have hle := hb.le
  simp only [law01_LexPlaces_l0]
  have hr : (0 : Int) ≤ (i : Int) ∧ (i : Int) < ((all.map (TokR.enc s)).length : Int) := by simp; omega
  rw [if_pos (by simp; omega), if_pos hr, hget]
  have hpart : T.part (t.enc s) 0 5 = some (t.enc s) := rfl
  have hwid : T.width (t.enc s) = 5 := rfl
  have l0 : T.leaf (t.enc s) 0 = T.int .i64 (t.k : Int) := rfl
  have l1 : T.leaf (t.enc s) 1 = T.int .i64 (t.p : Int) := rfl
  have l3 : T.leaf (t.enc s) 3 = T.str (s.extract t.a t.b) := rfl
  simp only [bind_mk, hpart, hwid, if_true, l0, l1, l3, asInt_mk, asStr_mk]
  have c1 : decide ((t.p : Int) < (e : Int)) = false := by simp; omega
  have c2 : decide ((t.p : Int) > (s.size : Int)) = false := by simp; omega
  have c3 : ((t.k : Int) == 0) = ((i : Int) == IntKind.i64.wrap (((all.map (TokR.enc s)).length : Int) - 1)) := by
    rw [List.length_map, w64 (by omega) (by omega), Bool.eq_iff_iff]
    simp only [beq_iff_eq]
    omega
  simp only [c1, c2, c3, BEq.rfl, Bool.not_true, Bool.false_eq_true, if_false, bind_mk]
  rw [places_l1_is q s hs hq t (i : Int) (all.map (TokR.enc s)) e hb (by omega) q (by omega)]
  simp only [cutB_inl, l0, l1, l3, asInt_mk, asStr_mk, bind_mk]
  have i3 : ((t.k : Int) == 3) = (t.k == 3) := ib t.k 3
  have n3 : ((t.k : Int) != 3) = (t.k != 3) := ibn t.k 3
  rw [i3]
  by_cases h3' : t.k = 3
  · obtain ⟨g1, g2⟩ := h3 h3'
    have b1 : (t.k == 3) = true := by simp [h3']
    have b2 : (t.k != 3) = false := by simp [h3']
    simp only [b1, if_true, cutB_inl, l0, l1, l3, asInt_mk, asStr_mk, bind_mk, i3, n3, b2, Bool.false_eq_true, if_false]
    rw [wadd2 (by omega), g1]
    have d1 : ((t.p : Int) != (t.p : Int)) = false := by simp
    have d2 : decide (IntKind.i64.wrap ((t.p : Int) + (n : Int)) > (s.size : Int)) = false := by rw [wadd (by omega)]; simp; omega
    simp only [d1, d2, Bool.false_eq_true, if_false, bind_mk]
    have hw : IntKind.i64.wrap (((t.p + n : Nat) : Int) - 1) = ((t.p + n - 1 : Nat) : Int) := by rw [w64 (by omega) (by omega)]; omega
    rw [wadd1 (by omega), wadd (by omega), hw, substr_is (by omega) (by omega), g2]
    simp only [bind_mk, strEq_self, Bool.not_true, Bool.false_eq_true, if_false, cutB_inl]
    rw [wadd1 (by omega)]
  · obtain ⟨g1, g2⟩ := h2 h3'
    have b1 : (t.k == 3) = false := by simp [h3']
    have b2 : (t.k != 3) = true := by simp [h3']
    simp only [b1, if_true, cutB_inl, l0, l1, l3, asInt_mk, asStr_mk, bind_mk, i3, n3, b2, Bool.false_eq_true, if_false]
    rw [g1]
    have d1 : ((t.p : Int) != (t.p : Int)) = false := by simp
    have d2 : decide (IntKind.i64.wrap ((t.p : Int) + (n : Int)) > (s.size : Int)) = false := by rw [wadd (by omega)]; simp; omega
    simp only [d1, d2, Bool.false_eq_true, if_false, bind_mk]
    rw [wadd (by omega), substr_is (by omega) (by omega), g2]
    simp only [bind_mk, strEq_self, Bool.not_true, Bool.false_eq_true, if_false, cutB_inl]
    rw [wadd1 (by omega)]
theorem tiled_get {s : ByteArray} : ∀ {ts : List TokR} {e : Nat}, Tiled s e ts → ts ≠ []
  | [], _, h => h.elim
  | _ :: _, _, _ => by simp
theorem places_l0_is (q : Nat) (s : ByteArray) (hs : s.size ≤ 70000) (hq : 70010 ≤ q) (all : List TokR) (hall : all.length ≤ 9000) : ∀ (ts : List TokR) (i e k : Nat), all.drop i = ts → Tiled s e ts → ts.length < k →
    law01_LexPlaces_l0 q k s e i (all.map (TokR.enc s)) = some (.inl (s, (s.size : Int), ()))
  | [], _, _, _, _, h, _ => h.elim
  | t :: ts, i, e, k, hd, ⟨hb, n, hn, h⟩, hk => by
    have hi : i < all.length := by
      rcases Nat.lt_or_ge i all.length with h' | h'
      · exact h'
      · rw [List.drop_eq_nil_of_le h'] at hd; cases hd
    have hc := List.drop_eq_getElem_cons hi
    rw [hd] at hc
    simp only [List.cons.injEq] at hc
    obtain ⟨ht, hts⟩ := hc
    obtain ⟨k, rfl⟩ : ∃ m, k = m + 1 := ⟨k - 1, by omega⟩
    subst ht
    have hlast : all[i].k = 0 ↔ i + 1 = all.length := by
      have hl : ts.length = all.length - (i + 1) := by rw [hts, List.length_drop]
      rcases h with ⟨h1, h2, _⟩ | ⟨h1, h2⟩
      · subst h2
        simp at hl
        constructor
        · intro _; omega
        · intro _; exact h1
      · have := tiled_get h2
        have hp : 0 < ts.length := List.length_pos_iff.2 this
        constructor
        · intro h; exact absurd h h1
        · intro h; omega
    rw [places_step q s hs hq all hall i e n k hi hb hn hlast]
    rcases h with ⟨h1, h2, h3⟩ | ⟨h1, h2⟩
    · have : i + 1 = all.length := hlast.1 h1
      obtain ⟨k, rfl⟩ : ∃ m, k = m + 1 := ⟨k - 1, by simp at hk; omega⟩
      simp only [law01_LexPlaces_l0]
      rw [if_neg (by simp; omega), h3]
    · exact places_l0_is q s hs hq all hall ts (i + 1) _ k (by rw [← hts]) h2 (by simp at hk; omega)
theorem runS_len (s : ByteArray) : ∀ (f i ln c : Nat) (ts : List TokR), c ≤ 8191 → runS s f i ln c = .inr ts → c + ts.length ≤ 8192
  | 0, _, _, _, _, _, h => by cases h
  | f + 1, i, ln, c, ts, hc, h => by
    unfold runS at h
    split at h
    · simp only [Sum.inr.injEq] at h; subst h; simp; omega
    · split at h
      · cases h
      · split at h
        · exact runS_len s f _ _ c ts hc h
        · split at h
          · cases h
          · split at h
            · cases h
            · split at h
              · cases h
              · rename_i ts' hr
                simp only [Sum.inr.injEq] at h
                subst h
                have := runS_len s f _ _ (c + 1) ts' (by omega) hr
                simp; omega
theorem runS_err (s : ByteArray) : ∀ (f i ln c e p : Nat), s.size - i < f → i ≤ s.size → runS s f i ln c = .inl (e, p) → e ≠ 0 ∧ p < s.size
  | 0, _, _, _, _, _, h, _, _ => by omega
  | f + 1, i, ln, c, e, p, hf, hi, h => by
    unfold runS at h
    split at h
    · cases h
    · have hlt : i < s.size := by omega
      split at h
      · simp only [Sum.inl.injEq, Prod.mk.injEq] at h; omega
      · rename_i n l hbl
        obtain ⟨b1, b2⟩ := blankS_le hlt hbl
        split at h
        · exact runS_err s f _ _ c e p (by omega) b1 h
        · split at h
          · rename_i e' he'
            have := tokS_err he'
            simp only [Sum.inl.injEq, Prod.mk.injEq] at h; omega
          · rename_i k a b v n' htk
            obtain ⟨t1, t2, _⟩ := tokS_le hlt htk
            split at h
            · simp only [Sum.inl.injEq, Prod.mk.injEq] at h; omega
            · split at h
              · rename_i e' hr
                simp only [Sum.inl.injEq] at h
                subst h
                exact runS_err s f _ _ _ e p (by omega) t2 hr
              · cases h
theorem law01_LexPlaces_is (q : Nat) (s : ByteArray) (hq : 70010 ≤ q) : law01_LexPlaces q s = some (true, ()) := by
  unfold law01_LexPlaces
  rw [lex_Tokens_is q s hq, ref01_Tokens_is q s hq]
  simp only [bind_mk]
  have a1 : ((tokensS s).2.1 != (tokensS s).2.1) = false := by simp
  have a2 : ((tokensS s).2.1 == (tokensS s).2.1) = true := by simp
  have a3 : ((tokensS s).2.2.1 == (tokensS s).2.2.1) = true := by simp
  simp only [a1, a2, a3, Bool.false_eq_true, if_false, if_true, bind_mk]
  unfold tokensS
  by_cases h : 65535 < s.size
  · rw [if_pos h]; rfl
  · rw [if_neg h]
    cases hr : runS s (s.size + 1) 0 1 0 with
    | inl r =>
      obtain ⟨e, p⟩ := r
      have := runS_err s (s.size + 1) 0 1 0 e p (by omega) (by omega) hr
      have hz : ((e : Int) != 0) = true := by simp; omega
      simp only [fin, hz, if_true]
      rfl
    | inr ts =>
      have htl := runS_tiled s (s.size + 1) 0 1 0 0 ts (by omega) (.refl _) hr
      have hlen := runS_len s (s.size + 1) 0 1 0 ts (by omega) hr
      have hne := tiled_get htl
      have hp : 0 < ts.length := List.length_pos_iff.2 hne
      have hz : ((0 : Int) != 0) = false := rfl
      simp only [fin, hz, Bool.false_eq_true, if_false, List.nil_append]
      have hl0 : (((ts.map (TokR.enc s)).length : Int) == 0) = false := by rw [List.length_map]; simp; exact hne
      simp only [hl0, Bool.false_eq_true, if_false]
      have := places_l0_is q s (by omega) hq ts (by omega) ts 0 0 q rfl htl (by omega)
      have this' : law01_LexPlaces_l0 q q s 0 0 (ts.map (TokR.enc s)) = _ := this
      rw [this']
      simp [cutB_inl]
end Go.Ax
