/- Layer 23: texts as lists of bytes; decimals; pieces between blanks: in plain Lean, no program. -/
import Derived.Test.YtcpcbmebpmokbaaDoorAxY
import Derived.Lib.ItoaNum
import Derived.Lib.ItoaMem
import Derived.Lib.ItoaLen
import Derived.Lib.ParseIntB
import Derived.Lib.Split
import Derived.Lib.SplitLaws
set_option linter.unusedVariables false
set_option linter.unusedSimpArgs false
namespace Go.Ax
open Go
@[reducible] def bl (l : List UInt8) : ByteArray := ⟨l.toArray⟩
theorem bl_list (l : List UInt8) : (bl l).data.toList = l := rfl
theorem bl_of (s : ByteArray) : bl s.data.toList = s := rfl
theorem bl_app (a b : List UInt8) : bl (a ++ b) = bl a ++ bl b := by
  apply ByteArray.ext; simp
theorem bl_size (l : List UInt8) : (bl l).size = l.length := rfl
theorem bl_inj {a b : List UInt8} (h : bl a = bl b) : a = b := congrArg (fun s : ByteArray => s.data.toList) h
theorem data_app (a b : ByteArray) : (a ++ b).data.toList = a.data.toList ++ b.data.toList := by simp
theorem strEq_is (a b : ByteArray) : strEq a b = decide (a = b) := by
  unfold strEq
  rw [ByteArray.toList_eq, ByteArray.toList_eq]
  by_cases h : a = b
  · subst h; simp
  · have : ¬ a.data = b.data := fun e => h (ByteArray.ext e)
    simp [h, this]
theorem strEq_bl (a b : List UInt8) : strEq (bl a) (bl b) = decide (a = b) := by
  rw [strEq_is]
  by_cases h : a = b
  · subst h; simp
  · have : bl a ≠ bl b := fun e => h (bl_inj e)
    simp [h, this]
theorem byteAt_bl {s : ByteArray} {i : Nat} (h : i < s.data.toList.length) : byteAt s (i : Int) = some ((s.data.toList[i].toNat : Nat) : Int) := by
  unfold byteAt
  rw [if_pos (by omega), Int.toNat_natCast]
  show (s.data[i]?).map _ = _
  rw [← Array.getElem?_toList, List.getElem?_eq_getElem h]
  rfl
theorem substr_bl {s : ByteArray} {l h : Nat} (hl : l ≤ h) (hh : h ≤ s.data.toList.length) : substr s (l : Int) (h : Int) = some (bl ((s.data.toList.drop l).take (h - l))) := by
  unfold substr
  have : s.data.toList.length = s.size := rfl
  rw [if_pos (by omega), Int.toNat_natCast, Int.toNat_natCast]
  congr 1
  apply ByteArray.ext
  apply Array.ext'
  simp [List.extract_eq_take_drop]
theorem fits_of {n b : Nat} (h : n * b ≤ 140737488355328) : fitsB n b = true := by
  unfold fitsB
  rw [Bool.or_eq_true]
  exact .inl (by rw [Nat.ble_eq]; exact h)
/-! ### decimals -/
def dec (n : Int) : ByteArray := bl (Lib.itoa n)
def isDig (c : UInt8) : Prop := 48 ≤ c.toNat ∧ c.toNat ≤ 57
theorem dig_toNat {u : Nat} (h : u < 10) : (UInt8.ofNat (48 + u)).toNat = 48 + u := by simp; omega
theorem decDigits_dig : ∀ (u : Nat), ∀ c ∈ Lib.decDigits u, isDig c := by
  intro u
  induction u using Nat.strongRecOn with
  | _ u ih =>
    intro c hc
    rw [Lib.decDigits] at hc
    split at hc
    · rename_i h
      simp only [List.mem_singleton] at hc
      subst hc
      unfold isDig
      rw [dig_toNat h]; omega
    · rename_i h
      rw [List.mem_append] at hc
      rcases hc with hc | hc
      · exact ih (u / 10) (by omega) c hc
      · simp only [List.mem_singleton] at hc
        subst hc
        unfold isDig
        rw [dig_toNat (by omega)]; omega
/-- the number that digits spell, behind a -/
def val (a : Nat) (l : List UInt8) : Nat := l.foldl (fun a c => a * 10 + (c.toNat - 48)) a
theorem val_nil (a : Nat) : val a [] = a := rfl
theorem val_cons (a : Nat) (c : UInt8) (l : List UInt8) : val a (c :: l) = val (a * 10 + (c.toNat - 48)) l := by
  unfold val; rw [List.foldl_cons]
theorem val_app (a : Nat) (l r : List UInt8) : val a (l ++ r) = val (val a l) r := List.foldl_append
theorem val_ge : ∀ (l : List UInt8) (a : Nat), a ≤ val a l
  | [], a => Nat.le_refl _
  | c :: l, a => by rw [val_cons]; have := val_ge l (a * 10 + (c.toNat - 48)); omega
theorem decDigits_small {u : Nat} (h : u < 10) : Lib.decDigits u = [UInt8.ofNat (48 + u)] := Lib.decDigits_one h
theorem decDigits_big {u : Nat} (h : ¬ u < 10) : Lib.decDigits u = Lib.decDigits (u / 10) ++ [UInt8.ofNat (48 + u % 10)] := by rw [Lib.decDigits, dif_neg h]
theorem val_digit (a u : Nat) (h : u < 10) : val a [UInt8.ofNat (48 + u)] = a * 10 + u := by
  rw [val_cons, dig_toNat h, val_nil]; omega
theorem val_dec (u : Nat) : val 0 (Lib.decDigits u) = u := by
  induction u using Nat.strongRecOn with
  | _ u ih =>
    by_cases h : u < 10
    · rw [decDigits_small h, val_digit _ _ h]; omega
    · rw [decDigits_big h, val_app, ih (u / 10) (by omega), val_digit _ _ (by omega)]; omega
theorem decDigits_pos (u : Nat) : 1 ≤ (Lib.decDigits u).length := by
  rw [Lib.decDigits_length]; exact Lib.nDigits_pos u
theorem itoa_cases (n : Int) : (n < 0 ∧ Lib.itoa n = 45 :: Lib.decDigits n.natAbs) ∨ (0 ≤ n ∧ Lib.itoa n = Lib.decDigits n.natAbs) := by
  unfold Lib.itoa
  by_cases h : n < 0
  · exact .inl ⟨h, by rw [if_pos h]⟩
  · refine .inr ⟨by omega, ?_⟩
    rw [if_neg h]; congr 1; omega
theorem itoa_mem {n : Int} {c : UInt8} (h : c ∈ Lib.itoa n) : c.toNat = 45 ∨ isDig c := by
  rcases itoa_cases n with ⟨_, e⟩ | ⟨_, e⟩ <;> rw [e] at h
  · rcases List.mem_cons.1 h with h | h
    · subst h; exact .inl rfl
    · exact .inr (decDigits_dig _ _ h)
  · exact .inr (decDigits_dig _ _ h)
theorem dec_size {n : Int} (h : okI n) : (dec n).size ≤ 21 := Lib.itoa_length_le n h.1 h.2
theorem parseUintM_val {M : Nat} (hM : M ≤ 18446744073709551615) : ∀ (l : List UInt8) (a : Nat), (∀ c ∈ l, isDig c) → val a l ≤ M → Lib.parseUintM M a l = .ok (val a l)
  | [], a, _, _ => rfl
  | c :: l, a, hd, hv => by
    have hc := hd c (List.mem_cons_self ..)
    rw [val_cons] at hv ⊢
    have := val_ge l (a * 10 + (c.toNat - 48))
    unfold Lib.parseUintM
    rw [if_pos (show 48 ≤ c.toNat ∧ c.toNat ≤ 57 from hc), if_neg (by omega), if_neg (by omega)]
    exact parseUintM_val hM l _ (fun x hx => hd x (List.mem_cons_of_mem _ hx)) hv
theorem parseIntB_itoa {n : Int} (h : okI n) : Lib.parseIntB 64 (Lib.itoa n) = .ok n := by
  have hlen := decDigits_pos n.natAbs
  have hdig := decDigits_dig n.natAbs
  have hv := val_dec n.natAbs
  have key : Lib.parseUintB 64 (Lib.decDigits n.natAbs) = .ok n.natAbs := by
    unfold Lib.parseUintB
    rw [if_neg (by intro e; rw [e] at hlen; simp at hlen)]
    have := parseUintM_val (M := 2 ^ 64 - 1) (by omega) (Lib.decDigits n.natAbs) 0 hdig (by rw [hv]; have := h.1; have := h.2; omega)
    rw [this, hv]
  have h1 := h.1
  have h2 := h.2
  rcases itoa_cases n with ⟨hn, e⟩ | ⟨hn, e⟩
  · rw [e]
    have e45 : (45 : UInt8).toNat = 45 := rfl
    simp only [Lib.parseIntB, e45, or_true, if_true, key, not_true, false_and, if_false, true_and]
    rw [if_neg (by omega)]
    congr 1; omega
  · rw [e]
    cases hc : Lib.decDigits n.natAbs with
    | nil => rw [hc] at hlen; simp at hlen
    | cons c r =>
      have hcd := hdig c (by rw [hc]; exact List.mem_cons_self ..)
      unfold isDig at hcd
      have n43 : ¬ (c.toNat = 43) := by omega
      have n45 : ¬ (c.toNat = 45) := by omega
      rw [hc] at key
      have b1 : ¬ (2 ^ (64 - 1) ≤ n.natAbs) := by omega
      simp only [Lib.parseIntB, n43, n45, if_false, or_false, key, not_false_iff, true_and, false_and, b1]
      congr 1; omega
theorem parseIntB_okI {l : List UInt8} {n : Int} (h : Lib.parseIntB 64 l = .ok n) : okI n := by
  unfold Lib.parseIntB at h
  split at h
  · cases h
  · rename_i c r
    simp only at h
    split at h
    · cases h
    · cases h
    · rename_i u hu
      split at h
      · cases h
      · split at h
        · cases h
        · rename_i g1 g2
          simp only [Lib.NumEnd.ok.injEq] at h
          subst h
          unfold okI
          by_cases hc : c.toNat = 45
          · simp only [hc, true_and, if_true, not_true, false_and] at g1 g2 ⊢; omega
          · simp only [hc, false_and, if_false, not_false_iff, true_and] at g1 g2 ⊢; omega
/-- the number whose decimal a text is -/
def numS (t : ByteArray) : Option Int := match Lib.parseIntB 64 t.data.toList with
  | .ok v => if dec v = t then some v else none
  | _ => none
theorem numS_iff {t : ByteArray} {v : Int} : numS t = some v ↔ okI v ∧ t = dec v := by
  unfold numS
  constructor
  · intro h
    split at h
    · rename_i u hu
      split at h
      · rename_i he
        simp only [Option.some.injEq] at h
        subst h
        exact ⟨parseIntB_okI hu, he.symm⟩
      · cases h
    · cases h
  · rintro ⟨h, rfl⟩
    have : (dec v).data.toList = Lib.itoa v := rfl
    rw [this, parseIntB_itoa h]
    simp
/-! ### pieces -/
def cutAt (c : UInt8) : List UInt8 → List UInt8 → List (List UInt8)
  | p, [] => [p]
  | p, b :: l => if b = c then p :: cutAt c [] l else cutAt c (p ++ [b]) l
theorem cutAt_split (c : UInt8) : ∀ (l p : List UInt8), ∃ h t, Lib.splitK [c] 0 (l.count c) l = h :: t ∧ cutAt c p l = (p ++ h) :: t
  | [], p => ⟨[], [], rfl, by simp [cutAt]⟩
  | b :: l, p => by
    by_cases hb : b = c
    · subst hb
      obtain ⟨h, t, e1, e2⟩ := cutAt_split b l []
      refine ⟨[], h :: t, ?_, ?_⟩
      · rw [List.count_cons_self]
        have hi : Lib.index (b :: l) [b] = 0 := by rw [Lib.index]; simp [List.isPrefixOf]
        unfold Lib.splitK
        rw [hi]
        simp [e1]
      · simp only [cutAt, if_true, e2, List.append_nil, List.nil_append]
    · obtain ⟨h, t, e1, e2⟩ := cutAt_split c l (p ++ [b])
      refine ⟨b :: h, t, ?_, ?_⟩
      · rw [List.count_cons_of_ne hb]
        have hp : ([c] : List UInt8).isPrefixOf (b :: l) = false := by simp [List.isPrefixOf, Ne.symm hb]
        have hix : Lib.index (b :: l) [c] = if Lib.index l [c] == -1 then -1 else Lib.index l [c] + 1 := by rw [Lib.index, hp]; simp
        cases hk : l.count c with
        | zero => rw [hk] at e1; simp only [Lib.splitK, List.cons.injEq] at e1; obtain ⟨rfl, rfl⟩ := e1; rfl
        | succ k =>
          rw [hk] at e1
          unfold Lib.splitK at e1 ⊢
          rw [hix]
          have hge := Lib.index_ge l [c]
          by_cases hm : Lib.index l [c] = -1
          · rw [hm] at e1 ⊢
            simp only [beq_self_eq_true, if_true, List.cons.injEq] at e1 ⊢
            obtain ⟨rfl, rfl⟩ := e1
            exact ⟨⟨trivial, rfl⟩, rfl⟩
          · obtain ⟨j, hj⟩ : ∃ j : Nat, Lib.index l [c] = j := ⟨(Lib.index l [c]).toNat, by omega⟩
            rw [hj] at e1 ⊢
            have n1 : ((j : Int) == -1) = false := by rw [beq_eq_false_iff_ne]; omega
            have n2 : ((j : Int) + 1 == -1) = false := by rw [beq_eq_false_iff_ne]; omega
            rw [n1] at e1
            rw [n1]
            simp only [Bool.false_eq_true, if_false] at e1 ⊢
            rw [n2]
            simp only [Bool.false_eq_true, if_false, List.cons.injEq] at e1 ⊢
            have ej : ((j : Int) + 1).toNat = j + 1 := by omega
            rw [ej]
            simp only [Int.toNat_natCast, Nat.add_zero, List.length_cons, List.length_nil] at e1 ⊢
            refine ⟨?_, ?_⟩
            · rw [List.take_succ_cons, e1.1]
            · rw [← e1.2]; rfl
      · simp only [cutAt, if_neg hb, e2, List.append_assoc, List.singleton_append]
theorem map_bl : ∀ {l : List ByteArray} {m : List (List UInt8)}, l.map (·.data.toList) = m → l = m.map bl
  | [], m, h => by subst h; rfl
  | s :: l, m, h => by
    subst h
    rw [List.map_cons, List.map_cons, ← map_bl (l := l) rfl]
theorem splitB_blank (s : ByteArray) : Lib.splitB (ByteArray.mk #[32]) 0 (Lib.countB s (ByteArray.mk #[32])) s = (cutAt 32 [] s.data.toList).map bl := by
  refine map_bl ?_
  rw [Lib.splitB_data]
  have hc : Lib.countB s (ByteArray.mk #[32]) = s.data.toList.count 32 := Lib.count_one 32 s.data.toList
  rw [hc]
  obtain ⟨h, t, e1, e2⟩ := cutAt_split 32 s.data.toList []
  rw [e2]
  exact e1
theorem cutAt_len (c : UInt8) : ∀ (l p : List UInt8), 1 ≤ (cutAt c p l).length ∧ (cutAt c p l).length ≤ l.length + 1
  | [], p => ⟨Nat.le_refl _, Nat.le_refl _⟩
  | b :: l, p => by
    unfold cutAt
    split
    · have := cutAt_len c l []
      simp only [List.length_cons]; omega
    · have := cutAt_len c l (p ++ [b])
      simp only [List.length_cons]; omega
theorem cutAt_size (c : UInt8) : ∀ (l p : List UInt8), ∀ x ∈ cutAt c p l, x.length ≤ p.length + l.length
  | [], p, x, h => by simp only [cutAt, List.mem_singleton] at h; subst h; simp
  | b :: l, p, x, h => by
    unfold cutAt at h
    split at h
    · rcases List.mem_cons.1 h with h | h
      · subst h; omega
      · have := cutAt_size c l [] x h
        simp only [List.length_nil, List.length_cons] at this ⊢; omega
    · have := cutAt_size c l _ x h
      simp only [List.length_append, List.length_cons, List.length_nil] at this ⊢; omega
/-! ### the numbers of a line -/
def numsS : List (List UInt8) → Option (List Int)
  | [] => some []
  | t :: ts => (numS (bl t)).bind fun n => (numsS ts).bind fun l => some (n :: l)
def numbersL (l : List (List UInt8)) (w : ByteArray) (many : Nat) : Option (List Int) := match l with
  | h :: ts => if bl h = w ∧ ts.length = many then numsS ts else none
  | [] => none
def numbersS (t w : ByteArray) (many : Nat) : Option (List Int) := numbersL (cutAt 32 [] t.data.toList) w many
theorem numsS_len : ∀ {l : List (List UInt8)} {ns : List Int}, numsS l = some ns → ns.length = l.length
  | [], ns, h => by cases h; rfl
  | t :: ts, ns, h => by
    simp only [numsS] at h
    obtain ⟨n, _, h⟩ := Option.bind_eq_some_iff.1 h
    obtain ⟨l, hl, h⟩ := Option.bind_eq_some_iff.1 h
    cases h
    simp [numsS_len hl]
theorem numsS_ok : ∀ {l : List (List UInt8)} {ns : List Int}, numsS l = some ns → ∀ n ∈ ns, okI n
  | [], ns, h => by cases h; intro n hn; cases hn
  | t :: ts, ns, h => by
    simp only [numsS] at h
    obtain ⟨n, hn, h⟩ := Option.bind_eq_some_iff.1 h
    obtain ⟨l, hl, h⟩ := Option.bind_eq_some_iff.1 h
    cases h
    intro m hm
    rcases List.mem_cons.1 hm with hm | hm
    · subst hm; exact (numS_iff.1 hn).1
    · exact numsS_ok hl m hm
theorem numbersS_len {t w : ByteArray} {many : Nat} {ns : List Int} (h : numbersS t w many = some ns) : ns.length = many ∧ ∀ n ∈ ns, okI n := by
  unfold numbersS numbersL at h
  split at h
  · split at h
    · rename_i hc
      exact ⟨by rw [numsS_len h, hc.2], numsS_ok h⟩
    · cases h
  · cases h
end Go.Ax
