/- Layer 23: the document's side: decimals, and what it prints. -/
import Derived.Test.YtcpcbmebpmokbaaDoorTrailTextsTrF
set_option linter.unusedVariables false
set_option linter.unusedSimpArgs false
namespace Go.Ax
open Go
theorem dec_loop (q : Nat) (neg : Bool) : ∀ (j k : Nat) (x : Int) (acc : List UInt8), x.natAbs < 10 ^ j → 1 ≤ j → j ≤ k → okI x → acc.length + j ≤ 1000 →
    ref12_Decimal_l0 q k x (bl acc) neg = some (.inl (bl (Lib.decDigits x.natAbs ++ acc), neg, ())) := by
  intro j
  induction j with
  | zero => intro k x acc _ h; omega
  | succ j ih =>
    intro k x acc hx _ hjk ho hacc
    obtain ⟨k, rfl⟩ : ∃ m, k = m + 1 := ⟨k - 1, by omega⟩
    obtain ⟨ho1, ho2⟩ := ho
    rw [ref12_Decimal_l0]
    have hm : (Int.tmod x 10).natAbs = x.natAbs % 10 := Int.natAbs_tmod x 10
    have hd : (Int.tdiv x 10).natAbs = x.natAbs / 10 := Int.natAbs_tdiv x 10
    have hdo : okI (Int.tdiv x 10) := by unfold okI; omega
    have hcut : ∀ (F : Int × ByteArray × Bool × Int × Unit → Option ((ByteArray × Bool × Unit) ⊕ (ByteArray × Unit))),
        cutB (if (decide ((Int.tmod x (10 : Int)) < (0 : Int))) = true then some (.inl (x, bl acc, neg, (IntKind.i64.wrap (0 - (Int.tmod x (10 : Int)))), ())) else some (.inl (x, bl acc, neg, (Int.tmod x (10 : Int)), ()))) F = F (x, bl acc, neg, ((x.natAbs % 10 : Nat) : Int), ()) := by
      intro F
      by_cases hn : Int.tmod x 10 < 0
      · have e : (0 : Int) - Int.tmod x 10 = ((x.natAbs % 10 : Nat) : Int) := by omega
        rw [if_pos (decide_eq_true hn), cutB_inl, e, w64 (by omega) (by omega)]
      · have e : Int.tmod x 10 = ((x.natAbs % 10 : Nat) : Int) := by omega
        rw [if_neg (by simpa using hn), cutB_inl, e]
    rw [hcut]
    simp only
    have h10 : x.natAbs % 10 < 10 := Nat.mod_lt _ (by decide)
    have hb : IntKind.u8.wrap (IntKind.i64.wrap ((48 : Int) + ((x.natAbs % 10 : Nat) : Int))) = ((48 + x.natAbs % 10 : Nat) : Int) := by
      rw [w64 (by omega) (by omega)]
      have : ((48 : Int) + ((x.natAbs % 10 : Nat) : Int)) = ((48 + x.natAbs % 10 : Nat) : Int) := by omega
      rw [this]
      generalize 48 + x.natAbs % 10 = m at *
      have hm : m < 58 := by omega
      clear this
      revert hm
      revert m
      decide
    rw [hb]
    have hn1 : numsT [T.int .u8 ((48 + x.natAbs % 10 : Nat) : Int)] = some [((48 + x.natAbs % 10 : Nat) : Int)] := by
      simp [numsT, T.asInt]
    rw [hn1]
    simp only [bind_mk]
    have hs : strOfNums [((48 + x.natAbs % 10 : Nat) : Int)] = bl [UInt8.ofNat (48 + x.natAbs % 10)] := by
      unfold strOfNums bl
      rw [List.map_cons, List.map_nil, Int.toNat_natCast]
    rw [hs, ← bl_app, List.singleton_append]
    rw [if_pos (by rw [bl_size, bl_size]; simp; omega), w64 hdo.1 hdo.2]
    by_cases h0 : x.natAbs < 10
    · have e0 : Int.tdiv x 10 = 0 := by
        have : (Int.tdiv x 10).natAbs = 0 := by rw [hd]; omega
        omega
      rw [e0]
      rw [decDigits_small h0, Nat.mod_eq_of_lt h0]
      rfl
    · have e0 : (Int.tdiv x 10 == 0) = false := by
        rw [beq_eq_false_iff_ne]
        intro e
        rw [e] at hd
        simp at hd; omega
      rw [e0]
      simp only [Bool.false_eq_true, if_false]
      have hj : 1 ≤ j := by
        cases j with
        | zero => simp at hx; omega
        | succ j => omega
      rw [Nat.pow_succ] at hx
      rw [ih k _ _ (by rw [hd]; omega) hj (by omega) hdo (by rw [List.length_cons]; omega)]
      rw [hd, decDigits_big h0, List.append_assoc, List.singleton_append]
theorem Decimal_is (q : Nat) (hq : 64 ≤ q) (n : Int) (ho : okI n) : ref12_Decimal q n = some (dec n, ()) := by
  unfold ref12_Decimal
  obtain ⟨ho1, ho2⟩ := ho
  have hfuel := dec_loop q (decide (n < 0)) 20 q n [] (by omega) (by decide) (by omega) ⟨ho1, ho2⟩ (by decide)
  rw [List.append_nil] at hfuel
  rw [show emp = bl [] from rfl]
  rw [hfuel, cutB_inl]
  simp only
  rcases itoa_cases n with ⟨hn, e⟩ | ⟨hn, e⟩
  · rw [if_pos (decide_eq_true hn)]
    have hl := Lib.itoa_length_le n ho1 ho2
    rw [e, List.length_cons] at hl
    have hs : (ByteArray.mk #[45]).size + (bl (Lib.decDigits n.natAbs)).size ≤ 9223372036854775807 := by
      show 1 + (Lib.decDigits n.natAbs).length ≤ _; omega
    rw [if_pos hs]
    unfold dec
    rw [e]
    rfl
  · rw [if_neg (by simpa using hn)]
    unfold dec
    rw [e]
end Go.Ax
