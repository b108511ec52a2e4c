/- Layer 11: which types may be, which numbers are theirs, how far a variable reaches: the program's side. -/
import Derived.Test.YtkbbhfamjkjblaaAxY
import Derived.Test.YtkbbhfamjkjblaaGoodStillGen0
import Derived.Test.YtkbbhfamjkjblaaGoodStillTy
set_option linter.unusedVariables false
set_option linter.unusedSimpArgs false
namespace Go.Ax
open Go
def MType.may (t : MType) : Bool := decide (t.Bits ≥ 1) && decide (t.Bits ≤ 32) && (!t.Signed || t.Bits == 16 || t.Bits == 32)
theorem good_Type_is (q : Nat) (t : MType) : good_Type q t.enc = some (t.may, ()) := by
  simp only [good_Type, MType.enc_width, MType.part, MType.l0, MType.l1, MShape.enc_width, MShape.part, MShape.l0, MShape.l1, MStmt.enc_width, MStmt.part, MStmt.l0, MStmt.l1, MStmt.l2, MStmt.l3, MStmt.l4, MStmt.l5, MStmt.l6, MTrans.enc_width, MTrans.part, MTrans.l0, MTrans.l1, MTrans.l2, MTrans.l3, MTrans.l4, MTrans.l5, MTrans.l6, MTrans.l7, MTrans.l8, MTrans.p0, MLoc.enc_width, MLoc.part, MLoc.l0, MLoc.l1, MLoc.l2, MLoc.l3, MLoc.l4, MLoc.l5, MLoc.l6, MProc.enc_width, MProc.part, MProc.l0, MProc.l1, MProc.l2, MProc.l3, MProc.l4, MProc.l5, MProc.l6, MProc.l7, MProc.l8, MProc.l9, MDim.enc_width, MDim.part, MDim.l0, MDim.l1, MDim.l2, MVar.enc_width, MVar.part, MVar.l0, MVar.l1, MVar.l2, MVar.l3, MVar.l4, MExpr.enc_width, MExpr.part, MExpr.l0, MExpr.l1, MExpr.l2, MExpr.l3, MExpr.l4, MExpr.l5, MExpr.l6, MExpr.l7, MExpr.l8, MExpr.l9, MExpr.l10, MExpr.l11, MExpr.p5, MModel.enc_width, MModel.part, MModel.l0, MModel.l1, MModel.l2, MModel.l3, MModel.l4, MModel.l5, MModel.l6, asInt_mk, asBool_mk, asStr_mk, asLst_mk, bind_mk, if_true, leaf_int, leaf_bool, leaf_str, leaf_lst, and_any, or_any, MType.may]
theorem may_bits {t : MType} (h : t.may = true) : 1 ≤ t.Bits ∧ t.Bits ≤ 32 := by
  simp only [MType.may, Bool.and_eq_true, decide_eq_true_eq] at h
  omega
def MType.fits (t : MType) (v : Int) : Bool :=
  t.may && (bif t.Signed then decide (v ≥ -(2 ^ (t.Bits - 1).toNat)) && decide (v < 2 ^ (t.Bits - 1).toNat) else decide (v ≥ 0) && decide (v < 2 ^ t.Bits.toNat))
theorem pow_le62 {n : Nat} (h : n ≤ 32) : (1 : Int) ≤ 2 ^ n ∧ (2 : Int) ^ n ≤ 4294967296 := by
  have h1 : (2 : Nat) ^ n ≤ 2 ^ 32 := Nat.pow_le_pow_right (by omega) h
  have h2 : 0 < (2 : Nat) ^ n := Nat.pow_pos (by omega)
  have e : (2 : Int) ^ n = ((2 ^ n : Nat) : Int) := by simp
  rw [e]
  have h3 : (2 : Nat) ^ 32 = 4294967296 := rfl
  omega
theorem shl_is {b : Int} (h0 : 0 ≤ b) (h : b ≤ 32) (a : Int) (ha : a = 1 ∨ a = -1) : IntKind.i64.wrap (a * 2 ^ (min b.toNat (IntKind.bits .i64))) = a * 2 ^ b.toNat := by
  have hm : min b.toNat (IntKind.bits .i64) = b.toNat := by
    have : IntKind.bits .i64 = 64 := rfl
    rw [this]; omega
  rw [hm]
  obtain ⟨h1, h2⟩ := pow_le62 (n := b.toNat) (by omega)
  rcases ha with rfl | rfl
  · rw [Int.one_mul]; exact w64 (by omega) (by omega)
  · exact w64 (by omega) (by omega)
theorem good_Fits_is (q : Nat) (t : MType) (v : Int) : good_Fits q t.enc v = some (t.fits v, ()) := by
  unfold good_Fits
  simp only [MType.enc_width, MType.part, MType.l0, MType.l1, MShape.enc_width, MShape.part, MShape.l0, MShape.l1, MStmt.enc_width, MStmt.part, MStmt.l0, MStmt.l1, MStmt.l2, MStmt.l3, MStmt.l4, MStmt.l5, MStmt.l6, MTrans.enc_width, MTrans.part, MTrans.l0, MTrans.l1, MTrans.l2, MTrans.l3, MTrans.l4, MTrans.l5, MTrans.l6, MTrans.l7, MTrans.l8, MTrans.p0, MLoc.enc_width, MLoc.part, MLoc.l0, MLoc.l1, MLoc.l2, MLoc.l3, MLoc.l4, MLoc.l5, MLoc.l6, MProc.enc_width, MProc.part, MProc.l0, MProc.l1, MProc.l2, MProc.l3, MProc.l4, MProc.l5, MProc.l6, MProc.l7, MProc.l8, MProc.l9, MDim.enc_width, MDim.part, MDim.l0, MDim.l1, MDim.l2, MVar.enc_width, MVar.part, MVar.l0, MVar.l1, MVar.l2, MVar.l3, MVar.l4, MExpr.enc_width, MExpr.part, MExpr.l0, MExpr.l1, MExpr.l2, MExpr.l3, MExpr.l4, MExpr.l5, MExpr.l6, MExpr.l7, MExpr.l8, MExpr.l9, MExpr.l10, MExpr.l11, MExpr.p5, MModel.enc_width, MModel.part, MModel.l0, MModel.l1, MModel.l2, MModel.l3, MModel.l4, MModel.l5, MModel.l6, asInt_mk, asBool_mk, asStr_mk, asLst_mk, bind_mk, if_true, leaf_int, leaf_bool, leaf_str, leaf_lst, good_Type_is]
  unfold MType.fits
  cases hm : t.may with
  | false => simp
  | true =>
    obtain ⟨h1, h2⟩ := may_bits hm
    simp only [Bool.not_true, Bool.false_eq_true, if_false, Bool.true_and]
    cases hs : t.Signed with
    | true =>
      have e : IntKind.i64.wrap (t.Bits - 1) = t.Bits - 1 := w64 (by omega) (by omega)
      have hb : ¬ (t.Bits - 1 < 0) := by omega
      simp only [if_true, e, hb, if_false]
      rw [shl_is (by omega) (by omega) _ (.inr rfl), shl_is (by omega) (by omega) _ (.inl rfl)]
      simp only [and_any, bind_mk, Int.one_mul, cond_true]
      rw [show (-1 : Int) * 2 ^ (t.Bits - 1).toNat = -(2 ^ (t.Bits - 1).toNat) by omega]
    | false =>
      have hb : ¬ (t.Bits < 0) := by omega
      simp only [Bool.false_eq_true, if_false, cond_false, hb]
      rw [shl_is (by omega) (by omega) _ (.inl rfl)]
      simp only [and_any, bind_mk, Int.one_mul]
/-- the slots that indexes count, one after the other -/
def dimsFrom : Int → List MDim → Option Int
  | n, [] => some n
  | n, d :: ds => if d.Len < 1 ∨ IntKind.i64.wrap (d.Len - 1) > 1073741824 ∨ d.Stride < 0 ∨ d.Stride > 1073741824 then none
      else dimsFrom (IntKind.i64.wrap (n + IntKind.i64.wrap (IntKind.i64.wrap (d.Len - 1) * d.Stride))) ds
def MVar.reach (v : MVar) : Int :=
  if v.Slot < 0 ∨ v.Slot > 1073741824 ∨ v.Dims.length > 4 then 0 else (dimsFrom (v.Slot + 1) v.Dims).getD 0
def dimsRes : Option Int → (Int × Unit) ⊕ (Int × Unit)
  | some n => .inl (n, ())
  | none => .inr (0, ())
theorem good_Reach_l0_is (q : Nat) (ds : List MDim) (hl : ds.length ≤ 4) : ∀ (d k i : Nat) (n : Int), i + d = ds.length → d < k →
    good_Reach_l0 q k n (ds.map MDim.enc) (ds.length : Int) i = some (dimsRes (dimsFrom n (ds.drop i))) := by
  intro d
  induction d with
  | zero =>
    intro k i n hi hk
    obtain ⟨k, rfl⟩ : ∃ m, k = m + 1 := ⟨k - 1, by omega⟩
    simp only [good_Reach_l0]
    rw [if_neg (by simp; omega), List.drop_eq_nil_of_le (by omega)]
    rfl
  | succ d ih =>
    intro k i n hi hk
    obtain ⟨k, rfl⟩ : ∃ m, k = m + 1 := ⟨k - 1, by omega⟩
    simp only [good_Reach_l0]
    rw [if_pos (by simp; omega), rd_map MDim.enc_width (by omega)]
    simp only [MType.enc_width, MType.part, MType.l0, MType.l1, MShape.enc_width, MShape.part, MShape.l0, MShape.l1, MStmt.enc_width, MStmt.part, MStmt.l0, MStmt.l1, MStmt.l2, MStmt.l3, MStmt.l4, MStmt.l5, MStmt.l6, MTrans.enc_width, MTrans.part, MTrans.l0, MTrans.l1, MTrans.l2, MTrans.l3, MTrans.l4, MTrans.l5, MTrans.l6, MTrans.l7, MTrans.l8, MTrans.p0, MLoc.enc_width, MLoc.part, MLoc.l0, MLoc.l1, MLoc.l2, MLoc.l3, MLoc.l4, MLoc.l5, MLoc.l6, MProc.enc_width, MProc.part, MProc.l0, MProc.l1, MProc.l2, MProc.l3, MProc.l4, MProc.l5, MProc.l6, MProc.l7, MProc.l8, MProc.l9, MDim.enc_width, MDim.part, MDim.l0, MDim.l1, MDim.l2, MVar.enc_width, MVar.part, MVar.l0, MVar.l1, MVar.l2, MVar.l3, MVar.l4, MExpr.enc_width, MExpr.part, MExpr.l0, MExpr.l1, MExpr.l2, MExpr.l3, MExpr.l4, MExpr.l5, MExpr.l6, MExpr.l7, MExpr.l8, MExpr.l9, MExpr.l10, MExpr.l11, MExpr.p5, MModel.enc_width, MModel.part, MModel.l0, MModel.l1, MModel.l2, MModel.l3, MModel.l4, MModel.l5, MModel.l6, asInt_mk, asBool_mk, asStr_mk, asLst_mk, bind_mk, if_true, leaf_int, leaf_bool, leaf_str, leaf_lst, or_any]
    rw [List.drop_eq_getElem_cons (by omega)]
    simp only [dimsFrom]
    by_cases hc : ds[i].Len < 1 ∨ IntKind.i64.wrap (ds[i].Len - 1) > 1073741824 ∨ ds[i].Stride < 0 ∨ ds[i].Stride > 1073741824
    · rw [if_pos (by simp; omega), if_pos hc]; rfl
    · rw [if_neg (by simp; omega), if_neg hc, w64 (n := (i : Int) + 1) (by omega) (by omega)]
      exact ih k (i + 1) _ (by omega) (by omega)
theorem good_Reach_is (q : Nat) (hq : 64 ≤ q) (v : MVar) : good_Reach q v.enc = some (v.reach, ()) := by
  unfold good_Reach MVar.reach
  simp only [MType.enc_width, MType.part, MType.l0, MType.l1, MShape.enc_width, MShape.part, MShape.l0, MShape.l1, MStmt.enc_width, MStmt.part, MStmt.l0, MStmt.l1, MStmt.l2, MStmt.l3, MStmt.l4, MStmt.l5, MStmt.l6, MTrans.enc_width, MTrans.part, MTrans.l0, MTrans.l1, MTrans.l2, MTrans.l3, MTrans.l4, MTrans.l5, MTrans.l6, MTrans.l7, MTrans.l8, MTrans.p0, MLoc.enc_width, MLoc.part, MLoc.l0, MLoc.l1, MLoc.l2, MLoc.l3, MLoc.l4, MLoc.l5, MLoc.l6, MProc.enc_width, MProc.part, MProc.l0, MProc.l1, MProc.l2, MProc.l3, MProc.l4, MProc.l5, MProc.l6, MProc.l7, MProc.l8, MProc.l9, MDim.enc_width, MDim.part, MDim.l0, MDim.l1, MDim.l2, MVar.enc_width, MVar.part, MVar.l0, MVar.l1, MVar.l2, MVar.l3, MVar.l4, MExpr.enc_width, MExpr.part, MExpr.l0, MExpr.l1, MExpr.l2, MExpr.l3, MExpr.l4, MExpr.l5, MExpr.l6, MExpr.l7, MExpr.l8, MExpr.l9, MExpr.l10, MExpr.l11, MExpr.p5, MModel.enc_width, MModel.part, MModel.l0, MModel.l1, MModel.l2, MModel.l3, MModel.l4, MModel.l5, MModel.l6, asInt_mk, asBool_mk, asStr_mk, asLst_mk, bind_mk, if_true, leaf_int, leaf_bool, leaf_str, leaf_lst, or_any, List.length_map]
  by_cases hc : v.Slot < 0 ∨ v.Slot > 1073741824 ∨ v.Dims.length > 4
  · rw [if_pos (by simp; omega), if_pos hc]
  · rw [if_neg (by simp; omega), if_neg hc, w64 (by omega) (by omega)]
    have h := good_Reach_l0_is q v.Dims (by omega) v.Dims.length q 0 (v.Slot + 1) (by omega) (by omega)
    have h' : good_Reach_l0 q q (v.Slot + 1) (v.Dims.map MDim.enc) (v.Dims.length : Int) 0 = some (dimsRes (dimsFrom (v.Slot + 1) v.Dims)) := h
    rw [h']
    cases dimsFrom (v.Slot + 1) v.Dims <;> rfl
end Go.Ax
