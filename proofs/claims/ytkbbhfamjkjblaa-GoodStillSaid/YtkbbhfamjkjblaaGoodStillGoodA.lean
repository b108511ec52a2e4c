/- Layer 11: what the checks of a model's parts come to, in plain Lean: the program's side. -/
import Derived.Test.YtkbbhfamjkjblaaGoodStillTypesA
set_option linter.unusedVariables false
set_option linter.unusedSimpArgs false
namespace Go.Ax
open Go
theorem int_width (n : Int) : (T.int .i64 n).width = 1 := rfl
theorem lst_width {α : Type} (e : α → T) (l : List α) : (T.lst (l.map e)).width = 1 := rfl
def belowS (a : Int) (l : List Int) : Bool := l.all fun x => !(decide (x < 0) || decide (x ≥ a))
theorem good_below_is (q : Nat) (a : Int) (l : List Int) (hq : l.length < q) (hl : l.length ≤ 140737488351232) : good_below q a (l.map (T.int .i64)) = some (belowS a l, ()) := by
  unfold good_below belowS
  rw [List.length_map]
  rw [loop_all l (fun k i => good_below_l0 q k a (l.map (T.int .i64)) (l.length : Int) i) (fun x => !(decide (x < 0) || decide (x ≥ a))) (.inl ()) (.inr (false, ()))
    (fun k i h => by
      simp only [good_below_l0]
      rw [if_pos (by simp; omega), rd_map int_width h]
      simp only [MType.enc_width, MType.part, MType.l0, MType.l1, MShape.enc_width, MShape.part, MShape.l0, MShape.l1, MStmt.enc_width, MStmt.part, MStmt.l0, MStmt.l1, MStmt.l2, MStmt.l3, MStmt.l4, MStmt.l5, MStmt.l6, MTrans.enc_width, MTrans.part, MTrans.l0, MTrans.l1, MTrans.l2, MTrans.l3, MTrans.l4, MTrans.l5, MTrans.l6, MTrans.l7, MTrans.l8, MTrans.p0, MLoc.enc_width, MLoc.part, MLoc.l0, MLoc.l1, MLoc.l2, MLoc.l3, MLoc.l4, MLoc.l5, MLoc.l6, MProc.enc_width, MProc.part, MProc.l0, MProc.l1, MProc.l2, MProc.l3, MProc.l4, MProc.l5, MProc.l6, MProc.l7, MProc.l8, MProc.l9, MDim.enc_width, MDim.part, MDim.l0, MDim.l1, MDim.l2, MVar.enc_width, MVar.part, MVar.l0, MVar.l1, MVar.l2, MVar.l3, MVar.l4, MExpr.enc_width, MExpr.part, MExpr.l0, MExpr.l1, MExpr.l2, MExpr.l3, MExpr.l4, MExpr.l5, MExpr.l6, MExpr.l7, MExpr.l8, MExpr.l9, MExpr.l10, MExpr.l11, MExpr.p5, MModel.enc_width, MModel.part, MModel.l0, MModel.l1, MModel.l2, MModel.l3, MModel.l4, MModel.l5, MModel.l6, asInt_mk, asBool_mk, asStr_mk, asLst_mk, bind_mk, if_true, leaf_int, leaf_bool, leaf_str, leaf_lst, or_any, wrap_succ h (by omega)]
      exact ite_flip _ _ _)
    (fun k => by simp only [good_below_l0]; rw [if_neg (by simp)]) q hq]
  cases (l.all fun x => !(decide (x < 0) || decide (x ≥ a))) <;> rfl
theorem good_below_one (q : Nat) (a v : Int) (hq : 1 < q) : good_below q a [T.int .i64 v] = some (!(decide (v < 0) || decide (v ≥ a)), ()) := by
  have := good_below_is q a [v] hq (by simp)
  simpa [belowS] using this
def typesS (t : List MType) (v : List Int) : Option Nat := fbad (fun p : MType × Int => p.1.fits p.2) (t.zip v) 0
theorem good_types_is (q : Nat) (t : List MType) (v : List Int) (hlen : v.length = t.length) (hq : t.length < q) (hl : t.length ≤ 140737488351232) :
    good_types q (t.map MType.enc) (v.map (T.int .i64)) = some (((typesS t v).map Int.ofNat).getD (-1), ()) := by
  unfold good_types typesS
  rw [List.length_map]
  have hz : (t.zip v).length = t.length := by simp [hlen]
  have := loop_find (t.zip v) (fun k i => good_types_l0 q k (t.map MType.enc) (v.map (T.int .i64)) (t.length : Int) i) (fun p => p.1.fits p.2) (.inl ()) (fun i => .inr ((i : Int), ()))
    (fun k i h => by
      have h1 : i < t.length := by omega
      have h2 : i < v.length := by omega
      simp only [good_types_l0]
      rw [if_pos (by simp; omega), rd_map MType.enc_width h1, rd_map int_width h2]
      simp only [MType.enc_width, MType.part, MType.l0, MType.l1, MShape.enc_width, MShape.part, MShape.l0, MShape.l1, MStmt.enc_width, MStmt.part, MStmt.l0, MStmt.l1, MStmt.l2, MStmt.l3, MStmt.l4, MStmt.l5, MStmt.l6, MTrans.enc_width, MTrans.part, MTrans.l0, MTrans.l1, MTrans.l2, MTrans.l3, MTrans.l4, MTrans.l5, MTrans.l6, MTrans.l7, MTrans.l8, MTrans.p0, MLoc.enc_width, MLoc.part, MLoc.l0, MLoc.l1, MLoc.l2, MLoc.l3, MLoc.l4, MLoc.l5, MLoc.l6, MProc.enc_width, MProc.part, MProc.l0, MProc.l1, MProc.l2, MProc.l3, MProc.l4, MProc.l5, MProc.l6, MProc.l7, MProc.l8, MProc.l9, MDim.enc_width, MDim.part, MDim.l0, MDim.l1, MDim.l2, MVar.enc_width, MVar.part, MVar.l0, MVar.l1, MVar.l2, MVar.l3, MVar.l4, MExpr.enc_width, MExpr.part, MExpr.l0, MExpr.l1, MExpr.l2, MExpr.l3, MExpr.l4, MExpr.l5, MExpr.l6, MExpr.l7, MExpr.l8, MExpr.l9, MExpr.l10, MExpr.l11, MExpr.p5, MModel.enc_width, MModel.part, MModel.l0, MModel.l1, MModel.l2, MModel.l3, MModel.l4, MModel.l5, MModel.l6, asInt_mk, asBool_mk, asStr_mk, asLst_mk, bind_mk, if_true, leaf_int, leaf_bool, leaf_str, leaf_lst, good_Fits_is, wrap_succ h1 (by omega), List.getElem_zip]
      cases MType.fits t[i] v[i] <;> rfl)
    (fun k => by simp only [good_types_l0]; rw [if_neg (by simp [hlen])]) q (by omega)
  rw [this]
  cases fbad (fun p : MType × Int => p.1.fits p.2) (t.zip v) 0 <;> rfl
def MShape.may (s : MShape) : Bool := !(decide (s.Room < 0) || decide (s.Room > 16) || decide ((s.Fields.length : Int) < 1) || decide ((s.Fields.length : Int) > 8)) && s.Fields.all MType.may
theorem good_shape_is (q : Nat) (hq : 64 ≤ q) (s : MShape) : good_shape q s.enc = some (s.may, ()) := by
  unfold good_shape MShape.may
  simp only [MType.enc_width, MType.part, MType.l0, MType.l1, MShape.enc_width, MShape.part, MShape.l0, MShape.l1, MStmt.enc_width, MStmt.part, MStmt.l0, MStmt.l1, MStmt.l2, MStmt.l3, MStmt.l4, MStmt.l5, MStmt.l6, MTrans.enc_width, MTrans.part, MTrans.l0, MTrans.l1, MTrans.l2, MTrans.l3, MTrans.l4, MTrans.l5, MTrans.l6, MTrans.l7, MTrans.l8, MTrans.p0, MLoc.enc_width, MLoc.part, MLoc.l0, MLoc.l1, MLoc.l2, MLoc.l3, MLoc.l4, MLoc.l5, MLoc.l6, MProc.enc_width, MProc.part, MProc.l0, MProc.l1, MProc.l2, MProc.l3, MProc.l4, MProc.l5, MProc.l6, MProc.l7, MProc.l8, MProc.l9, MDim.enc_width, MDim.part, MDim.l0, MDim.l1, MDim.l2, MVar.enc_width, MVar.part, MVar.l0, MVar.l1, MVar.l2, MVar.l3, MVar.l4, MExpr.enc_width, MExpr.part, MExpr.l0, MExpr.l1, MExpr.l2, MExpr.l3, MExpr.l4, MExpr.l5, MExpr.l6, MExpr.l7, MExpr.l8, MExpr.l9, MExpr.l10, MExpr.l11, MExpr.p5, MModel.enc_width, MModel.part, MModel.l0, MModel.l1, MModel.l2, MModel.l3, MModel.l4, MModel.l5, MModel.l6, asInt_mk, asBool_mk, asStr_mk, asLst_mk, bind_mk, if_true, leaf_int, leaf_bool, leaf_str, leaf_lst, or_any, List.length_map]
  cases hc : (decide (s.Room < 0) || decide (s.Room > 16) || decide ((s.Fields.length : Int) < 1) || decide ((s.Fields.length : Int) > 8)) with
  | true => rfl
  | false =>
    simp only [Bool.false_eq_true, if_false, Bool.not_false, Bool.true_and]
    simp only [Bool.or_eq_false_iff, decide_eq_false_iff_not] at hc
    rw [loop_all s.Fields (fun k i => good_shape_l0 q k (s.Fields.map MType.enc) (s.Fields.length : Int) i) MType.may (.inl ()) (.inr (false, ()))
      (fun k i h => by
        simp only [good_shape_l0]
        rw [if_pos (by simp; omega), rd_map MType.enc_width h]
        simp only [MType.enc_width, MType.part, MType.l0, MType.l1, MShape.enc_width, MShape.part, MShape.l0, MShape.l1, MStmt.enc_width, MStmt.part, MStmt.l0, MStmt.l1, MStmt.l2, MStmt.l3, MStmt.l4, MStmt.l5, MStmt.l6, MTrans.enc_width, MTrans.part, MTrans.l0, MTrans.l1, MTrans.l2, MTrans.l3, MTrans.l4, MTrans.l5, MTrans.l6, MTrans.l7, MTrans.l8, MTrans.p0, MLoc.enc_width, MLoc.part, MLoc.l0, MLoc.l1, MLoc.l2, MLoc.l3, MLoc.l4, MLoc.l5, MLoc.l6, MProc.enc_width, MProc.part, MProc.l0, MProc.l1, MProc.l2, MProc.l3, MProc.l4, MProc.l5, MProc.l6, MProc.l7, MProc.l8, MProc.l9, MDim.enc_width, MDim.part, MDim.l0, MDim.l1, MDim.l2, MVar.enc_width, MVar.part, MVar.l0, MVar.l1, MVar.l2, MVar.l3, MVar.l4, MExpr.enc_width, MExpr.part, MExpr.l0, MExpr.l1, MExpr.l2, MExpr.l3, MExpr.l4, MExpr.l5, MExpr.l6, MExpr.l7, MExpr.l8, MExpr.l9, MExpr.l10, MExpr.l11, MExpr.p5, MModel.enc_width, MModel.part, MModel.l0, MModel.l1, MModel.l2, MModel.l3, MModel.l4, MModel.l5, MModel.l6, asInt_mk, asBool_mk, asStr_mk, asLst_mk, bind_mk, if_true, leaf_int, leaf_bool, leaf_str, leaf_lst, good_Type_is, wrap_succ h (by omega)]
        cases MType.may s.Fields[i] <;> rfl)
      (fun k => by simp only [good_shape_l0]; rw [if_neg (by simp)]) q (by omega)]
    split <;> rename_i h <;> simp [h, cutB]
def partsS (op : Int) : Int :=
  if op = 1 ∨ op = 2 ∨ op = 31 ∨ op = 32 ∨ op = 33 ∨ op = 34 ∨ op = 35 ∨ op = 39 then 0 else if op = 24 then 3 else if op ≥ 6 ∧ op ≤ 23 then 2 else 1
theorem good_parts_is (q : Nat) (op : Int) : good_parts q op = some (partsS op, ()) := by
  unfold good_parts partsS
  by_cases h1 : op = 1
  · subst h1; rfl
  by_cases h2 : op = 2
  · subst h2; rfl
  by_cases h3 : op = 31
  · subst h3; rfl
  by_cases h4 : op = 32
  · subst h4; rfl
  by_cases h5 : op = 33
  · subst h5; rfl
  by_cases h6 : op = 34
  · subst h6; rfl
  by_cases h7 : op = 35
  · subst h7; rfl
  by_cases h8 : op = 39
  · subst h8; rfl
  by_cases h9 : op = 24
  · subst h9; rfl
  simp only [beq_iff_eq, h1, h2, h3, h4, h5, h6, h7, h8, h9, if_false, cutB_inl, or_self, and_any, bind_mk]
  by_cases ha : op ≥ 6
  · by_cases hb : op ≤ 23
    · simp [ha, hb]
    · simp [ha, hb]
  · simp [ha]
theorem partsS_range (op : Int) : 0 ≤ partsS op ∧ partsS op ≤ 3 := by
  unfold partsS
  split
  · omega
  · split
    · omega
    · split <;> omega
def proctypeS (m : MModel) (n : Int) : Bool := decide (n ≥ 0) && decide (n < (m.Procs.length : Int)) && n != m.Claim
theorem good_proctype_is (q : Nat) (m : MModel) (n : Int) : good_checker_proctype q m.enc n = some (proctypeS m n, ()) := by
  simp only [good_checker_proctype, MType.enc_width, MType.part, MType.l0, MType.l1, MShape.enc_width, MShape.part, MShape.l0, MShape.l1, MStmt.enc_width, MStmt.part, MStmt.l0, MStmt.l1, MStmt.l2, MStmt.l3, MStmt.l4, MStmt.l5, MStmt.l6, MTrans.enc_width, MTrans.part, MTrans.l0, MTrans.l1, MTrans.l2, MTrans.l3, MTrans.l4, MTrans.l5, MTrans.l6, MTrans.l7, MTrans.l8, MTrans.p0, MLoc.enc_width, MLoc.part, MLoc.l0, MLoc.l1, MLoc.l2, MLoc.l3, MLoc.l4, MLoc.l5, MLoc.l6, MProc.enc_width, MProc.part, MProc.l0, MProc.l1, MProc.l2, MProc.l3, MProc.l4, MProc.l5, MProc.l6, MProc.l7, MProc.l8, MProc.l9, MDim.enc_width, MDim.part, MDim.l0, MDim.l1, MDim.l2, MVar.enc_width, MVar.part, MVar.l0, MVar.l1, MVar.l2, MVar.l3, MVar.l4, MExpr.enc_width, MExpr.part, MExpr.l0, MExpr.l1, MExpr.l2, MExpr.l3, MExpr.l4, MExpr.l5, MExpr.l6, MExpr.l7, MExpr.l8, MExpr.l9, MExpr.l10, MExpr.l11, MExpr.p5, MModel.enc_width, MModel.part, MModel.l0, MModel.l1, MModel.l2, MModel.l3, MModel.l4, MModel.l5, MModel.l6, asInt_mk, asBool_mk, asStr_mk, asLst_mk, bind_mk, if_true, leaf_int, leaf_bool, leaf_str, leaf_lst, and_any, List.length_map, proctypeS]
def MDim.may (a : Int) (d : MDim) : Bool :=
  !(!(!(decide (d.I < 0) || decide (d.I ≥ a))) || decide (d.Len < 1) || decide (d.Len > 128) || decide (d.Stride < 0) || decide (d.Stride > 128))
def variableS (m : MModel) (a : Int) (v : MVar) : Bool :=
  !(decide (v.Scope < 0) || decide (v.Scope > 2) || decide (v.Slot < 0) || decide (v.Slot > 128) || decide ((v.Dims.length : Int) > 4)) &&
  (bif v.Scope == 2 then !(!(!(decide (v.Who < 0) || decide (v.Who ≥ a))) || !proctypeS m v.Type_) else !(v.Who != -1 || v.Type_ != -1)) && v.Dims.all (MDim.may a)
theorem good_variable_is (q : Nat) (hq : 64 ≤ q) (m : MModel) (a : Int) (v : MVar) : good_checker_variable q m.enc a v.enc = some (variableS m a v, ()) := by
  unfold good_checker_variable variableS
  simp only [MType.enc_width, MType.part, MType.l0, MType.l1, MShape.enc_width, MShape.part, MShape.l0, MShape.l1, MStmt.enc_width, MStmt.part, MStmt.l0, MStmt.l1, MStmt.l2, MStmt.l3, MStmt.l4, MStmt.l5, MStmt.l6, MTrans.enc_width, MTrans.part, MTrans.l0, MTrans.l1, MTrans.l2, MTrans.l3, MTrans.l4, MTrans.l5, MTrans.l6, MTrans.l7, MTrans.l8, MTrans.p0, MLoc.enc_width, MLoc.part, MLoc.l0, MLoc.l1, MLoc.l2, MLoc.l3, MLoc.l4, MLoc.l5, MLoc.l6, MProc.enc_width, MProc.part, MProc.l0, MProc.l1, MProc.l2, MProc.l3, MProc.l4, MProc.l5, MProc.l6, MProc.l7, MProc.l8, MProc.l9, MDim.enc_width, MDim.part, MDim.l0, MDim.l1, MDim.l2, MVar.enc_width, MVar.part, MVar.l0, MVar.l1, MVar.l2, MVar.l3, MVar.l4, MExpr.enc_width, MExpr.part, MExpr.l0, MExpr.l1, MExpr.l2, MExpr.l3, MExpr.l4, MExpr.l5, MExpr.l6, MExpr.l7, MExpr.l8, MExpr.l9, MExpr.l10, MExpr.l11, MExpr.p5, MModel.enc_width, MModel.part, MModel.l0, MModel.l1, MModel.l2, MModel.l3, MModel.l4, MModel.l5, MModel.l6, asInt_mk, asBool_mk, asStr_mk, asLst_mk, bind_mk, if_true, leaf_int, leaf_bool, leaf_str, leaf_lst, or_any, List.length_map]
  cases hc : (decide (v.Scope < 0) || decide (v.Scope > 2) || decide (v.Slot < 0) || decide (v.Slot > 128) || decide ((v.Dims.length : Int) > 4)) with
  | true => rfl
  | false =>
    simp only [Bool.false_eq_true, if_false, Bool.not_false, Bool.true_and]
    simp only [Bool.or_eq_false_iff, decide_eq_false_iff_not] at hc
    have hloop : good_checker_variable_l0 q q a (v.Dims.map MDim.enc) (v.Dims.length : Int) 0 = some (if v.Dims.all (MDim.may a) = true then .inl () else .inr (false, ())) :=
      loop_all v.Dims (fun k i => good_checker_variable_l0 q k a (v.Dims.map MDim.enc) (v.Dims.length : Int) i) (MDim.may a) (.inl ()) (.inr (false, ()))
        (fun k i h => by
          simp only [good_checker_variable_l0]
          rw [if_pos (by simp; omega), rd_map MDim.enc_width h]
          simp only [MType.enc_width, MType.part, MType.l0, MType.l1, MShape.enc_width, MShape.part, MShape.l0, MShape.l1, MStmt.enc_width, MStmt.part, MStmt.l0, MStmt.l1, MStmt.l2, MStmt.l3, MStmt.l4, MStmt.l5, MStmt.l6, MTrans.enc_width, MTrans.part, MTrans.l0, MTrans.l1, MTrans.l2, MTrans.l3, MTrans.l4, MTrans.l5, MTrans.l6, MTrans.l7, MTrans.l8, MTrans.p0, MLoc.enc_width, MLoc.part, MLoc.l0, MLoc.l1, MLoc.l2, MLoc.l3, MLoc.l4, MLoc.l5, MLoc.l6, MProc.enc_width, MProc.part, MProc.l0, MProc.l1, MProc.l2, MProc.l3, MProc.l4, MProc.l5, MProc.l6, MProc.l7, MProc.l8, MProc.l9, MDim.enc_width, MDim.part, MDim.l0, MDim.l1, MDim.l2, MVar.enc_width, MVar.part, MVar.l0, MVar.l1, MVar.l2, MVar.l3, MVar.l4, MExpr.enc_width, MExpr.part, MExpr.l0, MExpr.l1, MExpr.l2, MExpr.l3, MExpr.l4, MExpr.l5, MExpr.l6, MExpr.l7, MExpr.l8, MExpr.l9, MExpr.l10, MExpr.l11, MExpr.p5, MModel.enc_width, MModel.part, MModel.l0, MModel.l1, MModel.l2, MModel.l3, MModel.l4, MModel.l5, MModel.l6, asInt_mk, asBool_mk, asStr_mk, asLst_mk, bind_mk, if_true, leaf_int, leaf_bool, leaf_str, leaf_lst, good_below_one q a _ (by omega), or_any, wrap_succ h (by omega), MDim.may]
          exact ite_flip _ _ _)
        (fun k => by simp only [good_checker_variable_l0]; rw [if_neg (by simp)]) q (by omega)
    have fin : ∀ b : Bool, (cutB (some (bif b then Sum.inl (a, (), v.enc, ()) else .inr (false, ()))) fun p10 : Int × Unit × T × Unit =>
        cutB ((T.asLst (T.leaf p10.2.2.1 4)).bind fun v21 => good_checker_variable_l0 q q p10.1 v21 (v21.length : Int) 0) fun _ => some (true, ())) = some (b && v.Dims.all (MDim.may a), ()) := fun b => by
      cases b with
      | false => rfl
      | true =>
        simp only [cond_true, cutB_inl, MType.enc_width, MType.part, MType.l0, MType.l1, MShape.enc_width, MShape.part, MShape.l0, MShape.l1, MStmt.enc_width, MStmt.part, MStmt.l0, MStmt.l1, MStmt.l2, MStmt.l3, MStmt.l4, MStmt.l5, MStmt.l6, MTrans.enc_width, MTrans.part, MTrans.l0, MTrans.l1, MTrans.l2, MTrans.l3, MTrans.l4, MTrans.l5, MTrans.l6, MTrans.l7, MTrans.l8, MTrans.p0, MLoc.enc_width, MLoc.part, MLoc.l0, MLoc.l1, MLoc.l2, MLoc.l3, MLoc.l4, MLoc.l5, MLoc.l6, MProc.enc_width, MProc.part, MProc.l0, MProc.l1, MProc.l2, MProc.l3, MProc.l4, MProc.l5, MProc.l6, MProc.l7, MProc.l8, MProc.l9, MDim.enc_width, MDim.part, MDim.l0, MDim.l1, MDim.l2, MVar.enc_width, MVar.part, MVar.l0, MVar.l1, MVar.l2, MVar.l3, MVar.l4, MExpr.enc_width, MExpr.part, MExpr.l0, MExpr.l1, MExpr.l2, MExpr.l3, MExpr.l4, MExpr.l5, MExpr.l6, MExpr.l7, MExpr.l8, MExpr.l9, MExpr.l10, MExpr.l11, MExpr.p5, MModel.enc_width, MModel.part, MModel.l0, MModel.l1, MModel.l2, MModel.l3, MModel.l4, MModel.l5, MModel.l6, asInt_mk, asBool_mk, asStr_mk, asLst_mk, bind_mk, if_true, leaf_int, leaf_bool, leaf_str, leaf_lst, List.length_map, hloop]
        cases v.Dims.all (MDim.may a) <;> rfl
    by_cases hs : v.Scope = 2
    · simp only [hs, beq_self_eq_true, if_true, cond_true, good_below_one q a _ (by omega : 1 < q), good_proctype_is, bind_mk, or_any]
      have := fin (!(!(!(decide (v.Who < 0) || decide (v.Who ≥ a))) || !proctypeS m v.Type_))
      rw [← this]
      cases (!(!(decide (v.Who < 0) || decide (v.Who ≥ a))) || !proctypeS m v.Type_) <;> rfl
    · have hb : (v.Scope == 2) = false := by simpa using hs
      simp only [hb, Bool.false_eq_true, if_false, cond_false, or_any, bind_mk]
      have := fin (!(v.Who != -1 || v.Type_ != -1))
      rw [← this]
      cases (v.Who != -1 || v.Type_ != -1) <;> rfl
end Go.Ax
