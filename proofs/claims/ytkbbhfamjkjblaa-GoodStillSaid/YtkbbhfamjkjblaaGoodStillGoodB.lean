/- Layer 11: expressions: what may be, what is held: the program's side. -/
import Derived.Test.YtkbbhfamjkjblaaGoodStillGoodA
set_option linter.unusedVariables false
set_option linter.unusedSimpArgs false
namespace Go.Ax
open Go
def zExpr : MExpr := ⟨0, 0, 0, 0, 0, ⟨0, 0, 0, 0, []⟩, [], []⟩
def zProc : MProc := ⟨emp, 0, [], [], [], 0, 0, 0, 0, 0⟩
def MModel.ex (m : MModel) (k : Int) : MExpr := (m.Exprs[k.toNat]?).getD zExpr
def MModel.pr (m : MModel) (k : Int) : MProc := (m.Procs[k.toNat]?).getD zProc
theorem rd_get {α : Type} {enc : α → T} {sz : Nat} (hw : ∀ x, (enc x).width = sz) {xs : List α} {z : α} {i : Int} (h0 : 0 ≤ i) (h : i < xs.length) : rd (xs.map enc) i sz = some (enc ((xs[i.toNat]?).getD z)) := by
  have hlt : i.toNat < xs.length := by omega
  rw [rd_mapZ hw h0 h, List.getElem?_eq_getElem hlt]
  rfl
theorem rd_ex (m : MModel) {k : Int} (h0 : 0 ≤ k) (h : k < m.Exprs.length) : rd (m.Exprs.map MExpr.enc) k 12 = some (m.ex k).enc := rd_get MExpr.enc_width h0 h
theorem rd_pr (m : MModel) {k : Int} (h0 : 0 ≤ k) (h : k < m.Procs.length) : rd (m.Procs.map MProc.enc) k 10 = some (m.pr k).enc := rd_get MProc.enc_width h0 h
theorem below_iff {a : Int} {l : List Int} : belowS a l = true ↔ ∀ x ∈ l, 0 ≤ x ∧ x < a := by
  unfold belowS
  rw [List.all_eq_true]
  constructor
  · intro h x hx
    have := h x hx
    simp at this
    exact this
  · intro h x hx
    have := h x hx
    simp
    exact this
theorem proctype_range {m : MModel} {n : Int} (h : proctypeS m n = true) : 0 ≤ n ∧ n < m.Procs.length := by
  simp only [proctypeS, Bool.and_eq_true, decide_eq_true_eq] at h
  exact ⟨h.1.1, h.1.2⟩
def matchF (m : MModel) (p : Int × Int) : Bool := !((decide (p.2 < -1) || decide (p.2 > 1)) || (p.2 == 0 && (m.ex p.1).Op != 2))
def matchedS (m : MModel) (a : Int) (args mt : List Int) : Bool :=
  !(decide ((args.length : Int) < 1) || decide ((args.length : Int) > 8) || (mt.length : Int) != (args.length : Int) || !belowS a args) && (args.zip mt).all (matchF m)
theorem good_matched_is (q : Nat) (hq : 140737488351232 < q) (m : MModel) (a : Int) (ha : a ≤ m.Exprs.length) (args mt : List Int) (hl : args.length ≤ 140737488351232) :
    good_checker_matched q m.enc a (args.map (T.int .i64)) (mt.map (T.int .i64)) = some (matchedS m a args mt, ()) := by
  unfold good_checker_matched matchedS
  simp only [MType.enc_width, MType.part, MType.l0, MType.l1, MShape.enc_width, MShape.part, MShape.l0, MShape.l1, MStmt.enc_width, MStmt.part, MStmt.l0, MStmt.l1, MStmt.l2, MStmt.l3, MStmt.l4, MStmt.l5, MStmt.l6, MTrans.enc_width, MTrans.part, MTrans.l0, MTrans.l1, MTrans.l2, MTrans.l3, MTrans.l4, MTrans.l5, MTrans.l6, MTrans.l7, MTrans.l8, MTrans.p0, MLoc.enc_width, MLoc.part, MLoc.l0, MLoc.l1, MLoc.l2, MLoc.l3, MLoc.l4, MLoc.l5, MLoc.l6, MProc.enc_width, MProc.part, MProc.l0, MProc.l1, MProc.l2, MProc.l3, MProc.l4, MProc.l5, MProc.l6, MProc.l7, MProc.l8, MProc.l9, MDim.enc_width, MDim.part, MDim.l0, MDim.l1, MDim.l2, MVar.enc_width, MVar.part, MVar.l0, MVar.l1, MVar.l2, MVar.l3, MVar.l4, MExpr.enc_width, MExpr.part, MExpr.l0, MExpr.l1, MExpr.l2, MExpr.l3, MExpr.l4, MExpr.l5, MExpr.l6, MExpr.l7, MExpr.l8, MExpr.l9, MExpr.l10, MExpr.l11, MExpr.p5, MModel.enc_width, MModel.part, MModel.l0, MModel.l1, MModel.l2, MModel.l3, MModel.l4, MModel.l5, MModel.l6, asInt_mk, asBool_mk, asStr_mk, asLst_mk, bind_mk, if_true, leaf_int, leaf_bool, leaf_str, leaf_lst, or_any, List.length_map, good_below_is q a args (by omega) hl]
  cases hc : (decide ((args.length : Int) < 1) || decide ((args.length : Int) > 8) || (mt.length : Int) != (args.length : Int) || !belowS a args) with
  | true => rfl
  | false =>
    simp only [Bool.false_eq_true, if_false, Bool.not_false, Bool.true_and]
    simp only [Bool.or_eq_false_iff, decide_eq_false_iff_not, bne_eq_false_iff_eq, Bool.not_eq_false'] at hc
    obtain ⟨⟨⟨h1, h2⟩, h3⟩, h4⟩ := hc
    have hlen : mt.length = args.length := by omega
    have hz : (args.zip mt).length = mt.length := by simp [hlen]
    have hb := below_iff.1 h4
    have := loop_all (args.zip mt) (fun k i => good_checker_matched_l0 q k m.enc (args.map (T.int .i64)) (mt.map (T.int .i64)) (mt.length : Int) i) (matchF m) (.inl ()) (.inr (false, ()))
      (fun k i h => by
        have i1 : i < args.length := by omega
        have i2 : i < mt.length := by omega
        simp only [good_checker_matched_l0]
        rw [if_pos (by simp; omega), rd_map int_width i2, rd_map int_width i1]
        have hr := hb args[i] (List.getElem_mem i1)
        simp only [MType.enc_width, MType.part, MType.l0, MType.l1, MShape.enc_width, MShape.part, MShape.l0, MShape.l1, MStmt.enc_width, MStmt.part, MStmt.l0, MStmt.l1, MStmt.l2, MStmt.l3, MStmt.l4, MStmt.l5, MStmt.l6, MTrans.enc_width, MTrans.part, MTrans.l0, MTrans.l1, MTrans.l2, MTrans.l3, MTrans.l4, MTrans.l5, MTrans.l6, MTrans.l7, MTrans.l8, MTrans.p0, MLoc.enc_width, MLoc.part, MLoc.l0, MLoc.l1, MLoc.l2, MLoc.l3, MLoc.l4, MLoc.l5, MLoc.l6, MProc.enc_width, MProc.part, MProc.l0, MProc.l1, MProc.l2, MProc.l3, MProc.l4, MProc.l5, MProc.l6, MProc.l7, MProc.l8, MProc.l9, MDim.enc_width, MDim.part, MDim.l0, MDim.l1, MDim.l2, MVar.enc_width, MVar.part, MVar.l0, MVar.l1, MVar.l2, MVar.l3, MVar.l4, MExpr.enc_width, MExpr.part, MExpr.l0, MExpr.l1, MExpr.l2, MExpr.l3, MExpr.l4, MExpr.l5, MExpr.l6, MExpr.l7, MExpr.l8, MExpr.l9, MExpr.l10, MExpr.l11, MExpr.p5, MModel.enc_width, MModel.part, MModel.l0, MModel.l1, MModel.l2, MModel.l3, MModel.l4, MModel.l5, MModel.l6, asInt_mk, asBool_mk, asStr_mk, asLst_mk, bind_mk, if_true, leaf_int, leaf_bool, leaf_str, leaf_lst, rd_ex m hr.1 (by omega : args[i] < _), or_any, and_any, wrap_succ i2 (by omega), List.getElem_zip, matchF]
        exact ite_flip _ _ _)
      (fun k => by simp only [good_checker_matched_l0]; rw [if_neg (by simp [hlen])]) q (by omega)
    rw [this]
    cases (args.zip mt).all (matchF m) <;> rfl
def placesS (m : MModel) (x : MExpr) : Bool :=
  !(decide (x.N < 0) || decide (x.N ≥ 1073741824) || !proctypeS m x.N || decide ((x.Args.length : Int) < 1)) && belowS ((m.pr x.N).Locs.length : Int) x.Args
theorem good_places_is (q : Nat) (hq : 140737488351232 < q) (m : MModel) (x : MExpr) (hl : x.Args.length ≤ 140737488351232) : good_checker_places q m.enc x.enc = some (placesS m x, ()) := by
  unfold good_checker_places placesS
  simp only [MType.enc_width, MType.part, MType.l0, MType.l1, MShape.enc_width, MShape.part, MShape.l0, MShape.l1, MStmt.enc_width, MStmt.part, MStmt.l0, MStmt.l1, MStmt.l2, MStmt.l3, MStmt.l4, MStmt.l5, MStmt.l6, MTrans.enc_width, MTrans.part, MTrans.l0, MTrans.l1, MTrans.l2, MTrans.l3, MTrans.l4, MTrans.l5, MTrans.l6, MTrans.l7, MTrans.l8, MTrans.p0, MLoc.enc_width, MLoc.part, MLoc.l0, MLoc.l1, MLoc.l2, MLoc.l3, MLoc.l4, MLoc.l5, MLoc.l6, MProc.enc_width, MProc.part, MProc.l0, MProc.l1, MProc.l2, MProc.l3, MProc.l4, MProc.l5, MProc.l6, MProc.l7, MProc.l8, MProc.l9, MDim.enc_width, MDim.part, MDim.l0, MDim.l1, MDim.l2, MVar.enc_width, MVar.part, MVar.l0, MVar.l1, MVar.l2, MVar.l3, MVar.l4, MExpr.enc_width, MExpr.part, MExpr.l0, MExpr.l1, MExpr.l2, MExpr.l3, MExpr.l4, MExpr.l5, MExpr.l6, MExpr.l7, MExpr.l8, MExpr.l9, MExpr.l10, MExpr.l11, MExpr.p5, MModel.enc_width, MModel.part, MModel.l0, MModel.l1, MModel.l2, MModel.l3, MModel.l4, MModel.l5, MModel.l6, asInt_mk, asBool_mk, asStr_mk, asLst_mk, bind_mk, if_true, leaf_int, leaf_bool, leaf_str, leaf_lst, or_any, List.length_map, good_proctype_is]
  cases hc : (decide (x.N < 0) || decide (x.N ≥ 1073741824) || !proctypeS m x.N || decide ((x.Args.length : Int) < 1)) with
  | true => rfl
  | false =>
    simp only [Bool.or_eq_false_iff, decide_eq_false_iff_not, Bool.not_eq_false'] at hc
    obtain ⟨h1, h2⟩ := proctype_range hc.1.2
    simp only [Bool.false_eq_true, if_false, Bool.not_false, Bool.true_and, rd_pr m h1 h2, MType.enc_width, MType.part, MType.l0, MType.l1, MShape.enc_width, MShape.part, MShape.l0, MShape.l1, MStmt.enc_width, MStmt.part, MStmt.l0, MStmt.l1, MStmt.l2, MStmt.l3, MStmt.l4, MStmt.l5, MStmt.l6, MTrans.enc_width, MTrans.part, MTrans.l0, MTrans.l1, MTrans.l2, MTrans.l3, MTrans.l4, MTrans.l5, MTrans.l6, MTrans.l7, MTrans.l8, MTrans.p0, MLoc.enc_width, MLoc.part, MLoc.l0, MLoc.l1, MLoc.l2, MLoc.l3, MLoc.l4, MLoc.l5, MLoc.l6, MProc.enc_width, MProc.part, MProc.l0, MProc.l1, MProc.l2, MProc.l3, MProc.l4, MProc.l5, MProc.l6, MProc.l7, MProc.l8, MProc.l9, MDim.enc_width, MDim.part, MDim.l0, MDim.l1, MDim.l2, MVar.enc_width, MVar.part, MVar.l0, MVar.l1, MVar.l2, MVar.l3, MVar.l4, MExpr.enc_width, MExpr.part, MExpr.l0, MExpr.l1, MExpr.l2, MExpr.l3, MExpr.l4, MExpr.l5, MExpr.l6, MExpr.l7, MExpr.l8, MExpr.l9, MExpr.l10, MExpr.l11, MExpr.p5, MModel.enc_width, MModel.part, MModel.l0, MModel.l1, MModel.l2, MModel.l3, MModel.l4, MModel.l5, MModel.l6, asInt_mk, asBool_mk, asStr_mk, asLst_mk, bind_mk, if_true, leaf_int, leaf_bool, leaf_str, leaf_lst, List.length_map, good_below_is q _ x.Args (by omega) hl]
def partOkF (a : Int) (n : Int) (p : Int × Int) : Bool := !((decide (p.1 < n) && !(!(decide (p.2 < 0) || decide (p.2 ≥ a)))) || (decide (p.1 ≥ n) && p.2 != -1))
def expressionS (m : MModel) (a : Int) : Bool :=
  let x := m.ex a
  !(decide (x.Op < 1) || decide (x.Op > 39)) && ([((0 : Int), x.A), (1, x.B), (2, x.C)].all (partOkF a (partsS x.Op))) &&
  (bif x.Op == 1 then MType.fits ⟨32, true⟩ x.N else bif x.Op == 2 then variableS m a x.V else bif x.Op == 30 then matchedS m a x.Args x.Match && (x.N == 0 || x.N == 1)
   else bif x.Op == 38 then placesS m x else bif x.Op == 39 then decide (x.N ≥ 0) && decide (x.N < 1073741824) && proctypeS m x.N && ((x.Args.length : Int) == (m.pr x.N).Params) && belowS a x.Args else true)
def MModel.small (m : MModel) : Prop := ∀ x ∈ m.Exprs, x.Args.length ≤ 140737488351232 ∧ x.Match.length ≤ 140737488351232
theorem ex_mem {m : MModel} {k : Int} (h0 : 0 ≤ k) (h : k < m.Exprs.length) : m.ex k ∈ m.Exprs := by
  have hlt : k.toNat < m.Exprs.length := by omega
  unfold MModel.ex
  rw [List.getElem?_eq_getElem hlt]
  exact List.getElem_mem hlt
theorem good_expression_is (q : Nat) (hq : 140737488351232 < q) (m : MModel) (hm : ∀ x ∈ m.Exprs, x.Args.length ≤ 140737488351232) (a : Int) (h0 : 0 ≤ a) (ha : a < m.Exprs.length) :
    good_checker_expression q m.enc a = some (expressionS m a, ()) := by
  unfold good_checker_expression expressionS
  simp only [MType.enc_width, MType.part, MType.l0, MType.l1, MShape.enc_width, MShape.part, MShape.l0, MShape.l1, MStmt.enc_width, MStmt.part, MStmt.l0, MStmt.l1, MStmt.l2, MStmt.l3, MStmt.l4, MStmt.l5, MStmt.l6, MTrans.enc_width, MTrans.part, MTrans.l0, MTrans.l1, MTrans.l2, MTrans.l3, MTrans.l4, MTrans.l5, MTrans.l6, MTrans.l7, MTrans.l8, MTrans.p0, MLoc.enc_width, MLoc.part, MLoc.l0, MLoc.l1, MLoc.l2, MLoc.l3, MLoc.l4, MLoc.l5, MLoc.l6, MProc.enc_width, MProc.part, MProc.l0, MProc.l1, MProc.l2, MProc.l3, MProc.l4, MProc.l5, MProc.l6, MProc.l7, MProc.l8, MProc.l9, MDim.enc_width, MDim.part, MDim.l0, MDim.l1, MDim.l2, MVar.enc_width, MVar.part, MVar.l0, MVar.l1, MVar.l2, MVar.l3, MVar.l4, MExpr.enc_width, MExpr.part, MExpr.l0, MExpr.l1, MExpr.l2, MExpr.l3, MExpr.l4, MExpr.l5, MExpr.l6, MExpr.l7, MExpr.l8, MExpr.l9, MExpr.l10, MExpr.l11, MExpr.p5, MModel.enc_width, MModel.part, MModel.l0, MModel.l1, MModel.l2, MModel.l3, MModel.l4, MModel.l5, MModel.l6, asInt_mk, asBool_mk, asStr_mk, asLst_mk, bind_mk, if_true, leaf_int, leaf_bool, leaf_str, leaf_lst, rd_ex m h0 ha, or_any]
  have hargs := hm _ (ex_mem h0 ha)
  generalize m.ex a = x at *
  cases hc : (decide (x.Op < 1) || decide (x.Op > 39)) with
  | true => rfl
  | false =>
    simp only [Bool.false_eq_true, if_false, Bool.not_false, Bool.true_and]
    have hloop : good_checker_expression_l0 q q m.enc a (T.agg [T.int .i64 x.A, T.int .i64 x.B, T.int .i64 x.C]) 0 x.enc =
        some (if [((0 : Int), x.A), (1, x.B), (2, x.C)].all (partOkF a (partsS x.Op)) = true then .inl (m.enc, a, (), x.enc, ()) else .inr (false, ())) :=
      loop_all [((0 : Int), x.A), (1, x.B), (2, x.C)] (fun k i => good_checker_expression_l0 q k m.enc a (T.agg [T.int .i64 x.A, T.int .i64 x.B, T.int .i64 x.C]) i x.enc) (partOkF a (partsS x.Op)) (.inl (m.enc, a, (), x.enc, ())) (.inr (false, ()))
        (fun k i h => by
          have h3 : i < 3 := h
          have step : ∀ (p : Int), T.leaf (T.agg [T.int .i64 x.A, T.int .i64 x.B, T.int .i64 x.C]) (Int.toNat (i : Int) * 1) = T.int .i64 p →
              good_checker_expression_l0 q (k + 1) m.enc a (T.agg [T.int .i64 x.A, T.int .i64 x.B, T.int .i64 x.C]) (i : Int) x.enc =
                if partOkF a (partsS x.Op) ((i : Int), p) = true then good_checker_expression_l0 q k m.enc a (T.agg [T.int .i64 x.A, T.int .i64 x.B, T.int .i64 x.C]) ((i + 1 : Nat) : Int) x.enc else some (.inr (false, ())) := by
            intro p hp
            simp only [good_checker_expression_l0]
            rw [if_pos (by simp; omega), if_pos (by omega)]
            simp only [T.aggO, bind_mk, hp, MType.enc_width, MType.part, MType.l0, MType.l1, MShape.enc_width, MShape.part, MShape.l0, MShape.l1, MStmt.enc_width, MStmt.part, MStmt.l0, MStmt.l1, MStmt.l2, MStmt.l3, MStmt.l4, MStmt.l5, MStmt.l6, MTrans.enc_width, MTrans.part, MTrans.l0, MTrans.l1, MTrans.l2, MTrans.l3, MTrans.l4, MTrans.l5, MTrans.l6, MTrans.l7, MTrans.l8, MTrans.p0, MLoc.enc_width, MLoc.part, MLoc.l0, MLoc.l1, MLoc.l2, MLoc.l3, MLoc.l4, MLoc.l5, MLoc.l6, MProc.enc_width, MProc.part, MProc.l0, MProc.l1, MProc.l2, MProc.l3, MProc.l4, MProc.l5, MProc.l6, MProc.l7, MProc.l8, MProc.l9, MDim.enc_width, MDim.part, MDim.l0, MDim.l1, MDim.l2, MVar.enc_width, MVar.part, MVar.l0, MVar.l1, MVar.l2, MVar.l3, MVar.l4, MExpr.enc_width, MExpr.part, MExpr.l0, MExpr.l1, MExpr.l2, MExpr.l3, MExpr.l4, MExpr.l5, MExpr.l6, MExpr.l7, MExpr.l8, MExpr.l9, MExpr.l10, MExpr.l11, MExpr.p5, MModel.enc_width, MModel.part, MModel.l0, MModel.l1, MModel.l2, MModel.l3, MModel.l4, MModel.l5, MModel.l6, asInt_mk, asBool_mk, asStr_mk, asLst_mk, bind_mk, if_true, leaf_int, leaf_bool, leaf_str, leaf_lst, good_parts_is, good_below_one q a _ (by omega : 1 < q), and_any, or_any, wrap_succ h3 (by omega), partOkF]
            exact ite_flip _ _ _
          match i, h3 with
          | 0, _ => exact step x.A rfl
          | 1, _ => exact step x.B rfl
          | 2, _ => exact step x.C rfl)
        (fun k => by
          show good_checker_expression_l0 q (k + 1) m.enc a _ 3 x.enc = _
          simp only [good_checker_expression_l0]
          rw [if_neg (by simp)]) q (by simp; omega)
    rw [hloop]
    cases hp : [((0 : Int), x.A), (1, x.B), (2, x.C)].all (partOkF a (partsS x.Op)) with
    | false => rfl
    | true =>
      simp only [if_true, Bool.true_and, cutB_inl, MType.enc_width, MType.part, MType.l0, MType.l1, MShape.enc_width, MShape.part, MShape.l0, MShape.l1, MStmt.enc_width, MStmt.part, MStmt.l0, MStmt.l1, MStmt.l2, MStmt.l3, MStmt.l4, MStmt.l5, MStmt.l6, MTrans.enc_width, MTrans.part, MTrans.l0, MTrans.l1, MTrans.l2, MTrans.l3, MTrans.l4, MTrans.l5, MTrans.l6, MTrans.l7, MTrans.l8, MTrans.p0, MLoc.enc_width, MLoc.part, MLoc.l0, MLoc.l1, MLoc.l2, MLoc.l3, MLoc.l4, MLoc.l5, MLoc.l6, MProc.enc_width, MProc.part, MProc.l0, MProc.l1, MProc.l2, MProc.l3, MProc.l4, MProc.l5, MProc.l6, MProc.l7, MProc.l8, MProc.l9, MDim.enc_width, MDim.part, MDim.l0, MDim.l1, MDim.l2, MVar.enc_width, MVar.part, MVar.l0, MVar.l1, MVar.l2, MVar.l3, MVar.l4, MExpr.enc_width, MExpr.part, MExpr.l0, MExpr.l1, MExpr.l2, MExpr.l3, MExpr.l4, MExpr.l5, MExpr.l6, MExpr.l7, MExpr.l8, MExpr.l9, MExpr.l10, MExpr.l11, MExpr.p5, MModel.enc_width, MModel.part, MModel.l0, MModel.l1, MModel.l2, MModel.l3, MModel.l4, MModel.l5, MModel.l6, asInt_mk, asBool_mk, asStr_mk, asLst_mk, bind_mk, if_true, leaf_int, leaf_bool, leaf_str, leaf_lst]
      by_cases h1 : x.Op = 1
      · simp only [h1, beq_self_eq_true, if_true, cond_true]
        have := good_Fits_is q ⟨32, true⟩ x.N
        have e : MType.enc ⟨32, true⟩ = T.agg [T.int .i64 32, T.bool true] := rfl
        rw [e] at this
        rw [this]; rfl
      have b1 : (x.Op == 1) = false := by simpa using h1
      by_cases h2 : x.Op = 2
      · simp only [b1, h2, beq_self_eq_true, if_true, cond_true, cond_false, Bool.false_eq_true, if_false]
        have b1' : ((2 : Int) == 1) = false := rfl
        simp only [b1', Bool.false_eq_true, if_false, cond_false, good_variable_is q (by omega), bind_mk]
      have b2 : (x.Op == 2) = false := by simpa using h2
      by_cases h3 : x.Op = 30
      · have c1 : ((30 : Int) == 1) = false := rfl
        have c2 : ((30 : Int) == 2) = false := rfl
        simp only [h3, c1, c2, beq_self_eq_true, if_true, cond_true, cond_false, Bool.false_eq_true, if_false, good_matched_is q hq m a (by omega) x.Args x.Match hargs, bind_mk, or_any, and_any]
      have b3 : (x.Op == 30) = false := by simpa using h3
      by_cases h4 : x.Op = 38
      · have c1 : ((38 : Int) == 1) = false := rfl
        have c2 : ((38 : Int) == 2) = false := rfl
        have c3 : ((38 : Int) == 30) = false := rfl
        simp only [h4, c1, c2, c3, beq_self_eq_true, if_true, cond_true, cond_false, Bool.false_eq_true, if_false, good_places_is q hq m x hargs, bind_mk]
      have b4 : (x.Op == 38) = false := by simpa using h4
      by_cases h5 : x.Op = 39
      · have c1 : ((39 : Int) == 1) = false := rfl
        have c2 : ((39 : Int) == 2) = false := rfl
        have c3 : ((39 : Int) == 30) = false := rfl
        have c4 : ((39 : Int) == 38) = false := rfl
        simp only [h5, c1, c2, c3, c4, beq_self_eq_true, if_true, cond_true, cond_false, Bool.false_eq_true, if_false, and_any, bind_mk, good_proctype_is, List.length_map, good_below_is q a x.Args (by omega) hargs]
        cases hb : decide (x.N ≥ 0) && decide (x.N < 1073741824) && proctypeS m x.N with
        | false => simp only [Bool.false_eq_true, if_false, bind_mk, Bool.false_and]
        | true =>
          simp only [Bool.and_eq_true] at hb
          obtain ⟨r1, r2⟩ := proctype_range hb.2
          simp only [if_true, rd_pr m r1 r2, MType.enc_width, MType.part, MType.l0, MType.l1, MShape.enc_width, MShape.part, MShape.l0, MShape.l1, MStmt.enc_width, MStmt.part, MStmt.l0, MStmt.l1, MStmt.l2, MStmt.l3, MStmt.l4, MStmt.l5, MStmt.l6, MTrans.enc_width, MTrans.part, MTrans.l0, MTrans.l1, MTrans.l2, MTrans.l3, MTrans.l4, MTrans.l5, MTrans.l6, MTrans.l7, MTrans.l8, MTrans.p0, MLoc.enc_width, MLoc.part, MLoc.l0, MLoc.l1, MLoc.l2, MLoc.l3, MLoc.l4, MLoc.l5, MLoc.l6, MProc.enc_width, MProc.part, MProc.l0, MProc.l1, MProc.l2, MProc.l3, MProc.l4, MProc.l5, MProc.l6, MProc.l7, MProc.l8, MProc.l9, MDim.enc_width, MDim.part, MDim.l0, MDim.l1, MDim.l2, MVar.enc_width, MVar.part, MVar.l0, MVar.l1, MVar.l2, MVar.l3, MVar.l4, MExpr.enc_width, MExpr.part, MExpr.l0, MExpr.l1, MExpr.l2, MExpr.l3, MExpr.l4, MExpr.l5, MExpr.l6, MExpr.l7, MExpr.l8, MExpr.l9, MExpr.l10, MExpr.l11, MExpr.p5, MModel.enc_width, MModel.part, MModel.l0, MModel.l1, MModel.l2, MModel.l3, MModel.l4, MModel.l5, MModel.l6, asInt_mk, asBool_mk, asStr_mk, asLst_mk, bind_mk, if_true, leaf_int, leaf_bool, leaf_str, leaf_lst, Bool.true_and]
      have b5 : (x.Op == 39) = false := by simpa using h5
      simp only [b1, b2, b3, b4, b5, Bool.false_eq_true, if_false, cond_false]
/-- the parts, the Who and the indexes of an expression -/
def heldS (x : MExpr) : List Int :=
  [x.A, x.B, x.C].take (partsS x.Op).toNat ++ (bif x.Op == 30 || x.Op == 39 then x.Args else []) ++ (bif x.Op == 2 then (bif x.V.Scope == 2 then [x.V.Who] else []) ++ x.V.Dims.map MDim.I else [])
theorem fits8 {n : Nat} (h : n ≤ 24000000000000) : fitsB n 8 = true := by
  unfold fitsB
  simp only [Bool.or_eq_true, Bool.and_eq_true, Nat.ble_eq]
  omega
theorem good_held_l0_is (q : Nat) (ds : List MDim) (hds : ds.length ≤ 5864062014976) : ∀ (d k i : Nat) (acc : List Int), i + d = ds.length → d < k → acc.length + d ≤ 24000000000000 →
    good_held_l0 q k (ds.map MDim.enc) (ds.length : Int) i (acc.map (T.int .i64)) = some (.inl ((), (acc ++ (ds.drop i).map MDim.I).map (T.int .i64), ())) := by
  intro d
  induction d with
  | zero =>
    intro k i acc hi hk _
    obtain ⟨k, rfl⟩ : ∃ m, k = m + 1 := ⟨k - 1, by omega⟩
    simp only [good_held_l0]
    rw [if_neg (by simp; omega), List.drop_eq_nil_of_le (by omega)]
    simp
  | succ d ih =>
    intro k i acc hi hk hb
    obtain ⟨k, rfl⟩ : ∃ m, k = m + 1 := ⟨k - 1, by omega⟩
    simp only [good_held_l0]
    have h : i < ds.length := by omega
    rw [if_pos (by simp; omega), rd_map MDim.enc_width h]
    simp only [MType.enc_width, MType.part, MType.l0, MType.l1, MShape.enc_width, MShape.part, MShape.l0, MShape.l1, MStmt.enc_width, MStmt.part, MStmt.l0, MStmt.l1, MStmt.l2, MStmt.l3, MStmt.l4, MStmt.l5, MStmt.l6, MTrans.enc_width, MTrans.part, MTrans.l0, MTrans.l1, MTrans.l2, MTrans.l3, MTrans.l4, MTrans.l5, MTrans.l6, MTrans.l7, MTrans.l8, MTrans.p0, MLoc.enc_width, MLoc.part, MLoc.l0, MLoc.l1, MLoc.l2, MLoc.l3, MLoc.l4, MLoc.l5, MLoc.l6, MProc.enc_width, MProc.part, MProc.l0, MProc.l1, MProc.l2, MProc.l3, MProc.l4, MProc.l5, MProc.l6, MProc.l7, MProc.l8, MProc.l9, MDim.enc_width, MDim.part, MDim.l0, MDim.l1, MDim.l2, MVar.enc_width, MVar.part, MVar.l0, MVar.l1, MVar.l2, MVar.l3, MVar.l4, MExpr.enc_width, MExpr.part, MExpr.l0, MExpr.l1, MExpr.l2, MExpr.l3, MExpr.l4, MExpr.l5, MExpr.l6, MExpr.l7, MExpr.l8, MExpr.l9, MExpr.l10, MExpr.l11, MExpr.p5, MModel.enc_width, MModel.part, MModel.l0, MModel.l1, MModel.l2, MModel.l3, MModel.l4, MModel.l5, MModel.l6, asInt_mk, asBool_mk, asStr_mk, asLst_mk, bind_mk, if_true, leaf_int, leaf_bool, leaf_str, leaf_lst, List.length_map, List.length_cons, List.length_nil]
    rw [if_pos (fits8 (by omega)), wrap_succ h (by omega)]
    have := ih k (i + 1) (acc ++ [ds[i].I]) (by omega) (by omega) (by simp; omega)
    rw [List.drop_eq_getElem_cons h]
    simp only [List.map_append, List.map_cons, List.map_nil, List.append_assoc, List.singleton_append] at this ⊢
    exact this
theorem good_held_is (q : Nat) (hq : 140737488351232 < q) (x : MExpr) (h1 : x.Args.length ≤ 17592186043904) (h2 : x.V.Dims.length ≤ 5864062014976) : good_held q x.enc = some ((heldS x).map (T.int .i64), ()) := by
  unfold good_held heldS
  obtain ⟨p0, p3⟩ := partsS_range x.Op
  simp only [MType.enc_width, MType.part, MType.l0, MType.l1, MShape.enc_width, MShape.part, MShape.l0, MShape.l1, MStmt.enc_width, MStmt.part, MStmt.l0, MStmt.l1, MStmt.l2, MStmt.l3, MStmt.l4, MStmt.l5, MStmt.l6, MTrans.enc_width, MTrans.part, MTrans.l0, MTrans.l1, MTrans.l2, MTrans.l3, MTrans.l4, MTrans.l5, MTrans.l6, MTrans.l7, MTrans.l8, MTrans.p0, MLoc.enc_width, MLoc.part, MLoc.l0, MLoc.l1, MLoc.l2, MLoc.l3, MLoc.l4, MLoc.l5, MLoc.l6, MProc.enc_width, MProc.part, MProc.l0, MProc.l1, MProc.l2, MProc.l3, MProc.l4, MProc.l5, MProc.l6, MProc.l7, MProc.l8, MProc.l9, MDim.enc_width, MDim.part, MDim.l0, MDim.l1, MDim.l2, MVar.enc_width, MVar.part, MVar.l0, MVar.l1, MVar.l2, MVar.l3, MVar.l4, MExpr.enc_width, MExpr.part, MExpr.l0, MExpr.l1, MExpr.l2, MExpr.l3, MExpr.l4, MExpr.l5, MExpr.l6, MExpr.l7, MExpr.l8, MExpr.l9, MExpr.l10, MExpr.l11, MExpr.p5, MModel.enc_width, MModel.part, MModel.l0, MModel.l1, MModel.l2, MModel.l3, MModel.l4, MModel.l5, MModel.l6, asInt_mk, asBool_mk, asStr_mk, asLst_mk, bind_mk, if_true, leaf_int, leaf_bool, leaf_str, leaf_lst, good_parts_is]
  rw [if_pos (by simp; omega)]
  have hch : chk [T.int .i64 x.A, T.int .i64 x.B, T.int .i64 x.C] 1 = some ([x.A, x.B, x.C].map (T.int .i64)) := chk_map int_width [x.A, x.B, x.C]
  rw [hch]
  simp only [bind_mk, List.drop_zero, Nat.sub_zero]
  have hch2 : chk (List.take (partsS x.Op).toNat ([x.A, x.B, x.C].map (T.int .i64))) 1 = some (([x.A, x.B, x.C].take (partsS x.Op).toNat).map (T.int .i64)) := by
    rw [← List.map_take]; exact chk_map int_width _
  rw [hch2]
  simp only [bind_mk, List.length_map]
  have hl : ([x.A, x.B, x.C].take (partsS x.Op).toNat).length ≤ 3 := by simp; omega
  generalize [x.A, x.B, x.C].take (partsS x.Op).toNat = l at *
  rw [if_pos (fits8 (by omega))]
  simp only [or_any, bind_mk, chk_map int_width]
  -- what is behind the Args
  have tail : ∀ (l2 : List Int), l2.length ≤ 17592186043910 → (cutB (if (x.Op == 2) = true then
      cutB (if (x.V.Scope == 2) = true then if fitsB (l2.length + [T.int .i64 x.V.Who].length) 8 = true then some (.inl ((), (), l2.map (T.int .i64) ++ [T.int .i64 x.V.Who], x.enc, ())) else none
        else some (.inl ((), (), l2.map (T.int .i64), x.enc, ()))) fun p16 : Unit × Unit × List T × T × Unit =>
        (T.asLst (T.leaf p16.2.2.2.1 9)).bind fun v19 => good_held_l0 q q v19 (v19.length : Int) 0 p16.2.2.1
      else some (.inl ((), l2.map (T.int .i64), ()))) fun p14 : Unit × List T × Unit => some (p14.2.1, ())) =
      some ((l2 ++ (bif x.Op == 2 then (bif x.V.Scope == 2 then [x.V.Who] else []) ++ x.V.Dims.map MDim.I else [])).map (T.int .i64), ()) := by
    intro l2 hl2
    cases hop : x.Op == 2 with
    | false => simp [cutB]
    | true =>
      have hd : ∀ acc : List Int, acc.length ≤ 17592186043920 → (good_held_l0 q q (x.V.Dims.map MDim.enc) (x.V.Dims.length : Int) 0 (acc.map (T.int .i64))) = some (.inl ((), (acc ++ x.V.Dims.map MDim.I).map (T.int .i64), ())) := fun acc hacc => by
        have := good_held_l0_is q x.V.Dims h2 x.V.Dims.length q 0 acc (by omega) (by omega) (by omega)
        simpa using this
      cases hsc : x.V.Scope == 2 with
      | false =>
        simp only [if_true, Bool.false_eq_true, if_false, cutB_inl, MType.enc_width, MType.part, MType.l0, MType.l1, MShape.enc_width, MShape.part, MShape.l0, MShape.l1, MStmt.enc_width, MStmt.part, MStmt.l0, MStmt.l1, MStmt.l2, MStmt.l3, MStmt.l4, MStmt.l5, MStmt.l6, MTrans.enc_width, MTrans.part, MTrans.l0, MTrans.l1, MTrans.l2, MTrans.l3, MTrans.l4, MTrans.l5, MTrans.l6, MTrans.l7, MTrans.l8, MTrans.p0, MLoc.enc_width, MLoc.part, MLoc.l0, MLoc.l1, MLoc.l2, MLoc.l3, MLoc.l4, MLoc.l5, MLoc.l6, MProc.enc_width, MProc.part, MProc.l0, MProc.l1, MProc.l2, MProc.l3, MProc.l4, MProc.l5, MProc.l6, MProc.l7, MProc.l8, MProc.l9, MDim.enc_width, MDim.part, MDim.l0, MDim.l1, MDim.l2, MVar.enc_width, MVar.part, MVar.l0, MVar.l1, MVar.l2, MVar.l3, MVar.l4, MExpr.enc_width, MExpr.part, MExpr.l0, MExpr.l1, MExpr.l2, MExpr.l3, MExpr.l4, MExpr.l5, MExpr.l6, MExpr.l7, MExpr.l8, MExpr.l9, MExpr.l10, MExpr.l11, MExpr.p5, MModel.enc_width, MModel.part, MModel.l0, MModel.l1, MModel.l2, MModel.l3, MModel.l4, MModel.l5, MModel.l6, asInt_mk, asBool_mk, asStr_mk, asLst_mk, bind_mk, if_true, leaf_int, leaf_bool, leaf_str, leaf_lst, List.length_map, hd l2 (by omega), cond_true, cond_false, List.nil_append]
      | true =>
        have e : l2.map (T.int .i64) ++ [T.int .i64 x.V.Who] = (l2 ++ [x.V.Who]).map (T.int .i64) := by simp
        have hf : fitsB (l2.length + [T.int .i64 x.V.Who].length) 8 = true := fits8 (by simp; omega)
        simp only [if_true, hf, e, cutB_inl, MType.enc_width, MType.part, MType.l0, MType.l1, MShape.enc_width, MShape.part, MShape.l0, MShape.l1, MStmt.enc_width, MStmt.part, MStmt.l0, MStmt.l1, MStmt.l2, MStmt.l3, MStmt.l4, MStmt.l5, MStmt.l6, MTrans.enc_width, MTrans.part, MTrans.l0, MTrans.l1, MTrans.l2, MTrans.l3, MTrans.l4, MTrans.l5, MTrans.l6, MTrans.l7, MTrans.l8, MTrans.p0, MLoc.enc_width, MLoc.part, MLoc.l0, MLoc.l1, MLoc.l2, MLoc.l3, MLoc.l4, MLoc.l5, MLoc.l6, MProc.enc_width, MProc.part, MProc.l0, MProc.l1, MProc.l2, MProc.l3, MProc.l4, MProc.l5, MProc.l6, MProc.l7, MProc.l8, MProc.l9, MDim.enc_width, MDim.part, MDim.l0, MDim.l1, MDim.l2, MVar.enc_width, MVar.part, MVar.l0, MVar.l1, MVar.l2, MVar.l3, MVar.l4, MExpr.enc_width, MExpr.part, MExpr.l0, MExpr.l1, MExpr.l2, MExpr.l3, MExpr.l4, MExpr.l5, MExpr.l6, MExpr.l7, MExpr.l8, MExpr.l9, MExpr.l10, MExpr.l11, MExpr.p5, MModel.enc_width, MModel.part, MModel.l0, MModel.l1, MModel.l2, MModel.l3, MModel.l4, MModel.l5, MModel.l6, asInt_mk, asBool_mk, asStr_mk, asLst_mk, bind_mk, if_true, leaf_int, leaf_bool, leaf_str, leaf_lst, List.length_map, hd (l2 ++ [x.V.Who]) (by simp; omega), cond_true, List.append_assoc]
  cases hA : (x.Op == 30 || x.Op == 39) with
  | false =>
    simp only [Bool.false_eq_true, if_false, cutB_inl, MType.enc_width, MType.part, MType.l0, MType.l1, MShape.enc_width, MShape.part, MShape.l0, MShape.l1, MStmt.enc_width, MStmt.part, MStmt.l0, MStmt.l1, MStmt.l2, MStmt.l3, MStmt.l4, MStmt.l5, MStmt.l6, MTrans.enc_width, MTrans.part, MTrans.l0, MTrans.l1, MTrans.l2, MTrans.l3, MTrans.l4, MTrans.l5, MTrans.l6, MTrans.l7, MTrans.l8, MTrans.p0, MLoc.enc_width, MLoc.part, MLoc.l0, MLoc.l1, MLoc.l2, MLoc.l3, MLoc.l4, MLoc.l5, MLoc.l6, MProc.enc_width, MProc.part, MProc.l0, MProc.l1, MProc.l2, MProc.l3, MProc.l4, MProc.l5, MProc.l6, MProc.l7, MProc.l8, MProc.l9, MDim.enc_width, MDim.part, MDim.l0, MDim.l1, MDim.l2, MVar.enc_width, MVar.part, MVar.l0, MVar.l1, MVar.l2, MVar.l3, MVar.l4, MExpr.enc_width, MExpr.part, MExpr.l0, MExpr.l1, MExpr.l2, MExpr.l3, MExpr.l4, MExpr.l5, MExpr.l6, MExpr.l7, MExpr.l8, MExpr.l9, MExpr.l10, MExpr.l11, MExpr.p5, MModel.enc_width, MModel.part, MModel.l0, MModel.l1, MModel.l2, MModel.l3, MModel.l4, MModel.l5, MModel.l6, asInt_mk, asBool_mk, asStr_mk, asLst_mk, bind_mk, if_true, leaf_int, leaf_bool, leaf_str, leaf_lst, cond_false, List.append_nil, List.length_map]
    exact tail l (by omega)
  | true =>
    have hf : fitsB (l.length + x.Args.length) 8 = true := fits8 (by omega)
    simp only [if_true, List.length_map, hf, cutB_inl, MType.enc_width, MType.part, MType.l0, MType.l1, MShape.enc_width, MShape.part, MShape.l0, MShape.l1, MStmt.enc_width, MStmt.part, MStmt.l0, MStmt.l1, MStmt.l2, MStmt.l3, MStmt.l4, MStmt.l5, MStmt.l6, MTrans.enc_width, MTrans.part, MTrans.l0, MTrans.l1, MTrans.l2, MTrans.l3, MTrans.l4, MTrans.l5, MTrans.l6, MTrans.l7, MTrans.l8, MTrans.p0, MLoc.enc_width, MLoc.part, MLoc.l0, MLoc.l1, MLoc.l2, MLoc.l3, MLoc.l4, MLoc.l5, MLoc.l6, MProc.enc_width, MProc.part, MProc.l0, MProc.l1, MProc.l2, MProc.l3, MProc.l4, MProc.l5, MProc.l6, MProc.l7, MProc.l8, MProc.l9, MDim.enc_width, MDim.part, MDim.l0, MDim.l1, MDim.l2, MVar.enc_width, MVar.part, MVar.l0, MVar.l1, MVar.l2, MVar.l3, MVar.l4, MExpr.enc_width, MExpr.part, MExpr.l0, MExpr.l1, MExpr.l2, MExpr.l3, MExpr.l4, MExpr.l5, MExpr.l6, MExpr.l7, MExpr.l8, MExpr.l9, MExpr.l10, MExpr.l11, MExpr.p5, MModel.enc_width, MModel.part, MModel.l0, MModel.l1, MModel.l2, MModel.l3, MModel.l4, MModel.l5, MModel.l6, asInt_mk, asBool_mk, asStr_mk, asLst_mk, bind_mk, if_true, leaf_int, leaf_bool, leaf_str, leaf_lst, cond_true]
    have := tail (l ++ x.Args) (by simp; omega)
    simp only [List.map_append, List.length_append, List.length_map] at this ⊢
    exact this
end Go.Ax
