/- Layer 11: statements, and what is used: the program's side. -/
import Derived.Test.YtkbbhfamjkjblaaGoodStillGoodD
set_option linter.unusedVariables false
set_option linter.unusedSimpArgs false
namespace Go.Ax
open Go
def placeS (m : MModel) (a : Int) : Bool := !(decide (a < 0) || decide (a ≥ (m.Exprs.length : Int)))
theorem place_range {m : MModel} {a : Int} (h : placeS m a = true) : 0 ≤ a ∧ a < m.Exprs.length := by
  simp [placeS] at h
  exact h
theorem good_place_is (q : Nat) (hq : 1 < q) (m : MModel) (a : Int) : good_checker_place q m.enc a = some (placeS m a, ()) := by
  simp only [good_checker_place, MType.enc_width, MType.part, MType.l0, MType.l1, MShape.enc_width, MShape.part, MShape.l0, MShape.l1, MStmt.enc_width, MStmt.part, MStmt.l0, MStmt.l1, MStmt.l2, MStmt.l3, MStmt.l4, MStmt.l5, MStmt.l6, MTrans.enc_width, MTrans.part, MTrans.l0, MTrans.l1, MTrans.l2, MTrans.l3, MTrans.l4, MTrans.l5, MTrans.l6, MTrans.l7, MTrans.l8, MTrans.p0, MLoc.enc_width, MLoc.part, MLoc.l0, MLoc.l1, MLoc.l2, MLoc.l3, MLoc.l4, MLoc.l5, MLoc.l6, MProc.enc_width, MProc.part, MProc.l0, MProc.l1, MProc.l2, MProc.l3, MProc.l4, MProc.l5, MProc.l6, MProc.l7, MProc.l8, MProc.l9, MDim.enc_width, MDim.part, MDim.l0, MDim.l1, MDim.l2, MVar.enc_width, MVar.part, MVar.l0, MVar.l1, MVar.l2, MVar.l3, MVar.l4, MExpr.enc_width, MExpr.part, MExpr.l0, MExpr.l1, MExpr.l2, MExpr.l3, MExpr.l4, MExpr.l5, MExpr.l6, MExpr.l7, MExpr.l8, MExpr.l9, MExpr.l10, MExpr.l11, MExpr.p5, MModel.enc_width, MModel.part, MModel.l0, MModel.l1, MModel.l2, MModel.l3, MModel.l4, MModel.l5, MModel.l6, asInt_mk, asBool_mk, asStr_mk, asLst_mk, bind_mk, if_true, leaf_int, leaf_bool, leaf_str, leaf_lst, List.length_map, good_below_one q _ a hq, placeS]
def targetS (m : MModel) (a : Int) : Bool := placeS m a && (m.ex a).Op == 2 && (m.ex a).V.Scope != 2
theorem good_target_is (q : Nat) (hq : 1 < q) (m : MModel) (a : Int) : good_checker_target q m.enc a = some (targetS m a, ()) := by
  unfold good_checker_target targetS
  simp only [good_place_is q hq, bind_mk]
  cases hp : placeS m a with
  | false => rfl
  | true =>
    obtain ⟨h0, h1⟩ := place_range hp
    simp only [if_true, MType.enc_width, MType.part, MType.l0, MType.l1, MShape.enc_width, MShape.part, MShape.l0, MShape.l1, MStmt.enc_width, MStmt.part, MStmt.l0, MStmt.l1, MStmt.l2, MStmt.l3, MStmt.l4, MStmt.l5, MStmt.l6, MTrans.enc_width, MTrans.part, MTrans.l0, MTrans.l1, MTrans.l2, MTrans.l3, MTrans.l4, MTrans.l5, MTrans.l6, MTrans.l7, MTrans.l8, MTrans.p0, MLoc.enc_width, MLoc.part, MLoc.l0, MLoc.l1, MLoc.l2, MLoc.l3, MLoc.l4, MLoc.l5, MLoc.l6, MProc.enc_width, MProc.part, MProc.l0, MProc.l1, MProc.l2, MProc.l3, MProc.l4, MProc.l5, MProc.l6, MProc.l7, MProc.l8, MProc.l9, MDim.enc_width, MDim.part, MDim.l0, MDim.l1, MDim.l2, MVar.enc_width, MVar.part, MVar.l0, MVar.l1, MVar.l2, MVar.l3, MVar.l4, MExpr.enc_width, MExpr.part, MExpr.l0, MExpr.l1, MExpr.l2, MExpr.l3, MExpr.l4, MExpr.l5, MExpr.l6, MExpr.l7, MExpr.l8, MExpr.l9, MExpr.l10, MExpr.l11, MExpr.p5, MModel.enc_width, MModel.part, MModel.l0, MModel.l1, MModel.l2, MModel.l3, MModel.l4, MModel.l5, MModel.l6, asInt_mk, asBool_mk, asStr_mk, asLst_mk, bind_mk, if_true, leaf_int, leaf_bool, leaf_str, leaf_lst, rd_ex m h0 h1, and_any, Bool.true_and]
def emptyS (s : MStmt) (a n t : Bool) : Bool := (!a || ((s.Args.length : Int) + (s.Match.length : Int) == 0)) && (!n || s.N == 0) && (!t || strEq s.Text emp)
theorem good_empty_is (q : Nat) (s : MStmt) (h1 : s.Args.length ≤ 17592186043904) (h2 : s.Match.length ≤ 17592186043904) (a n t : Bool) : good_empty q s.enc a n t = some (emptyS s a n t, ()) := by
  unfold good_empty emptyS
  simp only [MType.enc_width, MType.part, MType.l0, MType.l1, MShape.enc_width, MShape.part, MShape.l0, MShape.l1, MStmt.enc_width, MStmt.part, MStmt.l0, MStmt.l1, MStmt.l2, MStmt.l3, MStmt.l4, MStmt.l5, MStmt.l6, MTrans.enc_width, MTrans.part, MTrans.l0, MTrans.l1, MTrans.l2, MTrans.l3, MTrans.l4, MTrans.l5, MTrans.l6, MTrans.l7, MTrans.l8, MTrans.p0, MLoc.enc_width, MLoc.part, MLoc.l0, MLoc.l1, MLoc.l2, MLoc.l3, MLoc.l4, MLoc.l5, MLoc.l6, MProc.enc_width, MProc.part, MProc.l0, MProc.l1, MProc.l2, MProc.l3, MProc.l4, MProc.l5, MProc.l6, MProc.l7, MProc.l8, MProc.l9, MDim.enc_width, MDim.part, MDim.l0, MDim.l1, MDim.l2, MVar.enc_width, MVar.part, MVar.l0, MVar.l1, MVar.l2, MVar.l3, MVar.l4, MExpr.enc_width, MExpr.part, MExpr.l0, MExpr.l1, MExpr.l2, MExpr.l3, MExpr.l4, MExpr.l5, MExpr.l6, MExpr.l7, MExpr.l8, MExpr.l9, MExpr.l10, MExpr.l11, MExpr.p5, MModel.enc_width, MModel.part, MModel.l0, MModel.l1, MModel.l2, MModel.l3, MModel.l4, MModel.l5, MModel.l6, asInt_mk, asBool_mk, asStr_mk, asLst_mk, bind_mk, if_true, leaf_int, leaf_bool, leaf_str, leaf_lst, List.length_map, w64 (n := (s.Args.length : Int) + (s.Match.length : Int)) (by omega) (by omega), or_any, and_any]
def takenF (m : MModel) (p : Int × Int) : Bool := !((p.2 == 0) && !targetS m p.1)
def takenS (m : MModel) (s : MStmt) : Bool := matchedS m (m.Exprs.length : Int) s.Args s.Match && (s.Args.zip s.Match).all (takenF m)
theorem good_taken_is (q : Nat) (hq : 140737488351232 < q) (m : MModel) (s : MStmt) (h1 : s.Args.length ≤ 17592186043904) : good_checker_taken q m.enc s.enc = some (takenS m s, ()) := by
  unfold good_checker_taken takenS
  simp only [MType.enc_width, MType.part, MType.l0, MType.l1, MShape.enc_width, MShape.part, MShape.l0, MShape.l1, MStmt.enc_width, MStmt.part, MStmt.l0, MStmt.l1, MStmt.l2, MStmt.l3, MStmt.l4, MStmt.l5, MStmt.l6, MTrans.enc_width, MTrans.part, MTrans.l0, MTrans.l1, MTrans.l2, MTrans.l3, MTrans.l4, MTrans.l5, MTrans.l6, MTrans.l7, MTrans.l8, MTrans.p0, MLoc.enc_width, MLoc.part, MLoc.l0, MLoc.l1, MLoc.l2, MLoc.l3, MLoc.l4, MLoc.l5, MLoc.l6, MProc.enc_width, MProc.part, MProc.l0, MProc.l1, MProc.l2, MProc.l3, MProc.l4, MProc.l5, MProc.l6, MProc.l7, MProc.l8, MProc.l9, MDim.enc_width, MDim.part, MDim.l0, MDim.l1, MDim.l2, MVar.enc_width, MVar.part, MVar.l0, MVar.l1, MVar.l2, MVar.l3, MVar.l4, MExpr.enc_width, MExpr.part, MExpr.l0, MExpr.l1, MExpr.l2, MExpr.l3, MExpr.l4, MExpr.l5, MExpr.l6, MExpr.l7, MExpr.l8, MExpr.l9, MExpr.l10, MExpr.l11, MExpr.p5, MModel.enc_width, MModel.part, MModel.l0, MModel.l1, MModel.l2, MModel.l3, MModel.l4, MModel.l5, MModel.l6, asInt_mk, asBool_mk, asStr_mk, asLst_mk, bind_mk, if_true, leaf_int, leaf_bool, leaf_str, leaf_lst, List.length_map, good_matched_is q hq m _ (Int.le_refl _) s.Args s.Match (by omega)]
  cases hm : matchedS m (m.Exprs.length : Int) s.Args s.Match with
  | false => rfl
  | true =>
    have hlen : s.Match.length = s.Args.length := by
      unfold matchedS at hm
      simp only [Bool.and_eq_true, Bool.not_eq_true', Bool.or_eq_false_iff, bne_eq_false_iff_eq] at hm
      omega
    have hz : (s.Args.zip s.Match).length = s.Match.length := by simp [hlen]
    simp only [Bool.not_true, Bool.false_eq_true, if_false, Bool.true_and]
    have := loop_all (s.Args.zip s.Match) (fun k i => good_checker_taken_l0 q k m.enc (s.Match.map (T.int .i64)) (s.Match.length : Int) i s.enc) (takenF m) (.inl ()) (.inr (false, ()))
      (fun k i h => by
        have i1 : i < s.Args.length := by omega
        have i2 : i < s.Match.length := by omega
        simp only [good_checker_taken_l0]
        rw [if_pos (by simp; omega), rd_map int_width i2]
        simp only [MType.enc_width, MType.part, MType.l0, MType.l1, MShape.enc_width, MShape.part, MShape.l0, MShape.l1, MStmt.enc_width, MStmt.part, MStmt.l0, MStmt.l1, MStmt.l2, MStmt.l3, MStmt.l4, MStmt.l5, MStmt.l6, MTrans.enc_width, MTrans.part, MTrans.l0, MTrans.l1, MTrans.l2, MTrans.l3, MTrans.l4, MTrans.l5, MTrans.l6, MTrans.l7, MTrans.l8, MTrans.p0, MLoc.enc_width, MLoc.part, MLoc.l0, MLoc.l1, MLoc.l2, MLoc.l3, MLoc.l4, MLoc.l5, MLoc.l6, MProc.enc_width, MProc.part, MProc.l0, MProc.l1, MProc.l2, MProc.l3, MProc.l4, MProc.l5, MProc.l6, MProc.l7, MProc.l8, MProc.l9, MDim.enc_width, MDim.part, MDim.l0, MDim.l1, MDim.l2, MVar.enc_width, MVar.part, MVar.l0, MVar.l1, MVar.l2, MVar.l3, MVar.l4, MExpr.enc_width, MExpr.part, MExpr.l0, MExpr.l1, MExpr.l2, MExpr.l3, MExpr.l4, MExpr.l5, MExpr.l6, MExpr.l7, MExpr.l8, MExpr.l9, MExpr.l10, MExpr.l11, MExpr.p5, MModel.enc_width, MModel.part, MModel.l0, MModel.l1, MModel.l2, MModel.l3, MModel.l4, MModel.l5, MModel.l6, asInt_mk, asBool_mk, asStr_mk, asLst_mk, bind_mk, if_true, leaf_int, leaf_bool, leaf_str, leaf_lst, rd_map int_width i1, good_target_is q (by omega), and_any, wrap_succ i2 (by omega), List.getElem_zip, takenF]
        exact ite_flip _ _ _)
      (fun k => by simp only [good_checker_taken_l0]; rw [if_neg (by simp [hlen])]) q (by omega)
    rw [this]
    cases (s.Args.zip s.Match).all (takenF m) <;> rfl
def statementS (m : MModel) (s : MStmt) : Bool :=
  bif s.Kind == 1 || s.Kind == 3 then placeS m s.A && s.B == -1 && emptyS s true true true else
  bif s.Kind == 2 then targetS m s.A && placeS m s.B && emptyS s true true true else
  bif s.Kind == 4 then s.A == -1 && s.B == -1 && belowS (m.Exprs.length : Int) s.Args && ((s.Match.length : Int) == 0) && decide ((s.Text.size : Int) ≤ 256) && s.N == 0 else
  bif s.Kind == 5 then placeS m s.A && s.B == -1 && decide ((s.Args.length : Int) ≥ 1) && decide ((s.Args.length : Int) ≤ 8) && belowS (m.Exprs.length : Int) s.Args && ((s.Match.length : Int) == 0) && (s.N == 0 || s.N == 1) && strEq s.Text emp else
  bif s.Kind == 6 then placeS m s.A && s.B == -1 && takenS m s && decide (s.N ≥ 0) && decide (s.N ≤ 3) && strEq s.Text emp else
  bif s.Kind == 7 || s.Kind == 8 then s.A == -1 && s.B == -1 && emptyS s true true true else
  bif s.Kind == 9 then targetS m s.A && s.B == -1 && decide (s.N ≥ 0) && decide (s.N < (m.Shapes.length : Int)) && emptyS s true false true else false
theorem good_statement_is (q : Nat) (hq : 140737488351232 < q) (m : MModel) (s : MStmt) (h1 : s.Args.length ≤ 17592186043904) (h2 : s.Match.length ≤ 17592186043904) : good_checker_statement q m.enc s.enc = some (statementS m s, ()) := by
  unfold good_checker_statement
  simp only [MType.enc_width, MType.part, MType.l0, MType.l1, MShape.enc_width, MShape.part, MShape.l0, MShape.l1, MStmt.enc_width, MStmt.part, MStmt.l0, MStmt.l1, MStmt.l2, MStmt.l3, MStmt.l4, MStmt.l5, MStmt.l6, MTrans.enc_width, MTrans.part, MTrans.l0, MTrans.l1, MTrans.l2, MTrans.l3, MTrans.l4, MTrans.l5, MTrans.l6, MTrans.l7, MTrans.l8, MTrans.p0, MLoc.enc_width, MLoc.part, MLoc.l0, MLoc.l1, MLoc.l2, MLoc.l3, MLoc.l4, MLoc.l5, MLoc.l6, MProc.enc_width, MProc.part, MProc.l0, MProc.l1, MProc.l2, MProc.l3, MProc.l4, MProc.l5, MProc.l6, MProc.l7, MProc.l8, MProc.l9, MDim.enc_width, MDim.part, MDim.l0, MDim.l1, MDim.l2, MVar.enc_width, MVar.part, MVar.l0, MVar.l1, MVar.l2, MVar.l3, MVar.l4, MExpr.enc_width, MExpr.part, MExpr.l0, MExpr.l1, MExpr.l2, MExpr.l3, MExpr.l4, MExpr.l5, MExpr.l6, MExpr.l7, MExpr.l8, MExpr.l9, MExpr.l10, MExpr.l11, MExpr.p5, MModel.enc_width, MModel.part, MModel.l0, MModel.l1, MModel.l2, MModel.l3, MModel.l4, MModel.l5, MModel.l6, asInt_mk, asBool_mk, asStr_mk, asLst_mk, bind_mk, if_true, leaf_int, leaf_bool, leaf_str, leaf_lst]
  have hq1 : 1 < q := by omega
  have ep := good_empty_is q s h1 h2
  have head : (if (s.Kind == 1) = true then (some (.inl (m.enc, (), s.Kind, (s.Kind == 1), s.enc, ())) : Option ((T × Unit × Int × Bool × T × Unit) ⊕ (Bool × Unit))) else some (.inl (m.enc, (), s.Kind, (s.Kind == 3), s.enc, ()))) =
      some (.inl (m.enc, (), s.Kind, (s.Kind == 1 || s.Kind == 3), s.enc, ())) := by
    cases hk : s.Kind == 1 <;> simp
  rw [head]
  simp only [cutB_inl]
  have mid : ∀ k : Int, (if (k == 7) = true then (some (.inl (m.enc, (), k, (k == 7), s.enc, ())) : Option ((T × Unit × Int × Bool × T × Unit) ⊕ (Bool × Unit))) else some (.inl (m.enc, (), k, (k == 8), s.enc, ()))) =
      some (.inl (m.enc, (), k, (k == 7 || k == 8), s.enc, ())) := fun k => by
    cases hk : k == 7 <;> simp
  simp only [mid, cutB_inl, MType.enc_width, MType.part, MType.l0, MType.l1, MShape.enc_width, MShape.part, MShape.l0, MShape.l1, MStmt.enc_width, MStmt.part, MStmt.l0, MStmt.l1, MStmt.l2, MStmt.l3, MStmt.l4, MStmt.l5, MStmt.l6, MTrans.enc_width, MTrans.part, MTrans.l0, MTrans.l1, MTrans.l2, MTrans.l3, MTrans.l4, MTrans.l5, MTrans.l6, MTrans.l7, MTrans.l8, MTrans.p0, MLoc.enc_width, MLoc.part, MLoc.l0, MLoc.l1, MLoc.l2, MLoc.l3, MLoc.l4, MLoc.l5, MLoc.l6, MProc.enc_width, MProc.part, MProc.l0, MProc.l1, MProc.l2, MProc.l3, MProc.l4, MProc.l5, MProc.l6, MProc.l7, MProc.l8, MProc.l9, MDim.enc_width, MDim.part, MDim.l0, MDim.l1, MDim.l2, MVar.enc_width, MVar.part, MVar.l0, MVar.l1, MVar.l2, MVar.l3, MVar.l4, MExpr.enc_width, MExpr.part, MExpr.l0, MExpr.l1, MExpr.l2, MExpr.l3, MExpr.l4, MExpr.l5, MExpr.l6, MExpr.l7, MExpr.l8, MExpr.l9, MExpr.l10, MExpr.l11, MExpr.p5, MModel.enc_width, MModel.part, MModel.l0, MModel.l1, MModel.l2, MModel.l3, MModel.l4, MModel.l5, MModel.l6, asInt_mk, asBool_mk, asStr_mk, asLst_mk, bind_mk, if_true, leaf_int, leaf_bool, leaf_str, leaf_lst, good_place_is q hq1, good_target_is q hq1, good_taken_is q hq m s h1, ep, and_any, or_any, List.length_map, good_below_is q _ s.Args (by omega) (by omega)]
  unfold statementS
  cases c1 : (s.Kind == 1 || s.Kind == 3)
  · simp only [Bool.false_eq_true, if_false, cond_false]
    cases c2 : s.Kind == 2
    · simp only [Bool.false_eq_true, if_false, cond_false]
      cases c3 : s.Kind == 4
      · simp only [Bool.false_eq_true, if_false, cond_false]
        cases c4 : s.Kind == 5
        · simp only [Bool.false_eq_true, if_false, cond_false]
          cases c5 : s.Kind == 6
          · simp only [Bool.false_eq_true, if_false, cond_false]
            cases c6 : (s.Kind == 7 || s.Kind == 8)
            · simp only [Bool.false_eq_true, if_false, cond_false]
              cases c7 : s.Kind == 9
              · rfl
              · simp only [if_true, cond_true]
            · simp only [if_true, cond_true]
          · simp only [if_true, cond_true]
        · simp only [if_true, cond_true]
      · simp only [if_true, cond_true]
    · simp only [if_true, cond_true]
  · simp only [if_true, cond_true]
def slotsS (m : MModel) (i : Int) (v : MVar) : Int := bif v.Scope == 0 then (m.Globals.length : Int) else bif v.Scope == 1 then ((m.pr i).Frame.length : Int) else ((m.pr v.Type_).Frame.length : Int)
theorem good_slots_is (q : Nat) (m : MModel) (i : Int) (v : MVar) (h1 : v.Scope = 1 → 0 ≤ i ∧ i < m.Procs.length) (h2 : v.Scope ≠ 0 → v.Scope ≠ 1 → 0 ≤ v.Type_ ∧ v.Type_ < m.Procs.length) :
    good_checker_slots q m.enc i v.enc = some (slotsS m i v, ()) := by
  unfold good_checker_slots slotsS
  simp only [MType.enc_width, MType.part, MType.l0, MType.l1, MShape.enc_width, MShape.part, MShape.l0, MShape.l1, MStmt.enc_width, MStmt.part, MStmt.l0, MStmt.l1, MStmt.l2, MStmt.l3, MStmt.l4, MStmt.l5, MStmt.l6, MTrans.enc_width, MTrans.part, MTrans.l0, MTrans.l1, MTrans.l2, MTrans.l3, MTrans.l4, MTrans.l5, MTrans.l6, MTrans.l7, MTrans.l8, MTrans.p0, MLoc.enc_width, MLoc.part, MLoc.l0, MLoc.l1, MLoc.l2, MLoc.l3, MLoc.l4, MLoc.l5, MLoc.l6, MProc.enc_width, MProc.part, MProc.l0, MProc.l1, MProc.l2, MProc.l3, MProc.l4, MProc.l5, MProc.l6, MProc.l7, MProc.l8, MProc.l9, MDim.enc_width, MDim.part, MDim.l0, MDim.l1, MDim.l2, MVar.enc_width, MVar.part, MVar.l0, MVar.l1, MVar.l2, MVar.l3, MVar.l4, MExpr.enc_width, MExpr.part, MExpr.l0, MExpr.l1, MExpr.l2, MExpr.l3, MExpr.l4, MExpr.l5, MExpr.l6, MExpr.l7, MExpr.l8, MExpr.l9, MExpr.l10, MExpr.l11, MExpr.p5, MModel.enc_width, MModel.part, MModel.l0, MModel.l1, MModel.l2, MModel.l3, MModel.l4, MModel.l5, MModel.l6, asInt_mk, asBool_mk, asStr_mk, asLst_mk, bind_mk, if_true, leaf_int, leaf_bool, leaf_str, leaf_lst, List.length_map]
  cases c0 : v.Scope == 0 with
  | true => rfl
  | false =>
    cases c1 : v.Scope == 1 with
    | true =>
      obtain ⟨a, b⟩ := h1 (by simpa using c1)
      simp only [Bool.false_eq_true, if_false, if_true, cond_false, cond_true, rd_pr m a b, MType.enc_width, MType.part, MType.l0, MType.l1, MShape.enc_width, MShape.part, MShape.l0, MShape.l1, MStmt.enc_width, MStmt.part, MStmt.l0, MStmt.l1, MStmt.l2, MStmt.l3, MStmt.l4, MStmt.l5, MStmt.l6, MTrans.enc_width, MTrans.part, MTrans.l0, MTrans.l1, MTrans.l2, MTrans.l3, MTrans.l4, MTrans.l5, MTrans.l6, MTrans.l7, MTrans.l8, MTrans.p0, MLoc.enc_width, MLoc.part, MLoc.l0, MLoc.l1, MLoc.l2, MLoc.l3, MLoc.l4, MLoc.l5, MLoc.l6, MProc.enc_width, MProc.part, MProc.l0, MProc.l1, MProc.l2, MProc.l3, MProc.l4, MProc.l5, MProc.l6, MProc.l7, MProc.l8, MProc.l9, MDim.enc_width, MDim.part, MDim.l0, MDim.l1, MDim.l2, MVar.enc_width, MVar.part, MVar.l0, MVar.l1, MVar.l2, MVar.l3, MVar.l4, MExpr.enc_width, MExpr.part, MExpr.l0, MExpr.l1, MExpr.l2, MExpr.l3, MExpr.l4, MExpr.l5, MExpr.l6, MExpr.l7, MExpr.l8, MExpr.l9, MExpr.l10, MExpr.l11, MExpr.p5, MModel.enc_width, MModel.part, MModel.l0, MModel.l1, MModel.l2, MModel.l3, MModel.l4, MModel.l5, MModel.l6, asInt_mk, asBool_mk, asStr_mk, asLst_mk, bind_mk, if_true, leaf_int, leaf_bool, leaf_str, leaf_lst, List.length_map]
    | false =>
      obtain ⟨a, b⟩ := h2 (by simpa using c0) (by simpa using c1)
      simp only [Bool.false_eq_true, if_false, cond_false, rd_pr m a b, MType.enc_width, MType.part, MType.l0, MType.l1, MShape.enc_width, MShape.part, MShape.l0, MShape.l1, MStmt.enc_width, MStmt.part, MStmt.l0, MStmt.l1, MStmt.l2, MStmt.l3, MStmt.l4, MStmt.l5, MStmt.l6, MTrans.enc_width, MTrans.part, MTrans.l0, MTrans.l1, MTrans.l2, MTrans.l3, MTrans.l4, MTrans.l5, MTrans.l6, MTrans.l7, MTrans.l8, MTrans.p0, MLoc.enc_width, MLoc.part, MLoc.l0, MLoc.l1, MLoc.l2, MLoc.l3, MLoc.l4, MLoc.l5, MLoc.l6, MProc.enc_width, MProc.part, MProc.l0, MProc.l1, MProc.l2, MProc.l3, MProc.l4, MProc.l5, MProc.l6, MProc.l7, MProc.l8, MProc.l9, MDim.enc_width, MDim.part, MDim.l0, MDim.l1, MDim.l2, MVar.enc_width, MVar.part, MVar.l0, MVar.l1, MVar.l2, MVar.l3, MVar.l4, MExpr.enc_width, MExpr.part, MExpr.l0, MExpr.l1, MExpr.l2, MExpr.l3, MExpr.l4, MExpr.l5, MExpr.l6, MExpr.l7, MExpr.l8, MExpr.l9, MExpr.l10, MExpr.l11, MExpr.p5, MModel.enc_width, MModel.part, MModel.l0, MModel.l1, MModel.l2, MModel.l3, MModel.l4, MModel.l5, MModel.l6, asInt_mk, asBool_mk, asStr_mk, asLst_mk, bind_mk, if_true, leaf_int, leaf_bool, leaf_str, leaf_lst, List.length_map]
theorem count_set : ∀ {h : List Bool} {p : Nat}, h[p]? = some false → (h.set p true).count false + 1 = h.count false
  | [], p, e => by simp at e
  | b :: h, 0, e => by
    simp at e
    subst e
    simp [List.count_cons]
  | b :: h, p + 1, e => by
    simp only [List.getElem?_cons_succ] at e
    have := count_set e
    simp only [List.set_cons_succ, List.count_cons]
    omega
/-- what is needed of a model, that what is used can be gone through -/
structure MModel.sound (m : MModel) : Prop where
  fine : m.fine
  exprs : m.Exprs.length ≤ 4096
  all : ∀ i : Nat, i < m.Exprs.length → expressionS m i = true
  pars : ∀ p ∈ m.Procs, p.Params ≤ 128
theorem pr_mem {m : MModel} {k : Int} (h0 : 0 ≤ k) (h : k < m.Procs.length) : m.pr k ∈ m.Procs := by
  have hlt : k.toNat < m.Procs.length := by omega
  unfold MModel.pr
  rw [List.getElem?_eq_getElem hlt]
  exact List.getElem_mem hlt
theorem sound_ex {m : MModel} (hs : m.sound) {k : Int} (h0 : 0 ≤ k) (h : k < m.Exprs.length) : expressionS m k = true := by
  have := hs.all k.toNat (by omega)
  rw [show ((k.toNat : Nat) : Int) = k by omega] at this
  exact this
theorem var_of {m : MModel} {k : Int} (h : expressionS m k = true) (h2 : (m.ex k).Op = 2) : variableS m k (m.ex k).V = true := by
  unfold expressionS at h
  simp only [h2, Bool.and_eq_true] at h
  exact h.2
theorem held_small {m : MModel} (hs : m.sound) {k : Int} (h0 : 0 ≤ k) (h : k < m.Exprs.length) : (heldS (m.ex k)).length ≤ 140 := by
  have he := sound_ex hs h0 h
  have hv := fun h2 => var_of he h2
  unfold expressionS at he
  simp only [Bool.and_eq_true] at he
  have h3 := he.2
  generalize m.ex k = x at *
  obtain ⟨p0, p3⟩ := partsS_range x.Op
  have l1 : ([x.A, x.B, x.C].take (partsS x.Op).toNat).length ≤ 3 := by simp; omega
  have l2 : (bif x.Op == 30 || x.Op == 39 then x.Args else []).length ≤ 128 := by
    by_cases h30 : x.Op = 30
    · simp only [h30] at h3 ⊢
      have c1 : ((30 : Int) == 1) = false := rfl
      have c2 : ((30 : Int) == 2) = false := rfl
      simp only [c1, c2, cond_false, beq_self_eq_true, cond_true, Bool.true_or, Bool.and_eq_true] at h3 ⊢
      have hm := h3.1
      unfold matchedS at hm
      simp only [Bool.and_eq_true, Bool.not_eq_true', Bool.or_eq_false_iff, decide_eq_false_iff_not] at hm
      omega
    · by_cases h39 : x.Op = 39
      · simp only [h39] at h3 ⊢
        have c1 : ((39 : Int) == 1) = false := rfl
        have c2 : ((39 : Int) == 2) = false := rfl
        have c3 : ((39 : Int) == 30) = false := rfl
        have c4 : ((39 : Int) == 38) = false := rfl
        simp only [c1, c2, c3, c4, cond_false, beq_self_eq_true, cond_true, Bool.or_true, Bool.and_eq_true, beq_iff_eq] at h3 ⊢
        obtain ⟨r1, r2⟩ := proctype_range h3.1.1.2
        have := hs.pars _ (pr_mem r1 r2)
        omega
      · have b1 : (x.Op == 30) = false := by simpa using h30
        have b2 : (x.Op == 39) = false := by simpa using h39
        rw [b1, b2]; simp
  have l3 : (bif x.Op == 2 then (bif x.V.Scope == 2 then [x.V.Who] else []) ++ x.V.Dims.map MDim.I else []).length ≤ 5 := by
    by_cases h2 : x.Op = 2
    · have := hv h2
      unfold variableS at this
      simp only [Bool.and_eq_true, Bool.not_eq_true', Bool.or_eq_false_iff, decide_eq_false_iff_not] at this
      have hd := this.1.1.2
      simp only [h2, beq_self_eq_true, cond_true, List.length_append, List.length_map]
      cases (x.V.Scope == 2) <;> simp <;> omega
    · have b1 : (x.Op == 2) = false := by simpa using h2
      rw [b1]; simp
  unfold heldS
  simp only [List.length_append]
  omega
theorem uses_g0_tot (q : Nat) (hq : 140737488351232 < q) (m : MModel) (hs : m.sound) (i run : Int) (hi : 0 ≤ i ∧ i < m.Procs.length) : ∀ (k at_ : Nat) (h : List Bool) (l : List Int), h.length = m.Exprs.length → (∀ p ∈ l, 0 ≤ p ∧ p < (m.Exprs.length : Int)) → at_ ≤ l.length →
    (l.length - at_) + h.count false * 141 < k → l.length + h.count false * 141 ≤ 20000000000000 → Ret (good_checker_uses_g0 q k m.enc i run (at_ : Int) (h.map T.bool) (l.map (T.int .i64))) (fun _ => True) := by
  intro k
  induction k with
  | zero => intro at_ h l _ _ _ hk; omega
  | succ k ih =>
    intro at_ h l hh hl hat hk hb
    simp only [good_checker_uses_g0, List.length_map]
    by_cases he : at_ = l.length
    · rw [if_pos (by simp; omega)]
      exact Ret.some trivial
    have hlt : at_ < l.length := by omega
    have hp := hl l[at_] (List.getElem_mem hlt)
    have e1 : (l.map (T.int .i64))[Int.toNat (at_ : Int)]? = some (T.int .i64 l[at_]) := by simp [hlt]
    have hlt2 : l[at_].toNat < h.length := by omega
    have e2 : (h.map T.bool)[l[at_].toNat]? = some (T.bool h[l[at_].toNat]) := by simp [hlt2]
    rw [if_neg (by simp; omega), if_pos (by omega), e1]
    simp only [MType.enc_width, MType.part, MType.l0, MType.l1, MShape.enc_width, MShape.part, MShape.l0, MShape.l1, MStmt.enc_width, MStmt.part, MStmt.l0, MStmt.l1, MStmt.l2, MStmt.l3, MStmt.l4, MStmt.l5, MStmt.l6, MTrans.enc_width, MTrans.part, MTrans.l0, MTrans.l1, MTrans.l2, MTrans.l3, MTrans.l4, MTrans.l5, MTrans.l6, MTrans.l7, MTrans.l8, MTrans.p0, MLoc.enc_width, MLoc.part, MLoc.l0, MLoc.l1, MLoc.l2, MLoc.l3, MLoc.l4, MLoc.l5, MLoc.l6, MProc.enc_width, MProc.part, MProc.l0, MProc.l1, MProc.l2, MProc.l3, MProc.l4, MProc.l5, MProc.l6, MProc.l7, MProc.l8, MProc.l9, MDim.enc_width, MDim.part, MDim.l0, MDim.l1, MDim.l2, MVar.enc_width, MVar.part, MVar.l0, MVar.l1, MVar.l2, MVar.l3, MVar.l4, MExpr.enc_width, MExpr.part, MExpr.l0, MExpr.l1, MExpr.l2, MExpr.l3, MExpr.l4, MExpr.l5, MExpr.l6, MExpr.l7, MExpr.l8, MExpr.l9, MExpr.l10, MExpr.l11, MExpr.p5, MModel.enc_width, MModel.part, MModel.l0, MModel.l1, MModel.l2, MModel.l3, MModel.l4, MModel.l5, MModel.l6, asInt_mk, asBool_mk, asStr_mk, asLst_mk, bind_mk, if_true, leaf_int, leaf_bool, leaf_str, leaf_lst]
    rw [if_pos (by omega), e2]
    simp only [MType.enc_width, MType.part, MType.l0, MType.l1, MShape.enc_width, MShape.part, MShape.l0, MShape.l1, MStmt.enc_width, MStmt.part, MStmt.l0, MStmt.l1, MStmt.l2, MStmt.l3, MStmt.l4, MStmt.l5, MStmt.l6, MTrans.enc_width, MTrans.part, MTrans.l0, MTrans.l1, MTrans.l2, MTrans.l3, MTrans.l4, MTrans.l5, MTrans.l6, MTrans.l7, MTrans.l8, MTrans.p0, MLoc.enc_width, MLoc.part, MLoc.l0, MLoc.l1, MLoc.l2, MLoc.l3, MLoc.l4, MLoc.l5, MLoc.l6, MProc.enc_width, MProc.part, MProc.l0, MProc.l1, MProc.l2, MProc.l3, MProc.l4, MProc.l5, MProc.l6, MProc.l7, MProc.l8, MProc.l9, MDim.enc_width, MDim.part, MDim.l0, MDim.l1, MDim.l2, MVar.enc_width, MVar.part, MVar.l0, MVar.l1, MVar.l2, MVar.l3, MVar.l4, MExpr.enc_width, MExpr.part, MExpr.l0, MExpr.l1, MExpr.l2, MExpr.l3, MExpr.l4, MExpr.l5, MExpr.l6, MExpr.l7, MExpr.l8, MExpr.l9, MExpr.l10, MExpr.l11, MExpr.p5, MModel.enc_width, MModel.part, MModel.l0, MModel.l1, MModel.l2, MModel.l3, MModel.l4, MModel.l5, MModel.l6, asInt_mk, asBool_mk, asStr_mk, asLst_mk, bind_mk, if_true, leaf_int, leaf_bool, leaf_str, leaf_lst]
    rw [wrap_succ hlt (by omega)]
    cases hv : h[l[at_].toNat] with
    | true =>
      simp only [if_true]
      exact ih (at_ + 1) h l hh hl (by omega) (by omega) hb
    | false =>
      simp only [Bool.false_eq_true, if_false]
      rw [if_pos (by omega)]
      have hex := sound_ex hs hp.1 hp.2
      have hfx := hs.fine _ (ex_mem hp.1 hp.2)
      have hsm := held_small hs hp.1 hp.2
      have hbl := held_below hex
      have hvar := fun h2 => var_of hex h2
      simp only [MType.enc_width, MType.part, MType.l0, MType.l1, MShape.enc_width, MShape.part, MShape.l0, MShape.l1, MStmt.enc_width, MStmt.part, MStmt.l0, MStmt.l1, MStmt.l2, MStmt.l3, MStmt.l4, MStmt.l5, MStmt.l6, MTrans.enc_width, MTrans.part, MTrans.l0, MTrans.l1, MTrans.l2, MTrans.l3, MTrans.l4, MTrans.l5, MTrans.l6, MTrans.l7, MTrans.l8, MTrans.p0, MLoc.enc_width, MLoc.part, MLoc.l0, MLoc.l1, MLoc.l2, MLoc.l3, MLoc.l4, MLoc.l5, MLoc.l6, MProc.enc_width, MProc.part, MProc.l0, MProc.l1, MProc.l2, MProc.l3, MProc.l4, MProc.l5, MProc.l6, MProc.l7, MProc.l8, MProc.l9, MDim.enc_width, MDim.part, MDim.l0, MDim.l1, MDim.l2, MVar.enc_width, MVar.part, MVar.l0, MVar.l1, MVar.l2, MVar.l3, MVar.l4, MExpr.enc_width, MExpr.part, MExpr.l0, MExpr.l1, MExpr.l2, MExpr.l3, MExpr.l4, MExpr.l5, MExpr.l6, MExpr.l7, MExpr.l8, MExpr.l9, MExpr.l10, MExpr.l11, MExpr.p5, MModel.enc_width, MModel.part, MModel.l0, MModel.l1, MModel.l2, MModel.l3, MModel.l4, MModel.l5, MModel.l6, asInt_mk, asBool_mk, asStr_mk, asLst_mk, bind_mk, if_true, leaf_int, leaf_bool, leaf_str, leaf_lst, rd_ex m hp.1 hp.2, and_any, or_any]
      generalize m.ex l[at_] = x at *
      refine Ret.ite (fun _ => Ret.some trivial) (fun _ => ?_)
      refine Ret.cutB ?_
      have e3 : List.set (h.map T.bool) l[at_].toNat (T.setLeaf (T.bool false) 0 (T.bool true)) = (h.set l[at_].toNat true).map T.bool := by rw [List.map_set]; rfl
      have hcnt := count_set (h := h) (p := l[at_].toNat) (by rw [List.getElem?_eq_getElem hlt2, hv])
      have next : Ret ((T.part x.enc 0 12).bind fun v27 => (good_held q v27).bind fun v28 => (chk v28.1 1).bind fun v29 =>
          if fitsB ((l.map (T.int .i64)).length + v29.length) 8 = true then good_checker_uses_g0 q k m.enc i run ((at_ + 1 : Nat) : Int) ((h.set l[at_].toNat true).map T.bool) (l.map (T.int .i64) ++ v29) else none) (fun _ => True) := by
        simp only [MType.enc_width, MType.part, MType.l0, MType.l1, MShape.enc_width, MShape.part, MShape.l0, MShape.l1, MStmt.enc_width, MStmt.part, MStmt.l0, MStmt.l1, MStmt.l2, MStmt.l3, MStmt.l4, MStmt.l5, MStmt.l6, MTrans.enc_width, MTrans.part, MTrans.l0, MTrans.l1, MTrans.l2, MTrans.l3, MTrans.l4, MTrans.l5, MTrans.l6, MTrans.l7, MTrans.l8, MTrans.p0, MLoc.enc_width, MLoc.part, MLoc.l0, MLoc.l1, MLoc.l2, MLoc.l3, MLoc.l4, MLoc.l5, MLoc.l6, MProc.enc_width, MProc.part, MProc.l0, MProc.l1, MProc.l2, MProc.l3, MProc.l4, MProc.l5, MProc.l6, MProc.l7, MProc.l8, MProc.l9, MDim.enc_width, MDim.part, MDim.l0, MDim.l1, MDim.l2, MVar.enc_width, MVar.part, MVar.l0, MVar.l1, MVar.l2, MVar.l3, MVar.l4, MExpr.enc_width, MExpr.part, MExpr.l0, MExpr.l1, MExpr.l2, MExpr.l3, MExpr.l4, MExpr.l5, MExpr.l6, MExpr.l7, MExpr.l8, MExpr.l9, MExpr.l10, MExpr.l11, MExpr.p5, MModel.enc_width, MModel.part, MModel.l0, MModel.l1, MModel.l2, MModel.l3, MModel.l4, MModel.l5, MModel.l6, asInt_mk, asBool_mk, asStr_mk, asLst_mk, bind_mk, if_true, leaf_int, leaf_bool, leaf_str, leaf_lst, good_held_is q hq x hfx.1 hfx.2.2, chk_map int_width, List.length_map]
        rw [if_pos (fits8 (by omega)), ← List.map_append]
        refine ih (at_ + 1) _ (l ++ heldS x) (by simpa using hh) (fun p hpm => ?_) (by simp; omega) (by simp; omega) (by simp; omega)
        rcases List.mem_append.1 hpm with hpm | hpm
        · exact hl p hpm
        · have := hbl p hpm
          omega
      rw [e3]
      by_cases h2 : x.Op = 2
      · have hb2 : (x.Op == 2) = true := by simpa using h2
        have hvv := hvar h2
        have hslots := good_slots_is q m i x.V (fun _ => hi) (fun n0 n1 => by
          unfold variableS at hvv
          simp only [Bool.and_eq_true, Bool.not_eq_true', Bool.or_eq_false_iff, decide_eq_false_iff_not] at hvv
          obtain ⟨⟨h4, h5⟩, _⟩ := hvv
          have hs2 : x.V.Scope = 2 := by omega
          rw [hs2] at h5
          simp only [beq_self_eq_true, cond_true, Bool.not_eq_true', Bool.or_eq_false_iff, Bool.not_eq_false'] at h5
          exact proctype_range h5.2)
        simp only [hb2, if_true, MType.enc_width, MType.part, MType.l0, MType.l1, MShape.enc_width, MShape.part, MShape.l0, MShape.l1, MStmt.enc_width, MStmt.part, MStmt.l0, MStmt.l1, MStmt.l2, MStmt.l3, MStmt.l4, MStmt.l5, MStmt.l6, MTrans.enc_width, MTrans.part, MTrans.l0, MTrans.l1, MTrans.l2, MTrans.l3, MTrans.l4, MTrans.l5, MTrans.l6, MTrans.l7, MTrans.l8, MTrans.p0, MLoc.enc_width, MLoc.part, MLoc.l0, MLoc.l1, MLoc.l2, MLoc.l3, MLoc.l4, MLoc.l5, MLoc.l6, MProc.enc_width, MProc.part, MProc.l0, MProc.l1, MProc.l2, MProc.l3, MProc.l4, MProc.l5, MProc.l6, MProc.l7, MProc.l8, MProc.l9, MDim.enc_width, MDim.part, MDim.l0, MDim.l1, MDim.l2, MVar.enc_width, MVar.part, MVar.l0, MVar.l1, MVar.l2, MVar.l3, MVar.l4, MExpr.enc_width, MExpr.part, MExpr.l0, MExpr.l1, MExpr.l2, MExpr.l3, MExpr.l4, MExpr.l5, MExpr.l6, MExpr.l7, MExpr.l8, MExpr.l9, MExpr.l10, MExpr.l11, MExpr.p5, MModel.enc_width, MModel.part, MModel.l0, MModel.l1, MModel.l2, MModel.l3, MModel.l4, MModel.l5, MModel.l6, asInt_mk, asBool_mk, asStr_mk, asLst_mk, bind_mk, if_true, leaf_int, leaf_bool, leaf_str, leaf_lst, good_Reach_is q (by omega), hslots]
        refine Ret.ite (fun _ => Ret.some trivial) (fun _ => Ret.some ?_)
        exact next
      · have hb2 : (x.Op == 2) = false := by simpa using h2
        simp only [hb2, Bool.false_eq_true, if_false]
        exact Ret.some next
end Go.Ax
