/- Layer 11: parts 1 to 4 of a model: the program's side. -/
import Derived.Test.YtkbbhfamjkjblaaGoodStillGoodC
set_option linter.unusedVariables false
set_option linter.unusedSimpArgs false
namespace Go.Ax
open Go
theorem okL_len {α : Type} {K : Nat → Prop} {b : Nat} {ok : α → Prop} {l : List α} (h : okL K b ok l) : l.length * b ≤ 140737488351232 := h.1.1
theorem model_fine {K : Nat → Prop} {m : MModel} (h : m.ok K) : m.fine := fun x hx => by
  have := h.2.2.2.2.2.2.2 x hx
  obtain ⟨_, _, _, _, _, hv, ha, hm⟩ := this
  have h1 := okL_len ha
  have h2 := okL_len hm
  have h3 := okL_len hv.2.2.2.2
  omega
def chanF (m : MModel) (k : Int) : Bool := !(decide (k < 0) || decide (k ≥ (m.Shapes.length : Int)))
def tablesS (m : MModel) : Int × Int :=
  if m.Globals.length > 128 ∨ m.Init.length ≠ m.Globals.length then (1, -1) else
  match typesS m.Globals m.Init with
  | some i => (1, (i : Int))
  | none =>
  if m.Shapes.length > 32 ∨ m.Chans.length > 32 then (2, -1) else
  match fbad MShape.may m.Shapes 0 with
  | some i => (2, (i : Int))
  | none =>
  match fbad (chanF m) m.Chans 0 with
  | some i => (2, (i : Int))
  | none =>
  if m.Procs.length < 1 ∨ m.Procs.length > 16 ∨ m.Claim < -1 ∨ m.Claim ≥ (m.Procs.length : Int) ∨ m.Exprs.length > 4096 then (3, -1) else
  match exGo m m.Exprs.length 0 (List.replicate m.Exprs.length false) with
  | some i => (3, (i : Int))
  | none => (0, 0)
theorem good_tables_is (q : Nat) (hq : 140737488351232 < q) (m : MModel) (hm : m.fine) : good_checker_tables q m.enc = some ((tablesS m).1, (tablesS m).2, ()) := by
  unfold good_checker_tables tablesS
  simp only [MType.enc_width, MType.part, MType.l0, MType.l1, MShape.enc_width, MShape.part, MShape.l0, MShape.l1, MStmt.enc_width, MStmt.part, MStmt.l0, MStmt.l1, MStmt.l2, MStmt.l3, MStmt.l4, MStmt.l5, MStmt.l6, MTrans.enc_width, MTrans.part, MTrans.l0, MTrans.l1, MTrans.l2, MTrans.l3, MTrans.l4, MTrans.l5, MTrans.l6, MTrans.l7, MTrans.l8, MTrans.p0, MLoc.enc_width, MLoc.part, MLoc.l0, MLoc.l1, MLoc.l2, MLoc.l3, MLoc.l4, MLoc.l5, MLoc.l6, MProc.enc_width, MProc.part, MProc.l0, MProc.l1, MProc.l2, MProc.l3, MProc.l4, MProc.l5, MProc.l6, MProc.l7, MProc.l8, MProc.l9, MDim.enc_width, MDim.part, MDim.l0, MDim.l1, MDim.l2, MVar.enc_width, MVar.part, MVar.l0, MVar.l1, MVar.l2, MVar.l3, MVar.l4, MExpr.enc_width, MExpr.part, MExpr.l0, MExpr.l1, MExpr.l2, MExpr.l3, MExpr.l4, MExpr.l5, MExpr.l6, MExpr.l7, MExpr.l8, MExpr.l9, MExpr.l10, MExpr.l11, MExpr.p5, MModel.enc_width, MModel.part, MModel.l0, MModel.l1, MModel.l2, MModel.l3, MModel.l4, MModel.l5, MModel.l6, asInt_mk, asBool_mk, asStr_mk, asLst_mk, bind_mk, if_true, leaf_int, leaf_bool, leaf_str, leaf_lst, or_any, List.length_map]
  by_cases h1 : m.Globals.length > 128 ∨ m.Init.length ≠ m.Globals.length
  · rw [if_pos (by simp; omega), if_pos h1]
  rw [if_neg (by simp; omega), if_neg h1, good_types_is q m.Globals m.Init (by omega) (by omega) (by omega)]
  simp only [bind_mk]
  cases ht : typesS m.Globals m.Init with
  | some i =>
    have : (0 : Int) ≤ i := by omega
    simp [this]
  | none =>
  simp only [Option.map_none, Option.getD_none]
  rw [if_neg (by simp)]
  by_cases h2 : m.Shapes.length > 32 ∨ m.Chans.length > 32
  · rw [if_pos (by simp; omega), if_pos h2]
  rw [if_neg (by simp; omega), if_neg h2]
  have hl0 := loop_find m.Shapes (fun k i => good_checker_tables_l0 q k m.enc (m.Shapes.map MShape.enc) (m.Shapes.length : Int) i m.enc) MShape.may (.inl (m.enc, (), m.enc, ())) (fun i => .inr (2, (i : Int), ()))
    (fun k i h => by
      simp only [good_checker_tables_l0]
      rw [if_pos (by simp; omega), rd_map MShape.enc_width h]
      simp only [MType.enc_width, MType.part, MType.l0, MType.l1, MShape.enc_width, MShape.part, MShape.l0, MShape.l1, MStmt.enc_width, MStmt.part, MStmt.l0, MStmt.l1, MStmt.l2, MStmt.l3, MStmt.l4, MStmt.l5, MStmt.l6, MTrans.enc_width, MTrans.part, MTrans.l0, MTrans.l1, MTrans.l2, MTrans.l3, MTrans.l4, MTrans.l5, MTrans.l6, MTrans.l7, MTrans.l8, MTrans.p0, MLoc.enc_width, MLoc.part, MLoc.l0, MLoc.l1, MLoc.l2, MLoc.l3, MLoc.l4, MLoc.l5, MLoc.l6, MProc.enc_width, MProc.part, MProc.l0, MProc.l1, MProc.l2, MProc.l3, MProc.l4, MProc.l5, MProc.l6, MProc.l7, MProc.l8, MProc.l9, MDim.enc_width, MDim.part, MDim.l0, MDim.l1, MDim.l2, MVar.enc_width, MVar.part, MVar.l0, MVar.l1, MVar.l2, MVar.l3, MVar.l4, MExpr.enc_width, MExpr.part, MExpr.l0, MExpr.l1, MExpr.l2, MExpr.l3, MExpr.l4, MExpr.l5, MExpr.l6, MExpr.l7, MExpr.l8, MExpr.l9, MExpr.l10, MExpr.l11, MExpr.p5, MModel.enc_width, MModel.part, MModel.l0, MModel.l1, MModel.l2, MModel.l3, MModel.l4, MModel.l5, MModel.l6, asInt_mk, asBool_mk, asStr_mk, asLst_mk, bind_mk, if_true, leaf_int, leaf_bool, leaf_str, leaf_lst, good_shape_is q (by omega), wrap_succ h (by omega)]
      exact ite_flip' _ _ _)
    (fun k => by simp only [good_checker_tables_l0]; rw [if_neg (by simp)]) q (by omega)
  rw [hl0]
  cases hs : fbad MShape.may m.Shapes 0 with
  | some i => rfl
  | none =>
  simp only [cutB_inl, MType.enc_width, MType.part, MType.l0, MType.l1, MShape.enc_width, MShape.part, MShape.l0, MShape.l1, MStmt.enc_width, MStmt.part, MStmt.l0, MStmt.l1, MStmt.l2, MStmt.l3, MStmt.l4, MStmt.l5, MStmt.l6, MTrans.enc_width, MTrans.part, MTrans.l0, MTrans.l1, MTrans.l2, MTrans.l3, MTrans.l4, MTrans.l5, MTrans.l6, MTrans.l7, MTrans.l8, MTrans.p0, MLoc.enc_width, MLoc.part, MLoc.l0, MLoc.l1, MLoc.l2, MLoc.l3, MLoc.l4, MLoc.l5, MLoc.l6, MProc.enc_width, MProc.part, MProc.l0, MProc.l1, MProc.l2, MProc.l3, MProc.l4, MProc.l5, MProc.l6, MProc.l7, MProc.l8, MProc.l9, MDim.enc_width, MDim.part, MDim.l0, MDim.l1, MDim.l2, MVar.enc_width, MVar.part, MVar.l0, MVar.l1, MVar.l2, MVar.l3, MVar.l4, MExpr.enc_width, MExpr.part, MExpr.l0, MExpr.l1, MExpr.l2, MExpr.l3, MExpr.l4, MExpr.l5, MExpr.l6, MExpr.l7, MExpr.l8, MExpr.l9, MExpr.l10, MExpr.l11, MExpr.p5, MModel.enc_width, MModel.part, MModel.l0, MModel.l1, MModel.l2, MModel.l3, MModel.l4, MModel.l5, MModel.l6, asInt_mk, asBool_mk, asStr_mk, asLst_mk, bind_mk, if_true, leaf_int, leaf_bool, leaf_str, leaf_lst, List.length_map]
  have hl1 := loop_find m.Chans (fun k i => good_checker_tables_l1 q k m.enc (m.Chans.map (T.int .i64)) (m.Chans.length : Int) i m.enc) (chanF m) (.inl (m.enc, (), m.enc, ())) (fun i => .inr (2, (i : Int), ()))
    (fun k i h => by
      simp only [good_checker_tables_l1]
      rw [if_pos (by simp; omega), rd_map int_width h]
      simp only [MType.enc_width, MType.part, MType.l0, MType.l1, MShape.enc_width, MShape.part, MShape.l0, MShape.l1, MStmt.enc_width, MStmt.part, MStmt.l0, MStmt.l1, MStmt.l2, MStmt.l3, MStmt.l4, MStmt.l5, MStmt.l6, MTrans.enc_width, MTrans.part, MTrans.l0, MTrans.l1, MTrans.l2, MTrans.l3, MTrans.l4, MTrans.l5, MTrans.l6, MTrans.l7, MTrans.l8, MTrans.p0, MLoc.enc_width, MLoc.part, MLoc.l0, MLoc.l1, MLoc.l2, MLoc.l3, MLoc.l4, MLoc.l5, MLoc.l6, MProc.enc_width, MProc.part, MProc.l0, MProc.l1, MProc.l2, MProc.l3, MProc.l4, MProc.l5, MProc.l6, MProc.l7, MProc.l8, MProc.l9, MDim.enc_width, MDim.part, MDim.l0, MDim.l1, MDim.l2, MVar.enc_width, MVar.part, MVar.l0, MVar.l1, MVar.l2, MVar.l3, MVar.l4, MExpr.enc_width, MExpr.part, MExpr.l0, MExpr.l1, MExpr.l2, MExpr.l3, MExpr.l4, MExpr.l5, MExpr.l6, MExpr.l7, MExpr.l8, MExpr.l9, MExpr.l10, MExpr.l11, MExpr.p5, MModel.enc_width, MModel.part, MModel.l0, MModel.l1, MModel.l2, MModel.l3, MModel.l4, MModel.l5, MModel.l6, asInt_mk, asBool_mk, asStr_mk, asLst_mk, bind_mk, if_true, leaf_int, leaf_bool, leaf_str, leaf_lst, or_any, List.length_map, wrap_succ h (by omega), chanF]
      exact ite_flip _ _ _)
    (fun k => by simp only [good_checker_tables_l1]; rw [if_neg (by simp)]) q (by omega)
  rw [hl1]
  cases hc : fbad (chanF m) m.Chans 0 with
  | some i => rfl
  | none =>
  simp only [cutB_inl, MType.enc_width, MType.part, MType.l0, MType.l1, MShape.enc_width, MShape.part, MShape.l0, MShape.l1, MStmt.enc_width, MStmt.part, MStmt.l0, MStmt.l1, MStmt.l2, MStmt.l3, MStmt.l4, MStmt.l5, MStmt.l6, MTrans.enc_width, MTrans.part, MTrans.l0, MTrans.l1, MTrans.l2, MTrans.l3, MTrans.l4, MTrans.l5, MTrans.l6, MTrans.l7, MTrans.l8, MTrans.p0, MLoc.enc_width, MLoc.part, MLoc.l0, MLoc.l1, MLoc.l2, MLoc.l3, MLoc.l4, MLoc.l5, MLoc.l6, MProc.enc_width, MProc.part, MProc.l0, MProc.l1, MProc.l2, MProc.l3, MProc.l4, MProc.l5, MProc.l6, MProc.l7, MProc.l8, MProc.l9, MDim.enc_width, MDim.part, MDim.l0, MDim.l1, MDim.l2, MVar.enc_width, MVar.part, MVar.l0, MVar.l1, MVar.l2, MVar.l3, MVar.l4, MExpr.enc_width, MExpr.part, MExpr.l0, MExpr.l1, MExpr.l2, MExpr.l3, MExpr.l4, MExpr.l5, MExpr.l6, MExpr.l7, MExpr.l8, MExpr.l9, MExpr.l10, MExpr.l11, MExpr.p5, MModel.enc_width, MModel.part, MModel.l0, MModel.l1, MModel.l2, MModel.l3, MModel.l4, MModel.l5, MModel.l6, asInt_mk, asBool_mk, asStr_mk, asLst_mk, bind_mk, if_true, leaf_int, leaf_bool, leaf_str, leaf_lst, List.length_map, or_any]
  by_cases h3 : m.Procs.length < 1 ∨ m.Procs.length > 16 ∨ m.Claim < -1 ∨ m.Claim ≥ (m.Procs.length : Int) ∨ m.Exprs.length > 4096
  · rw [if_pos (by simp; omega), if_pos h3]
  rw [if_neg (by simp; omega), if_neg h3]
  rw [if_pos ⟨rfl, by omega, by omega, by omega, by omega⟩]
  have hn : Int.toNat (m.Exprs.length : Int) = m.Exprs.length := by simp
  have hrep : List.replicate m.Exprs.length (T.bool false) = (List.replicate m.Exprs.length false).map T.bool := by simp
  rw [hn, hrep]
  have hl2 : good_checker_tables_l2 q q m.enc (m.Exprs.length : Int) 0 _ m.enc = _ := good_tables_l2_is q hq m hm (by omega) m.enc rfl m.Exprs.length q 0 (List.replicate m.Exprs.length false) (by omega) (by omega) (by simp)
  rw [hl2]
  cases exGo m m.Exprs.length 0 (List.replicate m.Exprs.length false) <;> rfl
/-- part 4 -/
def frameS (p : MProc) : Bool :=
  decide ((p.Frame.length : Int) ≤ 128) && ((p.Init.length : Int) == (p.Frame.length : Int)) && (typesS p.Frame p.Init).isNone && decide (p.Params ≥ 0) && decide (p.Params ≤ (p.Frame.length : Int)) &&
  decide (p.Active ≥ 0) && decide (p.Active ≤ 16) && decide (p.Prio ≥ 1) && decide (p.Prio ≤ 255)
theorem good_frame_is (q : Nat) (hq : 140737488351232 < q) (p : MProc) : good_frame q p.enc = some (frameS p, ()) := by
  unfold good_frame frameS
  simp only [MType.enc_width, MType.part, MType.l0, MType.l1, MShape.enc_width, MShape.part, MShape.l0, MShape.l1, MStmt.enc_width, MStmt.part, MStmt.l0, MStmt.l1, MStmt.l2, MStmt.l3, MStmt.l4, MStmt.l5, MStmt.l6, MTrans.enc_width, MTrans.part, MTrans.l0, MTrans.l1, MTrans.l2, MTrans.l3, MTrans.l4, MTrans.l5, MTrans.l6, MTrans.l7, MTrans.l8, MTrans.p0, MLoc.enc_width, MLoc.part, MLoc.l0, MLoc.l1, MLoc.l2, MLoc.l3, MLoc.l4, MLoc.l5, MLoc.l6, MProc.enc_width, MProc.part, MProc.l0, MProc.l1, MProc.l2, MProc.l3, MProc.l4, MProc.l5, MProc.l6, MProc.l7, MProc.l8, MProc.l9, MDim.enc_width, MDim.part, MDim.l0, MDim.l1, MDim.l2, MVar.enc_width, MVar.part, MVar.l0, MVar.l1, MVar.l2, MVar.l3, MVar.l4, MExpr.enc_width, MExpr.part, MExpr.l0, MExpr.l1, MExpr.l2, MExpr.l3, MExpr.l4, MExpr.l5, MExpr.l6, MExpr.l7, MExpr.l8, MExpr.l9, MExpr.l10, MExpr.l11, MExpr.p5, MModel.enc_width, MModel.part, MModel.l0, MModel.l1, MModel.l2, MModel.l3, MModel.l4, MModel.l5, MModel.l6, asInt_mk, asBool_mk, asStr_mk, asLst_mk, bind_mk, if_true, leaf_int, leaf_bool, leaf_str, leaf_lst, and_any, List.length_map]
  cases h1 : decide ((p.Frame.length : Int) ≤ 128) && ((p.Init.length : Int) == (p.Frame.length : Int)) with
  | false => simp only [Bool.false_eq_true, if_false, bind_mk, Bool.false_and]
  | true =>
    simp only [Bool.and_eq_true, decide_eq_true_eq, beq_iff_eq] at h1
    have e : decide ((((typesS p.Frame p.Init).map Int.ofNat).getD (-1)) < 0) = (typesS p.Frame p.Init).isNone := by
      cases typesS p.Frame p.Init with
      | none => rfl
      | some i => simp
    simp only [if_true, good_types_is q p.Frame p.Init (by omega) (by omega) (by omega), bind_mk, e, and_any, Bool.true_and]
def waysS (l : MLoc) : List (List MTrans) := l.Out :: l.Esc
def encW : List MTrans → T := fun l => T.lst (l.map MTrans.enc)
theorem encW_width (l : List MTrans) : (encW l).width = 1 := rfl
theorem leaf_encW (l : List MTrans) : T.leaf (encW l) 0 = T.lst (l.map MTrans.enc) := rfl
theorem good_ways_is (q : Nat) (l : MLoc) (h : l.Esc.length ≤ 5864062014634) : good_ways q l.enc = some ((waysS l).map encW, ()) := by
  unfold good_ways
  simp only [MType.enc_width, MType.part, MType.l0, MType.l1, MShape.enc_width, MShape.part, MShape.l0, MShape.l1, MStmt.enc_width, MStmt.part, MStmt.l0, MStmt.l1, MStmt.l2, MStmt.l3, MStmt.l4, MStmt.l5, MStmt.l6, MTrans.enc_width, MTrans.part, MTrans.l0, MTrans.l1, MTrans.l2, MTrans.l3, MTrans.l4, MTrans.l5, MTrans.l6, MTrans.l7, MTrans.l8, MTrans.p0, MLoc.enc_width, MLoc.part, MLoc.l0, MLoc.l1, MLoc.l2, MLoc.l3, MLoc.l4, MLoc.l5, MLoc.l6, MProc.enc_width, MProc.part, MProc.l0, MProc.l1, MProc.l2, MProc.l3, MProc.l4, MProc.l5, MProc.l6, MProc.l7, MProc.l8, MProc.l9, MDim.enc_width, MDim.part, MDim.l0, MDim.l1, MDim.l2, MVar.enc_width, MVar.part, MVar.l0, MVar.l1, MVar.l2, MVar.l3, MVar.l4, MExpr.enc_width, MExpr.part, MExpr.l0, MExpr.l1, MExpr.l2, MExpr.l3, MExpr.l4, MExpr.l5, MExpr.l6, MExpr.l7, MExpr.l8, MExpr.l9, MExpr.l10, MExpr.l11, MExpr.p5, MModel.enc_width, MModel.part, MModel.l0, MModel.l1, MModel.l2, MModel.l3, MModel.l4, MModel.l5, MModel.l6, asInt_mk, asBool_mk, asStr_mk, asLst_mk, bind_mk, if_true, leaf_int, leaf_bool, leaf_str, leaf_lst]
  have e : chk (l.Esc.map (fun l => T.lst (l.map MTrans.enc))) 1 = some (l.Esc.map encW) := chk_map encW_width l.Esc
  rw [e]
  simp only [bind_mk, List.length_map, List.length_cons, List.length_nil]
  rw [if_pos]
  · rfl
  · unfold fitsB
    simp only [Bool.or_eq_true, Bool.and_eq_true, Nat.ble_eq]
    omega
def toF (n : Int) (t : MTrans) : Bool := !(decide (t.To < 0) || decide (t.To ≥ n))
/-- the ways of a place, list by list: how many there are with these; none: something is wrong -/
def waysGo (n : Int) : Nat → Int → List (List MTrans) → Option Int
  | _, many, [] => some many
  | k, many, w :: ws => bif decide ((k : Int) > 0) && ((w.length : Int) == 0) then none else bif decide (many + (w.length : Int) > 1024) then none else bif w.all (toF n) then waysGo n (k + 1) (many + (w.length : Int)) ws else none
theorem waysGo_le {n : Int} : ∀ {ws : List (List MTrans)} {k : Nat} {many r : Int}, waysGo n k many ws = some r → many ≤ 1024 → many ≤ r ∧ r ≤ 1024
  | [], k, many, r, h, hm => by simp only [waysGo, Option.some.injEq] at h; omega
  | w :: ws, k, many, r, h, hm => by
    unfold waysGo at h
    cases h1 : decide ((k : Int) > 0) && ((w.length : Int) == 0) with
    | true => rw [h1] at h; cases h
    | false =>
    rw [h1] at h
    cases h2 : decide (many + (w.length : Int) > 1024) with
    | true => rw [h2] at h; cases h
    | false =>
    rw [h2] at h
    cases h3 : w.all (toF n) with
    | false => rw [h3] at h; cases h
    | true =>
    rw [h3] at h
    simp only [cond_false, cond_true] at h
    simp only [decide_eq_false_iff_not] at h2
    have := waysGo_le h (by omega)
    omega
def locF (p : MProc) (i : Int) (l : MLoc) : Bool := !(decide ((l.Esc.length : Int) > 8) || (l.Dstep && l.Atomic) || ((i == p.Final) && decide ((l.Out.length : Int) + (l.Esc.length : Int) > 0)))
def locsGo (p : MProc) (n : Int) : Nat → Int → List MLoc → Option Int
  | _, many, [] => some many
  | i, many, l :: ls => bif locF p i l then (match waysGo n 0 many (waysS l) with | some r => locsGo p n (i + 1) r ls | none => none) else none
def graphS (p : MProc) : Bool :=
  !(decide ((p.Locs.length : Int) < 1) || decide ((p.Locs.length : Int) > 256) || decide (p.Start < 0) || decide (p.Start ≥ (p.Locs.length : Int)) || decide (p.Final < 0) || decide (p.Final ≥ (p.Locs.length : Int))) &&
  (locsGo p (p.Locs.length : Int) 0 0 p.Locs).isSome
theorem good_graph_l2_is (q : Nat) (w : List MTrans) (hw : w.length ≤ 140737488351232) (hq : w.length < q) (n many x4 x5 x7 x8 : Int) (x3 x12 : List T) (x13 : T) :
    good_graph_l2 q q n many x3 x4 x5 x7 x8 (w.map MTrans.enc) (w.length : Int) 0 x12 x13 = some (if w.all (toF n) = true then .inl ((), n, many, x3, x4, x5, (), x7, x8, x12, x13, ()) else .inr (.inr (.inr (false, ())))) :=
  loop_all w (fun k i => good_graph_l2 q k n many x3 x4 x5 x7 x8 (w.map MTrans.enc) (w.length : Int) i x12 x13) (toF n) _ _
    (fun k i h => by
      simp only [good_graph_l2]
      rw [if_pos (by simp; omega), rd_map MTrans.enc_width h]
      simp only [MType.enc_width, MType.part, MType.l0, MType.l1, MShape.enc_width, MShape.part, MShape.l0, MShape.l1, MStmt.enc_width, MStmt.part, MStmt.l0, MStmt.l1, MStmt.l2, MStmt.l3, MStmt.l4, MStmt.l5, MStmt.l6, MTrans.enc_width, MTrans.part, MTrans.l0, MTrans.l1, MTrans.l2, MTrans.l3, MTrans.l4, MTrans.l5, MTrans.l6, MTrans.l7, MTrans.l8, MTrans.p0, MLoc.enc_width, MLoc.part, MLoc.l0, MLoc.l1, MLoc.l2, MLoc.l3, MLoc.l4, MLoc.l5, MLoc.l6, MProc.enc_width, MProc.part, MProc.l0, MProc.l1, MProc.l2, MProc.l3, MProc.l4, MProc.l5, MProc.l6, MProc.l7, MProc.l8, MProc.l9, MDim.enc_width, MDim.part, MDim.l0, MDim.l1, MDim.l2, MVar.enc_width, MVar.part, MVar.l0, MVar.l1, MVar.l2, MVar.l3, MVar.l4, MExpr.enc_width, MExpr.part, MExpr.l0, MExpr.l1, MExpr.l2, MExpr.l3, MExpr.l4, MExpr.l5, MExpr.l6, MExpr.l7, MExpr.l8, MExpr.l9, MExpr.l10, MExpr.l11, MExpr.p5, MModel.enc_width, MModel.part, MModel.l0, MModel.l1, MModel.l2, MModel.l3, MModel.l4, MModel.l5, MModel.l6, asInt_mk, asBool_mk, asStr_mk, asLst_mk, bind_mk, if_true, leaf_int, leaf_bool, leaf_str, leaf_lst, or_any, wrap_succ h (by omega), toF]
      exact ite_flip _ _ _)
    (fun k => by simp only [good_graph_l2]; rw [if_neg (by simp)]) q hq
theorem good_graph_l1_is (q : Nat) (hq : 140737488351232 < q) (ws : List (List MTrans)) (hws : ∀ w ∈ ws, w.length ≤ 17592186043904) (hwl : ws.length ≤ 10) (n x4 x5 : Int) (x3 : List T) (x10 : T) :
    ∀ (d k i : Nat) (many : Int), i + d = ws.length → d < k → 0 ≤ many → many ≤ 1024 →
    good_graph_l1 q k n many x3 x4 x5 (ws.length : Int) i (ws.map encW) x10 = some (match waysGo n i many (ws.drop i) with | some r => .inl ((), n, r, x3, x4, x5, x10, ()) | none => .inr (.inr (false, ()))) := by
  intro d
  induction d with
  | zero =>
    intro k i many hi hk _ _
    obtain ⟨k, rfl⟩ : ∃ m, k = m + 1 := ⟨k - 1, by omega⟩
    simp only [good_graph_l1]
    rw [if_neg (by simp; omega), List.drop_eq_nil_of_le (by omega)]
    rfl
  | succ d ih =>
    intro k i many hi hk h0 h1
    obtain ⟨k, rfl⟩ : ∃ m, k = m + 1 := ⟨k - 1, by omega⟩
    simp only [good_graph_l1]
    have hlt : i < ws.length := by omega
    have e1 : (ws.map encW)[Int.toNat (i : Int)]? = some (encW ws[i]) := by simp [hlt]
    have hlw := hws ws[i] (List.getElem_mem hlt)
    rw [if_pos (by simp; omega), if_pos (by simp; omega), e1]
    simp only [leaf_encW, MType.enc_width, MType.part, MType.l0, MType.l1, MShape.enc_width, MShape.part, MShape.l0, MShape.l1, MStmt.enc_width, MStmt.part, MStmt.l0, MStmt.l1, MStmt.l2, MStmt.l3, MStmt.l4, MStmt.l5, MStmt.l6, MTrans.enc_width, MTrans.part, MTrans.l0, MTrans.l1, MTrans.l2, MTrans.l3, MTrans.l4, MTrans.l5, MTrans.l6, MTrans.l7, MTrans.l8, MTrans.p0, MLoc.enc_width, MLoc.part, MLoc.l0, MLoc.l1, MLoc.l2, MLoc.l3, MLoc.l4, MLoc.l5, MLoc.l6, MProc.enc_width, MProc.part, MProc.l0, MProc.l1, MProc.l2, MProc.l3, MProc.l4, MProc.l5, MProc.l6, MProc.l7, MProc.l8, MProc.l9, MDim.enc_width, MDim.part, MDim.l0, MDim.l1, MDim.l2, MVar.enc_width, MVar.part, MVar.l0, MVar.l1, MVar.l2, MVar.l3, MVar.l4, MExpr.enc_width, MExpr.part, MExpr.l0, MExpr.l1, MExpr.l2, MExpr.l3, MExpr.l4, MExpr.l5, MExpr.l6, MExpr.l7, MExpr.l8, MExpr.l9, MExpr.l10, MExpr.l11, MExpr.p5, MModel.enc_width, MModel.part, MModel.l0, MModel.l1, MModel.l2, MModel.l3, MModel.l4, MModel.l5, MModel.l6, asInt_mk, asBool_mk, asStr_mk, asLst_mk, bind_mk, if_true, leaf_int, leaf_bool, leaf_str, leaf_lst, List.length_map, and_any]
    rw [List.drop_eq_getElem_cons hlt]
    unfold waysGo
    cases hc1 : decide ((i : Int) > 0) && ((ws[i].length : Int) == 0) with
    | true => rfl
    | false =>
      simp only [Bool.false_eq_true, if_false, cond_false]
      rw [w64 (n := many + (ws[i].length : Int)) (by omega) (by omega)]
      cases hc2 : decide (many + (ws[i].length : Int) > 1024) with
      | true => rfl
      | false =>
        simp only [Bool.false_eq_true, if_false, cond_false, good_graph_l2_is q ws[i] (by omega) (by omega)]
        simp only [decide_eq_false_iff_not] at hc2
        cases hc3 : ws[i].all (toF n) with
        | false => rfl
        | true =>
          simp only [if_true, cond_true, cutB_inl]
          rw [wrap_succ hlt (by omega)]
          exact ih k (i + 1) (many + (ws[i].length : Int)) (by omega) (by omega) (by omega) (by omega)
theorem good_graph_l0_is (q : Nat) (hq : 140737488351232 < q) (p : MProc) (hp : p.Locs.length ≤ 256) (hsm : ∀ l ∈ p.Locs, l.Out.length ≤ 17592186043904 ∧ l.Esc.length ≤ 5864062014634 ∧ ∀ w ∈ l.Esc, w.length ≤ 17592186043904) :
    ∀ (d k i : Nat) (many : Int), i + d = p.Locs.length → d < k → 0 ≤ many → many ≤ 1024 →
    good_graph_l0 q k (p.Locs.length : Int) many (p.Locs.map MLoc.enc) (p.Locs.length : Int) i p.enc = some (if (locsGo p (p.Locs.length : Int) i many (p.Locs.drop i)).isSome = true then .inl () else .inr (false, ())) := by
  intro d
  induction d with
  | zero =>
    intro k i many hi hk _ _
    obtain ⟨k, rfl⟩ : ∃ m, k = m + 1 := ⟨k - 1, by omega⟩
    simp only [good_graph_l0]
    rw [if_neg (by simp; omega), List.drop_eq_nil_of_le (by omega)]
    rfl
  | succ d ih =>
    intro k i many hi hk h0 h1
    obtain ⟨k, rfl⟩ : ∃ m, k = m + 1 := ⟨k - 1, by omega⟩
    simp only [good_graph_l0]
    have hlt : i < p.Locs.length := by omega
    obtain ⟨s1, s2, s3⟩ := hsm p.Locs[i] (List.getElem_mem hlt)
    rw [if_pos (by simp; omega), rd_map MLoc.enc_width hlt]
    simp only [MType.enc_width, MType.part, MType.l0, MType.l1, MShape.enc_width, MShape.part, MShape.l0, MShape.l1, MStmt.enc_width, MStmt.part, MStmt.l0, MStmt.l1, MStmt.l2, MStmt.l3, MStmt.l4, MStmt.l5, MStmt.l6, MTrans.enc_width, MTrans.part, MTrans.l0, MTrans.l1, MTrans.l2, MTrans.l3, MTrans.l4, MTrans.l5, MTrans.l6, MTrans.l7, MTrans.l8, MTrans.p0, MLoc.enc_width, MLoc.part, MLoc.l0, MLoc.l1, MLoc.l2, MLoc.l3, MLoc.l4, MLoc.l5, MLoc.l6, MProc.enc_width, MProc.part, MProc.l0, MProc.l1, MProc.l2, MProc.l3, MProc.l4, MProc.l5, MProc.l6, MProc.l7, MProc.l8, MProc.l9, MDim.enc_width, MDim.part, MDim.l0, MDim.l1, MDim.l2, MVar.enc_width, MVar.part, MVar.l0, MVar.l1, MVar.l2, MVar.l3, MVar.l4, MExpr.enc_width, MExpr.part, MExpr.l0, MExpr.l1, MExpr.l2, MExpr.l3, MExpr.l4, MExpr.l5, MExpr.l6, MExpr.l7, MExpr.l8, MExpr.l9, MExpr.l10, MExpr.l11, MExpr.p5, MModel.enc_width, MModel.part, MModel.l0, MModel.l1, MModel.l2, MModel.l3, MModel.l4, MModel.l5, MModel.l6, asInt_mk, asBool_mk, asStr_mk, asLst_mk, bind_mk, if_true, leaf_int, leaf_bool, leaf_str, leaf_lst, or_any, and_any, List.length_map]
    rw [w64 (n := (p.Locs[i].Out.length : Int) + (p.Locs[i].Esc.length : Int)) (by omega) (by omega)]
    rw [List.drop_eq_getElem_cons hlt]
    unfold locsGo
    cases hf : locF p i p.Locs[i] with
    | false =>
      unfold locF at hf
      simp only [Bool.not_eq_false'] at hf
      rw [hf]; rfl
    | true =>
      have hf2 := hf
      unfold locF at hf2
      simp only [Bool.not_eq_true'] at hf2
      have hesc : p.Locs[i].Esc.length ≤ 8 := by
        simp only [Bool.or_eq_false_iff, decide_eq_false_iff_not] at hf2
        omega
      rw [hf2]
      simp only [Bool.false_eq_true, if_false, cond_true, good_ways_is q p.Locs[i] s2, bind_mk, List.length_map]
      have hw := good_graph_l1_is q hq (waysS p.Locs[i]) (fun w hw => by
        rcases List.mem_cons.1 hw with rfl | hw
        · exact s1
        · exact s3 w hw) (by simp [waysS]; omega) (p.Locs.length : Int) (p.Locs.length : Int) (i : Int) (p.Locs.map MLoc.enc) p.enc (waysS p.Locs[i]).length q 0 many (by omega) (by simp [waysS]; omega) h0 h1
      simp only [List.drop_zero] at hw
      have hw' : good_graph_l1 q q (p.Locs.length : Int) many (p.Locs.map MLoc.enc) (p.Locs.length : Int) (i : Int) ((waysS p.Locs[i]).length : Int) 0 ((waysS p.Locs[i]).map encW) p.enc = _ := hw
      rw [hw']
      cases hg : waysGo (p.Locs.length : Int) 0 many (waysS p.Locs[i]) with
      | none => rfl
      | some r =>
        have hr := waysGo_le hg h1
        simp only [cutB_inl]
        rw [wrap_succ hlt (by omega)]
        exact ih k (i + 1) r (by omega) (by omega) (by omega) hr.2
def MProc.fine (p : MProc) : Prop := ∀ l ∈ p.Locs, l.Out.length ≤ 17592186043904 ∧ l.Esc.length ≤ 5864062014634 ∧ ∀ w ∈ l.Esc, w.length ≤ 17592186043904
theorem proc_fine {K : Nat → Prop} {p : MProc} (h : p.ok K) : p.fine := fun l hl => by
  have := h.2.2.2.2.1.2 l hl
  obtain ⟨ho, he, _⟩ := this
  have h1 := okL_len ho
  have h2 := okL_len he
  refine ⟨by omega, by omega, fun w hw => ?_⟩
  have := okL_len (he.2 w hw)
  omega
theorem good_graph_is (q : Nat) (hq : 140737488351232 < q) (p : MProc) (hp : p.fine) : good_graph q p.enc = some (graphS p, ()) := by
  unfold good_graph graphS
  simp only [MType.enc_width, MType.part, MType.l0, MType.l1, MShape.enc_width, MShape.part, MShape.l0, MShape.l1, MStmt.enc_width, MStmt.part, MStmt.l0, MStmt.l1, MStmt.l2, MStmt.l3, MStmt.l4, MStmt.l5, MStmt.l6, MTrans.enc_width, MTrans.part, MTrans.l0, MTrans.l1, MTrans.l2, MTrans.l3, MTrans.l4, MTrans.l5, MTrans.l6, MTrans.l7, MTrans.l8, MTrans.p0, MLoc.enc_width, MLoc.part, MLoc.l0, MLoc.l1, MLoc.l2, MLoc.l3, MLoc.l4, MLoc.l5, MLoc.l6, MProc.enc_width, MProc.part, MProc.l0, MProc.l1, MProc.l2, MProc.l3, MProc.l4, MProc.l5, MProc.l6, MProc.l7, MProc.l8, MProc.l9, MDim.enc_width, MDim.part, MDim.l0, MDim.l1, MDim.l2, MVar.enc_width, MVar.part, MVar.l0, MVar.l1, MVar.l2, MVar.l3, MVar.l4, MExpr.enc_width, MExpr.part, MExpr.l0, MExpr.l1, MExpr.l2, MExpr.l3, MExpr.l4, MExpr.l5, MExpr.l6, MExpr.l7, MExpr.l8, MExpr.l9, MExpr.l10, MExpr.l11, MExpr.p5, MModel.enc_width, MModel.part, MModel.l0, MModel.l1, MModel.l2, MModel.l3, MModel.l4, MModel.l5, MModel.l6, asInt_mk, asBool_mk, asStr_mk, asLst_mk, bind_mk, if_true, leaf_int, leaf_bool, leaf_str, leaf_lst, or_any, List.length_map]
  cases hc : (decide ((p.Locs.length : Int) < 1) || decide ((p.Locs.length : Int) > 256) || decide (p.Start < 0) || decide (p.Start ≥ (p.Locs.length : Int)) || decide (p.Final < 0) || decide (p.Final ≥ (p.Locs.length : Int))) with
  | true => rfl
  | false =>
    simp only [Bool.false_eq_true, if_false, Bool.not_false, Bool.true_and]
    simp only [Bool.or_eq_false_iff, decide_eq_false_iff_not] at hc
    have := good_graph_l0_is q hq p (by omega) hp p.Locs.length q 0 0 (by omega) (by omega) (by omega) (by omega)
    simp only [List.drop_zero] at this
    have h' : good_graph_l0 q q (p.Locs.length : Int) 0 (p.Locs.map MLoc.enc) (p.Locs.length : Int) 0 p.enc = _ := this
    rw [h']
    cases (locsGo p (p.Locs.length : Int) 0 0 p.Locs).isSome <;> rfl
def claimF (l : MLoc) : Bool := !(decide ((l.Esc.length : Int) > 0) || l.Atomic || l.Dstep)
def claimedS (p : MProc) : Bool := !(decide ((p.Frame.length : Int) > 0) || decide (p.Params > 0) || decide (p.Active > 0) || p.Provided != -1) && p.Locs.all claimF
theorem good_claimed_is (q : Nat) (p : MProc) (hp : p.Locs.length ≤ 140737488351232) (hq : p.Locs.length < q) : good_claimed q p.enc = some (claimedS p, ()) := by
  unfold good_claimed claimedS
  simp only [MType.enc_width, MType.part, MType.l0, MType.l1, MShape.enc_width, MShape.part, MShape.l0, MShape.l1, MStmt.enc_width, MStmt.part, MStmt.l0, MStmt.l1, MStmt.l2, MStmt.l3, MStmt.l4, MStmt.l5, MStmt.l6, MTrans.enc_width, MTrans.part, MTrans.l0, MTrans.l1, MTrans.l2, MTrans.l3, MTrans.l4, MTrans.l5, MTrans.l6, MTrans.l7, MTrans.l8, MTrans.p0, MLoc.enc_width, MLoc.part, MLoc.l0, MLoc.l1, MLoc.l2, MLoc.l3, MLoc.l4, MLoc.l5, MLoc.l6, MProc.enc_width, MProc.part, MProc.l0, MProc.l1, MProc.l2, MProc.l3, MProc.l4, MProc.l5, MProc.l6, MProc.l7, MProc.l8, MProc.l9, MDim.enc_width, MDim.part, MDim.l0, MDim.l1, MDim.l2, MVar.enc_width, MVar.part, MVar.l0, MVar.l1, MVar.l2, MVar.l3, MVar.l4, MExpr.enc_width, MExpr.part, MExpr.l0, MExpr.l1, MExpr.l2, MExpr.l3, MExpr.l4, MExpr.l5, MExpr.l6, MExpr.l7, MExpr.l8, MExpr.l9, MExpr.l10, MExpr.l11, MExpr.p5, MModel.enc_width, MModel.part, MModel.l0, MModel.l1, MModel.l2, MModel.l3, MModel.l4, MModel.l5, MModel.l6, asInt_mk, asBool_mk, asStr_mk, asLst_mk, bind_mk, if_true, leaf_int, leaf_bool, leaf_str, leaf_lst, or_any, List.length_map]
  cases hc : (decide ((p.Frame.length : Int) > 0) || decide (p.Params > 0) || decide (p.Active > 0) || p.Provided != -1) with
  | true => rfl
  | false =>
    simp only [Bool.false_eq_true, if_false, Bool.not_false, Bool.true_and]
    rw [loop_all p.Locs (fun k i => good_claimed_l0 q k (p.Locs.map MLoc.enc) (p.Locs.length : Int) i) claimF (.inl ()) (.inr (false, ()))
      (fun k i h => by
        simp only [good_claimed_l0]
        rw [if_pos (by simp; omega), rd_map MLoc.enc_width h]
        simp only [MType.enc_width, MType.part, MType.l0, MType.l1, MShape.enc_width, MShape.part, MShape.l0, MShape.l1, MStmt.enc_width, MStmt.part, MStmt.l0, MStmt.l1, MStmt.l2, MStmt.l3, MStmt.l4, MStmt.l5, MStmt.l6, MTrans.enc_width, MTrans.part, MTrans.l0, MTrans.l1, MTrans.l2, MTrans.l3, MTrans.l4, MTrans.l5, MTrans.l6, MTrans.l7, MTrans.l8, MTrans.p0, MLoc.enc_width, MLoc.part, MLoc.l0, MLoc.l1, MLoc.l2, MLoc.l3, MLoc.l4, MLoc.l5, MLoc.l6, MProc.enc_width, MProc.part, MProc.l0, MProc.l1, MProc.l2, MProc.l3, MProc.l4, MProc.l5, MProc.l6, MProc.l7, MProc.l8, MProc.l9, MDim.enc_width, MDim.part, MDim.l0, MDim.l1, MDim.l2, MVar.enc_width, MVar.part, MVar.l0, MVar.l1, MVar.l2, MVar.l3, MVar.l4, MExpr.enc_width, MExpr.part, MExpr.l0, MExpr.l1, MExpr.l2, MExpr.l3, MExpr.l4, MExpr.l5, MExpr.l6, MExpr.l7, MExpr.l8, MExpr.l9, MExpr.l10, MExpr.l11, MExpr.p5, MModel.enc_width, MModel.part, MModel.l0, MModel.l1, MModel.l2, MModel.l3, MModel.l4, MModel.l5, MModel.l6, asInt_mk, asBool_mk, asStr_mk, asLst_mk, bind_mk, if_true, leaf_int, leaf_bool, leaf_str, leaf_lst, or_any, List.length_map, wrap_succ h (by omega), claimF]
        exact ite_flip _ _ _)
      (fun k => by simp only [good_claimed_l0]; rw [if_neg (by simp)]) q hq]
    cases p.Locs.all claimF <;> rfl
end Go.Ax
