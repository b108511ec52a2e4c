/- Layer 11: the tables, frames and graphs: the program's side. -/
import Derived.Test.YtkbbhfamjkjblaaGoodStillGoodB
set_option linter.unusedVariables false
set_option linter.unusedSimpArgs false
namespace Go.Ax
open Go
/-- what was held already -/
def addHeld : List Bool → List Int → Option (List Bool)
  | h, [] => some h
  | h, p :: ps => bif (h[p.toNat]?).getD true then none else addHeld (h.set p.toNat true) ps
theorem addHeld_len : ∀ {ps : List Int} {h h' : List Bool}, addHeld h ps = some h' → h'.length = h.length
  | [], h, h', e => by simp only [addHeld, Option.some.injEq] at e; rw [e]
  | p :: ps, h, h', e => by
    unfold addHeld at e
    cases hb : (h[p.toNat]?).getD true with
    | true => rw [hb] at e; cases e
    | false =>
      rw [hb] at e
      simp only [cond_false] at e
      have := addHeld_len e
      simpa using this
theorem good_tables_l3_is (q : Nat) (m : MModel) (n x3 x5 : Int) (x11 : T) (l : List Int) (hl : l.length ≤ 4611686018427387904) (N : Nat) (hb : ∀ p ∈ l, 0 ≤ p ∧ p < (N : Int)) (x4 : Int) :
    ∀ (d k i : Nat) (h : List Bool), i + d = l.length → d < k → h.length = N →
    good_checker_tables_l3 q k m.enc x3 x4 x5 (l.length : Int) i (h.map T.bool) (l.map (T.int .i64)) x11 =
      some (match addHeld h (l.drop i) with | some h' => .inl (m.enc, (), (), x4, x5, h'.map T.bool, x11, ()) | none => .inr (.inr (3, x3, ()))) := by
  intro d
  induction d with
  | zero =>
    intro k i h hi hk _
    obtain ⟨k, rfl⟩ : ∃ m, k = m + 1 := ⟨k - 1, by omega⟩
    simp only [good_checker_tables_l3]
    rw [if_neg (by simp; omega), List.drop_eq_nil_of_le (by omega)]
    rfl
  | succ d ih =>
    intro k i h hi hk hN
    obtain ⟨k, rfl⟩ : ∃ m, k = m + 1 := ⟨k - 1, by omega⟩
    simp only [good_checker_tables_l3]
    have hlt : i < l.length := by omega
    have hp := hb l[i] (List.getElem_mem hlt)
    have e1 : (l.map (T.int .i64))[Int.toNat (i : Int)]? = some (T.int .i64 l[i]) := by simp [hlt]
    have hlt2 : l[i].toNat < h.length := by omega
    have e2 : (h.map T.bool)[l[i].toNat]? = some (T.bool h[l[i].toNat]) := by simp [hlt2]
    rw [if_pos (by simp; omega), if_pos (by simp; omega), e1]
    simp only [MType.enc_width, MType.part, MType.l0, MType.l1, MShape.enc_width, MShape.part, MShape.l0, MShape.l1, MStmt.enc_width, MStmt.part, MStmt.l0, MStmt.l1, MStmt.l2, MStmt.l3, MStmt.l4, MStmt.l5, MStmt.l6, MTrans.enc_width, MTrans.part, MTrans.l0, MTrans.l1, MTrans.l2, MTrans.l3, MTrans.l4, MTrans.l5, MTrans.l6, MTrans.l7, MTrans.l8, MTrans.p0, MLoc.enc_width, MLoc.part, MLoc.l0, MLoc.l1, MLoc.l2, MLoc.l3, MLoc.l4, MLoc.l5, MLoc.l6, MProc.enc_width, MProc.part, MProc.l0, MProc.l1, MProc.l2, MProc.l3, MProc.l4, MProc.l5, MProc.l6, MProc.l7, MProc.l8, MProc.l9, MDim.enc_width, MDim.part, MDim.l0, MDim.l1, MDim.l2, MVar.enc_width, MVar.part, MVar.l0, MVar.l1, MVar.l2, MVar.l3, MVar.l4, MExpr.enc_width, MExpr.part, MExpr.l0, MExpr.l1, MExpr.l2, MExpr.l3, MExpr.l4, MExpr.l5, MExpr.l6, MExpr.l7, MExpr.l8, MExpr.l9, MExpr.l10, MExpr.l11, MExpr.p5, MModel.enc_width, MModel.part, MModel.l0, MModel.l1, MModel.l2, MModel.l3, MModel.l4, MModel.l5, MModel.l6, asInt_mk, asBool_mk, asStr_mk, asLst_mk, bind_mk, if_true, leaf_int, leaf_bool, leaf_str, leaf_lst]
    rw [if_pos (by simp; omega), e2]
    simp only [MType.enc_width, MType.part, MType.l0, MType.l1, MShape.enc_width, MShape.part, MShape.l0, MShape.l1, MStmt.enc_width, MStmt.part, MStmt.l0, MStmt.l1, MStmt.l2, MStmt.l3, MStmt.l4, MStmt.l5, MStmt.l6, MTrans.enc_width, MTrans.part, MTrans.l0, MTrans.l1, MTrans.l2, MTrans.l3, MTrans.l4, MTrans.l5, MTrans.l6, MTrans.l7, MTrans.l8, MTrans.p0, MLoc.enc_width, MLoc.part, MLoc.l0, MLoc.l1, MLoc.l2, MLoc.l3, MLoc.l4, MLoc.l5, MLoc.l6, MProc.enc_width, MProc.part, MProc.l0, MProc.l1, MProc.l2, MProc.l3, MProc.l4, MProc.l5, MProc.l6, MProc.l7, MProc.l8, MProc.l9, MDim.enc_width, MDim.part, MDim.l0, MDim.l1, MDim.l2, MVar.enc_width, MVar.part, MVar.l0, MVar.l1, MVar.l2, MVar.l3, MVar.l4, MExpr.enc_width, MExpr.part, MExpr.l0, MExpr.l1, MExpr.l2, MExpr.l3, MExpr.l4, MExpr.l5, MExpr.l6, MExpr.l7, MExpr.l8, MExpr.l9, MExpr.l10, MExpr.l11, MExpr.p5, MModel.enc_width, MModel.part, MModel.l0, MModel.l1, MModel.l2, MModel.l3, MModel.l4, MModel.l5, MModel.l6, asInt_mk, asBool_mk, asStr_mk, asLst_mk, bind_mk, if_true, leaf_int, leaf_bool, leaf_str, leaf_lst]
    rw [List.drop_eq_getElem_cons hlt]
    unfold addHeld
    rw [List.getElem?_eq_getElem hlt2]
    simp only [Option.getD_some]
    cases hv : h[l[i].toNat] with
    | true => rfl
    | false =>
      simp only [Bool.false_eq_true, if_false, cond_false]
      rw [if_pos (by simp; omega), wrap_succ hlt hl]
      have e3 : List.set (h.map T.bool) l[i].toNat (T.setLeaf (T.bool false) 0 (T.bool true)) = (h.set l[i].toNat true).map T.bool := by
        rw [List.map_set]; rfl
      rw [e3]
      exact ih k (i + 1) (h.set l[i].toNat true) (by omega) (by omega) (by simpa using hN)
/-- the first expression that may not be -/
def exGo (m : MModel) : Nat → Nat → List Bool → Option Nat
  | 0, _, _ => none
  | d + 1, i, h => bif !expressionS m i then some i else match addHeld h (heldS (m.ex i)) with
    | none => some i
    | some h' => exGo m d (i + 1) h'
def MModel.fine (m : MModel) : Prop := ∀ x ∈ m.Exprs, x.Args.length ≤ 17592186043904 ∧ x.Match.length ≤ 17592186043904 ∧ x.V.Dims.length ≤ 5864062014976
theorem partsAll {m : MModel} {a : Int} (h : expressionS m a = true) : ∀ p ∈ ([(m.ex a).A, (m.ex a).B, (m.ex a).C].take (partsS (m.ex a).Op).toNat), 0 ≤ p ∧ p < a := by
  unfold expressionS at h
  simp only [Bool.and_eq_true] at h
  have hp := h.1.2
  obtain ⟨p0, p3⟩ := partsS_range (m.ex a).Op
  simp only [List.all_cons, List.all_nil, Bool.and_true, Bool.and_eq_true, partOkF] at hp
  intro p hm
  obtain ⟨h1, h2, h3⟩ := hp
  have hq : partsS (m.ex a).Op = 0 ∨ partsS (m.ex a).Op = 1 ∨ partsS (m.ex a).Op = 2 ∨ partsS (m.ex a).Op = 3 := by omega
  rcases hq with e | e | e | e <;> rw [e] at h1 h2 h3 hm <;> simp at h1 h2 h3 hm
  · subst hm; exact h1
  · rcases hm with rfl | rfl
    · exact h1
    · exact h2
  · rcases hm with rfl | rfl | rfl
    · exact h1
    · exact h2
    · exact h3
theorem held_below {m : MModel} {a : Int} (h : expressionS m a = true) : ∀ p ∈ heldS (m.ex a), 0 ≤ p ∧ p < a := by
  have hparts := partsAll h
  unfold expressionS at h
  simp only [Bool.and_eq_true] at h
  obtain ⟨_, h3⟩ := h
  generalize m.ex a = x at *
  intro p hp
  unfold heldS at hp
  simp only [List.mem_append] at hp
  rcases hp with (hp | hp) | hp
  · exact hparts p hp
  · -- Args
    by_cases h30 : x.Op = 30
    · simp only [h30] at h3 hp
      have c1 : ((30 : Int) == 1) = false := rfl
      have c2 : ((30 : Int) == 2) = false := rfl
      simp only [c1, c2, cond_false, beq_self_eq_true, cond_true, Bool.true_or, Bool.and_eq_true] at h3 hp
      have hm := h3.1
      unfold matchedS at hm
      simp only [Bool.and_eq_true, Bool.not_eq_true', Bool.or_eq_false_iff, Bool.not_eq_false'] at hm
      exact below_iff.1 hm.1.2 p hp
    · by_cases h39 : x.Op = 39
      · simp only [h39] at h3 hp
        have c1 : ((39 : Int) == 1) = false := rfl
        have c2 : ((39 : Int) == 2) = false := rfl
        have c3 : ((39 : Int) == 30) = false := rfl
        have c4 : ((39 : Int) == 38) = false := rfl
        simp only [c1, c2, c3, c4, cond_false, beq_self_eq_true, cond_true, Bool.or_true, Bool.and_eq_true] at h3 hp
        exact below_iff.1 h3.2 p hp
      · have b1 : (x.Op == 30) = false := by simpa using h30
        have b2 : (x.Op == 39) = false := by simpa using h39
        rw [b1, b2] at hp
        simp at hp
  · by_cases h2 : x.Op = 2
    · simp only [h2] at h3 hp
      have c1 : ((2 : Int) == 1) = false := rfl
      simp only [c1, cond_false, beq_self_eq_true, cond_true] at h3 hp
      unfold variableS at h3
      simp only [Bool.and_eq_true] at h3
      rcases List.mem_append.1 hp with hp | hp
      · cases hs : x.V.Scope == 2 with
        | false => rw [hs] at hp; simp at hp
        | true =>
          rw [hs] at hp h3
          simp only [cond_true, List.mem_singleton] at hp h3
          subst hp
          have := h3.1.2
          simp at this
          exact this.1
      · obtain ⟨d, hd, rfl⟩ := List.mem_map.1 hp
        have := List.all_eq_true.1 h3.2 d hd
        simp [MDim.may] at this
        omega
    · have b1 : (x.Op == 2) = false := by simpa using h2
      rw [b1] at hp
      simp at hp
theorem held_len (x : MExpr) : (heldS x).length ≤ 4 + x.Args.length + x.V.Dims.length := by
  unfold heldS
  obtain ⟨p0, p3⟩ := partsS_range x.Op
  simp only [List.length_append, List.length_take]
  have h1 : (bif x.Op == 30 || x.Op == 39 then x.Args else []).length ≤ x.Args.length := by cases (x.Op == 30 || x.Op == 39) <;> simp
  have h2 : (bif x.Op == 2 then (bif x.V.Scope == 2 then [x.V.Who] else []) ++ x.V.Dims.map MDim.I else []).length ≤ 1 + x.V.Dims.length := by
    cases (x.Op == 2) <;> cases (x.V.Scope == 2) <;> simp <;> omega
  simp only [List.length_cons, List.length_nil]
  omega
theorem good_tables_l2_is (q : Nat) (hq : 140737488351232 < q) (m : MModel) (hm : m.fine) (hn : m.Exprs.length ≤ 4096) (x6 : T) (hx6 : x6 = m.enc) : ∀ (d k i : Nat) (h : List Bool), i + d = m.Exprs.length → d < k → h.length = m.Exprs.length →
    good_checker_tables_l2 q k m.enc (m.Exprs.length : Int) i (h.map T.bool) x6 = some (match exGo m d i h with | none => .inl () | some j => .inr (3, (j : Int), ())) := by
  subst hx6
  intro d
  induction d with
  | zero =>
    intro k i h hi hk _
    obtain ⟨k, rfl⟩ : ∃ m, k = m + 1 := ⟨k - 1, by omega⟩
    simp only [good_checker_tables_l2]
    rw [if_neg (by simp; omega)]
    rfl
  | succ d ih =>
    intro k i h hi hk hh
    obtain ⟨k, rfl⟩ : ∃ m, k = m + 1 := ⟨k - 1, by omega⟩
    simp only [good_checker_tables_l2]
    have hlt : (i : Int) < m.Exprs.length := by omega
    have hx := hm _ (ex_mem (m := m) (k := i) (by omega) hlt)
    rw [if_pos (by simp; omega), good_expression_is q hq m (fun x hx => by have := hm x hx; omega) i (by omega) hlt]
    unfold exGo
    cases he : expressionS m i with
    | false => rfl
    | true =>
      have hl := held_len (m.ex i)
      simp only [bind_mk, Bool.not_true, Bool.false_eq_true, if_false, cond_false, MType.enc_width, MType.part, MType.l0, MType.l1, MShape.enc_width, MShape.part, MShape.l0, MShape.l1, MStmt.enc_width, MStmt.part, MStmt.l0, MStmt.l1, MStmt.l2, MStmt.l3, MStmt.l4, MStmt.l5, MStmt.l6, MTrans.enc_width, MTrans.part, MTrans.l0, MTrans.l1, MTrans.l2, MTrans.l3, MTrans.l4, MTrans.l5, MTrans.l6, MTrans.l7, MTrans.l8, MTrans.p0, MLoc.enc_width, MLoc.part, MLoc.l0, MLoc.l1, MLoc.l2, MLoc.l3, MLoc.l4, MLoc.l5, MLoc.l6, MProc.enc_width, MProc.part, MProc.l0, MProc.l1, MProc.l2, MProc.l3, MProc.l4, MProc.l5, MProc.l6, MProc.l7, MProc.l8, MProc.l9, MDim.enc_width, MDim.part, MDim.l0, MDim.l1, MDim.l2, MVar.enc_width, MVar.part, MVar.l0, MVar.l1, MVar.l2, MVar.l3, MVar.l4, MExpr.enc_width, MExpr.part, MExpr.l0, MExpr.l1, MExpr.l2, MExpr.l3, MExpr.l4, MExpr.l5, MExpr.l6, MExpr.l7, MExpr.l8, MExpr.l9, MExpr.l10, MExpr.l11, MExpr.p5, MModel.enc_width, MModel.part, MModel.l0, MModel.l1, MModel.l2, MModel.l3, MModel.l4, MModel.l5, MModel.l6, asInt_mk, asBool_mk, asStr_mk, asLst_mk, bind_mk, if_true, leaf_int, leaf_bool, leaf_str, leaf_lst, rd_ex m (by omega : (0 : Int) ≤ i) hlt, good_held_is q hq _ hx.1 hx.2.2, List.length_map]
      have h3 := good_tables_l3_is q m (m.Exprs.length : Int) (i : Int) (i : Int) m.enc (heldS (m.ex i)) (by omega) m.Exprs.length (fun p hp => by have := held_below he p hp; omega) (m.Exprs.length : Int) (heldS (m.ex i)).length q 0 h (by omega) (by omega) hh
      simp only [List.drop_zero] at h3
      have h3' : good_checker_tables_l3 q q m.enc (i : Int) (m.Exprs.length : Int) (i : Int) ((heldS (m.ex i)).length : Int) 0 (h.map T.bool) ((heldS (m.ex i)).map (T.int .i64)) m.enc = _ := h3
      rw [h3']
      cases ha : addHeld h (heldS (m.ex i)) with
      | none => rfl
      | some h' =>
        simp only [cutB_inl]
        rw [wrap_succ (n := m.Exprs.length) (by omega) (by omega)]
        exact ih k (i + 1) h' (by omega) (by omega) (by rw [addHeld_len ha, hh])
end Go.Ax
