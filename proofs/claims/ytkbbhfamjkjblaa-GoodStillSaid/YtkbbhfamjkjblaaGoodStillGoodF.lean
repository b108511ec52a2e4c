/- Layer 11: a model, checked: the program's side. It always says something; what it says of a model that may be. -/
import Derived.Test.YtkbbhfamjkjblaaGoodStillGoodE
import Derived.KernelRfl
set_option linter.unusedVariables false
set_option linter.unusedSimpArgs false
set_option linter.unnecessarySimpa false
set_option maxRecDepth 10000
namespace Go.Ax
open Go
theorem uses_as_g0 (q : Nat) (a0 : T) (a1 : Int) (a2 : List T) (a3 : Int) : good_checker_uses q a0 a1 a2 a3 =
    (T.asLst (T.leaf a0 6)).bind fun v30 => if ((T.bool false)).width = 1 ∧ 0 ≤ (v30.length : Int) ∧ (v30.length : Int) ≤ (v30.length : Int) ∧ (v30.length : Int) * 1 ≤ 140737488355328 ∧ (v30.length : Int) ≤ 9223372036854775807 then
      (chk a2 1).bind fun v31 => if fitsB v31.length 8 = true then good_checker_uses_g0 q (q + 1) a0 a1 a3 0 (List.replicate (Int.toNat (v30.length : Int)) (T.bool false)) v31 else none
      else none := by kernel_rfl
theorem uses_tot (q : Nat) (hq : 140737488351232 < q) (m : MModel) (hs : m.sound) (i run : Int) (hi : 0 ≤ i ∧ i < m.Procs.length) (l : List Int) (hl : ∀ p ∈ l, 0 ≤ p ∧ p < (m.Exprs.length : Int)) (hlen : l.length ≤ 17592186043920) :
    Ret (good_checker_uses q m.enc i (l.map (T.int .i64)) run) (fun _ => True) := by
  rw [uses_as_g0]
  have hn := hs.exprs
  simp only [MType.enc_width, MType.part, MType.l0, MType.l1, MShape.enc_width, MShape.part, MShape.l0, MShape.l1, MStmt.enc_width, MStmt.part, MStmt.l0, MStmt.l1, MStmt.l2, MStmt.l3, MStmt.l4, MStmt.l5, MStmt.l6, MTrans.enc_width, MTrans.part, MTrans.l0, MTrans.l1, MTrans.l2, MTrans.l3, MTrans.l4, MTrans.l5, MTrans.l6, MTrans.l7, MTrans.l8, MTrans.p0, MLoc.enc_width, MLoc.part, MLoc.l0, MLoc.l1, MLoc.l2, MLoc.l3, MLoc.l4, MLoc.l5, MLoc.l6, MProc.enc_width, MProc.part, MProc.l0, MProc.l1, MProc.l2, MProc.l3, MProc.l4, MProc.l5, MProc.l6, MProc.l7, MProc.l8, MProc.l9, MDim.enc_width, MDim.part, MDim.l0, MDim.l1, MDim.l2, MVar.enc_width, MVar.part, MVar.l0, MVar.l1, MVar.l2, MVar.l3, MVar.l4, MExpr.enc_width, MExpr.part, MExpr.l0, MExpr.l1, MExpr.l2, MExpr.l3, MExpr.l4, MExpr.l5, MExpr.l6, MExpr.l7, MExpr.l8, MExpr.l9, MExpr.l10, MExpr.l11, MExpr.p5, MModel.enc_width, MModel.part, MModel.l0, MModel.l1, MModel.l2, MModel.l3, MModel.l4, MModel.l5, MModel.l6, asInt_mk, asBool_mk, asStr_mk, asLst_mk, bind_mk, if_true, leaf_int, leaf_bool, leaf_str, leaf_lst, List.length_map]
  rw [if_pos ⟨rfl, by omega, by omega, by omega, by omega⟩, chk_map int_width]
  simp only [bind_mk, List.length_map]
  rw [if_pos (fits8 (by omega))]
  have e : List.replicate (Int.toNat (m.Exprs.length : Int)) (T.bool false) = (List.replicate m.Exprs.length false).map T.bool := by simp
  rw [e]
  have hc : (List.replicate m.Exprs.length false).count false = m.Exprs.length := by simp
  exact uses_g0_tot q hq m hs i run hi (q + 1) 0 (List.replicate m.Exprs.length false) l (by simp) hl (Nat.zero_le _) (by rw [hc]; omega) (by rw [hc]; omega)
theorem empty_args {s : MStmt} {n t : Bool} (h : emptyS s true n t = true) : s.Args = [] := by
  unfold emptyS at h
  simp only [Bool.and_eq_true, Bool.not_true, Bool.false_or, beq_iff_eq] at h
  have : s.Args.length = 0 := by omega
  exact List.length_eq_zero_iff.1 this
theorem matched_below {m : MModel} {a : Int} {args mt : List Int} (h : matchedS m a args mt = true) : ∀ p ∈ args, 0 ≤ p ∧ p < a := by
  unfold matchedS at h
  simp only [Bool.and_eq_true, Bool.not_eq_true', Bool.or_eq_false_iff, Bool.not_eq_false'] at h
  exact below_iff.1 h.1.2
theorem statement_range {m : MModel} {s : MStmt} (h : statementS m s = true) : (∀ p ∈ s.Args, 0 ≤ p ∧ p < (m.Exprs.length : Int)) ∧ (s.A = -1 ∨ 0 ≤ s.A ∧ s.A < m.Exprs.length) ∧ (s.B = -1 ∨ 0 ≤ s.B ∧ s.B < m.Exprs.length) := by
  unfold statementS at h
  have none : ∀ {n t : Bool}, emptyS s true n t = true → ∀ p ∈ s.Args, 0 ≤ p ∧ p < (m.Exprs.length : Int) := fun he p hp => by rw [empty_args he] at hp; cases hp
  have tgt : ∀ {a : Int}, targetS m a = true → 0 ≤ a ∧ a < m.Exprs.length := fun ht => by
    unfold targetS at ht
    simp only [Bool.and_eq_true] at ht
    exact place_range ht.1.1
  cases c1 : (s.Kind == 1 || s.Kind == 3)
  · rw [c1] at h
    cases c2 : s.Kind == 2
    · rw [c2] at h
      cases c3 : s.Kind == 4
      · rw [c3] at h
        cases c4 : s.Kind == 5
        · rw [c4] at h
          cases c5 : s.Kind == 6
          · rw [c5] at h
            cases c6 : (s.Kind == 7 || s.Kind == 8)
            · rw [c6] at h
              cases c7 : s.Kind == 9
              · rw [c7] at h; simp at h
              · rw [c7] at h
                simp only [cond_false, cond_true, Bool.and_eq_true, beq_iff_eq] at h
                exact ⟨none h.2, .inr (tgt h.1.1.1.1), .inl h.1.1.1.2⟩
            · rw [c6] at h
              simp only [cond_false, cond_true, Bool.and_eq_true, beq_iff_eq] at h
              exact ⟨none h.2, .inl h.1.1, .inl h.1.2⟩
          · rw [c5] at h
            simp only [cond_false, cond_true, Bool.and_eq_true, beq_iff_eq] at h
            have ht := h.1.1.1.2
            unfold takenS at ht
            simp only [Bool.and_eq_true] at ht
            exact ⟨matched_below ht.1, .inr (place_range h.1.1.1.1.1), .inl h.1.1.1.1.2⟩
        · rw [c4] at h
          simp only [cond_false, cond_true, Bool.and_eq_true, beq_iff_eq] at h
          exact ⟨below_iff.1 h.1.1.1.2, .inr (place_range h.1.1.1.1.1.1.1), .inl h.1.1.1.1.1.1.2⟩
      · rw [c3] at h
        simp only [cond_false, cond_true, Bool.and_eq_true, beq_iff_eq] at h
        exact ⟨below_iff.1 h.1.1.1.2, .inl h.1.1.1.1.1, .inl h.1.1.1.1.2⟩
    · rw [c2] at h
      simp only [cond_false, cond_true, Bool.and_eq_true, beq_iff_eq] at h
      exact ⟨none h.2, .inr (tgt h.1.1), .inr (place_range h.1.2)⟩
  · rw [c1] at h
    simp only [cond_true, Bool.and_eq_true, beq_iff_eq] at h
    exact ⟨none h.2, .inr (place_range h.1.1), .inl h.1.2⟩
theorem way_tot (q : Nat) (hq : 140737488351232 < q) (m : MModel) (hs : m.sound) (i : Int) (hi : 0 ≤ i ∧ i < m.Procs.length) (s : MStmt) (h1 : s.Args.length ≤ 17592186043904) (h2 : s.Match.length ≤ 17592186043904) :
    Ret (good_checker_way q m.enc i s.enc) (fun _ => True) := by
  unfold good_checker_way
  simp only [MType.enc_width, MType.part, MType.l0, MType.l1, MShape.enc_width, MShape.part, MShape.l0, MShape.l1, MStmt.enc_width, MStmt.part, MStmt.l0, MStmt.l1, MStmt.l2, MStmt.l3, MStmt.l4, MStmt.l5, MStmt.l6, MTrans.enc_width, MTrans.part, MTrans.l0, MTrans.l1, MTrans.l2, MTrans.l3, MTrans.l4, MTrans.l5, MTrans.l6, MTrans.l7, MTrans.l8, MTrans.p0, MLoc.enc_width, MLoc.part, MLoc.l0, MLoc.l1, MLoc.l2, MLoc.l3, MLoc.l4, MLoc.l5, MLoc.l6, MProc.enc_width, MProc.part, MProc.l0, MProc.l1, MProc.l2, MProc.l3, MProc.l4, MProc.l5, MProc.l6, MProc.l7, MProc.l8, MProc.l9, MDim.enc_width, MDim.part, MDim.l0, MDim.l1, MDim.l2, MVar.enc_width, MVar.part, MVar.l0, MVar.l1, MVar.l2, MVar.l3, MVar.l4, MExpr.enc_width, MExpr.part, MExpr.l0, MExpr.l1, MExpr.l2, MExpr.l3, MExpr.l4, MExpr.l5, MExpr.l6, MExpr.l7, MExpr.l8, MExpr.l9, MExpr.l10, MExpr.l11, MExpr.p5, MModel.enc_width, MModel.part, MModel.l0, MModel.l1, MModel.l2, MModel.l3, MModel.l4, MModel.l5, MModel.l6, asInt_mk, asBool_mk, asStr_mk, asLst_mk, bind_mk, if_true, leaf_int, leaf_bool, leaf_str, leaf_lst, good_statement_is q hq m s h1 h2, or_any, and_any]
  cases hst : statementS m s with
  | false => exact Ret.some trivial
  | true =>
    obtain ⟨ra, rA, rB⟩ := statement_range hst
    simp only [Bool.not_true, Bool.false_or]
    refine Ret.ite (fun _ => Ret.some trivial) (fun _ => ?_)
    rw [chk_map int_width]
    simp only [bind_mk, List.length_map]
    rw [if_pos (fits8 (by omega))]
    -- the list, with A, with B
    have fin : ∀ (l : List Int), (∀ p ∈ l, 0 ≤ p ∧ p < (m.Exprs.length : Int)) → l.length ≤ 17592186043910 → ∀ run : Int,
        Ret (cutB (if (s.Kind == 1) = true then (some (.inl (m.enc, i, (), s.A, l.map (T.int .i64), ())) : Option ((T × Int × Unit × Int × List T × Unit) ⊕ (Bool × Unit))) else if (s.Kind == 2) = true then some (.inl (m.enc, i, (), s.B, l.map (T.int .i64), ())) else some (.inl (m.enc, i, (), run, l.map (T.int .i64), ())))
          fun p21 => (good_checker_uses q p21.1 p21.2.1 p21.2.2.2.2.1 p21.2.2.2.1).bind fun v25 => some (v25.1, ())) (fun _ => True) := fun l hl hlen run => by
      have u := fun r => uses_tot q hq m hs i r hi l hl (by omega)
      refine Ret.cutB ?_
      refine Ret.ite (fun _ => Ret.some ?_) (fun _ => Ret.ite (fun _ => Ret.some ?_) (fun _ => Ret.some ?_))
      · exact Ret.bindB (u s.A) (fun _ _ => Ret.some trivial)
      · exact Ret.bindB (u s.B) (fun _ _ => Ret.some trivial)
      · exact Ret.bindB (u run) (fun _ _ => Ret.some trivial)
    have withB : ∀ (l : List Int), (∀ p ∈ l, 0 ≤ p ∧ p < (m.Exprs.length : Int)) → l.length ≤ 17592186043908 →
        Ret (cutB (if (decide (s.B ≥ 0)) = true then if fitsB ((l.map (T.int .i64)).length + [T.int .i64 s.B].length) 8 = true then (some (.inl (m.enc, i, (), (), (-1 : Int), (l.map (T.int .i64) ++ [T.int .i64 s.B]), s.enc, ())) : Option ((T × Int × Unit × Unit × Int × List T × T × Unit) ⊕ (Bool × Unit))) else none
            else some (.inl (m.enc, i, (), (), (-1), l.map (T.int .i64), s.enc, ())))
          fun p18 => cutB ((T.asInt .i64 (T.leaf p18.2.2.2.2.2.2.1 0)).bind fun v22 =>
            if (v22 == (1 : Int)) = true then (T.asInt .i64 (T.leaf p18.2.2.2.2.2.2.1 1)).bind fun v23 => some (.inl (p18.1, p18.2.1, (), v23, p18.2.2.2.2.2.1, ()))
            else if (v22 == (2 : Int)) = true then (T.asInt .i64 (T.leaf p18.2.2.2.2.2.2.1 2)).bind fun v24 => some (.inl (p18.1, p18.2.1, (), v24, p18.2.2.2.2.2.1, ()))
            else some (.inl (p18.1, p18.2.1, (), p18.2.2.2.2.1, p18.2.2.2.2.2.1, ())))
          fun p21 => (good_checker_uses q p21.1 p21.2.1 p21.2.2.2.2.1 p21.2.2.2.1).bind fun v25 => some (v25.1, ())) (fun _ => True) := fun l hl hlen => by
      refine Ret.cutB (Ret.ite (fun hB => ?_) (fun _ => Ret.some ?_))
      · simp only [List.length_map, List.length_cons, List.length_nil]
        rw [if_pos (fits8 (by omega))]
        have e : l.map (T.int .i64) ++ [T.int .i64 s.B] = (l ++ [s.B]).map (T.int .i64) := by simp
        rw [e]
        refine Ret.some ?_
        simp only [MType.enc_width, MType.part, MType.l0, MType.l1, MShape.enc_width, MShape.part, MShape.l0, MShape.l1, MStmt.enc_width, MStmt.part, MStmt.l0, MStmt.l1, MStmt.l2, MStmt.l3, MStmt.l4, MStmt.l5, MStmt.l6, MTrans.enc_width, MTrans.part, MTrans.l0, MTrans.l1, MTrans.l2, MTrans.l3, MTrans.l4, MTrans.l5, MTrans.l6, MTrans.l7, MTrans.l8, MTrans.p0, MLoc.enc_width, MLoc.part, MLoc.l0, MLoc.l1, MLoc.l2, MLoc.l3, MLoc.l4, MLoc.l5, MLoc.l6, MProc.enc_width, MProc.part, MProc.l0, MProc.l1, MProc.l2, MProc.l3, MProc.l4, MProc.l5, MProc.l6, MProc.l7, MProc.l8, MProc.l9, MDim.enc_width, MDim.part, MDim.l0, MDim.l1, MDim.l2, MVar.enc_width, MVar.part, MVar.l0, MVar.l1, MVar.l2, MVar.l3, MVar.l4, MExpr.enc_width, MExpr.part, MExpr.l0, MExpr.l1, MExpr.l2, MExpr.l3, MExpr.l4, MExpr.l5, MExpr.l6, MExpr.l7, MExpr.l8, MExpr.l9, MExpr.l10, MExpr.l11, MExpr.p5, MModel.enc_width, MModel.part, MModel.l0, MModel.l1, MModel.l2, MModel.l3, MModel.l4, MModel.l5, MModel.l6, asInt_mk, asBool_mk, asStr_mk, asLst_mk, bind_mk, if_true, leaf_int, leaf_bool, leaf_str, leaf_lst]
        exact fin (l ++ [s.B]) (fun p hp => by
          rcases List.mem_append.1 hp with hp | hp
          · exact hl p hp
          · have : p = s.B := by simpa using hp
            have hB : s.B ≥ 0 := of_decide_eq_true hB
            rw [this]
            omega) (by simp; omega) (-1)
      · simp only [MType.enc_width, MType.part, MType.l0, MType.l1, MShape.enc_width, MShape.part, MShape.l0, MShape.l1, MStmt.enc_width, MStmt.part, MStmt.l0, MStmt.l1, MStmt.l2, MStmt.l3, MStmt.l4, MStmt.l5, MStmt.l6, MTrans.enc_width, MTrans.part, MTrans.l0, MTrans.l1, MTrans.l2, MTrans.l3, MTrans.l4, MTrans.l5, MTrans.l6, MTrans.l7, MTrans.l8, MTrans.p0, MLoc.enc_width, MLoc.part, MLoc.l0, MLoc.l1, MLoc.l2, MLoc.l3, MLoc.l4, MLoc.l5, MLoc.l6, MProc.enc_width, MProc.part, MProc.l0, MProc.l1, MProc.l2, MProc.l3, MProc.l4, MProc.l5, MProc.l6, MProc.l7, MProc.l8, MProc.l9, MDim.enc_width, MDim.part, MDim.l0, MDim.l1, MDim.l2, MVar.enc_width, MVar.part, MVar.l0, MVar.l1, MVar.l2, MVar.l3, MVar.l4, MExpr.enc_width, MExpr.part, MExpr.l0, MExpr.l1, MExpr.l2, MExpr.l3, MExpr.l4, MExpr.l5, MExpr.l6, MExpr.l7, MExpr.l8, MExpr.l9, MExpr.l10, MExpr.l11, MExpr.p5, MModel.enc_width, MModel.part, MModel.l0, MModel.l1, MModel.l2, MModel.l3, MModel.l4, MModel.l5, MModel.l6, asInt_mk, asBool_mk, asStr_mk, asLst_mk, bind_mk, if_true, leaf_int, leaf_bool, leaf_str, leaf_lst]
        exact fin l hl (by omega) (-1)
    refine Ret.cutB (Ret.ite (fun hA => ?_) (fun _ => Ret.some ?_))
    · simp only [List.length_cons, List.length_nil]
      rw [if_pos (fits8 (by omega))]
      have e : s.Args.map (T.int .i64) ++ [T.int .i64 s.A] = (s.Args ++ [s.A]).map (T.int .i64) := by simp
      rw [e]
      refine Ret.some ?_
      simp only [MType.enc_width, MType.part, MType.l0, MType.l1, MShape.enc_width, MShape.part, MShape.l0, MShape.l1, MStmt.enc_width, MStmt.part, MStmt.l0, MStmt.l1, MStmt.l2, MStmt.l3, MStmt.l4, MStmt.l5, MStmt.l6, MTrans.enc_width, MTrans.part, MTrans.l0, MTrans.l1, MTrans.l2, MTrans.l3, MTrans.l4, MTrans.l5, MTrans.l6, MTrans.l7, MTrans.l8, MTrans.p0, MLoc.enc_width, MLoc.part, MLoc.l0, MLoc.l1, MLoc.l2, MLoc.l3, MLoc.l4, MLoc.l5, MLoc.l6, MProc.enc_width, MProc.part, MProc.l0, MProc.l1, MProc.l2, MProc.l3, MProc.l4, MProc.l5, MProc.l6, MProc.l7, MProc.l8, MProc.l9, MDim.enc_width, MDim.part, MDim.l0, MDim.l1, MDim.l2, MVar.enc_width, MVar.part, MVar.l0, MVar.l1, MVar.l2, MVar.l3, MVar.l4, MExpr.enc_width, MExpr.part, MExpr.l0, MExpr.l1, MExpr.l2, MExpr.l3, MExpr.l4, MExpr.l5, MExpr.l6, MExpr.l7, MExpr.l8, MExpr.l9, MExpr.l10, MExpr.l11, MExpr.p5, MModel.enc_width, MModel.part, MModel.l0, MModel.l1, MModel.l2, MModel.l3, MModel.l4, MModel.l5, MModel.l6, asInt_mk, asBool_mk, asStr_mk, asLst_mk, bind_mk, if_true, leaf_int, leaf_bool, leaf_str, leaf_lst]
      exact withB (s.Args ++ [s.A]) (fun p hp => by
        rcases List.mem_append.1 hp with hp | hp
        · exact ra p hp
        · have : p = s.A := by simpa using hp
          have hA : s.A ≥ 0 := of_decide_eq_true hA
          rw [this]
          omega) (by simp; omega)
    · simp only [MType.enc_width, MType.part, MType.l0, MType.l1, MShape.enc_width, MShape.part, MShape.l0, MShape.l1, MStmt.enc_width, MStmt.part, MStmt.l0, MStmt.l1, MStmt.l2, MStmt.l3, MStmt.l4, MStmt.l5, MStmt.l6, MTrans.enc_width, MTrans.part, MTrans.l0, MTrans.l1, MTrans.l2, MTrans.l3, MTrans.l4, MTrans.l5, MTrans.l6, MTrans.l7, MTrans.l8, MTrans.p0, MLoc.enc_width, MLoc.part, MLoc.l0, MLoc.l1, MLoc.l2, MLoc.l3, MLoc.l4, MLoc.l5, MLoc.l6, MProc.enc_width, MProc.part, MProc.l0, MProc.l1, MProc.l2, MProc.l3, MProc.l4, MProc.l5, MProc.l6, MProc.l7, MProc.l8, MProc.l9, MDim.enc_width, MDim.part, MDim.l0, MDim.l1, MDim.l2, MVar.enc_width, MVar.part, MVar.l0, MVar.l1, MVar.l2, MVar.l3, MVar.l4, MExpr.enc_width, MExpr.part, MExpr.l0, MExpr.l1, MExpr.l2, MExpr.l3, MExpr.l4, MExpr.l5, MExpr.l6, MExpr.l7, MExpr.l8, MExpr.l9, MExpr.l10, MExpr.l11, MExpr.p5, MModel.enc_width, MModel.part, MModel.l0, MModel.l1, MModel.l2, MModel.l3, MModel.l4, MModel.l5, MModel.l6, asInt_mk, asBool_mk, asStr_mk, asLst_mk, bind_mk, if_true, leaf_int, leaf_bool, leaf_str, leaf_lst]
      exact withB s.Args ra (by omega)
theorem proc_l2_tot (q : Nat) (hq : 140737488351232 < q) (m : MModel) (hs : m.sound) (i : Int) (hi : 0 ≤ i ∧ i < m.Procs.length) (w : List MTrans) (hw : w.length ≤ 17592186043904)
    (hst : ∀ t ∈ w, t.S.Args.length ≤ 17592186043904 ∧ t.S.Match.length ≤ 17592186043904) (x3 x9 : List T) (x4 x5 x7 x8 : Int) (x13 : T) :
    Ret (good_checker_proc_l2 q q m.enc i x3 x4 x5 x7 x8 (w.map MTrans.enc) (w.length : Int) 0 x9 x13) (fun r => r = .inl (m.enc, i, (), x3, x4, x5, (), x7, x8, x9, x13, ()) ∨ r = .inr (.inr (.inr (false, ())))) := by
  refine loop_ret (n := w.length) (fun k j => good_checker_proc_l2 q k m.enc i x3 x4 x5 x7 x8 (w.map MTrans.enc) (w.length : Int) j x9 x13) _ (fun k j hj ih => ?_) (fun k => ?_) q (by omega)
  · simp only [good_checker_proc_l2]
    rw [if_pos (by simp; omega), rd_map MTrans.enc_width hj]
    simp only [MType.enc_width, MType.part, MType.l0, MType.l1, MShape.enc_width, MShape.part, MShape.l0, MShape.l1, MStmt.enc_width, MStmt.part, MStmt.l0, MStmt.l1, MStmt.l2, MStmt.l3, MStmt.l4, MStmt.l5, MStmt.l6, MTrans.enc_width, MTrans.part, MTrans.l0, MTrans.l1, MTrans.l2, MTrans.l3, MTrans.l4, MTrans.l5, MTrans.l6, MTrans.l7, MTrans.l8, MTrans.p0, MLoc.enc_width, MLoc.part, MLoc.l0, MLoc.l1, MLoc.l2, MLoc.l3, MLoc.l4, MLoc.l5, MLoc.l6, MProc.enc_width, MProc.part, MProc.l0, MProc.l1, MProc.l2, MProc.l3, MProc.l4, MProc.l5, MProc.l6, MProc.l7, MProc.l8, MProc.l9, MDim.enc_width, MDim.part, MDim.l0, MDim.l1, MDim.l2, MVar.enc_width, MVar.part, MVar.l0, MVar.l1, MVar.l2, MVar.l3, MVar.l4, MExpr.enc_width, MExpr.part, MExpr.l0, MExpr.l1, MExpr.l2, MExpr.l3, MExpr.l4, MExpr.l5, MExpr.l6, MExpr.l7, MExpr.l8, MExpr.l9, MExpr.l10, MExpr.l11, MExpr.p5, MModel.enc_width, MModel.part, MModel.l0, MModel.l1, MModel.l2, MModel.l3, MModel.l4, MModel.l5, MModel.l6, asInt_mk, asBool_mk, asStr_mk, asLst_mk, bind_mk, if_true, leaf_int, leaf_bool, leaf_str, leaf_lst]
    obtain ⟨h1, h2⟩ := hst w[j] (List.getElem_mem hj)
    refine Ret.bindB (way_tot q hq m hs i hi w[j].S h1 h2) (fun v _ => Ret.ite (fun _ => Ret.some (.inr rfl)) (fun _ => ?_))
    rw [wrap_succ hj (by omega)]
    exact ih
  · simp only [good_checker_proc_l2]
    rw [if_neg (by simp)]
    exact Ret.some (.inl rfl)
theorem proc_l1_tot (q : Nat) (hq : 140737488351232 < q) (m : MModel) (hs : m.sound) (i : Int) (hi : 0 ≤ i ∧ i < m.Procs.length) (ws : List (List MTrans)) (hwl : ws.length ≤ 17592186043904)
    (hws : ∀ w ∈ ws, w.length ≤ 17592186043904 ∧ ∀ t ∈ w, t.S.Args.length ≤ 17592186043904 ∧ t.S.Match.length ≤ 17592186043904) (x3 : List T) (x4 x5 : Int) (x10 : T) :
    Ret (good_checker_proc_l1 q q m.enc i x3 x4 x5 (ws.length : Int) 0 (ws.map encW) x10) (fun r => r = .inl (m.enc, i, (), x3, x4, x5, x10, ()) ∨ r = .inr (.inr (false, ()))) := by
  refine loop_ret (n := ws.length) (fun k j => good_checker_proc_l1 q k m.enc i x3 x4 x5 (ws.length : Int) j (ws.map encW) x10) _ (fun k j hj ih => ?_) (fun k => ?_) q (by omega)
  · simp only [good_checker_proc_l1]
    have e1 : (ws.map encW)[Int.toNat (j : Int)]? = some (encW ws[j]) := by simp [hj]
    obtain ⟨h1, h2⟩ := hws ws[j] (List.getElem_mem hj)
    rw [if_pos (by simp; omega), if_pos (by simp; omega), e1]
    simp only [leaf_encW, MType.enc_width, MType.part, MType.l0, MType.l1, MShape.enc_width, MShape.part, MShape.l0, MShape.l1, MStmt.enc_width, MStmt.part, MStmt.l0, MStmt.l1, MStmt.l2, MStmt.l3, MStmt.l4, MStmt.l5, MStmt.l6, MTrans.enc_width, MTrans.part, MTrans.l0, MTrans.l1, MTrans.l2, MTrans.l3, MTrans.l4, MTrans.l5, MTrans.l6, MTrans.l7, MTrans.l8, MTrans.p0, MLoc.enc_width, MLoc.part, MLoc.l0, MLoc.l1, MLoc.l2, MLoc.l3, MLoc.l4, MLoc.l5, MLoc.l6, MProc.enc_width, MProc.part, MProc.l0, MProc.l1, MProc.l2, MProc.l3, MProc.l4, MProc.l5, MProc.l6, MProc.l7, MProc.l8, MProc.l9, MDim.enc_width, MDim.part, MDim.l0, MDim.l1, MDim.l2, MVar.enc_width, MVar.part, MVar.l0, MVar.l1, MVar.l2, MVar.l3, MVar.l4, MExpr.enc_width, MExpr.part, MExpr.l0, MExpr.l1, MExpr.l2, MExpr.l3, MExpr.l4, MExpr.l5, MExpr.l6, MExpr.l7, MExpr.l8, MExpr.l9, MExpr.l10, MExpr.l11, MExpr.p5, MModel.enc_width, MModel.part, MModel.l0, MModel.l1, MModel.l2, MModel.l3, MModel.l4, MModel.l5, MModel.l6, asInt_mk, asBool_mk, asStr_mk, asLst_mk, bind_mk, if_true, leaf_int, leaf_bool, leaf_str, leaf_lst, List.length_map]
    refine Ret.cutB ((proc_l2_tot q hq m hs i hi ws[j] h1 h2 x3 (ws.map encW) x4 x5 (ws.length : Int) (j : Int) x10).mono fun r hr => ?_)
    rcases hr with rfl | rfl
    · simp only
      rw [wrap_succ hj (by omega)]
      exact ih
    · exact .inr rfl
  · simp only [good_checker_proc_l1]
    rw [if_neg (by simp)]
    exact Ret.some (.inl rfl)
def MProc.fineT (p : MProc) : Prop := p.Locs.length ≤ 17592186043904 ∧ ∀ l ∈ p.Locs, l.Esc.length ≤ 5864062014634 ∧ ∀ w ∈ waysS l, w.length ≤ 17592186043904 ∧ ∀ t ∈ w, t.S.Args.length ≤ 17592186043904 ∧ t.S.Match.length ≤ 17592186043904
theorem proc_fineT {K : Nat → Prop} {p : MProc} (h : p.ok K) : p.fineT := by
  refine ⟨by have := okL_len h.2.2.2.2.1; omega, fun l hl => ?_⟩
  obtain ⟨ho, he, _⟩ := h.2.2.2.2.1.2 l hl
  refine ⟨by have := okL_len he; omega, fun w hw => ?_⟩
  have hok : okL K 112 (MTrans.ok K) w := by
    rcases List.mem_cons.1 hw with rfl | hw
    · exact ho
    · exact he.2 w hw
  refine ⟨by have := okL_len hok; omega, fun t ht => ?_⟩
  obtain ⟨⟨_, _, _, _, ha, hm, _⟩, _⟩ := hok.2 t ht
  have h1 := okL_len ha
  have h2 := okL_len hm
  omega
theorem proc_tot (q : Nat) (hq : 140737488351232 < q) (m : MModel) (hs : m.sound) (i : Int) (hi : 0 ≤ i ∧ i < m.Procs.length) (hp : (m.pr i).fineT) (hprov : (m.pr i).Provided < (m.Exprs.length : Int)) : Ret (good_checker_proc q m.enc i) (fun _ => True) := by
  unfold good_checker_proc
  simp only [MType.enc_width, MType.part, MType.l0, MType.l1, MShape.enc_width, MShape.part, MShape.l0, MShape.l1, MStmt.enc_width, MStmt.part, MStmt.l0, MStmt.l1, MStmt.l2, MStmt.l3, MStmt.l4, MStmt.l5, MStmt.l6, MTrans.enc_width, MTrans.part, MTrans.l0, MTrans.l1, MTrans.l2, MTrans.l3, MTrans.l4, MTrans.l5, MTrans.l6, MTrans.l7, MTrans.l8, MTrans.p0, MLoc.enc_width, MLoc.part, MLoc.l0, MLoc.l1, MLoc.l2, MLoc.l3, MLoc.l4, MLoc.l5, MLoc.l6, MProc.enc_width, MProc.part, MProc.l0, MProc.l1, MProc.l2, MProc.l3, MProc.l4, MProc.l5, MProc.l6, MProc.l7, MProc.l8, MProc.l9, MDim.enc_width, MDim.part, MDim.l0, MDim.l1, MDim.l2, MVar.enc_width, MVar.part, MVar.l0, MVar.l1, MVar.l2, MVar.l3, MVar.l4, MExpr.enc_width, MExpr.part, MExpr.l0, MExpr.l1, MExpr.l2, MExpr.l3, MExpr.l4, MExpr.l5, MExpr.l6, MExpr.l7, MExpr.l8, MExpr.l9, MExpr.l10, MExpr.l11, MExpr.p5, MModel.enc_width, MModel.part, MModel.l0, MModel.l1, MModel.l2, MModel.l3, MModel.l4, MModel.l5, MModel.l6, asInt_mk, asBool_mk, asStr_mk, asLst_mk, bind_mk, if_true, leaf_int, leaf_bool, leaf_str, leaf_lst, rd_pr m hi.1 hi.2, List.length_map]
  generalize m.pr i = p at *
  obtain ⟨hll, hp⟩ := hp
  refine Ret.cutB ?_
  have l0 : Ret (good_checker_proc_l0 q q m.enc i (p.Locs.map MLoc.enc) (p.Locs.length : Int) 0 p.enc) (fun r => r = .inl (m.enc, i, (), p.enc, ()) ∨ r = .inr (false, ())) := by
    refine loop_ret (n := p.Locs.length) (fun k j => good_checker_proc_l0 q k m.enc i (p.Locs.map MLoc.enc) (p.Locs.length : Int) j p.enc) _ (fun k j hj ih => ?_) (fun k => ?_) q (by omega)
    · simp only [good_checker_proc_l0]
      rw [if_pos (by simp; omega), rd_map MLoc.enc_width hj]
      obtain ⟨h1, h2⟩ := hp p.Locs[j] (List.getElem_mem hj)
      simp only [MType.enc_width, MType.part, MType.l0, MType.l1, MShape.enc_width, MShape.part, MShape.l0, MShape.l1, MStmt.enc_width, MStmt.part, MStmt.l0, MStmt.l1, MStmt.l2, MStmt.l3, MStmt.l4, MStmt.l5, MStmt.l6, MTrans.enc_width, MTrans.part, MTrans.l0, MTrans.l1, MTrans.l2, MTrans.l3, MTrans.l4, MTrans.l5, MTrans.l6, MTrans.l7, MTrans.l8, MTrans.p0, MLoc.enc_width, MLoc.part, MLoc.l0, MLoc.l1, MLoc.l2, MLoc.l3, MLoc.l4, MLoc.l5, MLoc.l6, MProc.enc_width, MProc.part, MProc.l0, MProc.l1, MProc.l2, MProc.l3, MProc.l4, MProc.l5, MProc.l6, MProc.l7, MProc.l8, MProc.l9, MDim.enc_width, MDim.part, MDim.l0, MDim.l1, MDim.l2, MVar.enc_width, MVar.part, MVar.l0, MVar.l1, MVar.l2, MVar.l3, MVar.l4, MExpr.enc_width, MExpr.part, MExpr.l0, MExpr.l1, MExpr.l2, MExpr.l3, MExpr.l4, MExpr.l5, MExpr.l6, MExpr.l7, MExpr.l8, MExpr.l9, MExpr.l10, MExpr.l11, MExpr.p5, MModel.enc_width, MModel.part, MModel.l0, MModel.l1, MModel.l2, MModel.l3, MModel.l4, MModel.l5, MModel.l6, asInt_mk, asBool_mk, asStr_mk, asLst_mk, bind_mk, if_true, leaf_int, leaf_bool, leaf_str, leaf_lst, good_ways_is q p.Locs[j] h1, List.length_map]
      refine Ret.cutB ((proc_l1_tot q hq m hs i hi (waysS p.Locs[j]) (by simp [waysS]; omega) h2 (p.Locs.map MLoc.enc) (p.Locs.length : Int) (j : Int) p.enc).mono fun r hr => ?_)
      rcases hr with rfl | rfl
      · simp only
        rw [wrap_succ hj (by omega)]
        exact ih
      · exact .inr rfl
    · simp only [good_checker_proc_l0]
      rw [if_neg (by simp)]
      exact Ret.some (.inl rfl)
  refine l0.mono fun r hr => ?_
  rcases hr with rfl | rfl
  · simp only [MType.enc_width, MType.part, MType.l0, MType.l1, MShape.enc_width, MShape.part, MShape.l0, MShape.l1, MStmt.enc_width, MStmt.part, MStmt.l0, MStmt.l1, MStmt.l2, MStmt.l3, MStmt.l4, MStmt.l5, MStmt.l6, MTrans.enc_width, MTrans.part, MTrans.l0, MTrans.l1, MTrans.l2, MTrans.l3, MTrans.l4, MTrans.l5, MTrans.l6, MTrans.l7, MTrans.l8, MTrans.p0, MLoc.enc_width, MLoc.part, MLoc.l0, MLoc.l1, MLoc.l2, MLoc.l3, MLoc.l4, MLoc.l5, MLoc.l6, MProc.enc_width, MProc.part, MProc.l0, MProc.l1, MProc.l2, MProc.l3, MProc.l4, MProc.l5, MProc.l6, MProc.l7, MProc.l8, MProc.l9, MDim.enc_width, MDim.part, MDim.l0, MDim.l1, MDim.l2, MVar.enc_width, MVar.part, MVar.l0, MVar.l1, MVar.l2, MVar.l3, MVar.l4, MExpr.enc_width, MExpr.part, MExpr.l0, MExpr.l1, MExpr.l2, MExpr.l3, MExpr.l4, MExpr.l5, MExpr.l6, MExpr.l7, MExpr.l8, MExpr.l9, MExpr.l10, MExpr.l11, MExpr.p5, MModel.enc_width, MModel.part, MModel.l0, MModel.l1, MModel.l2, MModel.l3, MModel.l4, MModel.l5, MModel.l6, asInt_mk, asBool_mk, asStr_mk, asLst_mk, bind_mk, if_true, leaf_int, leaf_bool, leaf_str, leaf_lst]
    by_cases hneg : p.Provided < 0
    · rw [if_pos (by simpa using hneg)]
      exact Ret.some trivial
    · rw [if_neg (by simpa using hneg)]
      have u := uses_tot q hq m hs i (-1) hi [p.Provided] (fun x hx => by
        have : x = p.Provided := by simpa using hx
        rw [this]; omega) (by simp)
      exact Ret.bind (Ret.bindB u fun _ _ => Ret.some (Ret.some trivial))
  · trivial
end Go.Ax
