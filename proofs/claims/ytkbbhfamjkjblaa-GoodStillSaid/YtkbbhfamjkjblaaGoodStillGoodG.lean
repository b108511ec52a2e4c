/- Layer 11: Check: the program's side: it always says something; of a model that may be it says OK, 0, 0. -/
import Derived.Test.YtkbbhfamjkjblaaGoodStillGoodF
set_option linter.unusedVariables false
set_option linter.unusedSimpArgs false
set_option linter.unnecessarySimpa false
namespace Go.Ax
open Go
def procF (m : MModel) (i : Int) (p : MProc) : Bool :=
  !(!frameS p || !graphS p || decide (p.Provided < -1) || decide (p.Provided ≥ (m.Exprs.length : Int)) || (i == m.Claim && !claimedS p))
/-- what is known of a model that is checked -/
structure MModel.seen (m : MModel) : Prop where
  tables : tablesS m = (0, 0)
  procs : ∀ i : Nat, i < m.Procs.length → procF m i (m.pr i) = true
  many : (m.Procs.map MProc.Active).sum ≤ 16
theorem exGo_all {m : MModel} : ∀ {d i : Nat} {h : List Bool}, exGo m d i h = none → ∀ j : Nat, i ≤ j → j < i + d → expressionS m j = true
  | 0, i, h, _, j, h1, h2 => by omega
  | d + 1, i, h, e, j, h1, h2 => by
    unfold exGo at e
    cases he : expressionS m i with
    | false => rw [he] at e; cases e
    | true =>
      rw [he] at e
      simp only [Bool.not_true, cond_false] at e
      cases ha : addHeld h (heldS (m.ex i)) with
      | none => rw [ha] at e; cases e
      | some h' =>
        rw [ha] at e
        simp only at e
        by_cases hj : j = i
        · rw [hj]; exact he
        · exact exGo_all e j (by omega) (by omega)
theorem tables_facts {m : MModel} (h : tablesS m = (0, 0)) : m.Globals.length ≤ 128 ∧ m.Init.length = m.Globals.length ∧ typesS m.Globals m.Init = none ∧ m.Shapes.length ≤ 32 ∧ m.Chans.length ≤ 32 ∧ fbad MShape.may m.Shapes 0 = none ∧ fbad (chanF m) m.Chans 0 = none ∧
    1 ≤ m.Procs.length ∧ m.Procs.length ≤ 16 ∧ -1 ≤ m.Claim ∧ m.Claim < (m.Procs.length : Int) ∧ m.Exprs.length ≤ 4096 ∧ exGo m m.Exprs.length 0 (List.replicate m.Exprs.length false) = none := by
  unfold tablesS at h
  split at h
  · simp at h
  rename_i h1
  split at h
  · simp at h
  rename_i h2
  split at h
  · simp at h
  rename_i h3
  split at h
  · simp at h
  rename_i h4
  split at h
  · simp at h
  rename_i h5
  split at h
  · simp at h
  rename_i h6
  split at h
  · simp at h
  rename_i h7
  refine ⟨by omega, by omega, h2, by omega, by omega, h4, h5, by omega, by omega, by omega, by omega, by omega, h7⟩
theorem tables_zero {m : MModel} (h : ¬ (tablesS m).1 > 0) : tablesS m = (0, 0) := by
  revert h
  unfold tablesS
  split
  · intro h; exact absurd (by decide : (1 : Int) > 0) h
  split
  · intro h; exact absurd (by decide : (1 : Int) > 0) h
  split
  · intro h; exact absurd (by decide : (2 : Int) > 0) h
  split
  · intro h; exact absurd (by decide : (2 : Int) > 0) h
  split
  · intro h; exact absurd (by decide : (2 : Int) > 0) h
  split
  · intro h; exact absurd (by decide : (3 : Int) > 0) h
  split
  · intro h; exact absurd (by decide : (3 : Int) > 0) h
  · intro _; rfl
theorem frame_facts {p : MProc} (h : frameS p = true) : p.Frame.length ≤ 128 ∧ p.Init.length = p.Frame.length ∧ typesS p.Frame p.Init = none ∧ 0 ≤ p.Params ∧ p.Params ≤ p.Frame.length ∧ 0 ≤ p.Active ∧ p.Active ≤ 16 ∧ 1 ≤ p.Prio ∧ p.Prio ≤ 255 := by
  unfold frameS at h
  simp only [Bool.and_eq_true, decide_eq_true_eq, beq_iff_eq, Option.isNone_iff_eq_none] at h
  refine ⟨by omega, by omega, h.1.1.1.1.1.1.2, by omega, by omega, by omega, by omega, by omega, by omega⟩
theorem procF_facts {m : MModel} {i : Int} {p : MProc} (h : procF m i p = true) : frameS p = true ∧ graphS p = true ∧ -1 ≤ p.Provided ∧ p.Provided < m.Exprs.length ∧ (i = m.Claim → claimedS p = true) := by
  unfold procF at h
  simp only [Bool.not_eq_true', Bool.or_eq_false_iff, Bool.not_eq_false', decide_eq_false_iff_not, Bool.and_eq_false_iff, beq_eq_false_iff_ne] at h
  refine ⟨h.1.1.1.1, h.1.1.1.2, by omega, by omega, fun e => ?_⟩
  rcases h.2 with h2 | h2
  · exact absurd e h2
  · exact h2
theorem seen_sound {K : Nat → Prop} {m : MModel} (hok : m.ok K) (ht : tablesS m = (0, 0)) (hp : ∀ i : Nat, i < m.Procs.length → procF m i (m.pr i) = true) : m.sound := by
  obtain ⟨_, _, _, _, _, _, _, _, _, _, _, he, hx⟩ := tables_facts ht
  refine ⟨model_fine hok, he, fun i hi => exGo_all hx i (Nat.zero_le _) (by omega), fun p hpm => ?_⟩
  obtain ⟨i, hi, rfl⟩ := List.getElem_of_mem hpm
  have h1 := hp i hi
  have e : m.pr i = m.Procs[i] := by
    unfold MModel.pr
    simp [hi]
  rw [e] at h1
  have := frame_facts (procF_facts h1).1
  omega
theorem sum_drop (l : List Int) (i : Nat) (h : i < l.length) : (l.drop i).sum = l[i] + (l.drop (i + 1)).sum := by
  rw [List.drop_eq_getElem_cons h, List.sum_cons]
theorem Check_l0_is (q : Nat) (hq : 140737488351232 < q) (m : MModel) (hm : ∀ p ∈ m.Procs, p.fine ∧ p.Locs.length ≤ 17592186043904) (hl : m.Procs.length ≤ 16) (x7 : T × T × T × T × T × T × T × Unit) :
    ∀ (d k i : Nat) (many : Int), i + d = m.Procs.length → d < k → 0 ≤ many → many ≤ 16 * i →
    Ret (good_Check_l0 q k many (m.Procs.map MProc.enc) (m.Procs.length : Int) i m.enc x7)
      (fun r => (∃ n, r = .inl ((), (), n, m.enc, x7, ()) ∧ n = many + ((m.Procs.drop i).map MProc.Active).sum ∧ ∀ j : Nat, i ≤ j → j < m.Procs.length → procF m j (m.pr j) = true) ∨ ∃ j : Int, r = .inr (40, 4, j, ())) := by
  intro d
  induction d with
  | zero =>
    intro k i many hi hk h0 h1
    obtain ⟨k, rfl⟩ : ∃ m, k = m + 1 := ⟨k - 1, by omega⟩
    simp only [good_Check_l0]
    rw [if_neg (by simp; omega), List.drop_eq_nil_of_le (by omega)]
    refine Ret.some (.inl ⟨many, rfl, by simp, fun j h1 h2 => by omega⟩)
  | succ d ih =>
    intro k i many hi hk h0 h1
    obtain ⟨k, rfl⟩ : ∃ m, k = m + 1 := ⟨k - 1, by omega⟩
    simp only [good_Check_l0]
    have hlt : i < m.Procs.length := by omega
    obtain ⟨hf, hll⟩ := hm m.Procs[i] (List.getElem_mem hlt)
    rw [if_pos (by simp; omega), rd_map MProc.enc_width hlt]
    simp only [MType.enc_width, MType.part, MType.l0, MType.l1, MShape.enc_width, MShape.part, MShape.l0, MShape.l1, MStmt.enc_width, MStmt.part, MStmt.l0, MStmt.l1, MStmt.l2, MStmt.l3, MStmt.l4, MStmt.l5, MStmt.l6, MTrans.enc_width, MTrans.part, MTrans.l0, MTrans.l1, MTrans.l2, MTrans.l3, MTrans.l4, MTrans.l5, MTrans.l6, MTrans.l7, MTrans.l8, MTrans.p0, MLoc.enc_width, MLoc.part, MLoc.l0, MLoc.l1, MLoc.l2, MLoc.l3, MLoc.l4, MLoc.l5, MLoc.l6, MProc.enc_width, MProc.part, MProc.l0, MProc.l1, MProc.l2, MProc.l3, MProc.l4, MProc.l5, MProc.l6, MProc.l7, MProc.l8, MProc.l9, MDim.enc_width, MDim.part, MDim.l0, MDim.l1, MDim.l2, MVar.enc_width, MVar.part, MVar.l0, MVar.l1, MVar.l2, MVar.l3, MVar.l4, MExpr.enc_width, MExpr.part, MExpr.l0, MExpr.l1, MExpr.l2, MExpr.l3, MExpr.l4, MExpr.l5, MExpr.l6, MExpr.l7, MExpr.l8, MExpr.l9, MExpr.l10, MExpr.l11, MExpr.p5, MModel.enc_width, MModel.part, MModel.l0, MModel.l1, MModel.l2, MModel.l3, MModel.l4, MModel.l5, MModel.l6, asInt_mk, asBool_mk, asStr_mk, asLst_mk, bind_mk, if_true, leaf_int, leaf_bool, leaf_str, leaf_lst, good_frame_is q hq, good_graph_is q hq _ hf, good_claimed_is q _ (by omega : (m.Procs[i]).Locs.length ≤ 140737488351232) (by omega), List.length_map, or_any, and_any]
    have hpr : m.pr i = m.Procs[i] := by
      unfold MModel.pr
      simp [hlt]
    cases hc : (!frameS m.Procs[i] || !graphS m.Procs[i] || decide ((m.Procs[i]).Provided < -1) || decide ((m.Procs[i]).Provided ≥ (m.Exprs.length : Int)) || ((i : Int) == m.Claim && !claimedS m.Procs[i])) with
    | true => exact Ret.some (.inr ⟨_, rfl⟩)
    | false =>
      have hF : procF m i (m.pr i) = true := by unfold procF; rw [hpr, hc]; rfl
      have hfr := frame_facts (procF_facts hF).1
      rw [hpr] at hfr
      simp only [Bool.false_eq_true, if_false]
      rw [w64 (by omega) (by omega), wrap_succ hlt (by omega)]
      refine (ih k (i + 1) (many + (m.Procs[i]).Active) (by omega) (by omega) (by omega) (by omega)).mono fun r hr => ?_
      rcases hr with ⟨n, rfl, hn, hall⟩ | hr
      · refine .inl ⟨n, rfl, ?_, fun j h1 h2 => ?_⟩
        · rw [List.drop_eq_getElem_cons hlt, List.map_cons, List.sum_cons]
          omega
        · by_cases hj : j = i
          · rw [hj]; exact hF
          · exact hall j (by omega) h2
      · exact .inr hr
theorem good_Check_tot (q : Nat) (hq : 140737488351232 < q) (K : Nat → Prop) (m : MModel) (hok : m.ok K) : Ret (good_Check q m.enc) (fun r => (r = (0, 0, 0, ()) ∧ m.seen) ∨ r.1 = 40) := by
  unfold good_Check
  simp only [MType.enc_width, MType.part, MType.l0, MType.l1, MShape.enc_width, MShape.part, MShape.l0, MShape.l1, MStmt.enc_width, MStmt.part, MStmt.l0, MStmt.l1, MStmt.l2, MStmt.l3, MStmt.l4, MStmt.l5, MStmt.l6, MTrans.enc_width, MTrans.part, MTrans.l0, MTrans.l1, MTrans.l2, MTrans.l3, MTrans.l4, MTrans.l5, MTrans.l6, MTrans.l7, MTrans.l8, MTrans.p0, MLoc.enc_width, MLoc.part, MLoc.l0, MLoc.l1, MLoc.l2, MLoc.l3, MLoc.l4, MLoc.l5, MLoc.l6, MProc.enc_width, MProc.part, MProc.l0, MProc.l1, MProc.l2, MProc.l3, MProc.l4, MProc.l5, MProc.l6, MProc.l7, MProc.l8, MProc.l9, MDim.enc_width, MDim.part, MDim.l0, MDim.l1, MDim.l2, MVar.enc_width, MVar.part, MVar.l0, MVar.l1, MVar.l2, MVar.l3, MVar.l4, MExpr.enc_width, MExpr.part, MExpr.l0, MExpr.l1, MExpr.l2, MExpr.l3, MExpr.l4, MExpr.l5, MExpr.l6, MExpr.l7, MExpr.l8, MExpr.l9, MExpr.l10, MExpr.l11, MExpr.p5, MModel.enc_width, MModel.part, MModel.l0, MModel.l1, MModel.l2, MModel.l3, MModel.l4, MModel.l5, MModel.l6, asInt_mk, asBool_mk, asStr_mk, asLst_mk, bind_mk, if_true, leaf_int, leaf_bool, leaf_str, leaf_lst]
  have hagg : T.aggN 7 m.enc = some m.enc := rfl
  rw [hagg]
  simp only [bind_mk]
  have henc : T.agg [T.leaf m.enc 0, T.leaf m.enc 1, T.leaf m.enc 2, T.leaf m.enc 3, T.leaf m.enc 4, T.leaf m.enc 5, T.leaf m.enc 6] = m.enc := rfl
  rw [henc, good_tables_is q hq m (model_fine hok)]
  simp only [bind_mk]
  by_cases ht : (tablesS m).1 > 0
  · rw [if_pos (by simpa using ht)]
    exact Ret.some (.inr rfl)
  · rw [if_neg (by simpa using ht)]
    have ht0 := tables_zero ht
    obtain ⟨_, _, _, _, _, _, _, _, hpl, _, _, hel, _⟩ := tables_facts ht0
    have hmp : ∀ p ∈ m.Procs, p.fine ∧ p.Locs.length ≤ 17592186043904 := fun p hp => by
      have := hok.2.2.2.2.1.2 p hp
      exact ⟨proc_fine this, (proc_fineT this).1⟩
    simp only [List.length_map]
    refine Ret.cutB ((Check_l0_is q hq m hmp hpl (T.leaf m.enc 0, T.leaf m.enc 1, T.leaf m.enc 2, T.leaf m.enc 3, T.leaf m.enc 4, T.leaf m.enc 5, T.leaf m.enc 6, ()) m.Procs.length q 0 0 (by omega) (by omega) (by omega) (by omega)).mono fun r hr => ?_)
    rcases hr with ⟨n, rfl, hn, hall⟩ | ⟨j, rfl⟩
    · simp only [List.drop_zero, Int.zero_add] at hn
      by_cases hmany : n > 16
      · simp only
        rw [if_pos (by simpa using hmany)]
        exact Ret.some (.inr rfl)
      · simp only
        rw [if_neg (by simpa using hmany)]
        have hs := seen_sound hok ht0 (fun i hi => hall i (Nat.zero_le _) hi)
        simp only [MType.enc_width, MType.part, MType.l0, MType.l1, MShape.enc_width, MShape.part, MShape.l0, MShape.l1, MStmt.enc_width, MStmt.part, MStmt.l0, MStmt.l1, MStmt.l2, MStmt.l3, MStmt.l4, MStmt.l5, MStmt.l6, MTrans.enc_width, MTrans.part, MTrans.l0, MTrans.l1, MTrans.l2, MTrans.l3, MTrans.l4, MTrans.l5, MTrans.l6, MTrans.l7, MTrans.l8, MTrans.p0, MLoc.enc_width, MLoc.part, MLoc.l0, MLoc.l1, MLoc.l2, MLoc.l3, MLoc.l4, MLoc.l5, MLoc.l6, MProc.enc_width, MProc.part, MProc.l0, MProc.l1, MProc.l2, MProc.l3, MProc.l4, MProc.l5, MProc.l6, MProc.l7, MProc.l8, MProc.l9, MDim.enc_width, MDim.part, MDim.l0, MDim.l1, MDim.l2, MVar.enc_width, MVar.part, MVar.l0, MVar.l1, MVar.l2, MVar.l3, MVar.l4, MExpr.enc_width, MExpr.part, MExpr.l0, MExpr.l1, MExpr.l2, MExpr.l3, MExpr.l4, MExpr.l5, MExpr.l6, MExpr.l7, MExpr.l8, MExpr.l9, MExpr.l10, MExpr.l11, MExpr.p5, MModel.enc_width, MModel.part, MModel.l0, MModel.l1, MModel.l2, MModel.l3, MModel.l4, MModel.l5, MModel.l6, asInt_mk, asBool_mk, asStr_mk, asLst_mk, bind_mk, if_true, leaf_int, leaf_bool, leaf_str, leaf_lst, List.length_map]
        refine Ret.cutB ?_
        have l1 : Ret (good_Check_l1 q q (m.Procs.length : Int) 0 (T.leaf m.enc 0, T.leaf m.enc 1, T.leaf m.enc 2, T.leaf m.enc 3, T.leaf m.enc 4, T.leaf m.enc 5, T.leaf m.enc 6, ())) (fun r => r = .inl () ∨ ∃ j : Int, r = .inr (40, 6, j, ())) := by
          refine loop_ret (n := m.Procs.length) (fun k j => good_Check_l1 q k (m.Procs.length : Int) j (T.leaf m.enc 0, T.leaf m.enc 1, T.leaf m.enc 2, T.leaf m.enc 3, T.leaf m.enc 4, T.leaf m.enc 5, T.leaf m.enc 6, ())) _ (fun k j hj ih => ?_) (fun k => ?_) q (by omega)
          · simp only [good_Check_l1]
            rw [if_pos (by simp; omega), henc]
            have hpm := pr_mem (m := m) (k := (j : Int)) (by omega) (by omega)
            refine Ret.bindB (proc_tot q hq m hs (j : Int) ⟨by omega, by omega⟩ (proc_fineT (hok.2.2.2.2.1.2 _ hpm)) (procF_facts (hall j (Nat.zero_le _) hj)).2.2.2.1) (fun v _ => Ret.ite (fun _ => Ret.some (.inr ⟨_, rfl⟩)) (fun _ => ?_))
            rw [wrap_succ hj (by omega)]
            exact ih
          · simp only [good_Check_l1]
            rw [if_neg (by simp)]
            exact Ret.some (.inl rfl)
        refine l1.mono fun r hr => ?_
        rcases hr with rfl | ⟨j, rfl⟩
        · exact Ret.some (.inl ⟨rfl, ht0, fun i hi => hall i (Nat.zero_le _) hi, by omega⟩)
        · exact .inr rfl
    · exact .inr rfl
end Go.Ax
