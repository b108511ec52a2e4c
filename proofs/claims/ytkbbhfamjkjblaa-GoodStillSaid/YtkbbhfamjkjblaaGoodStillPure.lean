/- GoodStill, the plain law. -/
import Derived.Test.YtkbbhfamjkjblaaGoodStillGoodG
import Derived.KernelRfl
set_option linter.unusedVariables false
set_option linter.unusedSimpArgs false
set_option maxRecDepth 100000
namespace Go.Ax
open Go
theorem law11_shown_any (q : Nat) : law11_shown (q + 100) = some (true, ()) := by kernel_rfl
theorem pure_GoodStill (m : MModel) (hm : m.ok ktrue) : ∃ q, law11_GoodStill q m.enc = some (true, ()) := by
  obtain ⟨q0, hq⟩ : ∃ q : Nat, 140737488351232 < q := ⟨140737488351233, by decide⟩
  refine ⟨q0 + 100, ?_⟩
  obtain ⟨r, hr, hQ⟩ := good_Check_tot (q0 + 100) (by omega) ktrue m hm
  unfold law11_GoodStill
  simp only [MType.enc_width, MType.part, MType.l0, MType.l1, MShape.enc_width, MShape.part, MShape.l0, MShape.l1, MStmt.enc_width, MStmt.part, MStmt.l0, MStmt.l1, MStmt.l2, MStmt.l3, MStmt.l4, MStmt.l5, MStmt.l6, MTrans.enc_width, MTrans.part, MTrans.l0, MTrans.l1, MTrans.l2, MTrans.l3, MTrans.l4, MTrans.l5, MTrans.l6, MTrans.l7, MTrans.l8, MTrans.p0, MLoc.enc_width, MLoc.part, MLoc.l0, MLoc.l1, MLoc.l2, MLoc.l3, MLoc.l4, MLoc.l5, MLoc.l6, MProc.enc_width, MProc.part, MProc.l0, MProc.l1, MProc.l2, MProc.l3, MProc.l4, MProc.l5, MProc.l6, MProc.l7, MProc.l8, MProc.l9, MDim.enc_width, MDim.part, MDim.l0, MDim.l1, MDim.l2, MVar.enc_width, MVar.part, MVar.l0, MVar.l1, MVar.l2, MVar.l3, MVar.l4, MExpr.enc_width, MExpr.part, MExpr.l0, MExpr.l1, MExpr.l2, MExpr.l3, MExpr.l4, MExpr.l5, MExpr.l6, MExpr.l7, MExpr.l8, MExpr.l9, MExpr.l10, MExpr.l11, MExpr.p5, MModel.enc_width, MModel.part, MModel.l0, MModel.l1, MModel.l2, MModel.l3, MModel.l4, MModel.l5, MModel.l6, asInt_mk, asBool_mk, asStr_mk, asLst_mk, bind_mk, if_true, leaf_int, leaf_bool, leaf_str, leaf_lst, law11_shown_any, hr, and_any, or_any, beq_self_eq_true, Bool.and_self]
  rcases hQ with ⟨rfl, _⟩ | h
  · rfl
  · simp [h]
end Go.Ax
