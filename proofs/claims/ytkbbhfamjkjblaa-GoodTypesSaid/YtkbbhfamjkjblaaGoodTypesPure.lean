/- GoodTypes, the plain law. -/
import Derived.Test.YtkbbhfamjkjblaaGoodTypesTypes
import Derived.KernelRfl
set_option linter.unusedVariables false
set_option linter.unusedSimpArgs false
set_option maxRecDepth 100000
namespace Go.Ax
open Go
theorem law11_shown_is : law11_shown 100 = some (true, ()) := by kernel_rfl
theorem pure_GoodTypes (t : MType) (v : Int) (x : MVar) (ht : t.ok) (hv : okI v) (hx : x.ok) : ∃ q, law11_GoodTypes q t.enc v x.enc = some (true, ()) := by
  refine ⟨100, ?_⟩
  unfold law11_GoodTypes
  simp only [MType.enc_width, MType.part, MType.l0, MType.l1, MDim.enc_width, MDim.part, MDim.l0, MDim.l1, MDim.l2, MVar.enc_width, MVar.part, MVar.l0, MVar.l1, MVar.l2, MVar.l3, MVar.l4, asInt_mk, asBool_mk, asStr_mk, asLst_mk, bind_mk, if_true, law11_shown_is, good_Type_is, ref11_Type_is, good_Fits_is, ref11_Fits_is 100 (by omega), good_Reach_is 100 (by omega), ref11_Reach_is 100 (by omega), and_any, beq_self_eq_true, Bool.and_self]
end Go.Ax
