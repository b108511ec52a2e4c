/- GoodTypes: for every input the law's function returns true, and each argument reads behind the call as it read before. No condition. -/
import Derived.Test.YtkbbhfamjkjblaaRows
import Derived.Test.YtkbbhfamjkjblaaGoodTypesGen0
import Derived.Test.YtkbbhfamjkjblaaGoodTypesTy
import Derived.Test.YtkbbhfamjkjblaaGoodTypesPure
import Derived.ProofKit
import Derived.SizedLaws
set_option linter.unusedVariables false
set_option maxRecDepth 1000000
namespace Go.Ax
open Go Go.Proofs
theorem MType.of {n : Nat} {ls : List T} (h : Typed Try.prog n 23 ls) : ∃ x : MType, ls = x.ls ∧ x.ok := by
  obtain ⟨m, h⟩ := typed_struct Try.underlying23 h
  obtain ⟨_, _, rfl, h0, ⟨_, _, rfl, h1, rfl⟩⟩ := h
  obtain ⟨v0, rfl, o0⟩ := typed_int Try.underlying3 h0
  obtain ⟨v1, rfl, o1⟩ := typed_bool Try.underlying4 h1
  exact ⟨⟨v0, v1⟩, rfl, o0, o1⟩
theorem MType.elem (n : Nat) (ls : List T) (h : Typed Try.prog n 23 ls) : ∃ y, wrapT (isAggT Try.prog 23) ls = MType.enc y ∧ MType.ok y := by
  obtain ⟨x, rfl, hx⟩ := MType.of h
  exact ⟨x, by unfold isAggT wrapT; rw [Try.underlying23]; rfl, hx⟩
theorem MDim.of {n : Nat} {ls : List T} (h : Typed Try.prog n 56 ls) : ∃ x : MDim, ls = x.ls ∧ x.ok := by
  obtain ⟨m, h⟩ := typed_struct Try.underlying56 h
  obtain ⟨_, _, rfl, h0, ⟨_, _, rfl, h1, ⟨_, _, rfl, h2, rfl⟩⟩⟩ := h
  obtain ⟨v0, rfl, o0⟩ := typed_int Try.underlying3 h0
  obtain ⟨v1, rfl, o1⟩ := typed_int Try.underlying3 h1
  obtain ⟨v2, rfl, o2⟩ := typed_int Try.underlying3 h2
  exact ⟨⟨v0, v1, v2⟩, rfl, o0, o1, o2⟩
theorem MDim.elem (n : Nat) (ls : List T) (h : Typed Try.prog n 56 ls) : ∃ y, wrapT (isAggT Try.prog 56) ls = MDim.enc y ∧ MDim.ok y := by
  obtain ⟨x, rfl, hx⟩ := MDim.of h
  exact ⟨x, by unfold isAggT wrapT; rw [Try.underlying56]; rfl, hx⟩
theorem MVar.of {n : Nat} {ls : List T} (h : Typed Try.prog n 26 ls) : ∃ x : MVar, ls = x.ls ∧ x.ok := by
  obtain ⟨m, h⟩ := typed_struct Try.underlying26 h
  obtain ⟨_, _, rfl, h0, ⟨_, _, rfl, h1, ⟨_, _, rfl, h2, ⟨_, _, rfl, h3, ⟨_, _, rfl, h4, rfl⟩⟩⟩⟩⟩ := h
  obtain ⟨v0, rfl, o0⟩ := typed_int Try.underlying3 h0
  obtain ⟨v1, rfl, o1⟩ := typed_int Try.underlying3 h1
  obtain ⟨v2, rfl, o2⟩ := typed_int Try.underlying3 h2
  obtain ⟨v3, rfl, o3⟩ := typed_int Try.underlying3 h3
  obtain ⟨v4, rfl, o4⟩ := typed_slice (enc := MDim.enc) (ok := MDim.ok) (b := 24) Try.underlying24 (by kernel_rfl) h4 MDim.elem
  exact ⟨⟨v0, v1, v2, v3, v4⟩, rfl, o0, o1, o2, o3, o4⟩
theorem MVar.elem (n : Nat) (ls : List T) (h : Typed Try.prog n 26 ls) : ∃ y, wrapT (isAggT Try.prog 26) ls = MVar.enc y ∧ MVar.ok y := by
  obtain ⟨x, rfl, hx⟩ := MVar.of h
  exact ⟨x, by unfold isAggT wrapT; rw [Try.underlying26]; rfl, hx⟩
end Go.Ax
namespace Go.Proofs.Ytkbbhfamjkjblaa
open Go Go.Ax Go.ChangeShapes Go.WideShapes Go.ChangeAt Go.RowKit
theorem own_knob : ownKnob Try.prog.godebug = none := by kernel_rfl
theorem laid_out : laidOutB Try.prog = true := by kernel_rfl
theorem ok_ty : Try.f3.params.toList.all (okTy Try.prog 30) = true := by kernel_rfl
theorem ok_rd : Try.f3.params.toList.all (fun t => Try.prog.readableRec t && decide (t < Try.prog.types.size)) = true := by kernel_rfl
theorem ok_rt : Try.f3.resultTypes = #[4] := by kernel_rfl
theorem law_calls (xs : List T) (h : TypedArgs Try.prog 30 Try.f3.params.toList xs) : ∃ ap, CallSound Try.prog 3 xs ap [.l (.t (.bool true))] := by
  have h : TypedArgs Try.prog 30 [23, 2, 26] xs := by rw [Try.params3] at h; exact h
  obtain ⟨l0, xs, rfl, h0, h⟩ := typedArgs_cons h
  obtain ⟨l1, xs, rfl, h1, h⟩ := typedArgs_cons h
  obtain ⟨l2, xs, rfl, h2, h⟩ := typedArgs_cons h
  obtain rfl := typedArgs_nil h
  obtain ⟨x0, e0, o0⟩ := MType.elem _ _ h0
  rw [e0]
  obtain ⟨x1, e1, o1⟩ := (elem_int Try.underlying2) _ _ h1
  rw [e1]
  obtain ⟨x2, e2, o2⟩ := MVar.elem _ _ h2
  rw [e2]
  obtain ⟨q, hq⟩ := pure_GoodTypes x0 x1 x2 o0 o1 o2
  exact sumK_law (law11_GoodTypes_sum q) rfl hq
theorem goodTypes_lifted (os : Os) (started : os.Started) (H : Type) (enc : TypeId × Value → H) :
    ReturnsInHanded {} Try.checked os 3 .any (Rows.goodTypesSpec.pre6 enc Try.prog Try.f3 Rows.goodTypesRow.domain false) (Rows.goodTypesSpec.post enc Try.prog Try.f3 false true false false) := by
  refine returnsInHanded_of_change_sized (C := Try.checked) own_knob started (by kernel_rfl) Try.func3
    (ChangeSpec.witness6 (enc := enc) (C := Try.checked) false ⟨#[], #[.agg #[.int .i64 0, .bool false], .int .i64 0, .agg #[.int .i64 0, .int .i64 0, .int .i64 0, .int .i64 0, .slice none 0 0]], []⟩ 30 (by kernel_rfl) (by kernel_rfl) (by kernel_rfl) (by kernel_rfl)) ?_
  intro W base args ds gs before hval0 hW0 _ hwt0 _
  have hval : ∀ (j : Nat) t v, Try.f3.params[j]? = some t → args[j]? = some v → Value.okWide Try.prog W .any base t v := hval0
  have hW : DataW.Whole enc Try.prog Try.f3.params.toList Rows.goodTypesSpec.vars false W args.toList ds gs before := hW0
  have hwt : (DataW.weightsEach Try.prog (Try.f3.params.toList ++ Rows.goodTypesSpec.plain.varTypes Try.prog) (ds ++ gs)).all (· ≤ reachBytes) = true := hwt0
  have hlaw := law_contract (P := Try.prog) (f := 3) (fn := Try.f3) (s := Rows.goodTypesSpec) (n := 30) (tb := 4) laid_out ok_ty ok_rd ok_rt Try.underlying4 rfl (fun ds h => match ds, h with | [_, _, _], _ => rfl) (base := base) law_calls hval hwt hW
  exact hlaw
theorem goodTypes_holds : Rows.GoodTypesSaid :=
  OpenClaim.holds_of_wide 3 Try.f3 rfl rfl rfl rfl rfl rfl rfl ⟨rfl, rfl, rfl, rfl, rfl⟩ rfl rfl rfl rfl rfl (by kernel_rfl) Try.func3 (by kernel_rfl)
    (of_decide_eq_true (by kernel_rfl)) (by unfold Func.isWrapper; first | (rw [if_pos (by decide +kernel)]; kernel_rfl) | (rw [if_neg (by decide +kernel)]; exact ⟨rfl, rfl⟩))
    (fun os started H enc _ => goodTypes_lifted os started H enc)
end Go.Proofs.Ytkbbhfamjkjblaa
