/- GoodStill: for every input the law's function returns true, and each argument reads behind the call as it read before. No condition. -/
import Derived.Test.YtkbbhfamjkjblaaRows
import Derived.Test.YtkbbhfamjkjblaaGoodStillGen0
import Derived.Test.YtkbbhfamjkjblaaGoodStillTy
import Derived.Test.YtkbbhfamjkjblaaGoodStillPure
import Derived.ProofKit
import Derived.SizedLaws
set_option linter.unusedVariables false
set_option maxRecDepth 1000000
namespace Go.Ax
open Go Go.Proofs
theorem MType.of {K : Nat → Prop} {n : Nat} {ls : List T} (h : Typed Try.prog K n 23 ls) : ∃ x : MType, ls = x.ls ∧ x.ok K := by
  obtain ⟨m, h⟩ := typed_struct Try.underlying23 h
  obtain ⟨_, _, rfl, h0, ⟨_, _, rfl, h1, rfl⟩⟩ := h
  obtain ⟨v0, rfl, o0⟩ := typed_int Try.underlying3 h0
  obtain ⟨v1, rfl, o1⟩ := typed_bool Try.underlying4 h1
  exact ⟨⟨v0, v1⟩, rfl, o0, o1⟩
theorem MType.elem {K : Nat → Prop} (n : Nat) (ls : List T) (h : Typed Try.prog K n 23 ls) : ∃ y, wrapT (isAggT Try.prog 23) ls = MType.enc y ∧ MType.ok K y := by
  obtain ⟨x, rfl, hx⟩ := MType.of h
  exact ⟨x, by unfold isAggT wrapT; rw [Try.underlying23]; rfl, hx⟩
theorem MShape.of {K : Nat → Prop} {n : Nat} {ls : List T} (h : Typed Try.prog K n 84 ls) : ∃ x : MShape, ls = x.ls ∧ x.ok K := by
  obtain ⟨m, h⟩ := typed_struct Try.underlying84 h
  obtain ⟨_, _, rfl, h0, ⟨_, _, rfl, h1, rfl⟩⟩ := h
  obtain ⟨v0, rfl, o0⟩ := typed_int Try.underlying3 h0
  obtain ⟨v1, rfl, o1⟩ := typed_slice (enc := MType.enc) (ok := (MType.ok K)) (b := 16) Try.underlying32 (by kernel_rfl) h1 MType.elem
  exact ⟨⟨v0, v1⟩, rfl, o0, o1⟩
theorem MShape.elem {K : Nat → Prop} (n : Nat) (ls : List T) (h : Typed Try.prog K n 84 ls) : ∃ y, wrapT (isAggT Try.prog 84) ls = MShape.enc y ∧ MShape.ok K y := by
  obtain ⟨x, rfl, hx⟩ := MShape.of h
  exact ⟨x, by unfold isAggT wrapT; rw [Try.underlying84]; rfl, hx⟩
theorem MStmt.of {K : Nat → Prop} {n : Nat} {ls : List T} (h : Typed Try.prog K n 67 ls) : ∃ x : MStmt, ls = x.ls ∧ x.ok K := by
  obtain ⟨m, h⟩ := typed_struct Try.underlying67 h
  obtain ⟨_, _, rfl, h0, ⟨_, _, rfl, h1, ⟨_, _, rfl, h2, ⟨_, _, rfl, h3, ⟨_, _, rfl, h4, ⟨_, _, rfl, h5, ⟨_, _, rfl, h6, rfl⟩⟩⟩⟩⟩⟩⟩ := h
  obtain ⟨v0, rfl, o0⟩ := typed_int Try.underlying3 h0
  obtain ⟨v1, rfl, o1⟩ := typed_int Try.underlying3 h1
  obtain ⟨v2, rfl, o2⟩ := typed_int Try.underlying3 h2
  obtain ⟨v3, rfl, o3⟩ := typed_int Try.underlying3 h3
  obtain ⟨v4, rfl, o4⟩ := typed_slice (enc := (T.int .i64)) (ok := okI) (b := 8) Try.underlying35 (by kernel_rfl) h4 (elem_int Try.underlying3)
  obtain ⟨v5, rfl, o5⟩ := typed_slice (enc := (T.int .i64)) (ok := okI) (b := 8) Try.underlying35 (by kernel_rfl) h5 (elem_int Try.underlying3)
  obtain ⟨v6, rfl, o6⟩ := typed_str Try.underlying9 h6
  exact ⟨⟨v0, v1, v2, v3, v4, v5, v6⟩, rfl, o0, o1, o2, o3, o4, o5, o6⟩
theorem MStmt.elem {K : Nat → Prop} (n : Nat) (ls : List T) (h : Typed Try.prog K n 67 ls) : ∃ y, wrapT (isAggT Try.prog 67) ls = MStmt.enc y ∧ MStmt.ok K y := by
  obtain ⟨x, rfl, hx⟩ := MStmt.of h
  exact ⟨x, by unfold isAggT wrapT; rw [Try.underlying67]; rfl, hx⟩
theorem MTrans.of {K : Nat → Prop} {n : Nat} {ls : List T} (h : Typed Try.prog K n 69 ls) : ∃ x : MTrans, ls = x.ls ∧ x.ok K := by
  obtain ⟨m, h⟩ := typed_struct Try.underlying69 h
  obtain ⟨_, _, rfl, h0, ⟨_, _, rfl, h1, ⟨_, _, rfl, h2, rfl⟩⟩⟩ := h
  obtain ⟨v0, rfl, o0⟩ := MStmt.of h0
  obtain ⟨v1, rfl, o1⟩ := typed_int Try.underlying3 h1
  obtain ⟨v2, rfl, o2⟩ := typed_int Try.underlying3 h2
  exact ⟨⟨v0, v1, v2⟩, rfl, o0, o1, o2⟩
theorem MTrans.elem {K : Nat → Prop} (n : Nat) (ls : List T) (h : Typed Try.prog K n 69 ls) : ∃ y, wrapT (isAggT Try.prog 69) ls = MTrans.enc y ∧ MTrans.ok K y := by
  obtain ⟨x, rfl, hx⟩ := MTrans.of h
  exact ⟨x, by unfold isAggT wrapT; rw [Try.underlying69]; rfl, hx⟩
theorem MLoc.of {K : Nat → Prop} {n : Nat} {ls : List T} (h : Typed Try.prog K n 73 ls) : ∃ x : MLoc, ls = x.ls ∧ x.ok K := by
  obtain ⟨m, h⟩ := typed_struct Try.underlying73 h
  obtain ⟨_, _, rfl, h0, ⟨_, _, rfl, h1, ⟨_, _, rfl, h2, ⟨_, _, rfl, h3, ⟨_, _, rfl, h4, ⟨_, _, rfl, h5, ⟨_, _, rfl, h6, rfl⟩⟩⟩⟩⟩⟩⟩ := h
  obtain ⟨v0, rfl, o0⟩ := typed_slice (enc := MTrans.enc) (ok := (MTrans.ok K)) (b := 112) Try.underlying70 (by kernel_rfl) h0 MTrans.elem
  obtain ⟨v1, rfl, o1⟩ := typed_slice (enc := (fun l => T.lst (List.map MTrans.enc l))) (ok := (okL K 112 (MTrans.ok K))) (b := 24) Try.underlying71 (by kernel_rfl) h1 (elem_slice (enc := MTrans.enc) (ok := (MTrans.ok K)) (b := 112) Try.underlying70 (by kernel_rfl) MTrans.elem)
  obtain ⟨v2, rfl, o2⟩ := typed_bool Try.underlying4 h2
  obtain ⟨v3, rfl, o3⟩ := typed_bool Try.underlying4 h3
  obtain ⟨v4, rfl, o4⟩ := typed_bool Try.underlying4 h4
  obtain ⟨v5, rfl, o5⟩ := typed_bool Try.underlying4 h5
  obtain ⟨v6, rfl, o6⟩ := typed_bool Try.underlying4 h6
  exact ⟨⟨v0, v1, v2, v3, v4, v5, v6⟩, rfl, o0, o1, o2, o3, o4, o5, o6⟩
theorem MLoc.elem {K : Nat → Prop} (n : Nat) (ls : List T) (h : Typed Try.prog K n 73 ls) : ∃ y, wrapT (isAggT Try.prog 73) ls = MLoc.enc y ∧ MLoc.ok K y := by
  obtain ⟨x, rfl, hx⟩ := MLoc.of h
  exact ⟨x, by unfold isAggT wrapT; rw [Try.underlying73]; rfl, hx⟩
theorem MProc.of {K : Nat → Prop} {n : Nat} {ls : List T} (h : Typed Try.prog K n 52 ls) : ∃ x : MProc, ls = x.ls ∧ x.ok K := by
  obtain ⟨m, h⟩ := typed_struct Try.underlying52 h
  obtain ⟨_, _, rfl, h0, ⟨_, _, rfl, h1, ⟨_, _, rfl, h2, ⟨_, _, rfl, h3, ⟨_, _, rfl, h4, ⟨_, _, rfl, h5, ⟨_, _, rfl, h6, ⟨_, _, rfl, h7, ⟨_, _, rfl, h8, ⟨_, _, rfl, h9, rfl⟩⟩⟩⟩⟩⟩⟩⟩⟩⟩ := h
  obtain ⟨v0, rfl, o0⟩ := typed_str Try.underlying9 h0
  obtain ⟨v1, rfl, o1⟩ := typed_int Try.underlying3 h1
  obtain ⟨v2, rfl, o2⟩ := typed_slice (enc := MType.enc) (ok := (MType.ok K)) (b := 16) Try.underlying32 (by kernel_rfl) h2 MType.elem
  obtain ⟨v3, rfl, o3⟩ := typed_slice (enc := (T.int .i64)) (ok := okI) (b := 8) Try.underlying33 (by kernel_rfl) h3 (elem_int Try.underlying2)
  obtain ⟨v4, rfl, o4⟩ := typed_slice (enc := MLoc.enc) (ok := (MLoc.ok K)) (b := 56) Try.underlying50 (by kernel_rfl) h4 MLoc.elem
  obtain ⟨v5, rfl, o5⟩ := typed_int Try.underlying3 h5
  obtain ⟨v6, rfl, o6⟩ := typed_int Try.underlying3 h6
  obtain ⟨v7, rfl, o7⟩ := typed_int Try.underlying3 h7
  obtain ⟨v8, rfl, o8⟩ := typed_int Try.underlying3 h8
  obtain ⟨v9, rfl, o9⟩ := typed_int Try.underlying3 h9
  exact ⟨⟨v0, v1, v2, v3, v4, v5, v6, v7, v8, v9⟩, rfl, o0, o1, o2, o3, o4, o5, o6, o7, o8, o9⟩
theorem MProc.elem {K : Nat → Prop} (n : Nat) (ls : List T) (h : Typed Try.prog K n 52 ls) : ∃ y, wrapT (isAggT Try.prog 52) ls = MProc.enc y ∧ MProc.ok K y := by
  obtain ⟨x, rfl, hx⟩ := MProc.of h
  exact ⟨x, by unfold isAggT wrapT; rw [Try.underlying52]; rfl, hx⟩
theorem MDim.of {K : Nat → Prop} {n : Nat} {ls : List T} (h : Typed Try.prog K n 56 ls) : ∃ x : MDim, ls = x.ls ∧ x.ok K := by
  obtain ⟨m, h⟩ := typed_struct Try.underlying56 h
  obtain ⟨_, _, rfl, h0, ⟨_, _, rfl, h1, ⟨_, _, rfl, h2, rfl⟩⟩⟩ := h
  obtain ⟨v0, rfl, o0⟩ := typed_int Try.underlying3 h0
  obtain ⟨v1, rfl, o1⟩ := typed_int Try.underlying3 h1
  obtain ⟨v2, rfl, o2⟩ := typed_int Try.underlying3 h2
  exact ⟨⟨v0, v1, v2⟩, rfl, o0, o1, o2⟩
theorem MDim.elem {K : Nat → Prop} (n : Nat) (ls : List T) (h : Typed Try.prog K n 56 ls) : ∃ y, wrapT (isAggT Try.prog 56) ls = MDim.enc y ∧ MDim.ok K y := by
  obtain ⟨x, rfl, hx⟩ := MDim.of h
  exact ⟨x, by unfold isAggT wrapT; rw [Try.underlying56]; rfl, hx⟩
theorem MVar.of {K : Nat → Prop} {n : Nat} {ls : List T} (h : Typed Try.prog K n 26 ls) : ∃ x : MVar, ls = x.ls ∧ x.ok K := by
  obtain ⟨m, h⟩ := typed_struct Try.underlying26 h
  obtain ⟨_, _, rfl, h0, ⟨_, _, rfl, h1, ⟨_, _, rfl, h2, ⟨_, _, rfl, h3, ⟨_, _, rfl, h4, rfl⟩⟩⟩⟩⟩ := h
  obtain ⟨v0, rfl, o0⟩ := typed_int Try.underlying3 h0
  obtain ⟨v1, rfl, o1⟩ := typed_int Try.underlying3 h1
  obtain ⟨v2, rfl, o2⟩ := typed_int Try.underlying3 h2
  obtain ⟨v3, rfl, o3⟩ := typed_int Try.underlying3 h3
  obtain ⟨v4, rfl, o4⟩ := typed_slice (enc := MDim.enc) (ok := (MDim.ok K)) (b := 24) Try.underlying24 (by kernel_rfl) h4 MDim.elem
  exact ⟨⟨v0, v1, v2, v3, v4⟩, rfl, o0, o1, o2, o3, o4⟩
theorem MVar.elem {K : Nat → Prop} (n : Nat) (ls : List T) (h : Typed Try.prog K n 26 ls) : ∃ y, wrapT (isAggT Try.prog 26) ls = MVar.enc y ∧ MVar.ok K y := by
  obtain ⟨x, rfl, hx⟩ := MVar.of h
  exact ⟨x, by unfold isAggT wrapT; rw [Try.underlying26]; rfl, hx⟩
theorem MExpr.of {K : Nat → Prop} {n : Nat} {ls : List T} (h : Typed Try.prog K n 65 ls) : ∃ x : MExpr, ls = x.ls ∧ x.ok K := by
  obtain ⟨m, h⟩ := typed_struct Try.underlying65 h
  obtain ⟨_, _, rfl, h0, ⟨_, _, rfl, h1, ⟨_, _, rfl, h2, ⟨_, _, rfl, h3, ⟨_, _, rfl, h4, ⟨_, _, rfl, h5, ⟨_, _, rfl, h6, ⟨_, _, rfl, h7, rfl⟩⟩⟩⟩⟩⟩⟩⟩ := h
  obtain ⟨v0, rfl, o0⟩ := typed_int Try.underlying3 h0
  obtain ⟨v1, rfl, o1⟩ := typed_int Try.underlying2 h1
  obtain ⟨v2, rfl, o2⟩ := typed_int Try.underlying3 h2
  obtain ⟨v3, rfl, o3⟩ := typed_int Try.underlying3 h3
  obtain ⟨v4, rfl, o4⟩ := typed_int Try.underlying3 h4
  obtain ⟨v5, rfl, o5⟩ := MVar.of h5
  obtain ⟨v6, rfl, o6⟩ := typed_slice (enc := (T.int .i64)) (ok := okI) (b := 8) Try.underlying35 (by kernel_rfl) h6 (elem_int Try.underlying3)
  obtain ⟨v7, rfl, o7⟩ := typed_slice (enc := (T.int .i64)) (ok := okI) (b := 8) Try.underlying35 (by kernel_rfl) h7 (elem_int Try.underlying3)
  exact ⟨⟨v0, v1, v2, v3, v4, v5, v6, v7⟩, rfl, o0, o1, o2, o3, o4, o5, o6, o7⟩
theorem MExpr.elem {K : Nat → Prop} (n : Nat) (ls : List T) (h : Typed Try.prog K n 65 ls) : ∃ y, wrapT (isAggT Try.prog 65) ls = MExpr.enc y ∧ MExpr.ok K y := by
  obtain ⟨x, rfl, hx⟩ := MExpr.of h
  exact ⟨x, by unfold isAggT wrapT; rw [Try.underlying65]; rfl, hx⟩
theorem MModel.of {K : Nat → Prop} {n : Nat} {ls : List T} (h : Typed Try.prog K n 39 ls) : ∃ x : MModel, ls = x.ls ∧ x.ok K := by
  obtain ⟨m, h⟩ := typed_struct Try.underlying39 h
  obtain ⟨_, _, rfl, h0, ⟨_, _, rfl, h1, ⟨_, _, rfl, h2, ⟨_, _, rfl, h3, ⟨_, _, rfl, h4, ⟨_, _, rfl, h5, ⟨_, _, rfl, h6, rfl⟩⟩⟩⟩⟩⟩⟩ := h
  obtain ⟨v0, rfl, o0⟩ := typed_slice (enc := MType.enc) (ok := (MType.ok K)) (b := 16) Try.underlying32 (by kernel_rfl) h0 MType.elem
  obtain ⟨v1, rfl, o1⟩ := typed_slice (enc := (T.int .i64)) (ok := okI) (b := 8) Try.underlying33 (by kernel_rfl) h1 (elem_int Try.underlying2)
  obtain ⟨v2, rfl, o2⟩ := typed_slice (enc := MShape.enc) (ok := (MShape.ok K)) (b := 32) Try.underlying34 (by kernel_rfl) h2 MShape.elem
  obtain ⟨v3, rfl, o3⟩ := typed_slice (enc := (T.int .i64)) (ok := okI) (b := 8) Try.underlying35 (by kernel_rfl) h3 (elem_int Try.underlying3)
  obtain ⟨v4, rfl, o4⟩ := typed_slice (enc := MProc.enc) (ok := (MProc.ok K)) (b := 136) Try.underlying36 (by kernel_rfl) h4 MProc.elem
  obtain ⟨v5, rfl, o5⟩ := typed_int Try.underlying3 h5
  obtain ⟨v6, rfl, o6⟩ := typed_slice (enc := MExpr.enc) (ok := (MExpr.ok K)) (b := 144) Try.underlying37 (by kernel_rfl) h6 MExpr.elem
  exact ⟨⟨v0, v1, v2, v3, v4, v5, v6⟩, rfl, o0, o1, o2, o3, o4, o5, o6⟩
theorem MModel.elem {K : Nat → Prop} (n : Nat) (ls : List T) (h : Typed Try.prog K n 39 ls) : ∃ y, wrapT (isAggT Try.prog 39) ls = MModel.enc y ∧ MModel.ok K y := by
  obtain ⟨x, rfl, hx⟩ := MModel.of h
  exact ⟨x, by unfold isAggT wrapT; rw [Try.underlying39]; rfl, hx⟩
end Go.Ax
namespace Go.Proofs.Ytkbbhfamjkjblaa
open Go Go.Ax Go.ChangeShapes Go.WideShapes Go.ChangeAt Go.RowKit
theorem own_knob : ownKnob Try.prog.godebug = none := by kernel_rfl
theorem laid_out : laidOutB Try.prog = true := by kernel_rfl
theorem ok_ty : Try.f4.params.toList.all (okTy Try.prog 30) = true := by kernel_rfl
theorem ok_rd : Try.f4.params.toList.all (fun t => Try.prog.readableRec t && decide (t < Try.prog.types.size)) = true := by kernel_rfl
theorem ok_rt : Try.f4.resultTypes = #[4] := by kernel_rfl
theorem law_calls (xs : List T) (h : TypedArgs Try.prog ktrue 30 Try.f4.params.toList xs) : ∃ ap, CallSound Try.prog 4 xs ap [.l (.t (.bool true))] := by
  have h : TypedArgs Try.prog ktrue 30 [39] xs := by rw [Try.params4] at h; exact h
  obtain ⟨l0, xs, rfl, h0, h⟩ := typedArgs_cons h
  obtain rfl := typedArgs_nil h
  obtain ⟨x0, e0, o0⟩ := MModel.elem _ _ h0
  rw [e0]
  obtain ⟨q, hq⟩ := pure_GoodStill x0 o0
  exact sumK_law (law11_GoodStill_sum q) rfl hq
theorem goodStill_lifted (os : Os) (started : os.Started) (H : Type) (enc : TypeId × Value → H) :
    ReturnsInHanded {} Try.checked os 4 .any (Rows.goodStillSpec.pre6 enc Try.prog Try.f4 Rows.goodStillRow.domain false) (Rows.goodStillSpec.post enc Try.prog Try.f4 false true false false) := by
  refine returnsInHanded_of_change_sized (C := Try.checked) own_knob started (by kernel_rfl) Try.func4
    (ChangeSpec.witness6 (enc := enc) (C := Try.checked) false ⟨#[], #[.agg #[.slice none 0 0, .slice none 0 0, .slice none 0 0, .slice none 0 0, .slice none 0 0, .int .i64 0, .slice none 0 0]], []⟩ 30 (by kernel_rfl) (by kernel_rfl) (by kernel_rfl) (by kernel_rfl)) ?_
  intro W base args ds gs before hval0 hW0 _ hwt0 _
  have hval : ∀ (j : Nat) t v, Try.f4.params[j]? = some t → args[j]? = some v → Value.okWide Try.prog W .any base t v := hval0
  have hW : DataW.Whole enc Try.prog Try.f4.params.toList Rows.goodStillSpec.vars false W args.toList ds gs before := hW0
  have hwt : (DataW.weightsEach Try.prog (Try.f4.params.toList ++ Rows.goodStillSpec.plain.varTypes Try.prog) (ds ++ gs)).all (· ≤ reachBytes) = true := hwt0
  have hk : ∀ k ∈ lensAll ds, ktrue k := fun _ _ => trivial
  have hlaw := law_contract (P := Try.prog) (K := ktrue) trivial (f := 4) (fn := Try.f4) (s := Rows.goodStillSpec) (n := 30) (tb := 4) laid_out ok_ty ok_rd ok_rt Try.underlying4 rfl (fun ds h => match ds, h with | [_], _ => rfl) (base := base) law_calls hval hwt hk hW
  exact hlaw
theorem goodStill_holds : Rows.GoodStillSaid :=
  OpenClaim.holds_of_wide 4 Try.f4 rfl rfl rfl rfl rfl rfl rfl ⟨rfl, rfl, rfl, rfl, rfl⟩ rfl rfl rfl rfl rfl (by kernel_rfl) Try.func4 (by kernel_rfl)
    (of_decide_eq_true (by kernel_rfl)) (by unfold Func.isWrapper; first | (rw [if_pos (by decide +kernel)]; kernel_rfl) | (rw [if_neg (by decide +kernel)]; exact ⟨rfl, rfl⟩))
    (fun os started H enc _ => goodStill_lifted os started H enc)
end Go.Proofs.Ytkbbhfamjkjblaa
