/- The functions that the law reaches, part 0: what each computes, and that it does: printed by a program of this claim. -/
import Derived.Test.YtkbbhfamjkjblaaAxX
import Derived.Test.YtkbbhfamjkjblaaProg
import Derived.KernelRfl
set_option linter.unusedVariables false
set_option maxRecDepth 1000000
namespace Go.Ax
open Go Go.Proofs
theorem hmix : Try.prog.follows .mixedOrders = true := by kernel_rfl
/-! spinneret/good.Type -/
def good_Type (q : Nat) (a0 : T) : Option (Bool × Unit) :=
  if T.width a0 = 2 then
  (T.asInt .i64 (T.leaf a0 0)).bind fun v1 =>
  (if (decide (v1 ≥ (1 : Int))) = true then (T.asInt .i64 (T.leaf a0 0)).bind fun v2 =>
  some (decide (v2 ≤ (32 : Int))) else some false).bind fun v3 =>
  (if v3 = true then (T.asBool (T.leaf a0 1)).bind fun v4 =>
  (if (!v4) = true then some true else (T.asInt .i64 (T.leaf a0 0)).bind fun v5 =>
  some (v5 == (16 : Int))).bind fun v6 =>
  (if v6 = true then some true else (T.asInt .i64 (T.leaf a0 0)).bind fun v7 =>
  some (v7 == (32 : Int))).bind fun v8 =>
  some v8 else some false).bind fun v9 =>
  some (v9, ())
  else none
@[reducible] def good_Type_S (q : Nat) : Summary := sumK [.cell (.raw)] [.leaf (.cell (.bool))] fun a => good_Type q a.1
@[reducible] def good_Type_T (q : Nat) : Alt [.leaf (.cell (.bool))] := ⟨[.cell (.raw)], fun a => good_Type q a.1⟩
def good_Type_C (q : Nat) : Nat → Option Summary := orcL []
theorem good_Type_orc (q : Nat) : OrcSound Try.prog (good_Type_C q) := orc_nil
def good_Type_A (q : Nat) : Ann (RPay [.leaf (.cell (.bool))]) :=
  .d
theorem good_Type_ok (q : Nat) : Ok Try.prog Try.f7.ntmps (good_Type_C q) q (good_Type_A q) (codeOf Try.f7) (fun _ => fnK Try.prog Try.f7 (List.map Rk.spec [.leaf (.cell (.bool))]) (decR [.leaf (.cell (.bool))])) := by
  have h : (Ok Try.prog Try.f7.ntmps (good_Type_C q) q (good_Type_A q) (codeOf Try.f7) (fun _ => fnK Try.prog Try.f7 (List.map Rk.spec [.leaf (.cell (.bool))]) (decR [.leaf (.cell (.bool))]))) = (True) := by kernel_rfl
  exact h.mpr (trivial)
theorem good_Type_eq (q : Nat) (a : APay [.cell (.raw)]) : evFn Try.prog (good_Type_C q) q Try.f7 (List.map Rk.spec [.leaf (.cell (.bool))]) (RPay [.leaf (.cell (.bool))]) (good_Type_A q) (encA [.cell (.raw)] a) (decR [.leaf (.cell (.bool))]) = good_Type q a.1 := by kernel_rfl
theorem good_Type_sum (q : Nat) : SumSound Try.prog 7 (good_Type_S q) :=
  sumK_sound (good_Type_orc q) hmix (code := codeOf Try.f7) Try.func7 (by kernel_rfl) (by kernel_rfl) (by kernel_rfl) (by kernel_rfl) (good_Type_ok q) (good_Type_eq q)

/-! spinneret/good.Fits -/
def good_Fits (q : Nat) (a0 : T) (a1 : Int) : Option (Bool × Unit) :=
  if T.width a0 = 2 then
  (T.part a0 0 2).bind fun v1 =>
  (good_Type q v1).bind fun v2 =>
  if (!v2.1) = true then (
  some (false, ()))
  else (
  (T.asBool (T.leaf a0 1)).bind fun v3 =>
  if v3 = true then (
  (T.asInt .i64 (T.leaf a0 0)).bind fun v4 =>
  if (IntKind.i64.wrap (v4 - (1 : Int))) < 0 then none else
  (if (decide (a1 ≥ (IntKind.i64.wrap ((-1 : Int) * 2 ^ (min (IntKind.i64.wrap (v4 - (1 : Int))).toNat (IntKind.bits .i64)))))) = true then (T.asInt .i64 (T.leaf a0 0)).bind fun v5 =>
  if (IntKind.i64.wrap (v5 - (1 : Int))) < 0 then none else
  some (decide (a1 < (IntKind.i64.wrap ((1 : Int) * 2 ^ (min (IntKind.i64.wrap (v5 - (1 : Int))).toNat (IntKind.bits .i64)))))) else some false).bind fun v6 =>
  some (v6, ()))
  else (
  (if (decide (a1 ≥ (0 : Int))) = true then (T.asInt .i64 (T.leaf a0 0)).bind fun v7 =>
  if v7 < 0 then none else
  some (decide (a1 < (IntKind.i64.wrap ((1 : Int) * 2 ^ (min v7.toNat (IntKind.bits .i64)))))) else some false).bind fun v8 =>
  some (v8, ())))
  else none
@[reducible] def good_Fits_S (q : Nat) : Summary := sumK [.cell (.raw), .cell (.int .i64)] [.leaf (.cell (.bool))] fun a => good_Fits q a.1 a.2.1
@[reducible] def good_Fits_T (q : Nat) : Alt [.leaf (.cell (.bool))] := ⟨[.cell (.raw), .cell (.int .i64)], fun a => good_Fits q a.1 a.2.1⟩
def good_Fits_C (q : Nat) : Nat → Option Summary := orcL [(7, good_Type_S q)]
theorem good_Fits_orc (q : Nat) : OrcSound Try.prog (good_Fits_C q) := (orc_cons (good_Type_sum q) orc_nil)
def good_Fits_A (q : Nat) : Ann (RPay [.leaf (.cell (.bool))]) :=
  .d
theorem good_Fits_ok (q : Nat) : Ok Try.prog Try.f9.ntmps (good_Fits_C q) q (good_Fits_A q) (codeOf Try.f9) (fun _ => fnK Try.prog Try.f9 (List.map Rk.spec [.leaf (.cell (.bool))]) (decR [.leaf (.cell (.bool))])) := by
  have h : (Ok Try.prog Try.f9.ntmps (good_Fits_C q) q (good_Fits_A q) (codeOf Try.f9) (fun _ => fnK Try.prog Try.f9 (List.map Rk.spec [.leaf (.cell (.bool))]) (decR [.leaf (.cell (.bool))]))) = (True) := by kernel_rfl
  exact h.mpr (trivial)
theorem good_Fits_eq (q : Nat) (a : APay [.cell (.raw), .cell (.int .i64)]) : evFn Try.prog (good_Fits_C q) q Try.f9 (List.map Rk.spec [.leaf (.cell (.bool))]) (RPay [.leaf (.cell (.bool))]) (good_Fits_A q) (encA [.cell (.raw), .cell (.int .i64)] a) (decR [.leaf (.cell (.bool))]) = good_Fits q a.1 a.2.1 := by kernel_rfl
theorem good_Fits_sum (q : Nat) : SumSound Try.prog 9 (good_Fits_S q) :=
  sumK_sound (good_Fits_orc q) hmix (code := codeOf Try.f9) Try.func9 (by kernel_rfl) (by kernel_rfl) (by kernel_rfl) (by kernel_rfl) (good_Fits_ok q) (good_Fits_eq q)

/-! spinneret/good.types -/
def good_types_l0 (q : Nat) : Nat → (List T) → (List T) → (Int) → (Int) → Option ((Unit) ⊕ (Int × Unit))
  | 0, _, _, _, _ => none
  | k + 1, x0, x1, x2, x3 =>
    if (decide (x3 < x2)) = true then (
    (rd x0 x3 2).bind fun v2 =>
    (T.part v2 0 2).bind fun v3 =>
    (rd x1 x3 1).bind fun v4 =>
    (T.asInt .i64 (T.leaf v4 0)).bind fun v5 =>
    (good_Fits q v3 v5).bind fun v6 =>
    if (!v6.1) = true then (
    some (.inr ((x3, ()))))
    else (
    good_types_l0 q k x0 x1 x2 (IntKind.i64.wrap (x3 + (1 : Int)))))
    else (
    some (.inl (())))
def good_types (q : Nat) (a0 : List T) (a1 : List T) : Option (Int × Unit) :=
  cutB (good_types_l0 q q a0 a1 (a0.length : Int) 0) fun p1 =>
  some ((-1), ())
@[reducible] def good_types_S (q : Nat) : Summary := sumK [.cell (.lst), .cell (.lst)] [.leaf (.cell (.int .i64))] fun a => good_types q a.1 a.2.1
@[reducible] def good_types_T (q : Nat) : Alt [.leaf (.cell (.int .i64))] := ⟨[.cell (.lst), .cell (.lst)], fun a => good_types q a.1 a.2.1⟩
def good_types_C (q : Nat) : Nat → Option Summary := orcL [(9, good_Fits_S q)]
theorem good_types_orc (q : Nat) : OrcSound Try.prog (good_types_C q) := (orc_cons (good_Fits_sum q) orc_nil)
def good_types_A (q : Nat) : Ann (RPay [.leaf (.cell (.int .i64))]) :=
  .seq (.d) (.cut [] (.seq (.d) (.block (.loop [.tmp 0 (.lst), .tmp 1 (.lst), .tmp 7 (.int .i64), .tmp 8 (.int .i64)] (fun k p => good_types_l0 q k p.1 p.2.1 p.2.2.1 p.2.2.2.1) (.d)))) (.d))
theorem good_types_ok (q : Nat) : Ok Try.prog Try.f38.ntmps (good_types_C q) q (good_types_A q) (codeOf Try.f38) (fun _ => fnK Try.prog Try.f38 (List.map Rk.spec [.leaf (.cell (.int .i64))]) (decR [.leaf (.cell (.int .i64))])) := by
  have h : (Ok Try.prog Try.f38.ntmps (good_types_C q) q (good_types_A q) (codeOf Try.f38) (fun _ => fnK Try.prog Try.f38 (List.map Rk.spec [.leaf (.cell (.int .i64))]) (decR [.leaf (.cell (.int .i64))]))) = ((True) ∧ (((True) ∧ ((∀ p : List T × List T × Int × Int × Unit, good_types_l0 q 0 p.1 p.2.1 p.2.2.1 p.2.2.2.1 = none) ∧ ∀ n : Nat, (∀ p : List T × List T × Int × Int × Unit, good_types_l0 q (n + 1) p.1 p.2.1 p.2.2.1 p.2.2.2.1 = good_types_l0 q (n + 1) p.1 p.2.1 p.2.2.1 p.2.2.2.1) ∧ (True))) ∧ (True))) := by kernel_rfl
  exact h.mpr (⟨trivial, ⟨⟨trivial, ⟨fun _ => rfl, fun _ => ⟨fun _ => rfl, trivial⟩⟩⟩, trivial⟩⟩)
theorem good_types_eq (q : Nat) (a : APay [.cell (.lst), .cell (.lst)]) : evFn Try.prog (good_types_C q) q Try.f38 (List.map Rk.spec [.leaf (.cell (.int .i64))]) (RPay [.leaf (.cell (.int .i64))]) (good_types_A q) (encA [.cell (.lst), .cell (.lst)] a) (decR [.leaf (.cell (.int .i64))]) = good_types q a.1 a.2.1 := by kernel_rfl
theorem good_types_sum (q : Nat) : SumSound Try.prog 38 (good_types_S q) :=
  sumK_sound (good_types_orc q) hmix (code := codeOf Try.f38) Try.func38 (by kernel_rfl) (by kernel_rfl) (by kernel_rfl) (by kernel_rfl) (good_types_ok q) (good_types_eq q)

/-! spinneret/good.shape -/
def good_shape_l0 (q : Nat) : Nat → (List T) → (Int) → (Int) → Option ((Unit) ⊕ (Bool × Unit))
  | 0, _, _, _ => none
  | k + 1, x0, x1, x2 =>
    if (decide (x2 < x1)) = true then (
    (rd x0 x2 2).bind fun v10 =>
    (T.part v10 0 2).bind fun v11 =>
    if T.width v11 = 2 then
    (T.part v11 0 2).bind fun v12 =>
    (good_Type q v12).bind fun v13 =>
    if (!v13.1) = true then (
    some (.inr ((false, ()))))
    else (
    good_shape_l0 q k x0 x1 (IntKind.i64.wrap (x2 + (1 : Int))))
    else none)
    else (
    some (.inl (())))
def good_shape (q : Nat) (a0 : T) : Option (Bool × Unit) :=
  if T.width a0 = 2 then
  (T.asInt .i64 (T.leaf a0 0)).bind fun v1 =>
  (if (decide (v1 < (0 : Int))) = true then some true else (T.asInt .i64 (T.leaf a0 0)).bind fun v2 =>
  some (decide (v2 > (16 : Int)))).bind fun v3 =>
  (if v3 = true then some true else (T.asLst (T.leaf a0 1)).bind fun v4 =>
  some (decide ((v4.length : Int) < (1 : Int)))).bind fun v5 =>
  (if v5 = true then some true else (T.asLst (T.leaf a0 1)).bind fun v6 =>
  some (decide ((v6.length : Int) > (8 : Int)))).bind fun v7 =>
  if v7 = true then (
  some (false, ()))
  else (
  cutB ((T.asLst (T.leaf a0 1)).bind fun v9 =>
  good_shape_l0 q q v9 (v9.length : Int) 0) fun p8 =>
  some (true, ()))
  else none
@[reducible] def good_shape_S (q : Nat) : Summary := sumK [.cell (.raw)] [.leaf (.cell (.bool))] fun a => good_shape q a.1
@[reducible] def good_shape_T (q : Nat) : Alt [.leaf (.cell (.bool))] := ⟨[.cell (.raw)], fun a => good_shape q a.1⟩
def good_shape_C (q : Nat) : Nat → Option Summary := orcL [(7, good_Type_S q)]
theorem good_shape_orc (q : Nat) : OrcSound Try.prog (good_shape_C q) := (orc_cons (good_Type_sum q) orc_nil)
def good_shape_A (q : Nat) : Ann (RPay [.leaf (.cell (.bool))]) :=
  .seq (.d) (.seq (.d) (.cut [] (.seq (.d) (.block (.loop [.tmp 26 (.lst), .tmp 27 (.int .i64), .tmp 28 (.int .i64)] (fun k p => good_shape_l0 q k p.1 p.2.1 p.2.2.1) (.d)))) (.d)))
theorem good_shape_ok (q : Nat) : Ok Try.prog Try.f39.ntmps (good_shape_C q) q (good_shape_A q) (codeOf Try.f39) (fun _ => fnK Try.prog Try.f39 (List.map Rk.spec [.leaf (.cell (.bool))]) (decR [.leaf (.cell (.bool))])) := by
  have h : (Ok Try.prog Try.f39.ntmps (good_shape_C q) q (good_shape_A q) (codeOf Try.f39) (fun _ => fnK Try.prog Try.f39 (List.map Rk.spec [.leaf (.cell (.bool))]) (decR [.leaf (.cell (.bool))]))) = ((True) ∧ ((True) ∧ (((True) ∧ ((∀ p : List T × Int × Int × Unit, good_shape_l0 q 0 p.1 p.2.1 p.2.2.1 = none) ∧ ∀ n : Nat, (∀ p : List T × Int × Int × Unit, good_shape_l0 q (n + 1) p.1 p.2.1 p.2.2.1 = good_shape_l0 q (n + 1) p.1 p.2.1 p.2.2.1) ∧ (True))) ∧ (True)))) := by kernel_rfl
  exact h.mpr (⟨trivial, ⟨trivial, ⟨⟨trivial, ⟨fun _ => rfl, fun _ => ⟨fun _ => rfl, trivial⟩⟩⟩, trivial⟩⟩⟩)
theorem good_shape_eq (q : Nat) (a : APay [.cell (.raw)]) : evFn Try.prog (good_shape_C q) q Try.f39 (List.map Rk.spec [.leaf (.cell (.bool))]) (RPay [.leaf (.cell (.bool))]) (good_shape_A q) (encA [.cell (.raw)] a) (decR [.leaf (.cell (.bool))]) = good_shape q a.1 := by kernel_rfl
theorem good_shape_sum (q : Nat) : SumSound Try.prog 39 (good_shape_S q) :=
  sumK_sound (good_shape_orc q) hmix (code := codeOf Try.f39) Try.func39 (by kernel_rfl) (by kernel_rfl) (by kernel_rfl) (by kernel_rfl) (good_shape_ok q) (good_shape_eq q)

/-! spinneret/good.parts -/
def good_parts (q : Nat) (a0 : Int) : Option (Int × Unit) :=
  cutB (if (a0 == (1 : Int)) = true then (
  some (.inl (a0, a0, (a0 == (1 : Int)), ())))
  else (
  if (a0 == (2 : Int)) = true then (
  some (.inl (a0, a0, (a0 == (2 : Int)), ())))
  else (
  if (a0 == (31 : Int)) = true then (
  some (.inl (a0, a0, (a0 == (31 : Int)), ())))
  else (
  if (a0 == (32 : Int)) = true then (
  some (.inl (a0, a0, (a0 == (32 : Int)), ())))
  else (
  if (a0 == (33 : Int)) = true then (
  some (.inl (a0, a0, (a0 == (33 : Int)), ())))
  else (
  if (a0 == (34 : Int)) = true then (
  some (.inl (a0, a0, (a0 == (34 : Int)), ())))
  else (
  if (a0 == (35 : Int)) = true then (
  some (.inl (a0, a0, (a0 == (35 : Int)), ())))
  else (
  some (.inl (a0, a0, (a0 == (39 : Int)), ())))))))))) fun p1 =>
  if p1.2.2.1 = true then (
  some (0, ()))
  else (
  if (p1.2.1 == (24 : Int)) = true then (
  some (3, ()))
  else (
  (if (decide (p1.1 ≥ (6 : Int))) = true then some (decide (p1.1 ≤ (23 : Int))) else some false).bind fun v2 =>
  if v2 = true then (
  some (2, ()))
  else (
  some (1, ()))))
@[reducible] def good_parts_S (q : Nat) : Summary := sumK [.cell (.int .i64)] [.leaf (.cell (.int .i64))] fun a => good_parts q a.1
@[reducible] def good_parts_T (q : Nat) : Alt [.leaf (.cell (.int .i64))] := ⟨[.cell (.int .i64)], fun a => good_parts q a.1⟩
def good_parts_C (q : Nat) : Nat → Option Summary := orcL []
theorem good_parts_orc (q : Nat) : OrcSound Try.prog (good_parts_C q) := orc_nil
def good_parts_A (q : Nat) : Ann (RPay [.leaf (.cell (.int .i64))]) :=
  .seq (.d) (.seq (.seq (.d) (.block (.cut [.tmp 0 (.int .i64), .tmp 3 (.int .i64), .tmp 4 (.bool)] (.d) (.d)))) (.d))
theorem good_parts_ok (q : Nat) : Ok Try.prog Try.f54.ntmps (good_parts_C q) q (good_parts_A q) (codeOf Try.f54) (fun _ => fnK Try.prog Try.f54 (List.map Rk.spec [.leaf (.cell (.int .i64))]) (decR [.leaf (.cell (.int .i64))])) := by
  have h : (Ok Try.prog Try.f54.ntmps (good_parts_C q) q (good_parts_A q) (codeOf Try.f54) (fun _ => fnK Try.prog Try.f54 (List.map Rk.spec [.leaf (.cell (.int .i64))]) (decR [.leaf (.cell (.int .i64))]))) = ((True) ∧ (((True) ∧ ((True) ∧ (True))) ∧ (True))) := by kernel_rfl
  exact h.mpr (⟨trivial, ⟨⟨trivial, ⟨trivial, trivial⟩⟩, trivial⟩⟩)
theorem good_parts_eq (q : Nat) (a : APay [.cell (.int .i64)]) : evFn Try.prog (good_parts_C q) q Try.f54 (List.map Rk.spec [.leaf (.cell (.int .i64))]) (RPay [.leaf (.cell (.int .i64))]) (good_parts_A q) (encA [.cell (.int .i64)] a) (decR [.leaf (.cell (.int .i64))]) = good_parts q a.1 := by kernel_rfl
theorem good_parts_sum (q : Nat) : SumSound Try.prog 54 (good_parts_S q) :=
  sumK_sound (good_parts_orc q) hmix (code := codeOf Try.f54) Try.func54 (by kernel_rfl) (by kernel_rfl) (by kernel_rfl) (by kernel_rfl) (good_parts_ok q) (good_parts_eq q)

/-! spinneret/good.below -/
def good_below_l0 (q : Nat) : Nat → (Int) → (List T) → (Int) → (Int) → Option ((Unit) ⊕ (Bool × Unit))
  | 0, _, _, _, _ => none
  | k + 1, x0, x1, x2, x3 =>
    if (decide (x3 < x2)) = true then (
    (rd x1 x3 1).bind fun v2 =>
    (T.asInt .i64 (T.leaf v2 0)).bind fun v3 =>
    (if (decide (v3 < (0 : Int))) = true then some true else some (decide (v3 ≥ x0))).bind fun v4 =>
    if v4 = true then (
    some (.inr ((false, ()))))
    else (
    good_below_l0 q k x0 x1 x2 (IntKind.i64.wrap (x3 + (1 : Int)))))
    else (
    some (.inl (())))
def good_below (q : Nat) (a0 : Int) (a1 : List T) : Option (Bool × Unit) :=
  cutB (good_below_l0 q q a0 a1 (a1.length : Int) 0) fun p1 =>
  some (true, ())
@[reducible] def good_below_S (q : Nat) : Summary := sumK [.cell (.int .i64), .cell (.lst)] [.leaf (.cell (.bool))] fun a => good_below q a.1 a.2.1
@[reducible] def good_below_T (q : Nat) : Alt [.leaf (.cell (.bool))] := ⟨[.cell (.int .i64), .cell (.lst)], fun a => good_below q a.1 a.2.1⟩
def good_below_C (q : Nat) : Nat → Option Summary := orcL []
theorem good_below_orc (q : Nat) : OrcSound Try.prog (good_below_C q) := orc_nil
def good_below_A (q : Nat) : Ann (RPay [.leaf (.cell (.bool))]) :=
  .seq (.d) (.cut [] (.seq (.d) (.block (.loop [.tmp 0 (.int .i64), .tmp 7 (.lst), .tmp 8 (.int .i64), .tmp 9 (.int .i64)] (fun k p => good_below_l0 q k p.1 p.2.1 p.2.2.1 p.2.2.2.1) (.d)))) (.d))
theorem good_below_ok (q : Nat) : Ok Try.prog Try.f55.ntmps (good_below_C q) q (good_below_A q) (codeOf Try.f55) (fun _ => fnK Try.prog Try.f55 (List.map Rk.spec [.leaf (.cell (.bool))]) (decR [.leaf (.cell (.bool))])) := by
  have h : (Ok Try.prog Try.f55.ntmps (good_below_C q) q (good_below_A q) (codeOf Try.f55) (fun _ => fnK Try.prog Try.f55 (List.map Rk.spec [.leaf (.cell (.bool))]) (decR [.leaf (.cell (.bool))]))) = ((True) ∧ (((True) ∧ ((∀ p : Int × List T × Int × Int × Unit, good_below_l0 q 0 p.1 p.2.1 p.2.2.1 p.2.2.2.1 = none) ∧ ∀ n : Nat, (∀ p : Int × List T × Int × Int × Unit, good_below_l0 q (n + 1) p.1 p.2.1 p.2.2.1 p.2.2.2.1 = good_below_l0 q (n + 1) p.1 p.2.1 p.2.2.1 p.2.2.2.1) ∧ (True))) ∧ (True))) := by kernel_rfl
  exact h.mpr (⟨trivial, ⟨⟨trivial, ⟨fun _ => rfl, fun _ => ⟨fun _ => rfl, trivial⟩⟩⟩, trivial⟩⟩)
theorem good_below_eq (q : Nat) (a : APay [.cell (.int .i64), .cell (.lst)]) : evFn Try.prog (good_below_C q) q Try.f55 (List.map Rk.spec [.leaf (.cell (.bool))]) (RPay [.leaf (.cell (.bool))]) (good_below_A q) (encA [.cell (.int .i64), .cell (.lst)] a) (decR [.leaf (.cell (.bool))]) = good_below q a.1 a.2.1 := by kernel_rfl
theorem good_below_sum (q : Nat) : SumSound Try.prog 55 (good_below_S q) :=
  sumK_sound (good_below_orc q) hmix (code := codeOf Try.f55) Try.func55 (by kernel_rfl) (by kernel_rfl) (by kernel_rfl) (by kernel_rfl) (good_below_ok q) (good_below_eq q)

/-! (*spinneret/good.checker).proctype -/
def good_checker_proctype (q : Nat) (a0 : T) (a1 : Int) : Option (Bool × Unit) :=
  (if (decide (a1 ≥ (0 : Int))) = true then (T.asLst (T.leaf a0 4)).bind fun v1 =>
  some (decide (a1 < (v1.length : Int))) else some false).bind fun v2 =>
  (if v2 = true then (T.asInt .i64 (T.leaf a0 5)).bind fun v3 =>
  some (a1 != v3) else some false).bind fun v4 =>
  some (v4, ())
@[reducible] def good_checker_proctype_S (q : Nat) : Summary := sumK [.cell (.ptr), .cell (.int .i64)] [.leaf (.cell (.bool))] fun a => good_checker_proctype q a.1 a.2.1
@[reducible] def good_checker_proctype_T (q : Nat) : Alt [.leaf (.cell (.bool))] := ⟨[.cell (.ptr), .cell (.int .i64)], fun a => good_checker_proctype q a.1 a.2.1⟩
def good_checker_proctype_C (q : Nat) : Nat → Option Summary := orcL []
theorem good_checker_proctype_orc (q : Nat) : OrcSound Try.prog (good_checker_proctype_C q) := orc_nil
def good_checker_proctype_A (q : Nat) : Ann (RPay [.leaf (.cell (.bool))]) :=
  .d
theorem good_checker_proctype_ok (q : Nat) : Ok Try.prog Try.f59.ntmps (good_checker_proctype_C q) q (good_checker_proctype_A q) (codeOf Try.f59) (fun _ => fnK Try.prog Try.f59 (List.map Rk.spec [.leaf (.cell (.bool))]) (decR [.leaf (.cell (.bool))])) := by
  have h : (Ok Try.prog Try.f59.ntmps (good_checker_proctype_C q) q (good_checker_proctype_A q) (codeOf Try.f59) (fun _ => fnK Try.prog Try.f59 (List.map Rk.spec [.leaf (.cell (.bool))]) (decR [.leaf (.cell (.bool))]))) = (True) := by kernel_rfl
  exact h.mpr (trivial)
theorem good_checker_proctype_eq (q : Nat) (a : APay [.cell (.ptr), .cell (.int .i64)]) : evFn Try.prog (good_checker_proctype_C q) q Try.f59 (List.map Rk.spec [.leaf (.cell (.bool))]) (RPay [.leaf (.cell (.bool))]) (good_checker_proctype_A q) (encA [.cell (.ptr), .cell (.int .i64)] a) (decR [.leaf (.cell (.bool))]) = good_checker_proctype q a.1 a.2.1 := by kernel_rfl
theorem good_checker_proctype_sum (q : Nat) : SumSound Try.prog 59 (good_checker_proctype_S q) :=
  sumK_sound (good_checker_proctype_orc q) hmix (code := codeOf Try.f59) Try.func59 (by kernel_rfl) (by kernel_rfl) (by kernel_rfl) (by kernel_rfl) (good_checker_proctype_ok q) (good_checker_proctype_eq q)

/-! (*spinneret/good.checker).variable -/
def good_checker_variable_l0 (q : Nat) : Nat → (Int) → (List T) → (Int) → (Int) → Option ((Unit) ⊕ (Bool × Unit))
  | 0, _, _, _, _ => none
  | k + 1, x0, x1, x2, x3 =>
    if (decide (x3 < x2)) = true then (
    (rd x1 x3 3).bind fun v22 =>
    (T.part v22 0 3).bind fun v23 =>
    if T.width v23 = 3 then
    (T.asInt .i64 (T.leaf v23 0)).bind fun v24 =>
    (good_below q x0 ([T.int .i64 v24])).bind fun v25 =>
    (if (!v25.1) = true then some true else (T.asInt .i64 (T.leaf v23 1)).bind fun v26 =>
    some (decide (v26 < (1 : Int)))).bind fun v27 =>
    (if v27 = true then some true else (T.asInt .i64 (T.leaf v23 1)).bind fun v28 =>
    some (decide (v28 > (128 : Int)))).bind fun v29 =>
    (if v29 = true then some true else (T.asInt .i64 (T.leaf v23 2)).bind fun v30 =>
    some (decide (v30 < (0 : Int)))).bind fun v31 =>
    (if v31 = true then some true else (T.asInt .i64 (T.leaf v23 2)).bind fun v32 =>
    some (decide (v32 > (128 : Int)))).bind fun v33 =>
    if v33 = true then (
    some (.inr ((false, ()))))
    else (
    good_checker_variable_l0 q k x0 x1 x2 (IntKind.i64.wrap (x3 + (1 : Int))))
    else none)
    else (
    some (.inl (())))
def good_checker_variable (q : Nat) (a0 : T) (a1 : Int) (a2 : T) : Option (Bool × Unit) :=
  if T.width a2 = 5 then
  (T.asInt .i64 (T.leaf a2 0)).bind fun v1 =>
  (if (decide (v1 < (0 : Int))) = true then some true else (T.asInt .i64 (T.leaf a2 0)).bind fun v2 =>
  some (decide (v2 > (2 : Int)))).bind fun v3 =>
  (if v3 = true then some true else (T.asInt .i64 (T.leaf a2 1)).bind fun v4 =>
  some (decide (v4 < (0 : Int)))).bind fun v5 =>
  (if v5 = true then some true else (T.asInt .i64 (T.leaf a2 1)).bind fun v6 =>
  some (decide (v6 > (128 : Int)))).bind fun v7 =>
  (if v7 = true then some true else (T.asLst (T.leaf a2 4)).bind fun v8 =>
  some (decide ((v8.length : Int) > (4 : Int)))).bind fun v9 =>
  if v9 = true then (
  some (false, ()))
  else (
  cutB ((T.asInt .i64 (T.leaf a2 0)).bind fun v11 =>
  if (v11 == (2 : Int)) = true then (
  (T.asInt .i64 (T.leaf a2 2)).bind fun v12 =>
  (good_below q a1 ([T.int .i64 v12])).bind fun v13 =>
  (if (!v13.1) = true then some true else (T.asInt .i64 (T.leaf a2 3)).bind fun v14 =>
  (good_checker_proctype q a0 v14).bind fun v15 =>
  some (!v15.1)).bind fun v16 =>
  if v16 = true then (
  some (.inr ((false, ()))))
  else (
  some (.inl (a1, (), a2, ()))))
  else (
  (T.asInt .i64 (T.leaf a2 2)).bind fun v17 =>
  (if (v17 != (-1 : Int)) = true then some true else (T.asInt .i64 (T.leaf a2 3)).bind fun v18 =>
  some (v18 != (-1 : Int))).bind fun v19 =>
  if v19 = true then (
  some (.inr ((false, ()))))
  else (
  some (.inl (a1, (), a2, ()))))) fun p10 =>
  cutB ((T.asLst (T.leaf p10.2.2.1 4)).bind fun v21 =>
  good_checker_variable_l0 q q p10.1 v21 (v21.length : Int) 0) fun p20 =>
  some (true, ()))
  else none
@[reducible] def good_checker_variable_S (q : Nat) : Summary := sumK [.cell (.ptr), .cell (.int .i64), .cell (.raw)] [.leaf (.cell (.bool))] fun a => good_checker_variable q a.1 a.2.1 a.2.2.1
@[reducible] def good_checker_variable_T (q : Nat) : Alt [.leaf (.cell (.bool))] := ⟨[.cell (.ptr), .cell (.int .i64), .cell (.raw)], fun a => good_checker_variable q a.1 a.2.1 a.2.2.1⟩
def good_checker_variable_C (q : Nat) : Nat → Option Summary := orcL [(55, good_below_S q), (59, good_checker_proctype_S q)]
theorem good_checker_variable_orc (q : Nat) : OrcSound Try.prog (good_checker_variable_C q) := (orc_cons (good_below_sum q) (orc_cons (good_checker_proctype_sum q) orc_nil))
def good_checker_variable_A (q : Nat) : Ann (RPay [.leaf (.cell (.bool))]) :=
  .seq (.d) (.seq (.d) (.cut [.tmp 1 (.int .i64), .tmp 5 (.bp 5 0), .boxT 5 5] (.d) (.cut [] (.seq (.d) (.block (.loop [.tmp 1 (.int .i64), .tmp 58 (.lst), .tmp 59 (.int .i64), .tmp 60 (.int .i64)] (fun k p => good_checker_variable_l0 q k p.1 p.2.1 p.2.2.1 p.2.2.2.1) (.d)))) (.d))))
theorem good_checker_variable_ok (q : Nat) : Ok Try.prog Try.f56.ntmps (good_checker_variable_C q) q (good_checker_variable_A q) (codeOf Try.f56) (fun _ => fnK Try.prog Try.f56 (List.map Rk.spec [.leaf (.cell (.bool))]) (decR [.leaf (.cell (.bool))])) := by
  have h : (Ok Try.prog Try.f56.ntmps (good_checker_variable_C q) q (good_checker_variable_A q) (codeOf Try.f56) (fun _ => fnK Try.prog Try.f56 (List.map Rk.spec [.leaf (.cell (.bool))]) (decR [.leaf (.cell (.bool))]))) = ((True) ∧ ((True) ∧ ((True) ∧ (((True) ∧ ((∀ p : Int × List T × Int × Int × Unit, good_checker_variable_l0 q 0 p.1 p.2.1 p.2.2.1 p.2.2.2.1 = none) ∧ ∀ n : Nat, (∀ p : Int × List T × Int × Int × Unit, good_checker_variable_l0 q (n + 1) p.1 p.2.1 p.2.2.1 p.2.2.2.1 = good_checker_variable_l0 q (n + 1) p.1 p.2.1 p.2.2.1 p.2.2.2.1) ∧ (True))) ∧ (True))))) := by kernel_rfl
  exact h.mpr (⟨trivial, ⟨trivial, ⟨trivial, ⟨⟨trivial, ⟨fun _ => rfl, fun _ => ⟨fun _ => rfl, trivial⟩⟩⟩, trivial⟩⟩⟩⟩)
theorem good_checker_variable_eq (q : Nat) (a : APay [.cell (.ptr), .cell (.int .i64), .cell (.raw)]) : evFn Try.prog (good_checker_variable_C q) q Try.f56 (List.map Rk.spec [.leaf (.cell (.bool))]) (RPay [.leaf (.cell (.bool))]) (good_checker_variable_A q) (encA [.cell (.ptr), .cell (.int .i64), .cell (.raw)] a) (decR [.leaf (.cell (.bool))]) = good_checker_variable q a.1 a.2.1 a.2.2.1 := by kernel_rfl
theorem good_checker_variable_sum (q : Nat) : SumSound Try.prog 56 (good_checker_variable_S q) :=
  sumK_sound (good_checker_variable_orc q) hmix (code := codeOf Try.f56) Try.func56 (by kernel_rfl) (by kernel_rfl) (by kernel_rfl) (by kernel_rfl) (good_checker_variable_ok q) (good_checker_variable_eq q)

/-! (*spinneret/good.checker).matched -/
def good_checker_matched_l0 (q : Nat) : Nat → (T) → (List T) → (List T) → (Int) → (Int) → Option ((Unit) ⊕ (Bool × Unit))
  | 0, _, _, _, _, _ => none
  | k + 1, x0, x1, x2, x3, x4 =>
    if (decide (x4 < x3)) = true then (
    (rd x2 x4 1).bind fun v6 =>
    (T.asInt .i64 (T.leaf v6 0)).bind fun v7 =>
    (if (decide (v7 < (-1 : Int))) = true then some true else some (decide (v7 > (1 : Int)))).bind fun v8 =>
    (if v8 = true then some true else (if (v7 == (0 : Int)) = true then (T.asLst (T.leaf x0 6)).bind fun v9 =>
    (rd x1 x4 1).bind fun v10 =>
    (T.asInt .i64 (T.leaf v10 0)).bind fun v11 =>
    (rd v9 v11 12).bind fun v12 =>
    (T.asInt .i64 (T.leaf v12 0)).bind fun v13 =>
    some (v13 != (2 : Int)) else some false).bind fun v14 =>
    some v14).bind fun v15 =>
    if v15 = true then (
    some (.inr ((false, ()))))
    else (
    good_checker_matched_l0 q k x0 x1 x2 x3 (IntKind.i64.wrap (x4 + (1 : Int)))))
    else (
    some (.inl (())))
def good_checker_matched (q : Nat) (a0 : T) (a1 : Int) (a2 : List T) (a3 : List T) : Option (Bool × Unit) :=
  (if (decide ((a2.length : Int) < (1 : Int))) = true then some true else some (decide ((a2.length : Int) > (8 : Int)))).bind fun v1 =>
  (if v1 = true then some true else some ((a3.length : Int) != (a2.length : Int))).bind fun v2 =>
  (if v2 = true then some true else (good_below q a1 a2).bind fun v3 =>
  some (!v3.1)).bind fun v4 =>
  if v4 = true then (
  some (false, ()))
  else (
  cutB (good_checker_matched_l0 q q a0 a2 a3 (a3.length : Int) 0) fun p5 =>
  some (true, ()))
@[reducible] def good_checker_matched_S (q : Nat) : Summary := sumK [.cell (.ptr), .cell (.int .i64), .cell (.lst), .cell (.lst)] [.leaf (.cell (.bool))] fun a => good_checker_matched q a.1 a.2.1 a.2.2.1 a.2.2.2.1
@[reducible] def good_checker_matched_T (q : Nat) : Alt [.leaf (.cell (.bool))] := ⟨[.cell (.ptr), .cell (.int .i64), .cell (.lst), .cell (.lst)], fun a => good_checker_matched q a.1 a.2.1 a.2.2.1 a.2.2.2.1⟩
def good_checker_matched_C (q : Nat) : Nat → Option Summary := orcL [(55, good_below_S q)]
theorem good_checker_matched_orc (q : Nat) : OrcSound Try.prog (good_checker_matched_C q) := (orc_cons (good_below_sum q) orc_nil)
def good_checker_matched_A (q : Nat) : Ann (RPay [.leaf (.cell (.bool))]) :=
  .seq (.d) (.seq (.d) (.cut [] (.seq (.d) (.block (.loop [.tmp 0 (.arg (.cell (.ptr))), .tmp 2 (.lst), .tmp 32 (.lst), .tmp 33 (.int .i64), .tmp 34 (.int .i64)] (fun k p => good_checker_matched_l0 q k p.1 p.2.1 p.2.2.1 p.2.2.2.1 p.2.2.2.2.1) (.d)))) (.d)))
theorem good_checker_matched_ok (q : Nat) : Ok Try.prog Try.f57.ntmps (good_checker_matched_C q) q (good_checker_matched_A q) (codeOf Try.f57) (fun _ => fnK Try.prog Try.f57 (List.map Rk.spec [.leaf (.cell (.bool))]) (decR [.leaf (.cell (.bool))])) := by
  have h : (Ok Try.prog Try.f57.ntmps (good_checker_matched_C q) q (good_checker_matched_A q) (codeOf Try.f57) (fun _ => fnK Try.prog Try.f57 (List.map Rk.spec [.leaf (.cell (.bool))]) (decR [.leaf (.cell (.bool))]))) = ((True) ∧ ((True) ∧ (((True) ∧ ((∀ p : T × List T × List T × Int × Int × Unit, good_checker_matched_l0 q 0 p.1 p.2.1 p.2.2.1 p.2.2.2.1 p.2.2.2.2.1 = none) ∧ ∀ n : Nat, (∀ p : T × List T × List T × Int × Int × Unit, good_checker_matched_l0 q (n + 1) p.1 p.2.1 p.2.2.1 p.2.2.2.1 p.2.2.2.2.1 = good_checker_matched_l0 q (n + 1) p.1 p.2.1 p.2.2.1 p.2.2.2.1 p.2.2.2.2.1) ∧ (True))) ∧ (True)))) := by kernel_rfl
  exact h.mpr (⟨trivial, ⟨trivial, ⟨⟨trivial, ⟨fun _ => rfl, fun _ => ⟨fun _ => rfl, trivial⟩⟩⟩, trivial⟩⟩⟩)
theorem good_checker_matched_eq (q : Nat) (a : APay [.cell (.ptr), .cell (.int .i64), .cell (.lst), .cell (.lst)]) : evFn Try.prog (good_checker_matched_C q) q Try.f57 (List.map Rk.spec [.leaf (.cell (.bool))]) (RPay [.leaf (.cell (.bool))]) (good_checker_matched_A q) (encA [.cell (.ptr), .cell (.int .i64), .cell (.lst), .cell (.lst)] a) (decR [.leaf (.cell (.bool))]) = good_checker_matched q a.1 a.2.1 a.2.2.1 a.2.2.2.1 := by kernel_rfl
theorem good_checker_matched_sum (q : Nat) : SumSound Try.prog 57 (good_checker_matched_S q) :=
  sumK_sound (good_checker_matched_orc q) hmix (code := codeOf Try.f57) Try.func57 (by kernel_rfl) (by kernel_rfl) (by kernel_rfl) (by kernel_rfl) (good_checker_matched_ok q) (good_checker_matched_eq q)

/-! (*spinneret/good.checker).places -/
def good_checker_places (q : Nat) (a0 : T) (a1 : T) : Option (Bool × Unit) :=
  if T.width a1 = 12 then
  (T.asInt .i64 (T.leaf a1 1)).bind fun v1 =>
  (if (decide (v1 < (0 : Int))) = true then some true else (T.asInt .i64 (T.leaf a1 1)).bind fun v2 =>
  some (decide (v2 ≥ (1073741824 : Int)))).bind fun v3 =>
  (if v3 = true then some true else (T.asInt .i64 (T.leaf a1 1)).bind fun v4 =>
  (good_checker_proctype q a0 v4).bind fun v5 =>
  some (!v5.1)).bind fun v6 =>
  (if v6 = true then some true else (T.asLst (T.leaf a1 10)).bind fun v7 =>
  some (decide ((v7.length : Int) < (1 : Int)))).bind fun v8 =>
  if v8 = true then (
  some (false, ()))
  else (
  (T.asLst (T.leaf a0 4)).bind fun v9 =>
  (T.asInt .i64 (T.leaf a1 1)).bind fun v10 =>
  (rd v9 v10 10).bind fun v11 =>
  (T.asLst (T.leaf v11 4)).bind fun v12 =>
  (T.asLst (T.leaf a1 10)).bind fun v13 =>
  (good_below q (v12.length : Int) v13).bind fun v14 =>
  some (v14.1, ()))
  else none
@[reducible] def good_checker_places_S (q : Nat) : Summary := sumK [.cell (.ptr), .cell (.raw)] [.leaf (.cell (.bool))] fun a => good_checker_places q a.1 a.2.1
@[reducible] def good_checker_places_T (q : Nat) : Alt [.leaf (.cell (.bool))] := ⟨[.cell (.ptr), .cell (.raw)], fun a => good_checker_places q a.1 a.2.1⟩
def good_checker_places_C (q : Nat) : Nat → Option Summary := orcL [(59, good_checker_proctype_S q), (55, good_below_S q)]
theorem good_checker_places_orc (q : Nat) : OrcSound Try.prog (good_checker_places_C q) := (orc_cons (good_checker_proctype_sum q) (orc_cons (good_below_sum q) orc_nil))
def good_checker_places_A (q : Nat) : Ann (RPay [.leaf (.cell (.bool))]) :=
  .d
theorem good_checker_places_ok (q : Nat) : Ok Try.prog Try.f58.ntmps (good_checker_places_C q) q (good_checker_places_A q) (codeOf Try.f58) (fun _ => fnK Try.prog Try.f58 (List.map Rk.spec [.leaf (.cell (.bool))]) (decR [.leaf (.cell (.bool))])) := by
  have h : (Ok Try.prog Try.f58.ntmps (good_checker_places_C q) q (good_checker_places_A q) (codeOf Try.f58) (fun _ => fnK Try.prog Try.f58 (List.map Rk.spec [.leaf (.cell (.bool))]) (decR [.leaf (.cell (.bool))]))) = (True) := by kernel_rfl
  exact h.mpr (trivial)
theorem good_checker_places_eq (q : Nat) (a : APay [.cell (.ptr), .cell (.raw)]) : evFn Try.prog (good_checker_places_C q) q Try.f58 (List.map Rk.spec [.leaf (.cell (.bool))]) (RPay [.leaf (.cell (.bool))]) (good_checker_places_A q) (encA [.cell (.ptr), .cell (.raw)] a) (decR [.leaf (.cell (.bool))]) = good_checker_places q a.1 a.2.1 := by kernel_rfl
theorem good_checker_places_sum (q : Nat) : SumSound Try.prog 58 (good_checker_places_S q) :=
  sumK_sound (good_checker_places_orc q) hmix (code := codeOf Try.f58) Try.func58 (by kernel_rfl) (by kernel_rfl) (by kernel_rfl) (by kernel_rfl) (good_checker_places_ok q) (good_checker_places_eq q)

/-! (*spinneret/good.checker).expression -/
def good_checker_expression_l0 (q : Nat) : Nat → (T) → (Int) → (T) → (Int) → (T) → Option ((T × Int × Unit × T × Unit) ⊕ (Bool × Unit))
  | 0, _, _, _, _, _ => none
  | k + 1, x0, x1, x3, x4, x5 =>
    if (decide (x4 < (3 : Int))) = true then (
    if 0 ≤ x4 ∧ x4 < (3 : Nat) then
    (T.aggO x3).bind fun v11 =>
    (T.asInt .i64 (T.leaf v11 ((Int.toNat x4) * 1))).bind fun v12 =>
    (T.asInt .i64 (T.leaf x5 0)).bind fun v13 =>
    (good_parts q v13).bind fun v14 =>
    (if (decide (x4 < v14.1)) = true then (good_below q x1 ([T.int .i64 v12])).bind fun v15 =>
    some (!v15.1) else some false).bind fun v16 =>
    (if v16 = true then some true else (T.asInt .i64 (T.leaf x5 0)).bind fun v17 =>
    (good_parts q v17).bind fun v18 =>
    (if (decide (x4 ≥ v18.1)) = true then some (v12 != (-1 : Int)) else some false).bind fun v19 =>
    some v19).bind fun v20 =>
    if v20 = true then (
    some (.inr ((false, ()))))
    else (
    good_checker_expression_l0 q k x0 x1 x3 (IntKind.i64.wrap (x4 + (1 : Int))) x5)
    else none)
    else (
    some (.inl (x0, x1, (), x5, ())))
def good_checker_expression (q : Nat) (a0 : T) (a1 : Int) : Option (Bool × Unit) :=
  (T.asLst (T.leaf a0 6)).bind fun v1 =>
  (rd v1 a1 12).bind fun v2 =>
  (T.part v2 0 12).bind fun v3 =>
  if T.width v3 = 12 then
  (T.asInt .i64 (T.leaf v3 0)).bind fun v4 =>
  (if (decide (v4 < (1 : Int))) = true then some true else (T.asInt .i64 (T.leaf v3 0)).bind fun v5 =>
  some (decide (v5 > (39 : Int)))).bind fun v6 =>
  if v6 = true then (
  some (false, ()))
  else (
  cutB ((T.asInt .i64 (T.leaf v3 2)).bind fun v8 =>
  (T.asInt .i64 (T.leaf v3 3)).bind fun v9 =>
  (T.asInt .i64 (T.leaf v3 4)).bind fun v10 =>
  good_checker_expression_l0 q q a0 a1 (T.agg [T.int .i64 v8, T.int .i64 v9, T.int .i64 v10]) 0 v3) fun p7 =>
  (T.asInt .i64 (T.leaf p7.2.2.2.1 0)).bind fun v21 =>
  if (v21 == (1 : Int)) = true then (
  (T.asInt .i64 (T.leaf p7.2.2.2.1 1)).bind fun v22 =>
  (good_Fits q (T.agg [T.int .i64 (32 : Int), T.bool true]) v22).bind fun v23 =>
  some (v23.1, ()))
  else (
  if (v21 == (2 : Int)) = true then (
  (T.part p7.2.2.2.1 5 5).bind fun v24 =>
  (good_checker_variable q p7.1 p7.2.1 v24).bind fun v25 =>
  some (v25.1, ()))
  else (
  if (v21 == (30 : Int)) = true then (
  (T.asLst (T.leaf p7.2.2.2.1 10)).bind fun v26 =>
  (T.asLst (T.leaf p7.2.2.2.1 11)).bind fun v27 =>
  (good_checker_matched q p7.1 p7.2.1 v26 v27).bind fun v28 =>
  (if v28.1 = true then (T.asInt .i64 (T.leaf p7.2.2.2.1 1)).bind fun v29 =>
  (if (v29 == (0 : Int)) = true then some true else (T.asInt .i64 (T.leaf p7.2.2.2.1 1)).bind fun v30 =>
  some (v30 == (1 : Int))).bind fun v31 =>
  some v31 else some false).bind fun v32 =>
  some (v32, ()))
  else (
  if (v21 == (38 : Int)) = true then (
  (T.part p7.2.2.2.1 0 12).bind fun v33 =>
  (good_checker_places q p7.1 v33).bind fun v34 =>
  some (v34.1, ()))
  else (
  if (v21 == (39 : Int)) = true then (
  (T.asInt .i64 (T.leaf p7.2.2.2.1 1)).bind fun v35 =>
  (if (decide (v35 ≥ (0 : Int))) = true then (T.asInt .i64 (T.leaf p7.2.2.2.1 1)).bind fun v36 =>
  some (decide (v36 < (1073741824 : Int))) else some false).bind fun v37 =>
  (if v37 = true then (T.asInt .i64 (T.leaf p7.2.2.2.1 1)).bind fun v38 =>
  (good_checker_proctype q p7.1 v38).bind fun v39 =>
  some v39.1 else some false).bind fun v40 =>
  (if v40 = true then (T.asLst (T.leaf p7.2.2.2.1 10)).bind fun v41 =>
  (T.asLst (T.leaf p7.1 4)).bind fun v42 =>
  (T.asInt .i64 (T.leaf p7.2.2.2.1 1)).bind fun v43 =>
  (rd v42 v43 10).bind fun v44 =>
  (T.asInt .i64 (T.leaf v44 1)).bind fun v45 =>
  some ((v41.length : Int) == v45) else some false).bind fun v46 =>
  (if v46 = true then (T.asLst (T.leaf p7.2.2.2.1 10)).bind fun v47 =>
  (good_below q p7.2.1 v47).bind fun v48 =>
  some v48.1 else some false).bind fun v49 =>
  some (v49, ()))
  else (
  some (true, ())))))))
  else none
@[reducible] def good_checker_expression_S (q : Nat) : Summary := sumK [.cell (.ptr), .cell (.int .i64)] [.leaf (.cell (.bool))] fun a => good_checker_expression q a.1 a.2.1
@[reducible] def good_checker_expression_T (q : Nat) : Alt [.leaf (.cell (.bool))] := ⟨[.cell (.ptr), .cell (.int .i64)], fun a => good_checker_expression q a.1 a.2.1⟩
def good_checker_expression_C (q : Nat) : Nat → Option Summary := orcL [(54, good_parts_S q), (55, good_below_S q), (9, good_Fits_S q), (56, good_checker_variable_S q), (57, good_checker_matched_S q), (58, good_checker_places_S q), (59, good_checker_proctype_S q)]
theorem good_checker_expression_orc (q : Nat) : OrcSound Try.prog (good_checker_expression_C q) := (orc_cons (good_parts_sum q) (orc_cons (good_below_sum q) (orc_cons (good_Fits_sum q) (orc_cons (good_checker_variable_sum q) (orc_cons (good_checker_matched_sum q) (orc_cons (good_checker_places_sum q) (orc_cons (good_checker_proctype_sum q) orc_nil)))))))
def good_checker_expression_A (q : Nat) : Ann (RPay [.leaf (.cell (.bool))]) :=
  .seq (.d) (.seq (.d) (.seq (.d) (.cut [.tmp 0 (.arg (.cell (.ptr))), .tmp 1 (.int .i64), .tmp 5 (.bp 5 0), .boxT 5 12] (.seq (.d) (.block (.loop [.tmp 0 (.arg (.cell (.ptr))), .tmp 1 (.int .i64), .tmp 5 (.bp 5 0), .tmp 30 (.raw), .tmp 31 (.int .i64), .boxT 5 12] (fun k p => good_checker_expression_l0 q k p.1 p.2.1 p.2.2.2.1 p.2.2.2.2.1 p.2.2.2.2.2.1) (.d)))) (.d))))
theorem good_checker_expression_ok (q : Nat) : Ok Try.prog Try.f40.ntmps (good_checker_expression_C q) q (good_checker_expression_A q) (codeOf Try.f40) (fun _ => fnK Try.prog Try.f40 (List.map Rk.spec [.leaf (.cell (.bool))]) (decR [.leaf (.cell (.bool))])) := by
  have h : (Ok Try.prog Try.f40.ntmps (good_checker_expression_C q) q (good_checker_expression_A q) (codeOf Try.f40) (fun _ => fnK Try.prog Try.f40 (List.map Rk.spec [.leaf (.cell (.bool))]) (decR [.leaf (.cell (.bool))]))) = ((True) ∧ ((True) ∧ ((True) ∧ (((True) ∧ ((∀ p : T × Int × Unit × T × Int × T × Unit, good_checker_expression_l0 q 0 p.1 p.2.1 p.2.2.2.1 p.2.2.2.2.1 p.2.2.2.2.2.1 = none) ∧ ∀ n : Nat, (∀ p : T × Int × Unit × T × Int × T × Unit, good_checker_expression_l0 q (n + 1) p.1 p.2.1 p.2.2.2.1 p.2.2.2.2.1 p.2.2.2.2.2.1 = good_checker_expression_l0 q (n + 1) p.1 p.2.1 p.2.2.2.1 p.2.2.2.2.1 p.2.2.2.2.2.1) ∧ (True))) ∧ (True))))) := by kernel_rfl
  exact h.mpr (⟨trivial, ⟨trivial, ⟨trivial, ⟨⟨trivial, ⟨fun _ => rfl, fun _ => ⟨fun _ => rfl, trivial⟩⟩⟩, trivial⟩⟩⟩⟩)
theorem good_checker_expression_eq (q : Nat) (a : APay [.cell (.ptr), .cell (.int .i64)]) : evFn Try.prog (good_checker_expression_C q) q Try.f40 (List.map Rk.spec [.leaf (.cell (.bool))]) (RPay [.leaf (.cell (.bool))]) (good_checker_expression_A q) (encA [.cell (.ptr), .cell (.int .i64)] a) (decR [.leaf (.cell (.bool))]) = good_checker_expression q a.1 a.2.1 := by kernel_rfl
theorem good_checker_expression_sum (q : Nat) : SumSound Try.prog 40 (good_checker_expression_S q) :=
  sumK_sound (good_checker_expression_orc q) hmix (code := codeOf Try.f40) Try.func40 (by kernel_rfl) (by kernel_rfl) (by kernel_rfl) (by kernel_rfl) (good_checker_expression_ok q) (good_checker_expression_eq q)

/-! spinneret/good.held -/
def good_held_l0 (q : Nat) : Nat → (List T) → (Int) → (Int) → (List T) → Option ((Unit × List T × Unit) ⊕ (List T × Unit))
  | 0, _, _, _, _ => none
  | k + 1, x1, x2, x3, x4 =>
    if (decide (x3 < x2)) = true then (
    (rd x1 x3 3).bind fun v20 =>
    (T.part v20 0 3).bind fun v21 =>
    if T.width v21 = 3 then
    (T.asInt .i64 (T.leaf v21 0)).bind fun v22 =>
    if fitsB (x4.length + ([T.int .i64 v22]).length) 8 = true then
    good_held_l0 q k x1 x2 (IntKind.i64.wrap (x3 + (1 : Int))) (x4 ++ [T.int .i64 v22])
    else none
    else none)
    else (
    some (.inl ((), x4, ())))
def good_held (q : Nat) (a0 : T) : Option (List T × Unit) :=
  if T.width a0 = 12 then
  (T.asInt .i64 (T.leaf a0 2)).bind fun v1 =>
  (T.asInt .i64 (T.leaf a0 3)).bind fun v2 =>
  (T.asInt .i64 (T.leaf a0 4)).bind fun v3 =>
  (T.asInt .i64 (T.leaf a0 0)).bind fun v4 =>
  (good_parts q v4).bind fun v5 =>
  if true = true ∧ 0 ≤ (0 : Int) ∧ (0 : Int) ≤ v5.1 ∧ v5.1 ≤ ([T.int .i64 v1, T.int .i64 v2, T.int .i64 v3]).length then
  (chk ([T.int .i64 v1, T.int .i64 v2, T.int .i64 v3]) 1).bind fun v6 =>
  (chk (List.take ((Int.toNat v5.1) - 0) (List.drop 0 v6)) 1).bind fun v7 =>
  if fitsB v7.length 8 = true then
  cutB ((T.asInt .i64 (T.leaf a0 0)).bind fun v9 =>
  (if (v9 == (30 : Int)) = true then some true else (T.asInt .i64 (T.leaf a0 0)).bind fun v10 =>
  some (v10 == (39 : Int))).bind fun v11 =>
  if v11 = true then (
  (T.asLst (T.leaf a0 10)).bind fun v12 =>
  (chk v12 1).bind fun v13 =>
  if fitsB (v7.length + v13.length) 8 = true then
  some (.inl ((), (), (v7 ++ v13), a0, ()))
  else none)
  else (
  some (.inl ((), (), v7, a0, ())))) fun p8 =>
  cutB ((T.asInt .i64 (T.leaf p8.2.2.2.1 0)).bind fun v15 =>
  if (v15 == (2 : Int)) = true then (
  cutB ((T.asInt .i64 (T.leaf p8.2.2.2.1 5)).bind fun v17 =>
  if (v17 == (2 : Int)) = true then (
  (T.asInt .i64 (T.leaf p8.2.2.2.1 7)).bind fun v18 =>
  if fitsB (p8.2.2.1.length + ([T.int .i64 v18]).length) 8 = true then
  some (.inl ((), (), (p8.2.2.1 ++ [T.int .i64 v18]), p8.2.2.2.1, ()))
  else none)
  else (
  some (.inl ((), (), p8.2.2.1, p8.2.2.2.1, ())))) fun p16 =>
  (T.asLst (T.leaf p16.2.2.2.1 9)).bind fun v19 =>
  good_held_l0 q q v19 (v19.length : Int) 0 p16.2.2.1)
  else (
  some (.inl ((), p8.2.2.1, ())))) fun p14 =>
  some (p14.2.1, ())
  else none
  else none
  else none
@[reducible] def good_held_S (q : Nat) : Summary := sumK [.cell (.raw)] [.leaf (.own 1)] fun a => good_held q a.1
@[reducible] def good_held_T (q : Nat) : Alt [.leaf (.own 1)] := ⟨[.cell (.raw)], fun a => good_held q a.1⟩
def good_held_C (q : Nat) : Nat → Option Summary := orcL [(54, good_parts_S q)]
theorem good_held_orc (q : Nat) : OrcSound Try.prog (good_held_C q) := (orc_cons (good_parts_sum q) orc_nil)
def good_held_A (q : Nat) : Ann (RPay [.leaf (.own 1)]) :=
  .seq (.d) (.seq (.d) (.cut [.tmp 1 (.bp 1 0), .tmp 3 (.full 1000003), .row (some 3) 1000003 1, .boxT 1 12] (.d) (.cut [.tmp 3 (.full 1000003), .row none 1000003 1] (.seq (.d) (.cond (.cut [.tmp 1 (.bp 1 0), .tmp 3 (.full 1000003), .row (some 3) 1000003 1, .boxT 1 12] (.d) (.seq (.d) (.block (.loop [.tmp 3 (.full 1000003), .tmp 45 (.lst), .tmp 46 (.int .i64), .tmp 47 (.int .i64), .row (some 3) 1000003 1] (fun k p => good_held_l0 q k p.2.1 p.2.2.1 p.2.2.2.1 p.2.2.2.2.1) (.d))))) (.d))) (.d))))
theorem good_held_ok (q : Nat) : Ok Try.prog Try.f41.ntmps (good_held_C q) q (good_held_A q) (codeOf Try.f41) (fun _ => fnK Try.prog Try.f41 (List.map Rk.spec [.leaf (.own 1)]) (decR [.leaf (.own 1)])) := by
  have h : (Ok Try.prog Try.f41.ntmps (good_held_C q) q (good_held_A q) (codeOf Try.f41) (fun _ => fnK Try.prog Try.f41 (List.map Rk.spec [.leaf (.own 1)]) (decR [.leaf (.own 1)]))) = ((True) ∧ ((True) ∧ ((True) ∧ (((True) ∧ (((True) ∧ ((True) ∧ ((∀ p : Unit × List T × Int × Int × List T × Unit, good_held_l0 q 0 p.2.1 p.2.2.1 p.2.2.2.1 p.2.2.2.2.1 = none) ∧ ∀ n : Nat, (∀ p : Unit × List T × Int × Int × List T × Unit, good_held_l0 q (n + 1) p.2.1 p.2.2.1 p.2.2.2.1 p.2.2.2.2.1 = good_held_l0 q (n + 1) p.2.1 p.2.2.1 p.2.2.2.1 p.2.2.2.2.1) ∧ (True)))) ∧ (True))) ∧ (True))))) := by kernel_rfl
  exact h.mpr (⟨trivial, ⟨trivial, ⟨trivial, ⟨⟨trivial, ⟨⟨trivial, ⟨trivial, ⟨fun _ => rfl, fun _ => ⟨fun _ => rfl, trivial⟩⟩⟩⟩, trivial⟩⟩, trivial⟩⟩⟩⟩)
theorem good_held_eq (q : Nat) (a : APay [.cell (.raw)]) : evFn Try.prog (good_held_C q) q Try.f41 (List.map Rk.spec [.leaf (.own 1)]) (RPay [.leaf (.own 1)]) (good_held_A q) (encA [.cell (.raw)] a) (decR [.leaf (.own 1)]) = good_held q a.1 := by kernel_rfl
theorem good_held_sum (q : Nat) : SumSound Try.prog 41 (good_held_S q) :=
  sumK_sound (good_held_orc q) hmix (code := codeOf Try.f41) Try.func41 (by kernel_rfl) (by kernel_rfl) (by kernel_rfl) (by kernel_rfl) (good_held_ok q) (good_held_eq q)

/-! (*spinneret/good.checker).tables -/
def good_checker_tables_l0 (q : Nat) : Nat → (T) → (List T) → (Int) → (Int) → (T) → Option ((T × Unit × T × Unit) ⊕ (Int × Int × Unit))
  | 0, _, _, _, _, _ => none
  | k + 1, x0, x2, x3, x4, x5 =>
    if (decide (x4 < x3)) = true then (
    (rd x2 x4 2).bind fun v14 =>
    (T.part v14 0 2).bind fun v15 =>
    if T.width v15 = 2 then
    (T.part v15 0 2).bind fun v16 =>
    (good_shape q v16).bind fun v17 =>
    if (!v17.1) = true then (
    some (.inr ((2, x4, ()))))
    else (
    good_checker_tables_l0 q k x0 x2 x3 (IntKind.i64.wrap (x4 + (1 : Int))) x5)
    else none)
    else (
    some (.inl (x0, (), x5, ())))
def good_checker_tables_l1 (q : Nat) : Nat → (T) → (List T) → (Int) → (Int) → (T) → Option ((T × Unit × T × Unit) ⊕ (Int × Int × Unit))
  | 0, _, _, _, _, _ => none
  | k + 1, x0, x2, x3, x4, x5 =>
    if (decide (x4 < x3)) = true then (
    (rd x2 x4 1).bind fun v20 =>
    (T.asInt .i64 (T.leaf v20 0)).bind fun v21 =>
    (if (decide (v21 < (0 : Int))) = true then some true else (T.asLst (T.leaf x5 2)).bind fun v22 =>
    some (decide (v21 ≥ (v22.length : Int)))).bind fun v23 =>
    if v23 = true then (
    some (.inr ((2, x4, ()))))
    else (
    good_checker_tables_l1 q k x0 x2 x3 (IntKind.i64.wrap (x4 + (1 : Int))) x5))
    else (
    some (.inl (x0, (), x5, ())))
def good_checker_tables_l3 (q : Nat) : Nat → (T) → (Int) → (Int) → (Int) → (Int) → (Int) → (List T) → (List T) → (T) → Option ((T × Unit × Unit × Int × Int × List T × T × Unit) ⊕ ((Unit) ⊕ (Int × Int × Unit)))
  | 0, _, _, _, _, _, _, _, _, _ => none
  | k + 1, x0, x3, x4, x5, x7, x8, x9, x10, x11 =>
    if (decide (x8 < x7)) = true then (
    if 0 ≤ x8 ∧ x8 < x10.length then
    (x10[(Int.toNat x8)]?).bind fun v43 =>
    (T.asInt .i64 (T.leaf v43 0)).bind fun v44 =>
    if 0 ≤ v44 ∧ v44 < x9.length then
    (x9[(Int.toNat v44)]?).bind fun v45 =>
    (T.asBool (T.leaf v45 0)).bind fun v46 =>
    if v46 = true then (
    some (.inr ((.inr ((3, x3, ()))))))
    else (
    if 0 ≤ v44 ∧ v44 < x9.length then
    (x9[(Int.toNat v44)]?).bind fun v47 =>
    good_checker_tables_l3 q k x0 x3 x4 x5 x7 (IntKind.i64.wrap (x8 + (1 : Int))) (List.set x9 (Int.toNat v44) (T.setLeaf v47 0 (T.bool true))) x10 x11
    else none)
    else none
    else none)
    else (
    some (.inl (x0, (), (), x4, x5, x9, x11, ())))
def good_checker_tables_l2 (q : Nat) : Nat → (T) → (Int) → (Int) → (List T) → (T) → Option ((Unit) ⊕ (Int × Int × Unit))
  | 0, _, _, _, _, _ => none
  | k + 1, x0, x3, x4, x5, x6 =>
    if (decide (x4 < x3)) = true then (
    cutB ((good_checker_expression q x0 x4).bind fun v38 =>
    if (!v38.1) = true then (
    some (.inr ((.inr ((3, x4, ()))))))
    else (
    (T.asLst (T.leaf x6 6)).bind fun v39 =>
    (rd v39 x4 12).bind fun v40 =>
    (T.part v40 0 12).bind fun v41 =>
    (good_held q v41).bind fun v42 =>
    good_checker_tables_l3 q q x0 x4 x3 x4 (v42.1.length : Int) 0 x5 v42.1 x6)) fun p37 =>
    good_checker_tables_l2 q k p37.1 p37.2.2.2.1 (IntKind.i64.wrap (p37.2.2.2.2.1 + (1 : Int))) p37.2.2.2.2.2.1 p37.2.2.2.2.2.2.1)
    else (
    some (.inl (())))
def good_checker_tables (q : Nat) (a0 : T) : Option (Int × Int × Unit) :=
  (T.part a0 0 7).bind fun v1 =>
  if T.width v1 = 7 then
  (T.asLst (T.leaf v1 0)).bind fun v2 =>
  (if (decide ((v2.length : Int) > (128 : Int))) = true then some true else (T.asLst (T.leaf v1 1)).bind fun v3 =>
  (T.asLst (T.leaf v1 0)).bind fun v4 =>
  some ((v3.length : Int) != (v4.length : Int))).bind fun v5 =>
  if v5 = true then (
  some (1, (-1), ()))
  else (
  (T.asLst (T.leaf v1 0)).bind fun v6 =>
  (T.asLst (T.leaf v1 1)).bind fun v7 =>
  (good_types q v6 v7).bind fun v8 =>
  if (decide (v8.1 ≥ (0 : Int))) = true then (
  some (1, v8.1, ()))
  else (
  (T.asLst (T.leaf v1 2)).bind fun v9 =>
  (if (decide ((v9.length : Int) > (32 : Int))) = true then some true else (T.asLst (T.leaf v1 3)).bind fun v10 =>
  some (decide ((v10.length : Int) > (32 : Int)))).bind fun v11 =>
  if v11 = true then (
  some (2, (-1), ()))
  else (
  cutB ((T.asLst (T.leaf v1 2)).bind fun v13 =>
  good_checker_tables_l0 q q a0 v13 (v13.length : Int) 0 v1) fun p12 =>
  cutB ((T.asLst (T.leaf p12.2.2.1 3)).bind fun v19 =>
  good_checker_tables_l1 q q p12.1 v19 (v19.length : Int) 0 p12.2.2.1) fun p18 =>
  (T.asLst (T.leaf p18.2.2.1 4)).bind fun v24 =>
  (if (decide ((v24.length : Int) < (1 : Int))) = true then some true else (T.asLst (T.leaf p18.2.2.1 4)).bind fun v25 =>
  some (decide ((v25.length : Int) > (16 : Int)))).bind fun v26 =>
  (if v26 = true then some true else (T.asInt .i64 (T.leaf p18.2.2.1 5)).bind fun v27 =>
  some (decide (v27 < (-1 : Int)))).bind fun v28 =>
  (if v28 = true then some true else (T.asInt .i64 (T.leaf p18.2.2.1 5)).bind fun v29 =>
  (T.asLst (T.leaf p18.2.2.1 4)).bind fun v30 =>
  some (decide (v29 ≥ (v30.length : Int)))).bind fun v31 =>
  (if v31 = true then some true else (T.asLst (T.leaf p18.2.2.1 6)).bind fun v32 =>
  some (decide ((v32.length : Int) > (4096 : Int)))).bind fun v33 =>
  if v33 = true then (
  some (3, (-1), ()))
  else (
  (T.asLst (T.leaf p18.2.2.1 6)).bind fun v34 =>
  if ((T.bool false)).width = 1 ∧ 0 ≤ (v34.length : Int) ∧ (v34.length : Int) ≤ (v34.length : Int) ∧ (v34.length : Int) * 1 ≤ 140737488355328 ∧ (v34.length : Int) ≤ 9223372036854775807 then
  cutB ((T.asLst (T.leaf p18.2.2.1 6)).bind fun v36 =>
  good_checker_tables_l2 q q p18.1 (v36.length : Int) 0 (List.replicate (Int.toNat (v34.length : Int)) (T.bool false)) p18.2.2.1) fun p35 =>
  some (0, 0, ())
  else none))))
  else none
@[reducible] def good_checker_tables_S (q : Nat) : Summary := sumK [.cell (.ptr)] [.leaf (.cell (.int .i64)), .leaf (.cell (.int .i64))] fun a => good_checker_tables q a.1
@[reducible] def good_checker_tables_T (q : Nat) : Alt [.leaf (.cell (.int .i64)), .leaf (.cell (.int .i64))] := ⟨[.cell (.ptr)], fun a => good_checker_tables q a.1⟩
def good_checker_tables_C (q : Nat) : Nat → Option Summary := orcL [(38, good_types_S q), (39, good_shape_S q), (40, good_checker_expression_S q), (41, good_held_S q)]
theorem good_checker_tables_orc (q : Nat) : OrcSound Try.prog (good_checker_tables_C q) := (orc_cons (good_types_sum q) (orc_cons (good_shape_sum q) (orc_cons (good_checker_expression_sum q) (orc_cons (good_held_sum q) orc_nil))))
def good_checker_tables_A (q : Nat) : Ann (RPay [.leaf (.cell (.int .i64)), .leaf (.cell (.int .i64))]) :=
  .seq (.d) (.seq (.d) (.seq (.d) (.seq (.d) (.seq (.d) (.cut [.tmp 0 (.arg (.cell (.ptr))), .tmp 4 (.bp 4 0), .boxT 4 7] (.seq (.d) (.block (.loop [.tmp 0 (.arg (.cell (.ptr))), .tmp 4 (.bp 4 0), .tmp 50 (.lst), .tmp 51 (.int .i64), .tmp 52 (.int .i64), .boxT 4 7] (fun k p => good_checker_tables_l0 q k p.1 p.2.2.1 p.2.2.2.1 p.2.2.2.2.1 p.2.2.2.2.2.1) (.d)))) (.cut [.tmp 0 (.arg (.cell (.ptr))), .tmp 4 (.bp 4 0), .boxT 4 7] (.seq (.d) (.block (.loop [.tmp 0 (.arg (.cell (.ptr))), .tmp 4 (.bp 4 0), .tmp 63 (.lst), .tmp 64 (.int .i64), .tmp 65 (.int .i64), .boxT 4 7] (fun k p => good_checker_tables_l1 q k p.1 p.2.2.1 p.2.2.2.1 p.2.2.2.2.1 p.2.2.2.2.2.1) (.d)))) (.seq (.d) (.seq (.d) (.cut [] (.seq (.d) (.block (.loop [.tmp 0 (.arg (.cell (.ptr))), .tmp 4 (.bp 4 0), .tmp 10 (.full 113), .tmp 116 (.int .i64), .tmp 117 (.int .i64), .row none 113 1, .boxT 4 7] (fun k p => good_checker_tables_l2 q k p.1 p.2.2.2.1 p.2.2.2.2.1 p.2.2.2.2.2.1 p.2.2.2.2.2.2.1) (.seq (.d) (.seq (.d) (.cut [.tmp 0 (.arg (.cell (.ptr))), .tmp 4 (.bp 4 0), .tmp 10 (.full 113), .tmp 116 (.int .i64), .tmp 117 (.int .i64), .row none 113 1, .boxT 4 7] (.block (.seq (.d) (.seq (.d) (.seq (.d) (.block (.loop [.tmp 0 (.arg (.cell (.ptr))), .tmp 4 (.bp 4 0), .tmp 10 (.full 113), .tmp 11 (.int .i64), .tmp 116 (.int .i64), .tmp 117 (.int .i64), .tmp 130 (.full 276), .tmp 131 (.int .i64), .tmp 132 (.int .i64), .row none 113 1, .row none 276 1, .boxT 4 7] (fun k p => good_checker_tables_l3 q k p.1 p.2.2.2.1 p.2.2.2.2.1 p.2.2.2.2.2.1 p.2.2.2.2.2.2.2.1 p.2.2.2.2.2.2.2.2.1 p.2.2.2.2.2.2.2.2.2.1 p.2.2.2.2.2.2.2.2.2.2.1 p.2.2.2.2.2.2.2.2.2.2.2.1) (.d))))))) (.d))))))) (.d))))))))))
theorem good_checker_tables_ok (q : Nat) : Ok Try.prog Try.f20.ntmps (good_checker_tables_C q) q (good_checker_tables_A q) (codeOf Try.f20) (fun _ => fnK Try.prog Try.f20 (List.map Rk.spec [.leaf (.cell (.int .i64)), .leaf (.cell (.int .i64))]) (decR [.leaf (.cell (.int .i64)), .leaf (.cell (.int .i64))])) := by
  have h : (Ok Try.prog Try.f20.ntmps (good_checker_tables_C q) q (good_checker_tables_A q) (codeOf Try.f20) (fun _ => fnK Try.prog Try.f20 (List.map Rk.spec [.leaf (.cell (.int .i64)), .leaf (.cell (.int .i64))]) (decR [.leaf (.cell (.int .i64)), .leaf (.cell (.int .i64))]))) = ((True) ∧ ((True) ∧ ((True) ∧ ((True) ∧ ((True) ∧ (((True) ∧ ((∀ p : T × Unit × List T × Int × Int × T × Unit, good_checker_tables_l0 q 0 p.1 p.2.2.1 p.2.2.2.1 p.2.2.2.2.1 p.2.2.2.2.2.1 = none) ∧ ∀ n : Nat, (∀ p : T × Unit × List T × Int × Int × T × Unit, good_checker_tables_l0 q (n + 1) p.1 p.2.2.1 p.2.2.2.1 p.2.2.2.2.1 p.2.2.2.2.2.1 = good_checker_tables_l0 q (n + 1) p.1 p.2.2.1 p.2.2.2.1 p.2.2.2.2.1 p.2.2.2.2.2.1) ∧ (True))) ∧ (((True) ∧ ((∀ p : T × Unit × List T × Int × Int × T × Unit, good_checker_tables_l1 q 0 p.1 p.2.2.1 p.2.2.2.1 p.2.2.2.2.1 p.2.2.2.2.2.1 = none) ∧ ∀ n : Nat, (∀ p : T × Unit × List T × Int × Int × T × Unit, good_checker_tables_l1 q (n + 1) p.1 p.2.2.1 p.2.2.2.1 p.2.2.2.2.1 p.2.2.2.2.2.1 = good_checker_tables_l1 q (n + 1) p.1 p.2.2.1 p.2.2.2.1 p.2.2.2.2.1 p.2.2.2.2.2.1) ∧ (True))) ∧ ((True) ∧ ((True) ∧ (((True) ∧ ((∀ p : T × Unit × Unit × Int × Int × List T × T × Unit, good_checker_tables_l2 q 0 p.1 p.2.2.2.1 p.2.2.2.2.1 p.2.2.2.2.2.1 p.2.2.2.2.2.2.1 = none) ∧ ∀ n : Nat, (∀ p : T × Unit × Unit × Int × Int × List T × T × Unit, good_checker_tables_l2 q (n + 1) p.1 p.2.2.2.1 p.2.2.2.2.1 p.2.2.2.2.2.1 p.2.2.2.2.2.2.1 = good_checker_tables_l2 q (n + 1) p.1 p.2.2.2.1 p.2.2.2.2.1 p.2.2.2.2.2.1 p.2.2.2.2.2.2.1) ∧ ((True) ∧ ((True) ∧ (((True) ∧ ((True) ∧ ((True) ∧ ((∀ p : T × Unit × Unit × Int × Int × Int × Unit × Int × Int × List T × List T × T × Unit, good_checker_tables_l3 q 0 p.1 p.2.2.2.1 p.2.2.2.2.1 p.2.2.2.2.2.1 p.2.2.2.2.2.2.2.1 p.2.2.2.2.2.2.2.2.1 p.2.2.2.2.2.2.2.2.2.1 p.2.2.2.2.2.2.2.2.2.2.1 p.2.2.2.2.2.2.2.2.2.2.2.1 = none) ∧ ∀ n : Nat, (∀ p : T × Unit × Unit × Int × Int × Int × Unit × Int × Int × List T × List T × T × Unit, good_checker_tables_l3 q (n + 1) p.1 p.2.2.2.1 p.2.2.2.2.1 p.2.2.2.2.2.1 p.2.2.2.2.2.2.2.1 p.2.2.2.2.2.2.2.2.1 p.2.2.2.2.2.2.2.2.2.1 p.2.2.2.2.2.2.2.2.2.2.1 p.2.2.2.2.2.2.2.2.2.2.2.1 = good_checker_tables_l3 q (n + 1) p.1 p.2.2.2.1 p.2.2.2.2.1 p.2.2.2.2.2.1 p.2.2.2.2.2.2.2.1 p.2.2.2.2.2.2.2.2.1 p.2.2.2.2.2.2.2.2.2.1 p.2.2.2.2.2.2.2.2.2.2.1 p.2.2.2.2.2.2.2.2.2.2.2.1) ∧ (True))))) ∧ (True)))))) ∧ (True))))))))))) := by kernel_rfl
  exact h.mpr (⟨trivial, ⟨trivial, ⟨trivial, ⟨trivial, ⟨trivial, ⟨⟨trivial, ⟨fun _ => rfl, fun _ => ⟨fun _ => rfl, trivial⟩⟩⟩, ⟨⟨trivial, ⟨fun _ => rfl, fun _ => ⟨fun _ => rfl, trivial⟩⟩⟩, ⟨trivial, ⟨trivial, ⟨⟨trivial, ⟨fun _ => rfl, fun _ => ⟨fun _ => rfl, ⟨trivial, ⟨trivial, ⟨⟨trivial, ⟨trivial, ⟨trivial, ⟨fun _ => rfl, fun _ => ⟨fun _ => rfl, trivial⟩⟩⟩⟩⟩, trivial⟩⟩⟩⟩⟩⟩, trivial⟩⟩⟩⟩⟩⟩⟩⟩⟩⟩)
theorem good_checker_tables_eq (q : Nat) (a : APay [.cell (.ptr)]) : evFn Try.prog (good_checker_tables_C q) q Try.f20 (List.map Rk.spec [.leaf (.cell (.int .i64)), .leaf (.cell (.int .i64))]) (RPay [.leaf (.cell (.int .i64)), .leaf (.cell (.int .i64))]) (good_checker_tables_A q) (encA [.cell (.ptr)] a) (decR [.leaf (.cell (.int .i64)), .leaf (.cell (.int .i64))]) = good_checker_tables q a.1 := by kernel_rfl
theorem good_checker_tables_sum (q : Nat) : SumSound Try.prog 20 (good_checker_tables_S q) :=
  sumK_sound (good_checker_tables_orc q) hmix (code := codeOf Try.f20) Try.func20 (by kernel_rfl) (by kernel_rfl) (by kernel_rfl) (by kernel_rfl) (good_checker_tables_ok q) (good_checker_tables_eq q)

/-! spinneret/good.frame -/
def good_frame (q : Nat) (a0 : T) : Option (Bool × Unit) :=
  if T.width a0 = 10 then
  (T.asLst (T.leaf a0 2)).bind fun v1 =>
  (if (decide ((v1.length : Int) ≤ (128 : Int))) = true then (T.asLst (T.leaf a0 3)).bind fun v2 =>
  (T.asLst (T.leaf a0 2)).bind fun v3 =>
  some ((v2.length : Int) == (v3.length : Int)) else some false).bind fun v4 =>
  (if v4 = true then (T.asLst (T.leaf a0 2)).bind fun v5 =>
  (T.asLst (T.leaf a0 3)).bind fun v6 =>
  (good_types q v5 v6).bind fun v7 =>
  some (decide (v7.1 < (0 : Int))) else some false).bind fun v8 =>
  (if v8 = true then (T.asInt .i64 (T.leaf a0 1)).bind fun v9 =>
  some (decide (v9 ≥ (0 : Int))) else some false).bind fun v10 =>
  (if v10 = true then (T.asInt .i64 (T.leaf a0 1)).bind fun v11 =>
  (T.asLst (T.leaf a0 2)).bind fun v12 =>
  some (decide (v11 ≤ (v12.length : Int))) else some false).bind fun v13 =>
  (if v13 = true then (T.asInt .i64 (T.leaf a0 7)).bind fun v14 =>
  some (decide (v14 ≥ (0 : Int))) else some false).bind fun v15 =>
  (if v15 = true then (T.asInt .i64 (T.leaf a0 7)).bind fun v16 =>
  some (decide (v16 ≤ (16 : Int))) else some false).bind fun v17 =>
  (if v17 = true then (T.asInt .i64 (T.leaf a0 8)).bind fun v18 =>
  some (decide (v18 ≥ (1 : Int))) else some false).bind fun v19 =>
  (if v19 = true then (T.asInt .i64 (T.leaf a0 8)).bind fun v20 =>
  some (decide (v20 ≤ (255 : Int))) else some false).bind fun v21 =>
  some (v21, ())
  else none
@[reducible] def good_frame_S (q : Nat) : Summary := sumK [.cell (.raw)] [.leaf (.cell (.bool))] fun a => good_frame q a.1
@[reducible] def good_frame_T (q : Nat) : Alt [.leaf (.cell (.bool))] := ⟨[.cell (.raw)], fun a => good_frame q a.1⟩
def good_frame_C (q : Nat) : Nat → Option Summary := orcL [(38, good_types_S q)]
theorem good_frame_orc (q : Nat) : OrcSound Try.prog (good_frame_C q) := (orc_cons (good_types_sum q) orc_nil)
def good_frame_A (q : Nat) : Ann (RPay [.leaf (.cell (.bool))]) :=
  .d
theorem good_frame_ok (q : Nat) : Ok Try.prog Try.f21.ntmps (good_frame_C q) q (good_frame_A q) (codeOf Try.f21) (fun _ => fnK Try.prog Try.f21 (List.map Rk.spec [.leaf (.cell (.bool))]) (decR [.leaf (.cell (.bool))])) := by
  have h : (Ok Try.prog Try.f21.ntmps (good_frame_C q) q (good_frame_A q) (codeOf Try.f21) (fun _ => fnK Try.prog Try.f21 (List.map Rk.spec [.leaf (.cell (.bool))]) (decR [.leaf (.cell (.bool))]))) = (True) := by kernel_rfl
  exact h.mpr (trivial)
theorem good_frame_eq (q : Nat) (a : APay [.cell (.raw)]) : evFn Try.prog (good_frame_C q) q Try.f21 (List.map Rk.spec [.leaf (.cell (.bool))]) (RPay [.leaf (.cell (.bool))]) (good_frame_A q) (encA [.cell (.raw)] a) (decR [.leaf (.cell (.bool))]) = good_frame q a.1 := by kernel_rfl
theorem good_frame_sum (q : Nat) : SumSound Try.prog 21 (good_frame_S q) :=
  sumK_sound (good_frame_orc q) hmix (code := codeOf Try.f21) Try.func21 (by kernel_rfl) (by kernel_rfl) (by kernel_rfl) (by kernel_rfl) (good_frame_ok q) (good_frame_eq q)

/-! spinneret/good.ways -/
def good_ways (q : Nat) (a0 : T) : Option (List T × Unit) :=
  if T.width a0 = 7 then
  (T.asLst (T.leaf a0 0)).bind fun v1 =>
  (T.asLst (T.leaf a0 1)).bind fun v2 =>
  (chk v2 1).bind fun v3 =>
  if fitsB (([T.lst v1]).length + v3.length) 24 = true then
  some (([T.lst v1] ++ v3), ())
  else none
  else none
@[reducible] def good_ways_S (q : Nat) : Summary := sumK [.cell (.raw)] [.leaf (.own 1)] fun a => good_ways q a.1
@[reducible] def good_ways_T (q : Nat) : Alt [.leaf (.own 1)] := ⟨[.cell (.raw)], fun a => good_ways q a.1⟩
def good_ways_C (q : Nat) : Nat → Option Summary := orcL []
theorem good_ways_orc (q : Nat) : OrcSound Try.prog (good_ways_C q) := orc_nil
def good_ways_A (q : Nat) : Ann (RPay [.leaf (.own 1)]) :=
  .d
theorem good_ways_ok (q : Nat) : Ok Try.prog Try.f42.ntmps (good_ways_C q) q (good_ways_A q) (codeOf Try.f42) (fun _ => fnK Try.prog Try.f42 (List.map Rk.spec [.leaf (.own 1)]) (decR [.leaf (.own 1)])) := by
  have h : (Ok Try.prog Try.f42.ntmps (good_ways_C q) q (good_ways_A q) (codeOf Try.f42) (fun _ => fnK Try.prog Try.f42 (List.map Rk.spec [.leaf (.own 1)]) (decR [.leaf (.own 1)]))) = (True) := by kernel_rfl
  exact h.mpr (trivial)
theorem good_ways_eq (q : Nat) (a : APay [.cell (.raw)]) : evFn Try.prog (good_ways_C q) q Try.f42 (List.map Rk.spec [.leaf (.own 1)]) (RPay [.leaf (.own 1)]) (good_ways_A q) (encA [.cell (.raw)] a) (decR [.leaf (.own 1)]) = good_ways q a.1 := by kernel_rfl
theorem good_ways_sum (q : Nat) : SumSound Try.prog 42 (good_ways_S q) :=
  sumK_sound (good_ways_orc q) hmix (code := codeOf Try.f42) Try.func42 (by kernel_rfl) (by kernel_rfl) (by kernel_rfl) (by kernel_rfl) (good_ways_ok q) (good_ways_eq q)

/-! spinneret/good.graph -/
def good_graph_l2 (q : Nat) : Nat → (Int) → (Int) → (List T) → (Int) → (Int) → (Int) → (Int) → (List T) → (Int) → (Int) → (List T) → (T) → Option ((Unit × Int × Int × List T × Int × Int × Unit × Int × Int × List T × T × Unit) ⊕ ((Unit × Int × Int × List T × Int × Int × T × Unit) ⊕ ((Unit) ⊕ (Bool × Unit))))
  | 0, _, _, _, _, _, _, _, _, _, _, _, _ => none
  | k + 1, x1, x2, x3, x4, x5, x7, x8, x9, x10, x11, x12, x13 =>
    if (decide (x11 < x10)) = true then (
    (rd x9 x11 9).bind fun v32 =>
    (T.part v32 0 9).bind fun v33 =>
    if T.width v33 = 9 then
    (T.asInt .i64 (T.leaf v33 7)).bind fun v34 =>
    (if (decide (v34 < (0 : Int))) = true then some true else (T.asInt .i64 (T.leaf v33 7)).bind fun v35 =>
    some (decide (v35 ≥ x1))).bind fun v36 =>
    if v36 = true then (
    some (.inr ((.inr ((.inr ((false, ()))))))))
    else (
    good_graph_l2 q k x1 x2 x3 x4 x5 x7 x8 x9 x10 (IntKind.i64.wrap (x11 + (1 : Int))) x12 x13)
    else none)
    else (
    some (.inl ((), x1, x2, x3, x4, x5, (), x7, x8, x12, x13, ())))
def good_graph_l1 (q : Nat) : Nat → (Int) → (Int) → (List T) → (Int) → (Int) → (Int) → (Int) → (List T) → (T) → Option ((Unit × Int × Int × List T × Int × Int × T × Unit) ⊕ ((Unit) ⊕ (Bool × Unit)))
  | 0, _, _, _, _, _, _, _, _, _ => none
  | k + 1, x1, x2, x3, x4, x5, x7, x8, x9, x10 =>
    if (decide (x8 < x7)) = true then (
    cutB (if 0 ≤ x8 ∧ x8 < x9.length then
    (x9[(Int.toNat x8)]?).bind fun v29 =>
    (T.asLst (T.leaf v29 0)).bind fun v30 =>
    (if (decide (x8 > (0 : Int))) = true then some ((v30.length : Int) == (0 : Int)) else some false).bind fun v31 =>
    if v31 = true then (
    some (.inr ((.inr ((.inr ((false, ()))))))))
    else (
    if (decide ((IntKind.i64.wrap (x2 + (v30.length : Int))) > (1024 : Int))) = true then (
    some (.inr ((.inr ((.inr ((false, ()))))))))
    else (
    good_graph_l2 q q x1 (IntKind.i64.wrap (x2 + (v30.length : Int))) x3 x4 x5 x7 x8 v30 (v30.length : Int) 0 x9 x10))
    else none) fun p28 =>
    good_graph_l1 q k p28.2.1 p28.2.2.1 p28.2.2.2.1 p28.2.2.2.2.1 p28.2.2.2.2.2.1 p28.2.2.2.2.2.2.2.1 (IntKind.i64.wrap (p28.2.2.2.2.2.2.2.2.1 + (1 : Int))) p28.2.2.2.2.2.2.2.2.2.1 p28.2.2.2.2.2.2.2.2.2.2.1)
    else (
    some (.inl ((), x1, x2, x3, x4, x5, x10, ())))
def good_graph_l0 (q : Nat) : Nat → (Int) → (Int) → (List T) → (Int) → (Int) → (T) → Option ((Unit) ⊕ (Bool × Unit))
  | 0, _, _, _, _, _, _ => none
  | k + 1, x1, x2, x3, x4, x5, x6 =>
    if (decide (x5 < x4)) = true then (
    cutB ((rd x3 x5 7).bind fun v14 =>
    (T.part v14 0 7).bind fun v15 =>
    if T.width v15 = 7 then
    (T.asLst (T.leaf v15 1)).bind fun v16 =>
    (if (decide ((v16.length : Int) > (8 : Int))) = true then some true else (T.asBool (T.leaf v15 3)).bind fun v17 =>
    (if v17 = true then (T.asBool (T.leaf v15 2)).bind fun v18 =>
    some v18 else some false).bind fun v19 =>
    some v19).bind fun v20 =>
    (if v20 = true then some true else (T.asInt .i64 (T.leaf x6 6)).bind fun v21 =>
    (if (x5 == v21) = true then (T.asLst (T.leaf v15 0)).bind fun v22 =>
    (T.asLst (T.leaf v15 1)).bind fun v23 =>
    some (decide ((IntKind.i64.wrap ((v22.length : Int) + (v23.length : Int))) > (0 : Int))) else some false).bind fun v24 =>
    some v24).bind fun v25 =>
    if v25 = true then (
    some (.inr ((.inr ((false, ()))))))
    else (
    (T.part v15 0 7).bind fun v26 =>
    (good_ways q v26).bind fun v27 =>
    good_graph_l1 q q x1 x2 x3 x4 x5 (v27.1.length : Int) 0 v27.1 x6)
    else none) fun p13 =>
    good_graph_l0 q k p13.2.1 p13.2.2.1 p13.2.2.2.1 p13.2.2.2.2.1 (IntKind.i64.wrap (p13.2.2.2.2.2.1 + (1 : Int))) p13.2.2.2.2.2.2.1)
    else (
    some (.inl (())))
def good_graph (q : Nat) (a0 : T) : Option (Bool × Unit) :=
  if T.width a0 = 10 then
  (T.asLst (T.leaf a0 4)).bind fun v1 =>
  (if (decide ((v1.length : Int) < (1 : Int))) = true then some true else some (decide ((v1.length : Int) > (256 : Int)))).bind fun v2 =>
  (if v2 = true then some true else (T.asInt .i64 (T.leaf a0 5)).bind fun v3 =>
  some (decide (v3 < (0 : Int)))).bind fun v4 =>
  (if v4 = true then some true else (T.asInt .i64 (T.leaf a0 5)).bind fun v5 =>
  some (decide (v5 ≥ (v1.length : Int)))).bind fun v6 =>
  (if v6 = true then some true else (T.asInt .i64 (T.leaf a0 6)).bind fun v7 =>
  some (decide (v7 < (0 : Int)))).bind fun v8 =>
  (if v8 = true then some true else (T.asInt .i64 (T.leaf a0 6)).bind fun v9 =>
  some (decide (v9 ≥ (v1.length : Int)))).bind fun v10 =>
  if v10 = true then (
  some (false, ()))
  else (
  cutB ((T.asLst (T.leaf a0 4)).bind fun v12 =>
  good_graph_l0 q q (v1.length : Int) 0 v12 (v12.length : Int) 0 a0) fun p11 =>
  some (true, ()))
  else none
@[reducible] def good_graph_S (q : Nat) : Summary := sumK [.cell (.raw)] [.leaf (.cell (.bool))] fun a => good_graph q a.1
@[reducible] def good_graph_T (q : Nat) : Alt [.leaf (.cell (.bool))] := ⟨[.cell (.raw)], fun a => good_graph q a.1⟩
def good_graph_C (q : Nat) : Nat → Option Summary := orcL [(42, good_ways_S q)]
theorem good_graph_orc (q : Nat) : OrcSound Try.prog (good_graph_C q) := (orc_cons (good_ways_sum q) orc_nil)
def good_graph_A (q : Nat) : Ann (RPay [.leaf (.cell (.bool))]) :=
  .seq (.d) (.seq (.d) (.seq (.d) (.seq (.d) (.cut [] (.seq (.d) (.block (.loop [.tmp 1 (.bp 1 0), .tmp 3 (.int .i64), .tmp 4 (.int .i64), .tmp 43 (.lst), .tmp 44 (.int .i64), .tmp 45 (.int .i64), .boxT 1 10] (fun k p => good_graph_l0 q k p.2.1 p.2.2.1 p.2.2.2.1 p.2.2.2.2.1 p.2.2.2.2.2.1 p.2.2.2.2.2.2.1) (.seq (.d) (.seq (.d) (.cut [.tmp 1 (.bp 1 0), .tmp 3 (.int .i64), .tmp 4 (.int .i64), .tmp 43 (.lst), .tmp 44 (.int .i64), .tmp 45 (.int .i64), .boxT 1 10] (.block (.seq (.d) (.seq (.d) (.seq (.d) (.block (.loop [.tmp 1 (.bp 1 0), .tmp 3 (.int .i64), .tmp 4 (.int .i64), .tmp 43 (.lst), .tmp 44 (.int .i64), .tmp 45 (.int .i64), .tmp 79 (.full 196), .tmp 80 (.int .i64), .tmp 81 (.int .i64), .row none 196 1, .boxT 1 10] (fun k p => good_graph_l1 q k p.2.1 p.2.2.1 p.2.2.2.1 p.2.2.2.2.1 p.2.2.2.2.2.1 p.2.2.2.2.2.2.2.1 p.2.2.2.2.2.2.2.2.1 p.2.2.2.2.2.2.2.2.2.1 p.2.2.2.2.2.2.2.2.2.2.1) (.seq (.d) (.seq (.d) (.cut [.tmp 1 (.bp 1 0), .tmp 3 (.int .i64), .tmp 4 (.int .i64), .tmp 43 (.lst), .tmp 44 (.int .i64), .tmp 45 (.int .i64), .tmp 79 (.full 196), .tmp 80 (.int .i64), .tmp 81 (.int .i64), .row none 196 1, .boxT 1 10] (.block (.seq (.d) (.seq (.d) (.seq (.d) (.seq (.d) (.seq (.d) (.block (.loop [.tmp 1 (.bp 1 0), .tmp 3 (.int .i64), .tmp 4 (.int .i64), .tmp 43 (.lst), .tmp 44 (.int .i64), .tmp 45 (.int .i64), .tmp 79 (.full 196), .tmp 80 (.int .i64), .tmp 81 (.int .i64), .tmp 99 (.lst), .tmp 100 (.int .i64), .tmp 101 (.int .i64), .row none 196 1, .boxT 1 10] (fun k p => good_graph_l2 q k p.2.1 p.2.2.1 p.2.2.2.1 p.2.2.2.2.1 p.2.2.2.2.2.1 p.2.2.2.2.2.2.2.1 p.2.2.2.2.2.2.2.2.1 p.2.2.2.2.2.2.2.2.2.1 p.2.2.2.2.2.2.2.2.2.2.1 p.2.2.2.2.2.2.2.2.2.2.2.1 p.2.2.2.2.2.2.2.2.2.2.2.2.1 p.2.2.2.2.2.2.2.2.2.2.2.2.2.1) (.d))))))))) (.d)))))))))) (.d))))))) (.d)))))
theorem good_graph_ok (q : Nat) : Ok Try.prog Try.f22.ntmps (good_graph_C q) q (good_graph_A q) (codeOf Try.f22) (fun _ => fnK Try.prog Try.f22 (List.map Rk.spec [.leaf (.cell (.bool))]) (decR [.leaf (.cell (.bool))])) := by
  have h : (Ok Try.prog Try.f22.ntmps (good_graph_C q) q (good_graph_A q) (codeOf Try.f22) (fun _ => fnK Try.prog Try.f22 (List.map Rk.spec [.leaf (.cell (.bool))]) (decR [.leaf (.cell (.bool))]))) = ((True) ∧ ((True) ∧ ((True) ∧ ((True) ∧ (((True) ∧ ((∀ p : Unit × Int × Int × List T × Int × Int × T × Unit, good_graph_l0 q 0 p.2.1 p.2.2.1 p.2.2.2.1 p.2.2.2.2.1 p.2.2.2.2.2.1 p.2.2.2.2.2.2.1 = none) ∧ ∀ n : Nat, (∀ p : Unit × Int × Int × List T × Int × Int × T × Unit, good_graph_l0 q (n + 1) p.2.1 p.2.2.1 p.2.2.2.1 p.2.2.2.2.1 p.2.2.2.2.2.1 p.2.2.2.2.2.2.1 = good_graph_l0 q (n + 1) p.2.1 p.2.2.1 p.2.2.2.1 p.2.2.2.2.1 p.2.2.2.2.2.1 p.2.2.2.2.2.2.1) ∧ ((True) ∧ ((True) ∧ (((True) ∧ ((True) ∧ ((True) ∧ ((∀ p : Unit × Int × Int × List T × Int × Int × Unit × Int × Int × List T × T × Unit, good_graph_l1 q 0 p.2.1 p.2.2.1 p.2.2.2.1 p.2.2.2.2.1 p.2.2.2.2.2.1 p.2.2.2.2.2.2.2.1 p.2.2.2.2.2.2.2.2.1 p.2.2.2.2.2.2.2.2.2.1 p.2.2.2.2.2.2.2.2.2.2.1 = none) ∧ ∀ n : Nat, (∀ p : Unit × Int × Int × List T × Int × Int × Unit × Int × Int × List T × T × Unit, good_graph_l1 q (n + 1) p.2.1 p.2.2.1 p.2.2.2.1 p.2.2.2.2.1 p.2.2.2.2.2.1 p.2.2.2.2.2.2.2.1 p.2.2.2.2.2.2.2.2.1 p.2.2.2.2.2.2.2.2.2.1 p.2.2.2.2.2.2.2.2.2.2.1 = good_graph_l1 q (n + 1) p.2.1 p.2.2.1 p.2.2.2.1 p.2.2.2.2.1 p.2.2.2.2.2.1 p.2.2.2.2.2.2.2.1 p.2.2.2.2.2.2.2.2.1 p.2.2.2.2.2.2.2.2.2.1 p.2.2.2.2.2.2.2.2.2.2.1) ∧ ((True) ∧ ((True) ∧ (((True) ∧ ((True) ∧ ((True) ∧ ((True) ∧ ((True) ∧ ((∀ p : Unit × Int × Int × List T × Int × Int × Unit × Int × Int × List T × Int × Int × List T × T × Unit, good_graph_l2 q 0 p.2.1 p.2.2.1 p.2.2.2.1 p.2.2.2.2.1 p.2.2.2.2.2.1 p.2.2.2.2.2.2.2.1 p.2.2.2.2.2.2.2.2.1 p.2.2.2.2.2.2.2.2.2.1 p.2.2.2.2.2.2.2.2.2.2.1 p.2.2.2.2.2.2.2.2.2.2.2.1 p.2.2.2.2.2.2.2.2.2.2.2.2.1 p.2.2.2.2.2.2.2.2.2.2.2.2.2.1 = none) ∧ ∀ n : Nat, (∀ p : Unit × Int × Int × List T × Int × Int × Unit × Int × Int × List T × Int × Int × List T × T × Unit, good_graph_l2 q (n + 1) p.2.1 p.2.2.1 p.2.2.2.1 p.2.2.2.2.1 p.2.2.2.2.2.1 p.2.2.2.2.2.2.2.1 p.2.2.2.2.2.2.2.2.1 p.2.2.2.2.2.2.2.2.2.1 p.2.2.2.2.2.2.2.2.2.2.1 p.2.2.2.2.2.2.2.2.2.2.2.1 p.2.2.2.2.2.2.2.2.2.2.2.2.1 p.2.2.2.2.2.2.2.2.2.2.2.2.2.1 = good_graph_l2 q (n + 1) p.2.1 p.2.2.1 p.2.2.2.1 p.2.2.2.2.1 p.2.2.2.2.2.1 p.2.2.2.2.2.2.2.1 p.2.2.2.2.2.2.2.2.1 p.2.2.2.2.2.2.2.2.2.1 p.2.2.2.2.2.2.2.2.2.2.1 p.2.2.2.2.2.2.2.2.2.2.2.1 p.2.2.2.2.2.2.2.2.2.2.2.2.1 p.2.2.2.2.2.2.2.2.2.2.2.2.2.1) ∧ (True))))))) ∧ (True)))))))) ∧ (True)))))) ∧ (True)))))) := by kernel_rfl
  exact h.mpr (⟨trivial, ⟨trivial, ⟨trivial, ⟨trivial, ⟨⟨trivial, ⟨fun _ => rfl, fun _ => ⟨fun _ => rfl, ⟨trivial, ⟨trivial, ⟨⟨trivial, ⟨trivial, ⟨trivial, ⟨fun _ => rfl, fun _ => ⟨fun _ => rfl, ⟨trivial, ⟨trivial, ⟨⟨trivial, ⟨trivial, ⟨trivial, ⟨trivial, ⟨trivial, ⟨fun _ => rfl, fun _ => ⟨fun _ => rfl, trivial⟩⟩⟩⟩⟩⟩⟩, trivial⟩⟩⟩⟩⟩⟩⟩⟩, trivial⟩⟩⟩⟩⟩⟩, trivial⟩⟩⟩⟩⟩)
theorem good_graph_eq (q : Nat) (a : APay [.cell (.raw)]) : evFn Try.prog (good_graph_C q) q Try.f22 (List.map Rk.spec [.leaf (.cell (.bool))]) (RPay [.leaf (.cell (.bool))]) (good_graph_A q) (encA [.cell (.raw)] a) (decR [.leaf (.cell (.bool))]) = good_graph q a.1 := by kernel_rfl
theorem good_graph_sum (q : Nat) : SumSound Try.prog 22 (good_graph_S q) :=
  sumK_sound (good_graph_orc q) hmix (code := codeOf Try.f22) Try.func22 (by kernel_rfl) (by kernel_rfl) (by kernel_rfl) (by kernel_rfl) (good_graph_ok q) (good_graph_eq q)

/-! spinneret/good.claimed -/
def good_claimed_l0 (q : Nat) : Nat → (List T) → (Int) → (Int) → Option ((Unit) ⊕ (Bool × Unit))
  | 0, _, _, _ => none
  | k + 1, x0, x1, x2 =>
    if (decide (x2 < x1)) = true then (
    (rd x0 x2 7).bind fun v10 =>
    (T.part v10 0 7).bind fun v11 =>
    if T.width v11 = 7 then
    (T.asLst (T.leaf v11 1)).bind fun v12 =>
    (if (decide ((v12.length : Int) > (0 : Int))) = true then some true else (T.asBool (T.leaf v11 2)).bind fun v13 =>
    some v13).bind fun v14 =>
    (if v14 = true then some true else (T.asBool (T.leaf v11 3)).bind fun v15 =>
    some v15).bind fun v16 =>
    if v16 = true then (
    some (.inr ((false, ()))))
    else (
    good_claimed_l0 q k x0 x1 (IntKind.i64.wrap (x2 + (1 : Int))))
    else none)
    else (
    some (.inl (())))
def good_claimed (q : Nat) (a0 : T) : Option (Bool × Unit) :=
  if T.width a0 = 10 then
  (T.asLst (T.leaf a0 2)).bind fun v1 =>
  (if (decide ((v1.length : Int) > (0 : Int))) = true then some true else (T.asInt .i64 (T.leaf a0 1)).bind fun v2 =>
  some (decide (v2 > (0 : Int)))).bind fun v3 =>
  (if v3 = true then some true else (T.asInt .i64 (T.leaf a0 7)).bind fun v4 =>
  some (decide (v4 > (0 : Int)))).bind fun v5 =>
  (if v5 = true then some true else (T.asInt .i64 (T.leaf a0 9)).bind fun v6 =>
  some (v6 != (-1 : Int))).bind fun v7 =>
  if v7 = true then (
  some (false, ()))
  else (
  cutB ((T.asLst (T.leaf a0 4)).bind fun v9 =>
  good_claimed_l0 q q v9 (v9.length : Int) 0) fun p8 =>
  some (true, ()))
  else none
@[reducible] def good_claimed_S (q : Nat) : Summary := sumK [.cell (.raw)] [.leaf (.cell (.bool))] fun a => good_claimed q a.1
@[reducible] def good_claimed_T (q : Nat) : Alt [.leaf (.cell (.bool))] := ⟨[.cell (.raw)], fun a => good_claimed q a.1⟩
def good_claimed_C (q : Nat) : Nat → Option Summary := orcL []
theorem good_claimed_orc (q : Nat) : OrcSound Try.prog (good_claimed_C q) := orc_nil
def good_claimed_A (q : Nat) : Ann (RPay [.leaf (.cell (.bool))]) :=
  .seq (.d) (.seq (.d) (.cut [] (.seq (.d) (.block (.loop [.tmp 25 (.lst), .tmp 26 (.int .i64), .tmp 27 (.int .i64)] (fun k p => good_claimed_l0 q k p.1 p.2.1 p.2.2.1) (.d)))) (.d)))
theorem good_claimed_ok (q : Nat) : Ok Try.prog Try.f23.ntmps (good_claimed_C q) q (good_claimed_A q) (codeOf Try.f23) (fun _ => fnK Try.prog Try.f23 (List.map Rk.spec [.leaf (.cell (.bool))]) (decR [.leaf (.cell (.bool))])) := by
  have h : (Ok Try.prog Try.f23.ntmps (good_claimed_C q) q (good_claimed_A q) (codeOf Try.f23) (fun _ => fnK Try.prog Try.f23 (List.map Rk.spec [.leaf (.cell (.bool))]) (decR [.leaf (.cell (.bool))]))) = ((True) ∧ ((True) ∧ (((True) ∧ ((∀ p : List T × Int × Int × Unit, good_claimed_l0 q 0 p.1 p.2.1 p.2.2.1 = none) ∧ ∀ n : Nat, (∀ p : List T × Int × Int × Unit, good_claimed_l0 q (n + 1) p.1 p.2.1 p.2.2.1 = good_claimed_l0 q (n + 1) p.1 p.2.1 p.2.2.1) ∧ (True))) ∧ (True)))) := by kernel_rfl
  exact h.mpr (⟨trivial, ⟨trivial, ⟨⟨trivial, ⟨fun _ => rfl, fun _ => ⟨fun _ => rfl, trivial⟩⟩⟩, trivial⟩⟩⟩)
theorem good_claimed_eq (q : Nat) (a : APay [.cell (.raw)]) : evFn Try.prog (good_claimed_C q) q Try.f23 (List.map Rk.spec [.leaf (.cell (.bool))]) (RPay [.leaf (.cell (.bool))]) (good_claimed_A q) (encA [.cell (.raw)] a) (decR [.leaf (.cell (.bool))]) = good_claimed q a.1 := by kernel_rfl
theorem good_claimed_sum (q : Nat) : SumSound Try.prog 23 (good_claimed_S q) :=
  sumK_sound (good_claimed_orc q) hmix (code := codeOf Try.f23) Try.func23 (by kernel_rfl) (by kernel_rfl) (by kernel_rfl) (by kernel_rfl) (good_claimed_ok q) (good_claimed_eq q)

/-! (*spinneret/good.checker).place -/
def good_checker_place (q : Nat) (a0 : T) (a1 : Int) : Option (Bool × Unit) :=
  (T.asLst (T.leaf a0 6)).bind fun v1 =>
  (good_below q (v1.length : Int) ([T.int .i64 a1])).bind fun v2 =>
  some (v2.1, ())
@[reducible] def good_checker_place_S (q : Nat) : Summary := sumK [.cell (.ptr), .cell (.int .i64)] [.leaf (.cell (.bool))] fun a => good_checker_place q a.1 a.2.1
@[reducible] def good_checker_place_T (q : Nat) : Alt [.leaf (.cell (.bool))] := ⟨[.cell (.ptr), .cell (.int .i64)], fun a => good_checker_place q a.1 a.2.1⟩
def good_checker_place_C (q : Nat) : Nat → Option Summary := orcL [(55, good_below_S q)]
theorem good_checker_place_orc (q : Nat) : OrcSound Try.prog (good_checker_place_C q) := (orc_cons (good_below_sum q) orc_nil)
def good_checker_place_A (q : Nat) : Ann (RPay [.leaf (.cell (.bool))]) :=
  .d
theorem good_checker_place_ok (q : Nat) : Ok Try.prog Try.f77.ntmps (good_checker_place_C q) q (good_checker_place_A q) (codeOf Try.f77) (fun _ => fnK Try.prog Try.f77 (List.map Rk.spec [.leaf (.cell (.bool))]) (decR [.leaf (.cell (.bool))])) := by
  have h : (Ok Try.prog Try.f77.ntmps (good_checker_place_C q) q (good_checker_place_A q) (codeOf Try.f77) (fun _ => fnK Try.prog Try.f77 (List.map Rk.spec [.leaf (.cell (.bool))]) (decR [.leaf (.cell (.bool))]))) = (True) := by kernel_rfl
  exact h.mpr (trivial)
theorem good_checker_place_eq (q : Nat) (a : APay [.cell (.ptr), .cell (.int .i64)]) : evFn Try.prog (good_checker_place_C q) q Try.f77 (List.map Rk.spec [.leaf (.cell (.bool))]) (RPay [.leaf (.cell (.bool))]) (good_checker_place_A q) (encA [.cell (.ptr), .cell (.int .i64)] a) (decR [.leaf (.cell (.bool))]) = good_checker_place q a.1 a.2.1 := by kernel_rfl
theorem good_checker_place_sum (q : Nat) : SumSound Try.prog 77 (good_checker_place_S q) :=
  sumK_sound (good_checker_place_orc q) hmix (code := codeOf Try.f77) Try.func77 (by kernel_rfl) (by kernel_rfl) (by kernel_rfl) (by kernel_rfl) (good_checker_place_ok q) (good_checker_place_eq q)

/-! spinneret/good.empty -/
def good_empty (q : Nat) (a0 : T) (a1 : Bool) (a2 : Bool) (a3 : Bool) : Option (Bool × Unit) :=
  if T.width a0 = 7 then
  (if (!a1) = true then some true else (T.asLst (T.leaf a0 4)).bind fun v1 =>
  (T.asLst (T.leaf a0 5)).bind fun v2 =>
  some ((IntKind.i64.wrap ((v1.length : Int) + (v2.length : Int))) == (0 : Int))).bind fun v3 =>
  (if v3 = true then (if (!a2) = true then some true else (T.asInt .i64 (T.leaf a0 3)).bind fun v4 =>
  some (v4 == (0 : Int))).bind fun v5 =>
  some v5 else some false).bind fun v6 =>
  (if v6 = true then (if (!a3) = true then some true else (T.asStr (T.leaf a0 6)).bind fun v7 =>
  some (strEq v7 emp)).bind fun v8 =>
  some v8 else some false).bind fun v9 =>
  some (v9, ())
  else none
@[reducible] def good_empty_S (q : Nat) : Summary := sumK [.cell (.raw), .cell (.bool), .cell (.bool), .cell (.bool)] [.leaf (.cell (.bool))] fun a => good_empty q a.1 a.2.1 a.2.2.1 a.2.2.2.1
@[reducible] def good_empty_T (q : Nat) : Alt [.leaf (.cell (.bool))] := ⟨[.cell (.raw), .cell (.bool), .cell (.bool), .cell (.bool)], fun a => good_empty q a.1 a.2.1 a.2.2.1 a.2.2.2.1⟩
def good_empty_C (q : Nat) : Nat → Option Summary := orcL []
theorem good_empty_orc (q : Nat) : OrcSound Try.prog (good_empty_C q) := orc_nil
def good_empty_A (q : Nat) : Ann (RPay [.leaf (.cell (.bool))]) :=
  .d
theorem good_empty_ok (q : Nat) : Ok Try.prog Try.f78.ntmps (good_empty_C q) q (good_empty_A q) (codeOf Try.f78) (fun _ => fnK Try.prog Try.f78 (List.map Rk.spec [.leaf (.cell (.bool))]) (decR [.leaf (.cell (.bool))])) := by
  have h : (Ok Try.prog Try.f78.ntmps (good_empty_C q) q (good_empty_A q) (codeOf Try.f78) (fun _ => fnK Try.prog Try.f78 (List.map Rk.spec [.leaf (.cell (.bool))]) (decR [.leaf (.cell (.bool))]))) = (True) := by kernel_rfl
  exact h.mpr (trivial)
theorem good_empty_eq (q : Nat) (a : APay [.cell (.raw), .cell (.bool), .cell (.bool), .cell (.bool)]) : evFn Try.prog (good_empty_C q) q Try.f78 (List.map Rk.spec [.leaf (.cell (.bool))]) (RPay [.leaf (.cell (.bool))]) (good_empty_A q) (encA [.cell (.raw), .cell (.bool), .cell (.bool), .cell (.bool)] a) (decR [.leaf (.cell (.bool))]) = good_empty q a.1 a.2.1 a.2.2.1 a.2.2.2.1 := by kernel_rfl
theorem good_empty_sum (q : Nat) : SumSound Try.prog 78 (good_empty_S q) :=
  sumK_sound (good_empty_orc q) hmix (code := codeOf Try.f78) Try.func78 (by kernel_rfl) (by kernel_rfl) (by kernel_rfl) (by kernel_rfl) (good_empty_ok q) (good_empty_eq q)

/-! (*spinneret/good.checker).target -/
def good_checker_target (q : Nat) (a0 : T) (a1 : Int) : Option (Bool × Unit) :=
  (good_checker_place q a0 a1).bind fun v1 =>
  (if v1.1 = true then (T.asLst (T.leaf a0 6)).bind fun v2 =>
  (rd v2 a1 12).bind fun v3 =>
  (T.asInt .i64 (T.leaf v3 0)).bind fun v4 =>
  some (v4 == (2 : Int)) else some false).bind fun v5 =>
  (if v5 = true then (T.asLst (T.leaf a0 6)).bind fun v6 =>
  (rd v6 a1 12).bind fun v7 =>
  (T.asInt .i64 (T.leaf v7 5)).bind fun v8 =>
  some (v8 != (2 : Int)) else some false).bind fun v9 =>
  some (v9, ())
@[reducible] def good_checker_target_S (q : Nat) : Summary := sumK [.cell (.ptr), .cell (.int .i64)] [.leaf (.cell (.bool))] fun a => good_checker_target q a.1 a.2.1
@[reducible] def good_checker_target_T (q : Nat) : Alt [.leaf (.cell (.bool))] := ⟨[.cell (.ptr), .cell (.int .i64)], fun a => good_checker_target q a.1 a.2.1⟩
def good_checker_target_C (q : Nat) : Nat → Option Summary := orcL [(77, good_checker_place_S q)]
theorem good_checker_target_orc (q : Nat) : OrcSound Try.prog (good_checker_target_C q) := (orc_cons (good_checker_place_sum q) orc_nil)
def good_checker_target_A (q : Nat) : Ann (RPay [.leaf (.cell (.bool))]) :=
  .d
theorem good_checker_target_ok (q : Nat) : Ok Try.prog Try.f79.ntmps (good_checker_target_C q) q (good_checker_target_A q) (codeOf Try.f79) (fun _ => fnK Try.prog Try.f79 (List.map Rk.spec [.leaf (.cell (.bool))]) (decR [.leaf (.cell (.bool))])) := by
  have h : (Ok Try.prog Try.f79.ntmps (good_checker_target_C q) q (good_checker_target_A q) (codeOf Try.f79) (fun _ => fnK Try.prog Try.f79 (List.map Rk.spec [.leaf (.cell (.bool))]) (decR [.leaf (.cell (.bool))]))) = (True) := by kernel_rfl
  exact h.mpr (trivial)
theorem good_checker_target_eq (q : Nat) (a : APay [.cell (.ptr), .cell (.int .i64)]) : evFn Try.prog (good_checker_target_C q) q Try.f79 (List.map Rk.spec [.leaf (.cell (.bool))]) (RPay [.leaf (.cell (.bool))]) (good_checker_target_A q) (encA [.cell (.ptr), .cell (.int .i64)] a) (decR [.leaf (.cell (.bool))]) = good_checker_target q a.1 a.2.1 := by kernel_rfl
theorem good_checker_target_sum (q : Nat) : SumSound Try.prog 79 (good_checker_target_S q) :=
  sumK_sound (good_checker_target_orc q) hmix (code := codeOf Try.f79) Try.func79 (by kernel_rfl) (by kernel_rfl) (by kernel_rfl) (by kernel_rfl) (good_checker_target_ok q) (good_checker_target_eq q)

/-! (*spinneret/good.checker).taken -/
def good_checker_taken_l0 (q : Nat) : Nat → (T) → (List T) → (Int) → (Int) → (T) → Option ((Unit) ⊕ (Bool × Unit))
  | 0, _, _, _, _, _ => none
  | k + 1, x0, x2, x3, x4, x5 =>
    if (decide (x4 < x3)) = true then (
    (rd x2 x4 1).bind fun v7 =>
    (T.asInt .i64 (T.leaf v7 0)).bind fun v8 =>
    (if (v8 == (0 : Int)) = true then (T.asLst (T.leaf x5 4)).bind fun v9 =>
    (rd v9 x4 1).bind fun v10 =>
    (T.asInt .i64 (T.leaf v10 0)).bind fun v11 =>
    (good_checker_target q x0 v11).bind fun v12 =>
    some (!v12.1) else some false).bind fun v13 =>
    if v13 = true then (
    some (.inr ((false, ()))))
    else (
    good_checker_taken_l0 q k x0 x2 x3 (IntKind.i64.wrap (x4 + (1 : Int))) x5))
    else (
    some (.inl (())))
def good_checker_taken (q : Nat) (a0 : T) (a1 : T) : Option (Bool × Unit) :=
  if T.width a1 = 7 then
  (T.asLst (T.leaf a0 6)).bind fun v1 =>
  (T.asLst (T.leaf a1 4)).bind fun v2 =>
  (T.asLst (T.leaf a1 5)).bind fun v3 =>
  (good_checker_matched q a0 (v1.length : Int) v2 v3).bind fun v4 =>
  if (!v4.1) = true then (
  some (false, ()))
  else (
  cutB ((T.asLst (T.leaf a1 5)).bind fun v6 =>
  good_checker_taken_l0 q q a0 v6 (v6.length : Int) 0 a1) fun p5 =>
  some (true, ()))
  else none
@[reducible] def good_checker_taken_S (q : Nat) : Summary := sumK [.cell (.ptr), .cell (.raw)] [.leaf (.cell (.bool))] fun a => good_checker_taken q a.1 a.2.1
@[reducible] def good_checker_taken_T (q : Nat) : Alt [.leaf (.cell (.bool))] := ⟨[.cell (.ptr), .cell (.raw)], fun a => good_checker_taken q a.1 a.2.1⟩
def good_checker_taken_C (q : Nat) : Nat → Option Summary := orcL [(57, good_checker_matched_S q), (79, good_checker_target_S q)]
theorem good_checker_taken_orc (q : Nat) : OrcSound Try.prog (good_checker_taken_C q) := (orc_cons (good_checker_matched_sum q) (orc_cons (good_checker_target_sum q) orc_nil))
def good_checker_taken_A (q : Nat) : Ann (RPay [.leaf (.cell (.bool))]) :=
  .seq (.d) (.seq (.d) (.cut [] (.seq (.d) (.block (.loop [.tmp 0 (.arg (.cell (.ptr))), .tmp 3 (.bp 3 0), .tmp 21 (.lst), .tmp 22 (.int .i64), .tmp 23 (.int .i64), .boxT 3 7] (fun k p => good_checker_taken_l0 q k p.1 p.2.2.1 p.2.2.2.1 p.2.2.2.2.1 p.2.2.2.2.2.1) (.d)))) (.d)))
theorem good_checker_taken_ok (q : Nat) : Ok Try.prog Try.f80.ntmps (good_checker_taken_C q) q (good_checker_taken_A q) (codeOf Try.f80) (fun _ => fnK Try.prog Try.f80 (List.map Rk.spec [.leaf (.cell (.bool))]) (decR [.leaf (.cell (.bool))])) := by
  have h : (Ok Try.prog Try.f80.ntmps (good_checker_taken_C q) q (good_checker_taken_A q) (codeOf Try.f80) (fun _ => fnK Try.prog Try.f80 (List.map Rk.spec [.leaf (.cell (.bool))]) (decR [.leaf (.cell (.bool))]))) = ((True) ∧ ((True) ∧ (((True) ∧ ((∀ p : T × Unit × List T × Int × Int × T × Unit, good_checker_taken_l0 q 0 p.1 p.2.2.1 p.2.2.2.1 p.2.2.2.2.1 p.2.2.2.2.2.1 = none) ∧ ∀ n : Nat, (∀ p : T × Unit × List T × Int × Int × T × Unit, good_checker_taken_l0 q (n + 1) p.1 p.2.2.1 p.2.2.2.1 p.2.2.2.2.1 p.2.2.2.2.2.1 = good_checker_taken_l0 q (n + 1) p.1 p.2.2.1 p.2.2.2.1 p.2.2.2.2.1 p.2.2.2.2.2.1) ∧ (True))) ∧ (True)))) := by kernel_rfl
  exact h.mpr (⟨trivial, ⟨trivial, ⟨⟨trivial, ⟨fun _ => rfl, fun _ => ⟨fun _ => rfl, trivial⟩⟩⟩, trivial⟩⟩⟩)
theorem good_checker_taken_eq (q : Nat) (a : APay [.cell (.ptr), .cell (.raw)]) : evFn Try.prog (good_checker_taken_C q) q Try.f80 (List.map Rk.spec [.leaf (.cell (.bool))]) (RPay [.leaf (.cell (.bool))]) (good_checker_taken_A q) (encA [.cell (.ptr), .cell (.raw)] a) (decR [.leaf (.cell (.bool))]) = good_checker_taken q a.1 a.2.1 := by kernel_rfl
theorem good_checker_taken_sum (q : Nat) : SumSound Try.prog 80 (good_checker_taken_S q) :=
  sumK_sound (good_checker_taken_orc q) hmix (code := codeOf Try.f80) Try.func80 (by kernel_rfl) (by kernel_rfl) (by kernel_rfl) (by kernel_rfl) (good_checker_taken_ok q) (good_checker_taken_eq q)

/-! (*spinneret/good.checker).statement -/
def good_checker_statement (q : Nat) (a0 : T) (a1 : T) : Option (Bool × Unit) :=
  if T.width a1 = 7 then
  (T.asInt .i64 (T.leaf a1 0)).bind fun v1 =>
  cutB (if (v1 == (1 : Int)) = true then (
  some (.inl (a0, (), v1, (v1 == (1 : Int)), a1, ())))
  else (
  some (.inl (a0, (), v1, (v1 == (3 : Int)), a1, ())))) fun p2 =>
  if p2.2.2.2.1 = true then (
  (T.asInt .i64 (T.leaf p2.2.2.2.2.1 1)).bind fun v3 =>
  (good_checker_place q p2.1 v3).bind fun v4 =>
  (if v4.1 = true then (T.asInt .i64 (T.leaf p2.2.2.2.2.1 2)).bind fun v5 =>
  some (v5 == (-1 : Int)) else some false).bind fun v6 =>
  (if v6 = true then (T.part p2.2.2.2.2.1 0 7).bind fun v7 =>
  (good_empty q v7 true true true).bind fun v8 =>
  some v8.1 else some false).bind fun v9 =>
  some (v9, ()))
  else (
  if (p2.2.2.1 == (2 : Int)) = true then (
  (T.asInt .i64 (T.leaf p2.2.2.2.2.1 1)).bind fun v10 =>
  (good_checker_target q p2.1 v10).bind fun v11 =>
  (if v11.1 = true then (T.asInt .i64 (T.leaf p2.2.2.2.2.1 2)).bind fun v12 =>
  (good_checker_place q p2.1 v12).bind fun v13 =>
  some v13.1 else some false).bind fun v14 =>
  (if v14 = true then (T.part p2.2.2.2.2.1 0 7).bind fun v15 =>
  (good_empty q v15 true true true).bind fun v16 =>
  some v16.1 else some false).bind fun v17 =>
  some (v17, ()))
  else (
  if (p2.2.2.1 == (4 : Int)) = true then (
  (T.asInt .i64 (T.leaf p2.2.2.2.2.1 1)).bind fun v18 =>
  (if (v18 == (-1 : Int)) = true then (T.asInt .i64 (T.leaf p2.2.2.2.2.1 2)).bind fun v19 =>
  some (v19 == (-1 : Int)) else some false).bind fun v20 =>
  (if v20 = true then (T.asLst (T.leaf p2.1 6)).bind fun v21 =>
  (T.asLst (T.leaf p2.2.2.2.2.1 4)).bind fun v22 =>
  (good_below q (v21.length : Int) v22).bind fun v23 =>
  some v23.1 else some false).bind fun v24 =>
  (if v24 = true then (T.asLst (T.leaf p2.2.2.2.2.1 5)).bind fun v25 =>
  some ((v25.length : Int) == (0 : Int)) else some false).bind fun v26 =>
  (if v26 = true then (T.asStr (T.leaf p2.2.2.2.2.1 6)).bind fun v27 =>
  some (decide ((v27.size : Int) ≤ (256 : Int))) else some false).bind fun v28 =>
  (if v28 = true then (T.asInt .i64 (T.leaf p2.2.2.2.2.1 3)).bind fun v29 =>
  some (v29 == (0 : Int)) else some false).bind fun v30 =>
  some (v30, ()))
  else (
  if (p2.2.2.1 == (5 : Int)) = true then (
  (T.asInt .i64 (T.leaf p2.2.2.2.2.1 1)).bind fun v31 =>
  (good_checker_place q p2.1 v31).bind fun v32 =>
  (if v32.1 = true then (T.asInt .i64 (T.leaf p2.2.2.2.2.1 2)).bind fun v33 =>
  some (v33 == (-1 : Int)) else some false).bind fun v34 =>
  (if v34 = true then (T.asLst (T.leaf p2.2.2.2.2.1 4)).bind fun v35 =>
  some (decide ((v35.length : Int) ≥ (1 : Int))) else some false).bind fun v36 =>
  (if v36 = true then (T.asLst (T.leaf p2.2.2.2.2.1 4)).bind fun v37 =>
  some (decide ((v37.length : Int) ≤ (8 : Int))) else some false).bind fun v38 =>
  (if v38 = true then (T.asLst (T.leaf p2.1 6)).bind fun v39 =>
  (T.asLst (T.leaf p2.2.2.2.2.1 4)).bind fun v40 =>
  (good_below q (v39.length : Int) v40).bind fun v41 =>
  some v41.1 else some false).bind fun v42 =>
  (if v42 = true then (T.asLst (T.leaf p2.2.2.2.2.1 5)).bind fun v43 =>
  some ((v43.length : Int) == (0 : Int)) else some false).bind fun v44 =>
  (if v44 = true then (T.asInt .i64 (T.leaf p2.2.2.2.2.1 3)).bind fun v45 =>
  (if (v45 == (0 : Int)) = true then some true else (T.asInt .i64 (T.leaf p2.2.2.2.2.1 3)).bind fun v46 =>
  some (v46 == (1 : Int))).bind fun v47 =>
  some v47 else some false).bind fun v48 =>
  (if v48 = true then (T.asStr (T.leaf p2.2.2.2.2.1 6)).bind fun v49 =>
  some (strEq v49 emp) else some false).bind fun v50 =>
  some (v50, ()))
  else (
  if (p2.2.2.1 == (6 : Int)) = true then (
  (T.asInt .i64 (T.leaf p2.2.2.2.2.1 1)).bind fun v51 =>
  (good_checker_place q p2.1 v51).bind fun v52 =>
  (if v52.1 = true then (T.asInt .i64 (T.leaf p2.2.2.2.2.1 2)).bind fun v53 =>
  some (v53 == (-1 : Int)) else some false).bind fun v54 =>
  (if v54 = true then (T.part p2.2.2.2.2.1 0 7).bind fun v55 =>
  (good_checker_taken q p2.1 v55).bind fun v56 =>
  some v56.1 else some false).bind fun v57 =>
  (if v57 = true then (T.asInt .i64 (T.leaf p2.2.2.2.2.1 3)).bind fun v58 =>
  some (decide (v58 ≥ (0 : Int))) else some false).bind fun v59 =>
  (if v59 = true then (T.asInt .i64 (T.leaf p2.2.2.2.2.1 3)).bind fun v60 =>
  some (decide (v60 ≤ (3 : Int))) else some false).bind fun v61 =>
  (if v61 = true then (T.asStr (T.leaf p2.2.2.2.2.1 6)).bind fun v62 =>
  some (strEq v62 emp) else some false).bind fun v63 =>
  some (v63, ()))
  else (
  cutB (if (p2.2.2.1 == (7 : Int)) = true then (
  some (.inl (p2.1, (), p2.2.2.1, (p2.2.2.1 == (7 : Int)), p2.2.2.2.2.1, ())))
  else (
  some (.inl (p2.1, (), p2.2.2.1, (p2.2.2.1 == (8 : Int)), p2.2.2.2.2.1, ())))) fun p64 =>
  if p64.2.2.2.1 = true then (
  (T.asInt .i64 (T.leaf p64.2.2.2.2.1 1)).bind fun v65 =>
  (if (v65 == (-1 : Int)) = true then (T.asInt .i64 (T.leaf p64.2.2.2.2.1 2)).bind fun v66 =>
  some (v66 == (-1 : Int)) else some false).bind fun v67 =>
  (if v67 = true then (T.part p64.2.2.2.2.1 0 7).bind fun v68 =>
  (good_empty q v68 true true true).bind fun v69 =>
  some v69.1 else some false).bind fun v70 =>
  some (v70, ()))
  else (
  if (p64.2.2.1 == (9 : Int)) = true then (
  (T.asInt .i64 (T.leaf p64.2.2.2.2.1 1)).bind fun v71 =>
  (good_checker_target q p64.1 v71).bind fun v72 =>
  (if v72.1 = true then (T.asInt .i64 (T.leaf p64.2.2.2.2.1 2)).bind fun v73 =>
  some (v73 == (-1 : Int)) else some false).bind fun v74 =>
  (if v74 = true then (T.asInt .i64 (T.leaf p64.2.2.2.2.1 3)).bind fun v75 =>
  some (decide (v75 ≥ (0 : Int))) else some false).bind fun v76 =>
  (if v76 = true then (T.asInt .i64 (T.leaf p64.2.2.2.2.1 3)).bind fun v77 =>
  (T.asLst (T.leaf p64.1 2)).bind fun v78 =>
  some (decide (v77 < (v78.length : Int))) else some false).bind fun v79 =>
  (if v79 = true then (T.part p64.2.2.2.2.1 0 7).bind fun v80 =>
  (good_empty q v80 true false true).bind fun v81 =>
  some v81.1 else some false).bind fun v82 =>
  some (v82, ()))
  else (
  some (false, ()))))))))
  else none
@[reducible] def good_checker_statement_S (q : Nat) : Summary := sumK [.cell (.ptr), .cell (.raw)] [.leaf (.cell (.bool))] fun a => good_checker_statement q a.1 a.2.1
@[reducible] def good_checker_statement_T (q : Nat) : Alt [.leaf (.cell (.bool))] := ⟨[.cell (.ptr), .cell (.raw)], fun a => good_checker_statement q a.1 a.2.1⟩
def good_checker_statement_C (q : Nat) : Nat → Option Summary := orcL [(77, good_checker_place_S q), (78, good_empty_S q), (79, good_checker_target_S q), (55, good_below_S q), (80, good_checker_taken_S q)]
theorem good_checker_statement_orc (q : Nat) : OrcSound Try.prog (good_checker_statement_C q) := (orc_cons (good_checker_place_sum q) (orc_cons (good_empty_sum q) (orc_cons (good_checker_target_sum q) (orc_cons (good_below_sum q) (orc_cons (good_checker_taken_sum q) orc_nil)))))
def good_checker_statement_A (q : Nat) : Ann (RPay [.leaf (.cell (.bool))]) :=
  .seq (.d) (.seq (.seq (.d) (.block (.cut [.tmp 0 (.arg (.cell (.ptr))), .tmp 3 (.bp 3 0), .tmp 6 (.int .i64), .tmp 7 (.bool), .boxT 3 7] (.d) (.cond (.d) (.seq (.d) (.cond (.d) (.seq (.d) (.cond (.d) (.seq (.d) (.cond (.d) (.seq (.d) (.cond (.d) (.cut [.tmp 0 (.arg (.cell (.ptr))), .tmp 3 (.bp 3 0), .tmp 6 (.int .i64), .tmp 163 (.bool), .boxT 3 7] (.d) (.d)))))))))))))) (.d))
theorem good_checker_statement_ok (q : Nat) : Ok Try.prog Try.f60.ntmps (good_checker_statement_C q) q (good_checker_statement_A q) (codeOf Try.f60) (fun _ => fnK Try.prog Try.f60 (List.map Rk.spec [.leaf (.cell (.bool))]) (decR [.leaf (.cell (.bool))])) := by
  have h : (Ok Try.prog Try.f60.ntmps (good_checker_statement_C q) q (good_checker_statement_A q) (codeOf Try.f60) (fun _ => fnK Try.prog Try.f60 (List.map Rk.spec [.leaf (.cell (.bool))]) (decR [.leaf (.cell (.bool))]))) = ((True) ∧ (((True) ∧ ((True) ∧ ((True) ∧ ((True) ∧ ((True) ∧ ((True) ∧ ((True) ∧ ((True) ∧ ((True) ∧ ((True) ∧ ((True) ∧ ((True) ∧ (True))))))))))))) ∧ (True))) := by kernel_rfl
  exact h.mpr (⟨trivial, ⟨⟨trivial, ⟨trivial, ⟨trivial, ⟨trivial, ⟨trivial, ⟨trivial, ⟨trivial, ⟨trivial, ⟨trivial, ⟨trivial, ⟨trivial, ⟨trivial, trivial⟩⟩⟩⟩⟩⟩⟩⟩⟩⟩⟩⟩, trivial⟩⟩)
theorem good_checker_statement_eq (q : Nat) (a : APay [.cell (.ptr), .cell (.raw)]) : evFn Try.prog (good_checker_statement_C q) q Try.f60 (List.map Rk.spec [.leaf (.cell (.bool))]) (RPay [.leaf (.cell (.bool))]) (good_checker_statement_A q) (encA [.cell (.ptr), .cell (.raw)] a) (decR [.leaf (.cell (.bool))]) = good_checker_statement q a.1 a.2.1 := by kernel_rfl
theorem good_checker_statement_sum (q : Nat) : SumSound Try.prog 60 (good_checker_statement_S q) :=
  sumK_sound (good_checker_statement_orc q) hmix (code := codeOf Try.f60) Try.func60 (by kernel_rfl) (by kernel_rfl) (by kernel_rfl) (by kernel_rfl) (good_checker_statement_ok q) (good_checker_statement_eq q)

/-! spinneret/good.Reach -/
def good_Reach_l0 (q : Nat) : Nat → (Int) → (List T) → (Int) → (Int) → Option ((Int × Unit) ⊕ (Int × Unit))
  | 0, _, _, _, _ => none
  | k + 1, x0, x1, x2, x3 =>
    if (decide (x3 < x2)) = true then (
    (rd x1 x3 3).bind fun v9 =>
    (T.part v9 0 3).bind fun v10 =>
    if T.width v10 = 3 then
    (T.asInt .i64 (T.leaf v10 1)).bind fun v11 =>
    (if (decide (v11 < (1 : Int))) = true then some true else (T.asInt .i64 (T.leaf v10 1)).bind fun v12 =>
    some (decide ((IntKind.i64.wrap (v12 - (1 : Int))) > (1073741824 : Int)))).bind fun v13 =>
    (if v13 = true then some true else (T.asInt .i64 (T.leaf v10 2)).bind fun v14 =>
    some (decide (v14 < (0 : Int)))).bind fun v15 =>
    (if v15 = true then some true else (T.asInt .i64 (T.leaf v10 2)).bind fun v16 =>
    some (decide (v16 > (1073741824 : Int)))).bind fun v17 =>
    if v17 = true then (
    some (.inr ((0, ()))))
    else (
    (T.asInt .i64 (T.leaf v10 1)).bind fun v18 =>
    (T.asInt .i64 (T.leaf v10 2)).bind fun v19 =>
    good_Reach_l0 q k (IntKind.i64.wrap (x0 + (IntKind.i64.wrap ((IntKind.i64.wrap (v18 - (1 : Int))) * v19)))) x1 x2 (IntKind.i64.wrap (x3 + (1 : Int))))
    else none)
    else (
    some (.inl (x0, ())))
def good_Reach (q : Nat) (a0 : T) : Option (Int × Unit) :=
  if T.width a0 = 5 then
  (T.asInt .i64 (T.leaf a0 1)).bind fun v1 =>
  (if (decide (v1 < (0 : Int))) = true then some true else (T.asInt .i64 (T.leaf a0 1)).bind fun v2 =>
  some (decide (v2 > (1073741824 : Int)))).bind fun v3 =>
  (if v3 = true then some true else (T.asLst (T.leaf a0 4)).bind fun v4 =>
  some (decide ((v4.length : Int) > (4 : Int)))).bind fun v5 =>
  if v5 = true then (
  some (0, ()))
  else (
  (T.asInt .i64 (T.leaf a0 1)).bind fun v6 =>
  cutB ((T.asLst (T.leaf a0 4)).bind fun v8 =>
  good_Reach_l0 q q (IntKind.i64.wrap (v6 + (1 : Int))) v8 (v8.length : Int) 0) fun p7 =>
  some (p7.1, ()))
  else none
@[reducible] def good_Reach_S (q : Nat) : Summary := sumK [.cell (.raw)] [.leaf (.cell (.int .i64))] fun a => good_Reach q a.1
@[reducible] def good_Reach_T (q : Nat) : Alt [.leaf (.cell (.int .i64))] := ⟨[.cell (.raw)], fun a => good_Reach q a.1⟩
def good_Reach_C (q : Nat) : Nat → Option Summary := orcL []
theorem good_Reach_orc (q : Nat) : OrcSound Try.prog (good_Reach_C q) := orc_nil
def good_Reach_A (q : Nat) : Ann (RPay [.leaf (.cell (.int .i64))]) :=
  .seq (.d) (.seq (.d) (.seq (.d) (.cut [.tmp 3 (.int .i64)] (.seq (.d) (.block (.loop [.tmp 3 (.int .i64), .tmp 24 (.lst), .tmp 25 (.int .i64), .tmp 26 (.int .i64)] (fun k p => good_Reach_l0 q k p.1 p.2.1 p.2.2.1 p.2.2.2.1) (.d)))) (.d))))
theorem good_Reach_ok (q : Nat) : Ok Try.prog Try.f11.ntmps (good_Reach_C q) q (good_Reach_A q) (codeOf Try.f11) (fun _ => fnK Try.prog Try.f11 (List.map Rk.spec [.leaf (.cell (.int .i64))]) (decR [.leaf (.cell (.int .i64))])) := by
  have h : (Ok Try.prog Try.f11.ntmps (good_Reach_C q) q (good_Reach_A q) (codeOf Try.f11) (fun _ => fnK Try.prog Try.f11 (List.map Rk.spec [.leaf (.cell (.int .i64))]) (decR [.leaf (.cell (.int .i64))]))) = ((True) ∧ ((True) ∧ ((True) ∧ (((True) ∧ ((∀ p : Int × List T × Int × Int × Unit, good_Reach_l0 q 0 p.1 p.2.1 p.2.2.1 p.2.2.2.1 = none) ∧ ∀ n : Nat, (∀ p : Int × List T × Int × Int × Unit, good_Reach_l0 q (n + 1) p.1 p.2.1 p.2.2.1 p.2.2.2.1 = good_Reach_l0 q (n + 1) p.1 p.2.1 p.2.2.1 p.2.2.2.1) ∧ (True))) ∧ (True))))) := by kernel_rfl
  exact h.mpr (⟨trivial, ⟨trivial, ⟨trivial, ⟨⟨trivial, ⟨fun _ => rfl, fun _ => ⟨fun _ => rfl, trivial⟩⟩⟩, trivial⟩⟩⟩⟩)
theorem good_Reach_eq (q : Nat) (a : APay [.cell (.raw)]) : evFn Try.prog (good_Reach_C q) q Try.f11 (List.map Rk.spec [.leaf (.cell (.int .i64))]) (RPay [.leaf (.cell (.int .i64))]) (good_Reach_A q) (encA [.cell (.raw)] a) (decR [.leaf (.cell (.int .i64))]) = good_Reach q a.1 := by kernel_rfl
theorem good_Reach_sum (q : Nat) : SumSound Try.prog 11 (good_Reach_S q) :=
  sumK_sound (good_Reach_orc q) hmix (code := codeOf Try.f11) Try.func11 (by kernel_rfl) (by kernel_rfl) (by kernel_rfl) (by kernel_rfl) (good_Reach_ok q) (good_Reach_eq q)

/-! (*spinneret/good.checker).slots -/
def good_checker_slots (q : Nat) (a0 : T) (a1 : Int) (a2 : T) : Option (Int × Unit) :=
  if T.width a2 = 5 then
  (T.asInt .i64 (T.leaf a2 0)).bind fun v1 =>
  if (v1 == (0 : Int)) = true then (
  (T.asLst (T.leaf a0 0)).bind fun v2 =>
  some ((v2.length : Int), ()))
  else (
  if (v1 == (1 : Int)) = true then (
  (T.asLst (T.leaf a0 4)).bind fun v3 =>
  (rd v3 a1 10).bind fun v4 =>
  (T.asLst (T.leaf v4 2)).bind fun v5 =>
  some ((v5.length : Int), ()))
  else (
  (T.asLst (T.leaf a0 4)).bind fun v6 =>
  (T.asInt .i64 (T.leaf a2 3)).bind fun v7 =>
  (rd v6 v7 10).bind fun v8 =>
  (T.asLst (T.leaf v8 2)).bind fun v9 =>
  some ((v9.length : Int), ())))
  else none
@[reducible] def good_checker_slots_S (q : Nat) : Summary := sumK [.cell (.ptr), .cell (.int .i64), .cell (.raw)] [.leaf (.cell (.int .i64))] fun a => good_checker_slots q a.1 a.2.1 a.2.2.1
@[reducible] def good_checker_slots_T (q : Nat) : Alt [.leaf (.cell (.int .i64))] := ⟨[.cell (.ptr), .cell (.int .i64), .cell (.raw)], fun a => good_checker_slots q a.1 a.2.1 a.2.2.1⟩
def good_checker_slots_C (q : Nat) : Nat → Option Summary := orcL []
theorem good_checker_slots_orc (q : Nat) : OrcSound Try.prog (good_checker_slots_C q) := orc_nil
def good_checker_slots_A (q : Nat) : Ann (RPay [.leaf (.cell (.int .i64))]) :=
  .d
theorem good_checker_slots_ok (q : Nat) : Ok Try.prog Try.f61.ntmps (good_checker_slots_C q) q (good_checker_slots_A q) (codeOf Try.f61) (fun _ => fnK Try.prog Try.f61 (List.map Rk.spec [.leaf (.cell (.int .i64))]) (decR [.leaf (.cell (.int .i64))])) := by
  have h : (Ok Try.prog Try.f61.ntmps (good_checker_slots_C q) q (good_checker_slots_A q) (codeOf Try.f61) (fun _ => fnK Try.prog Try.f61 (List.map Rk.spec [.leaf (.cell (.int .i64))]) (decR [.leaf (.cell (.int .i64))]))) = (True) := by kernel_rfl
  exact h.mpr (trivial)
theorem good_checker_slots_eq (q : Nat) (a : APay [.cell (.ptr), .cell (.int .i64), .cell (.raw)]) : evFn Try.prog (good_checker_slots_C q) q Try.f61 (List.map Rk.spec [.leaf (.cell (.int .i64))]) (RPay [.leaf (.cell (.int .i64))]) (good_checker_slots_A q) (encA [.cell (.ptr), .cell (.int .i64), .cell (.raw)] a) (decR [.leaf (.cell (.int .i64))]) = good_checker_slots q a.1 a.2.1 a.2.2.1 := by kernel_rfl
theorem good_checker_slots_sum (q : Nat) : SumSound Try.prog 61 (good_checker_slots_S q) :=
  sumK_sound (good_checker_slots_orc q) hmix (code := codeOf Try.f61) Try.func61 (by kernel_rfl) (by kernel_rfl) (by kernel_rfl) (by kernel_rfl) (good_checker_slots_ok q) (good_checker_slots_eq q)

/-! (*spinneret/good.checker).uses -/
def good_checker_uses_g0 (q : Nat) : Nat → (T) → (Int) → (Int) → (Int) → (List T) → (List T) → Option (Bool × Unit)
  | 0, _, _, _, _, _, _ => none
  | k + 1, x0, x1, x2, x5, x6, x7 =>
    if (x5 == (x7.length : Int)) = true then (
    some (true, ()))
    else (
    if 0 ≤ x5 ∧ x5 < x7.length then
    (x7[(Int.toNat x5)]?).bind fun v1 =>
    (T.asInt .i64 (T.leaf v1 0)).bind fun v2 =>
    if 0 ≤ v2 ∧ v2 < x6.length then
    (x6[(Int.toNat v2)]?).bind fun v3 =>
    (T.asBool (T.leaf v3 0)).bind fun v4 =>
    if v4 = true then (
    good_checker_uses_g0 q k x0 x1 x2 (IntKind.i64.wrap (x5 + (1 : Int))) x6 x7)
    else (
    if 0 ≤ v2 ∧ v2 < x6.length then
    (x6[(Int.toNat v2)]?).bind fun v5 =>
    (T.asLst (T.leaf x0 6)).bind fun v6 =>
    (rd v6 v2 12).bind fun v7 =>
    (T.part v7 0 12).bind fun v8 =>
    if T.width v8 = 12 then
    (T.asInt .i64 (T.leaf v8 0)).bind fun v9 =>
    (if (v9 == (39 : Int)) = true then some (v2 != x2) else some false).bind fun v10 =>
    (if v10 = true then some true else (T.asInt .i64 (T.leaf x0 5)).bind fun v11 =>
    (if (x1 == v11) = true then (T.asInt .i64 (T.leaf v8 0)).bind fun v12 =>
    (if (v12 == (31 : Int)) = true then some true else (T.asInt .i64 (T.leaf v8 0)).bind fun v13 =>
    some (v13 == (39 : Int))).bind fun v14 =>
    (if v14 = true then some true else (T.asInt .i64 (T.leaf v8 0)).bind fun v15 =>
    (if (v15 == (2 : Int)) = true then (T.asInt .i64 (T.leaf v8 5)).bind fun v16 =>
    some (v16 == (1 : Int)) else some false).bind fun v17 =>
    some v17).bind fun v18 =>
    some v18 else some false).bind fun v19 =>
    some v19).bind fun v20 =>
    if v20 = true then (
    some (false, ()))
    else (
    cutB ((T.asInt .i64 (T.leaf v8 0)).bind fun v22 =>
    if (v22 == (2 : Int)) = true then (
    (T.part v8 5 5).bind fun v23 =>
    (good_Reach q v23).bind fun v24 =>
    (T.part v8 5 5).bind fun v25 =>
    (good_checker_slots q x0 x1 v25).bind fun v26 =>
    if (decide (v24.1 > v26.1)) = true then (
    some (.inr ((false, ()))))
    else (
    some (.inl (x0, x1, x2, (), (), (IntKind.i64.wrap (x5 + (1 : Int))), (), (List.set x6 (Int.toNat v2) (T.setLeaf v5 0 (T.bool true))), x7, v8, ()))))
    else (
    some (.inl (x0, x1, x2, (), (), (IntKind.i64.wrap (x5 + (1 : Int))), (), (List.set x6 (Int.toNat v2) (T.setLeaf v5 0 (T.bool true))), x7, v8, ())))) fun p21 =>
    (T.part p21.2.2.2.2.2.2.2.2.2.1 0 12).bind fun v27 =>
    (good_held q v27).bind fun v28 =>
    (chk v28.1 1).bind fun v29 =>
    if fitsB (p21.2.2.2.2.2.2.2.2.1.length + v29.length) 8 = true then
    good_checker_uses_g0 q k p21.1 p21.2.1 p21.2.2.1 p21.2.2.2.2.2.1 p21.2.2.2.2.2.2.2.1 (p21.2.2.2.2.2.2.2.2.1 ++ v29)
    else none)
    else none
    else none)
    else none
    else none)
def good_checker_uses (q : Nat) (a0 : T) (a1 : Int) (a2 : List T) (a3 : Int) : Option (Bool × Unit) :=
  (T.asLst (T.leaf a0 6)).bind fun v30 =>
  if ((T.bool false)).width = 1 ∧ 0 ≤ (v30.length : Int) ∧ (v30.length : Int) ≤ (v30.length : Int) ∧ (v30.length : Int) * 1 ≤ 140737488355328 ∧ (v30.length : Int) ≤ 9223372036854775807 then
  (chk a2 1).bind fun v31 =>
  if fitsB v31.length 8 = true then
  if ((0 : Int) == (v31.length : Int)) = true then (
  some (true, ()))
  else (
  if 0 ≤ (0 : Int) ∧ (0 : Int) < v31.length then
  (v31[0]?).bind fun v32 =>
  (T.asInt .i64 (T.leaf v32 0)).bind fun v33 =>
  if 0 ≤ v33 ∧ v33 < (List.replicate (Int.toNat (v30.length : Int)) (T.bool false)).length then
  ((List.replicate (Int.toNat (v30.length : Int)) (T.bool false))[(Int.toNat v33)]?).bind fun v34 =>
  (T.asBool (T.leaf v34 0)).bind fun v35 =>
  if v35 = true then (
  good_checker_uses_g0 q q a0 a1 a3 (IntKind.i64.wrap ((0 : Int) + (1 : Int))) (List.replicate (Int.toNat (v30.length : Int)) (T.bool false)) v31)
  else (
  if 0 ≤ v33 ∧ v33 < (List.replicate (Int.toNat (v30.length : Int)) (T.bool false)).length then
  ((List.replicate (Int.toNat (v30.length : Int)) (T.bool false))[(Int.toNat v33)]?).bind fun v36 =>
  (T.asLst (T.leaf a0 6)).bind fun v37 =>
  (rd v37 v33 12).bind fun v38 =>
  (T.part v38 0 12).bind fun v39 =>
  if T.width v39 = 12 then
  (T.asInt .i64 (T.leaf v39 0)).bind fun v40 =>
  (if (v40 == (39 : Int)) = true then some (v33 != a3) else some false).bind fun v41 =>
  (if v41 = true then some true else (T.asInt .i64 (T.leaf a0 5)).bind fun v42 =>
  (if (a1 == v42) = true then (T.asInt .i64 (T.leaf v39 0)).bind fun v43 =>
  (if (v43 == (31 : Int)) = true then some true else (T.asInt .i64 (T.leaf v39 0)).bind fun v44 =>
  some (v44 == (39 : Int))).bind fun v45 =>
  (if v45 = true then some true else (T.asInt .i64 (T.leaf v39 0)).bind fun v46 =>
  (if (v46 == (2 : Int)) = true then (T.asInt .i64 (T.leaf v39 5)).bind fun v47 =>
  some (v47 == (1 : Int)) else some false).bind fun v48 =>
  some v48).bind fun v49 =>
  some v49 else some false).bind fun v50 =>
  some v50).bind fun v51 =>
  if v51 = true then (
  some (false, ()))
  else (
  cutB ((T.asInt .i64 (T.leaf v39 0)).bind fun v53 =>
  if (v53 == (2 : Int)) = true then (
  (T.part v39 5 5).bind fun v54 =>
  (good_Reach q v54).bind fun v55 =>
  (T.part v39 5 5).bind fun v56 =>
  (good_checker_slots q a0 a1 v56).bind fun v57 =>
  if (decide (v55.1 > v57.1)) = true then (
  some (.inr ((false, ()))))
  else (
  some (.inl (a0, a1, a3, (), (), (IntKind.i64.wrap ((0 : Int) + (1 : Int))), (), (List.set (List.replicate (Int.toNat (v30.length : Int)) (T.bool false)) (Int.toNat v33) (T.setLeaf v36 0 (T.bool true))), v31, v39, ()))))
  else (
  some (.inl (a0, a1, a3, (), (), (IntKind.i64.wrap ((0 : Int) + (1 : Int))), (), (List.set (List.replicate (Int.toNat (v30.length : Int)) (T.bool false)) (Int.toNat v33) (T.setLeaf v36 0 (T.bool true))), v31, v39, ())))) fun p52 =>
  (T.part p52.2.2.2.2.2.2.2.2.2.1 0 12).bind fun v58 =>
  (good_held q v58).bind fun v59 =>
  (chk v59.1 1).bind fun v60 =>
  if fitsB (p52.2.2.2.2.2.2.2.2.1.length + v60.length) 8 = true then
  good_checker_uses_g0 q q p52.1 p52.2.1 p52.2.2.1 p52.2.2.2.2.2.1 p52.2.2.2.2.2.2.2.1 (p52.2.2.2.2.2.2.2.2.1 ++ v60)
  else none)
  else none
  else none)
  else none
  else none)
  else none
  else none
@[reducible] def good_checker_uses_S (q : Nat) : Summary := sumK [.cell (.ptr), .cell (.int .i64), .cell (.lst), .cell (.int .i64)] [.leaf (.cell (.bool))] fun a => good_checker_uses q a.1 a.2.1 a.2.2.1 a.2.2.2.1
@[reducible] def good_checker_uses_T (q : Nat) : Alt [.leaf (.cell (.bool))] := ⟨[.cell (.ptr), .cell (.int .i64), .cell (.lst), .cell (.int .i64)], fun a => good_checker_uses q a.1 a.2.1 a.2.2.1 a.2.2.2.1⟩
def good_checker_uses_C (q : Nat) : Nat → Option Summary := orcL [(11, good_Reach_S q), (61, good_checker_slots_S q), (41, good_held_S q)]
theorem good_checker_uses_orc (q : Nat) : OrcSound Try.prog (good_checker_uses_C q) := (orc_cons (good_Reach_sum q) (orc_cons (good_checker_slots_sum q) (orc_cons (good_held_sum q) orc_nil)))
def good_checker_uses_A (q : Nat) : Ann (RPay [.leaf (.cell (.bool))]) :=
  .seq (.d) (.scope (.seq (.d) (.seq (.d) (.seq (.d) (.seq (.d) (.seq (.d) (.seq (.d) (.seq (.d) (.seq (.d) (.seq (.d) (.seq (.d) (.seq (.d) (.cut [.tmp 0 (.arg (.cell (.ptr))), .tmp 1 (.int .i64), .tmp 3 (.int .i64), .tmp 9 (.full 20), .tmp 10 (.full 22), .tmp 11 (.int .i64), .tmp 13 (.bp 13 0), .row none 20 1, .row none 22 1, .boxT 13 12] (.d) (.d))))))))))))) (.lab 0 [.tmp 0 (.arg (.cell (.ptr))), .tmp 1 (.int .i64), .tmp 3 (.int .i64), .tmp 9 (.full 20), .tmp 10 (.full 1000010), .tmp 11 (.int .i64), .row none 20 1, .row (some 10) 1000010 1] (fun k p => good_checker_uses_g0 q k p.1 p.2.1 p.2.2.1 p.2.2.2.2.2.1 p.2.2.2.2.2.2.1 p.2.2.2.2.2.2.2.1) (.seq (.d) (.seq (.d) (.seq (.d) (.seq (.d) (.seq (.d) (.seq (.d) (.seq (.d) (.seq (.d) (.cut [.tmp 0 (.arg (.cell (.ptr))), .tmp 1 (.int .i64), .tmp 3 (.int .i64), .tmp 9 (.full 20), .tmp 10 (.full 1000010), .tmp 11 (.int .i64), .tmp 13 (.bp 13 0), .row none 20 1, .row none 1000010 1, .boxT 13 12] (.d) (.d)))))))))) (.d)))
theorem good_checker_uses_ok (q : Nat) : Ok Try.prog Try.f44.ntmps (good_checker_uses_C q) q (good_checker_uses_A q) (codeOf Try.f44) (fun _ => fnK Try.prog Try.f44 (List.map Rk.spec [.leaf (.cell (.bool))]) (decR [.leaf (.cell (.bool))])) := by
  have h : (Ok Try.prog Try.f44.ntmps (good_checker_uses_C q) q (good_checker_uses_A q) (codeOf Try.f44) (fun _ => fnK Try.prog Try.f44 (List.map Rk.spec [.leaf (.cell (.bool))]) (decR [.leaf (.cell (.bool))]))) = ((True) ∧ (((True) ∧ ((True) ∧ ((True) ∧ ((True) ∧ ((True) ∧ ((True) ∧ ((True) ∧ ((True) ∧ ((True) ∧ ((True) ∧ ((True) ∧ ((True) ∧ (True))))))))))))) ∧ (((∀ p : T × Int × Int × Unit × Unit × Int × List T × List T × Unit, good_checker_uses_g0 q 0 p.1 p.2.1 p.2.2.1 p.2.2.2.2.2.1 p.2.2.2.2.2.2.1 p.2.2.2.2.2.2.2.1 = none) ∧ ∀ n : Nat, (∀ p : T × Int × Int × Unit × Unit × Int × List T × List T × Unit, good_checker_uses_g0 q (n + 1) p.1 p.2.1 p.2.2.1 p.2.2.2.2.2.1 p.2.2.2.2.2.2.1 p.2.2.2.2.2.2.2.1 = good_checker_uses_g0 q (n + 1) p.1 p.2.1 p.2.2.1 p.2.2.2.2.2.1 p.2.2.2.2.2.2.1 p.2.2.2.2.2.2.2.1) ∧ ((True) ∧ ((True) ∧ ((True) ∧ ((True) ∧ ((True) ∧ ((True) ∧ ((True) ∧ ((True) ∧ ((True) ∧ (True))))))))))) ∧ (True)))) := by kernel_rfl
  exact h.mpr (⟨trivial, ⟨⟨trivial, ⟨trivial, ⟨trivial, ⟨trivial, ⟨trivial, ⟨trivial, ⟨trivial, ⟨trivial, ⟨trivial, ⟨trivial, ⟨trivial, ⟨trivial, trivial⟩⟩⟩⟩⟩⟩⟩⟩⟩⟩⟩⟩, ⟨⟨fun _ => rfl, fun _ => ⟨fun _ => rfl, ⟨trivial, ⟨trivial, ⟨trivial, ⟨trivial, ⟨trivial, ⟨trivial, ⟨trivial, ⟨trivial, ⟨trivial, trivial⟩⟩⟩⟩⟩⟩⟩⟩⟩⟩⟩, trivial⟩⟩⟩)
theorem good_checker_uses_eq (q : Nat) (a : APay [.cell (.ptr), .cell (.int .i64), .cell (.lst), .cell (.int .i64)]) : evFn Try.prog (good_checker_uses_C q) q Try.f44 (List.map Rk.spec [.leaf (.cell (.bool))]) (RPay [.leaf (.cell (.bool))]) (good_checker_uses_A q) (encA [.cell (.ptr), .cell (.int .i64), .cell (.lst), .cell (.int .i64)] a) (decR [.leaf (.cell (.bool))]) = good_checker_uses q a.1 a.2.1 a.2.2.1 a.2.2.2.1 := by kernel_rfl
theorem good_checker_uses_sum (q : Nat) : SumSound Try.prog 44 (good_checker_uses_S q) :=
  sumK_sound (good_checker_uses_orc q) hmix (code := codeOf Try.f44) Try.func44 (by kernel_rfl) (by kernel_rfl) (by kernel_rfl) (by kernel_rfl) (good_checker_uses_ok q) (good_checker_uses_eq q)

/-! (*spinneret/good.checker).way -/
def good_checker_way (q : Nat) (a0 : T) (a1 : Int) (a2 : T) : Option (Bool × Unit) :=
  if T.width a2 = 7 then
  (T.part a2 0 7).bind fun v1 =>
  (good_checker_statement q a0 v1).bind fun v2 =>
  (if (!v2.1) = true then some true else (T.asInt .i64 (T.leaf a0 5)).bind fun v3 =>
  (if (a1 == v3) = true then (T.asInt .i64 (T.leaf a2 0)).bind fun v4 =>
  some (v4 != (1 : Int)) else some false).bind fun v5 =>
  (if v5 = true then (T.asInt .i64 (T.leaf a2 0)).bind fun v6 =>
  some (v6 != (3 : Int)) else some false).bind fun v7 =>
  (if v7 = true then (T.asInt .i64 (T.leaf a2 0)).bind fun v8 =>
  some (v8 != (7 : Int)) else some false).bind fun v9 =>
  (if v9 = true then (T.asInt .i64 (T.leaf a2 0)).bind fun v10 =>
  some (v10 != (8 : Int)) else some false).bind fun v11 =>
  some v11).bind fun v12 =>
  if v12 = true then (
  some (false, ()))
  else (
  (T.asLst (T.leaf a2 4)).bind fun v13 =>
  (chk v13 1).bind fun v14 =>
  if fitsB v14.length 8 = true then
  cutB ((T.asInt .i64 (T.leaf a2 1)).bind fun v16 =>
  if (decide (v16 ≥ (0 : Int))) = true then (
  (T.asInt .i64 (T.leaf a2 1)).bind fun v17 =>
  if fitsB (v14.length + ([T.int .i64 v17]).length) 8 = true then
  some (.inl (a0, a1, (), (), (-1), (v14 ++ [T.int .i64 v17]), a2, ()))
  else none)
  else (
  some (.inl (a0, a1, (), (), (-1), v14, a2, ())))) fun p15 =>
  cutB ((T.asInt .i64 (T.leaf p15.2.2.2.2.2.2.1 2)).bind fun v19 =>
  if (decide (v19 ≥ (0 : Int))) = true then (
  (T.asInt .i64 (T.leaf p15.2.2.2.2.2.2.1 2)).bind fun v20 =>
  if fitsB (p15.2.2.2.2.2.1.length + ([T.int .i64 v20]).length) 8 = true then
  some (.inl (p15.1, p15.2.1, (), (), p15.2.2.2.2.1, (p15.2.2.2.2.2.1 ++ [T.int .i64 v20]), p15.2.2.2.2.2.2.1, ()))
  else none)
  else (
  some (.inl (p15.1, p15.2.1, (), (), p15.2.2.2.2.1, p15.2.2.2.2.2.1, p15.2.2.2.2.2.2.1, ())))) fun p18 =>
  cutB ((T.asInt .i64 (T.leaf p18.2.2.2.2.2.2.1 0)).bind fun v22 =>
  if (v22 == (1 : Int)) = true then (
  (T.asInt .i64 (T.leaf p18.2.2.2.2.2.2.1 1)).bind fun v23 =>
  some (.inl (p18.1, p18.2.1, (), v23, p18.2.2.2.2.2.1, ())))
  else (
  if (v22 == (2 : Int)) = true then (
  (T.asInt .i64 (T.leaf p18.2.2.2.2.2.2.1 2)).bind fun v24 =>
  some (.inl (p18.1, p18.2.1, (), v24, p18.2.2.2.2.2.1, ())))
  else (
  some (.inl (p18.1, p18.2.1, (), p18.2.2.2.2.1, p18.2.2.2.2.2.1, ()))))) fun p21 =>
  (good_checker_uses q p21.1 p21.2.1 p21.2.2.2.2.1 p21.2.2.2.1).bind fun v25 =>
  some (v25.1, ())
  else none)
  else none
@[reducible] def good_checker_way_S (q : Nat) : Summary := sumK [.cell (.ptr), .cell (.int .i64), .cell (.raw)] [.leaf (.cell (.bool))] fun a => good_checker_way q a.1 a.2.1 a.2.2.1
@[reducible] def good_checker_way_T (q : Nat) : Alt [.leaf (.cell (.bool))] := ⟨[.cell (.ptr), .cell (.int .i64), .cell (.raw)], fun a => good_checker_way q a.1 a.2.1 a.2.2.1⟩
def good_checker_way_C (q : Nat) : Nat → Option Summary := orcL [(60, good_checker_statement_S q), (44, good_checker_uses_S q)]
theorem good_checker_way_orc (q : Nat) : OrcSound Try.prog (good_checker_way_C q) := (orc_cons (good_checker_statement_sum q) (orc_cons (good_checker_uses_sum q) orc_nil))
def good_checker_way_A (q : Nat) : Ann (RPay [.leaf (.cell (.bool))]) :=
  .seq (.d) (.seq (.d) (.seq (.d) (.seq (.d) (.cut [.tmp 0 (.arg (.cell (.ptr))), .tmp 1 (.int .i64), .tmp 5 (.bp 5 0), .tmp 7 (.full 1000007), .tmp 8 (.int .i64), .row (some 7) 1000007 1, .boxT 5 7] (.d) (.cut [.tmp 0 (.arg (.cell (.ptr))), .tmp 1 (.int .i64), .tmp 5 (.bp 5 0), .tmp 7 (.full 1000007), .tmp 8 (.int .i64), .row (some 7) 1000007 1, .boxT 5 7] (.d) (.cut [.tmp 0 (.arg (.cell (.ptr))), .tmp 1 (.int .i64), .tmp 7 (.full 1000007), .tmp 8 (.int .i64), .row none 1000007 1] (.d) (.d)))))))
theorem good_checker_way_ok (q : Nat) : Ok Try.prog Try.f43.ntmps (good_checker_way_C q) q (good_checker_way_A q) (codeOf Try.f43) (fun _ => fnK Try.prog Try.f43 (List.map Rk.spec [.leaf (.cell (.bool))]) (decR [.leaf (.cell (.bool))])) := by
  have h : (Ok Try.prog Try.f43.ntmps (good_checker_way_C q) q (good_checker_way_A q) (codeOf Try.f43) (fun _ => fnK Try.prog Try.f43 (List.map Rk.spec [.leaf (.cell (.bool))]) (decR [.leaf (.cell (.bool))]))) = ((True) ∧ ((True) ∧ ((True) ∧ ((True) ∧ ((True) ∧ ((True) ∧ ((True) ∧ (True)))))))) := by kernel_rfl
  exact h.mpr (⟨trivial, ⟨trivial, ⟨trivial, ⟨trivial, ⟨trivial, ⟨trivial, ⟨trivial, trivial⟩⟩⟩⟩⟩⟩⟩)
theorem good_checker_way_eq (q : Nat) (a : APay [.cell (.ptr), .cell (.int .i64), .cell (.raw)]) : evFn Try.prog (good_checker_way_C q) q Try.f43 (List.map Rk.spec [.leaf (.cell (.bool))]) (RPay [.leaf (.cell (.bool))]) (good_checker_way_A q) (encA [.cell (.ptr), .cell (.int .i64), .cell (.raw)] a) (decR [.leaf (.cell (.bool))]) = good_checker_way q a.1 a.2.1 a.2.2.1 := by kernel_rfl
theorem good_checker_way_sum (q : Nat) : SumSound Try.prog 43 (good_checker_way_S q) :=
  sumK_sound (good_checker_way_orc q) hmix (code := codeOf Try.f43) Try.func43 (by kernel_rfl) (by kernel_rfl) (by kernel_rfl) (by kernel_rfl) (good_checker_way_ok q) (good_checker_way_eq q)

/-! (*spinneret/good.checker).proc -/
def good_checker_proc_l2 (q : Nat) : Nat → (T) → (Int) → (List T) → (Int) → (Int) → (Int) → (Int) → (List T) → (Int) → (Int) → (List T) → (T) → Option ((T × Int × Unit × List T × Int × Int × Unit × Int × Int × List T × T × Unit) ⊕ ((T × Int × Unit × List T × Int × Int × T × Unit) ⊕ ((T × Int × Unit × T × Unit) ⊕ (Bool × Unit))))
  | 0, _, _, _, _, _, _, _, _, _, _, _, _ => none
  | k + 1, x0, x1, x3, x4, x5, x7, x8, x9, x10, x11, x12, x13 =>
    if (decide (x11 < x10)) = true then (
    (rd x9 x11 9).bind fun v14 =>
    (T.part v14 0 9).bind fun v15 =>
    if T.width v15 = 9 then
    (T.part v15 0 7).bind fun v16 =>
    (good_checker_way q x0 x1 v16).bind fun v17 =>
    if (!v17.1) = true then (
    some (.inr ((.inr ((.inr ((false, ()))))))))
    else (
    good_checker_proc_l2 q k x0 x1 x3 x4 x5 x7 x8 x9 x10 (IntKind.i64.wrap (x11 + (1 : Int))) x12 x13)
    else none)
    else (
    some (.inl (x0, x1, (), x3, x4, x5, (), x7, x8, x12, x13, ())))
def good_checker_proc_l1 (q : Nat) : Nat → (T) → (Int) → (List T) → (Int) → (Int) → (Int) → (Int) → (List T) → (T) → Option ((T × Int × Unit × List T × Int × Int × T × Unit) ⊕ ((T × Int × Unit × T × Unit) ⊕ (Bool × Unit)))
  | 0, _, _, _, _, _, _, _, _, _ => none
  | k + 1, x0, x1, x3, x4, x5, x7, x8, x9, x10 =>
    if (decide (x8 < x7)) = true then (
    cutB (if 0 ≤ x8 ∧ x8 < x9.length then
    (x9[(Int.toNat x8)]?).bind fun v12 =>
    (T.asLst (T.leaf v12 0)).bind fun v13 =>
    good_checker_proc_l2 q q x0 x1 x3 x4 x5 x7 x8 v13 (v13.length : Int) 0 x9 x10
    else none) fun p11 =>
    good_checker_proc_l1 q k p11.1 p11.2.1 p11.2.2.2.1 p11.2.2.2.2.1 p11.2.2.2.2.2.1 p11.2.2.2.2.2.2.2.1 (IntKind.i64.wrap (p11.2.2.2.2.2.2.2.2.1 + (1 : Int))) p11.2.2.2.2.2.2.2.2.2.1 p11.2.2.2.2.2.2.2.2.2.2.1)
    else (
    some (.inl (x0, x1, (), x3, x4, x5, x10, ())))
def good_checker_proc_l0 (q : Nat) : Nat → (T) → (Int) → (List T) → (Int) → (Int) → (T) → Option ((T × Int × Unit × T × Unit) ⊕ (Bool × Unit))
  | 0, _, _, _, _, _, _ => none
  | k + 1, x0, x1, x3, x4, x5, x6 =>
    if (decide (x5 < x4)) = true then (
    cutB ((rd x3 x5 7).bind fun v7 =>
    (T.part v7 0 7).bind fun v8 =>
    if T.width v8 = 7 then
    (T.part v8 0 7).bind fun v9 =>
    (good_ways q v9).bind fun v10 =>
    good_checker_proc_l1 q q x0 x1 x3 x4 x5 (v10.1.length : Int) 0 v10.1 x6
    else none) fun p6 =>
    good_checker_proc_l0 q k p6.1 p6.2.1 p6.2.2.2.1 p6.2.2.2.2.1 (IntKind.i64.wrap (p6.2.2.2.2.2.1 + (1 : Int))) p6.2.2.2.2.2.2.1)
    else (
    some (.inl (x0, x1, (), x6, ())))
def good_checker_proc (q : Nat) (a0 : T) (a1 : Int) : Option (Bool × Unit) :=
  (T.asLst (T.leaf a0 4)).bind fun v1 =>
  (rd v1 a1 10).bind fun v2 =>
  (T.part v2 0 10).bind fun v3 =>
  if T.width v3 = 10 then
  cutB ((T.asLst (T.leaf v3 4)).bind fun v5 =>
  good_checker_proc_l0 q q a0 a1 v5 (v5.length : Int) 0 v3) fun p4 =>
  (T.asInt .i64 (T.leaf p4.2.2.2.1 9)).bind fun v18 =>
  (if (decide (v18 < (0 : Int))) = true then some true else (T.asInt .i64 (T.leaf p4.2.2.2.1 9)).bind fun v19 =>
  (good_checker_uses q p4.1 p4.2.1 ([T.int .i64 v19]) (-1)).bind fun v20 =>
  some v20.1).bind fun v21 =>
  some (v21, ())
  else none
@[reducible] def good_checker_proc_S (q : Nat) : Summary := sumK [.cell (.ptr), .cell (.int .i64)] [.leaf (.cell (.bool))] fun a => good_checker_proc q a.1 a.2.1
@[reducible] def good_checker_proc_T (q : Nat) : Alt [.leaf (.cell (.bool))] := ⟨[.cell (.ptr), .cell (.int .i64)], fun a => good_checker_proc q a.1 a.2.1⟩
def good_checker_proc_C (q : Nat) : Nat → Option Summary := orcL [(42, good_ways_S q), (43, good_checker_way_S q), (44, good_checker_uses_S q)]
theorem good_checker_proc_orc (q : Nat) : OrcSound Try.prog (good_checker_proc_C q) := (orc_cons (good_ways_sum q) (orc_cons (good_checker_way_sum q) (orc_cons (good_checker_uses_sum q) orc_nil)))
def good_checker_proc_A (q : Nat) : Ann (RPay [.leaf (.cell (.bool))]) :=
  .seq (.d) (.seq (.d) (.cut [.tmp 0 (.arg (.cell (.ptr))), .tmp 1 (.int .i64), .tmp 5 (.bp 5 0), .boxT 5 10] (.seq (.d) (.block (.loop [.tmp 0 (.arg (.cell (.ptr))), .tmp 1 (.int .i64), .tmp 5 (.bp 5 0), .tmp 21 (.lst), .tmp 22 (.int .i64), .tmp 23 (.int .i64), .boxT 5 10] (fun k p => good_checker_proc_l0 q k p.1 p.2.1 p.2.2.2.1 p.2.2.2.2.1 p.2.2.2.2.2.1 p.2.2.2.2.2.2.1) (.seq (.d) (.seq (.d) (.cut [.tmp 0 (.arg (.cell (.ptr))), .tmp 1 (.int .i64), .tmp 5 (.bp 5 0), .tmp 21 (.lst), .tmp 22 (.int .i64), .tmp 23 (.int .i64), .boxT 5 10] (.block (.seq (.d) (.seq (.d) (.block (.loop [.tmp 0 (.arg (.cell (.ptr))), .tmp 1 (.int .i64), .tmp 5 (.bp 5 0), .tmp 21 (.lst), .tmp 22 (.int .i64), .tmp 23 (.int .i64), .tmp 28 (.full 88), .tmp 29 (.int .i64), .tmp 30 (.int .i64), .row none 88 1, .boxT 5 10] (fun k p => good_checker_proc_l1 q k p.1 p.2.1 p.2.2.2.1 p.2.2.2.2.1 p.2.2.2.2.2.1 p.2.2.2.2.2.2.2.1 p.2.2.2.2.2.2.2.2.1 p.2.2.2.2.2.2.2.2.2.1 p.2.2.2.2.2.2.2.2.2.2.1) (.seq (.d) (.seq (.d) (.cut [.tmp 0 (.arg (.cell (.ptr))), .tmp 1 (.int .i64), .tmp 5 (.bp 5 0), .tmp 21 (.lst), .tmp 22 (.int .i64), .tmp 23 (.int .i64), .tmp 28 (.full 88), .tmp 29 (.int .i64), .tmp 30 (.int .i64), .row none 88 1, .boxT 5 10] (.block (.seq (.d) (.seq (.d) (.block (.loop [.tmp 0 (.arg (.cell (.ptr))), .tmp 1 (.int .i64), .tmp 5 (.bp 5 0), .tmp 21 (.lst), .tmp 22 (.int .i64), .tmp 23 (.int .i64), .tmp 28 (.full 88), .tmp 29 (.int .i64), .tmp 30 (.int .i64), .tmp 34 (.lst), .tmp 35 (.int .i64), .tmp 36 (.int .i64), .row none 88 1, .boxT 5 10] (fun k p => good_checker_proc_l2 q k p.1 p.2.1 p.2.2.2.1 p.2.2.2.2.1 p.2.2.2.2.2.1 p.2.2.2.2.2.2.2.1 p.2.2.2.2.2.2.2.2.1 p.2.2.2.2.2.2.2.2.2.1 p.2.2.2.2.2.2.2.2.2.2.1 p.2.2.2.2.2.2.2.2.2.2.2.1 p.2.2.2.2.2.2.2.2.2.2.2.2.1 p.2.2.2.2.2.2.2.2.2.2.2.2.2.1) (.d)))))) (.d))))))))) (.d))))))) (.d)))
theorem good_checker_proc_ok (q : Nat) : Ok Try.prog Try.f24.ntmps (good_checker_proc_C q) q (good_checker_proc_A q) (codeOf Try.f24) (fun _ => fnK Try.prog Try.f24 (List.map Rk.spec [.leaf (.cell (.bool))]) (decR [.leaf (.cell (.bool))])) := by
  have h : (Ok Try.prog Try.f24.ntmps (good_checker_proc_C q) q (good_checker_proc_A q) (codeOf Try.f24) (fun _ => fnK Try.prog Try.f24 (List.map Rk.spec [.leaf (.cell (.bool))]) (decR [.leaf (.cell (.bool))]))) = ((True) ∧ ((True) ∧ (((True) ∧ ((∀ p : T × Int × Unit × List T × Int × Int × T × Unit, good_checker_proc_l0 q 0 p.1 p.2.1 p.2.2.2.1 p.2.2.2.2.1 p.2.2.2.2.2.1 p.2.2.2.2.2.2.1 = none) ∧ ∀ n : Nat, (∀ p : T × Int × Unit × List T × Int × Int × T × Unit, good_checker_proc_l0 q (n + 1) p.1 p.2.1 p.2.2.2.1 p.2.2.2.2.1 p.2.2.2.2.2.1 p.2.2.2.2.2.2.1 = good_checker_proc_l0 q (n + 1) p.1 p.2.1 p.2.2.2.1 p.2.2.2.2.1 p.2.2.2.2.2.1 p.2.2.2.2.2.2.1) ∧ ((True) ∧ ((True) ∧ (((True) ∧ ((True) ∧ ((∀ p : T × Int × Unit × List T × Int × Int × Unit × Int × Int × List T × T × Unit, good_checker_proc_l1 q 0 p.1 p.2.1 p.2.2.2.1 p.2.2.2.2.1 p.2.2.2.2.2.1 p.2.2.2.2.2.2.2.1 p.2.2.2.2.2.2.2.2.1 p.2.2.2.2.2.2.2.2.2.1 p.2.2.2.2.2.2.2.2.2.2.1 = none) ∧ ∀ n : Nat, (∀ p : T × Int × Unit × List T × Int × Int × Unit × Int × Int × List T × T × Unit, good_checker_proc_l1 q (n + 1) p.1 p.2.1 p.2.2.2.1 p.2.2.2.2.1 p.2.2.2.2.2.1 p.2.2.2.2.2.2.2.1 p.2.2.2.2.2.2.2.2.1 p.2.2.2.2.2.2.2.2.2.1 p.2.2.2.2.2.2.2.2.2.2.1 = good_checker_proc_l1 q (n + 1) p.1 p.2.1 p.2.2.2.1 p.2.2.2.2.1 p.2.2.2.2.2.1 p.2.2.2.2.2.2.2.1 p.2.2.2.2.2.2.2.2.1 p.2.2.2.2.2.2.2.2.2.1 p.2.2.2.2.2.2.2.2.2.2.1) ∧ ((True) ∧ ((True) ∧ (((True) ∧ ((True) ∧ ((∀ p : T × Int × Unit × List T × Int × Int × Unit × Int × Int × List T × Int × Int × List T × T × Unit, good_checker_proc_l2 q 0 p.1 p.2.1 p.2.2.2.1 p.2.2.2.2.1 p.2.2.2.2.2.1 p.2.2.2.2.2.2.2.1 p.2.2.2.2.2.2.2.2.1 p.2.2.2.2.2.2.2.2.2.1 p.2.2.2.2.2.2.2.2.2.2.1 p.2.2.2.2.2.2.2.2.2.2.2.1 p.2.2.2.2.2.2.2.2.2.2.2.2.1 p.2.2.2.2.2.2.2.2.2.2.2.2.2.1 = none) ∧ ∀ n : Nat, (∀ p : T × Int × Unit × List T × Int × Int × Unit × Int × Int × List T × Int × Int × List T × T × Unit, good_checker_proc_l2 q (n + 1) p.1 p.2.1 p.2.2.2.1 p.2.2.2.2.1 p.2.2.2.2.2.1 p.2.2.2.2.2.2.2.1 p.2.2.2.2.2.2.2.2.1 p.2.2.2.2.2.2.2.2.2.1 p.2.2.2.2.2.2.2.2.2.2.1 p.2.2.2.2.2.2.2.2.2.2.2.1 p.2.2.2.2.2.2.2.2.2.2.2.2.1 p.2.2.2.2.2.2.2.2.2.2.2.2.2.1 = good_checker_proc_l2 q (n + 1) p.1 p.2.1 p.2.2.2.1 p.2.2.2.2.1 p.2.2.2.2.2.1 p.2.2.2.2.2.2.2.1 p.2.2.2.2.2.2.2.2.1 p.2.2.2.2.2.2.2.2.2.1 p.2.2.2.2.2.2.2.2.2.2.1 p.2.2.2.2.2.2.2.2.2.2.2.1 p.2.2.2.2.2.2.2.2.2.2.2.2.1 p.2.2.2.2.2.2.2.2.2.2.2.2.2.1) ∧ (True)))) ∧ (True))))))) ∧ (True)))))) ∧ (True)))) := by kernel_rfl
  exact h.mpr (⟨trivial, ⟨trivial, ⟨⟨trivial, ⟨fun _ => rfl, fun _ => ⟨fun _ => rfl, ⟨trivial, ⟨trivial, ⟨⟨trivial, ⟨trivial, ⟨fun _ => rfl, fun _ => ⟨fun _ => rfl, ⟨trivial, ⟨trivial, ⟨⟨trivial, ⟨trivial, ⟨fun _ => rfl, fun _ => ⟨fun _ => rfl, trivial⟩⟩⟩⟩, trivial⟩⟩⟩⟩⟩⟩⟩, trivial⟩⟩⟩⟩⟩⟩, trivial⟩⟩⟩)
theorem good_checker_proc_eq (q : Nat) (a : APay [.cell (.ptr), .cell (.int .i64)]) : evFn Try.prog (good_checker_proc_C q) q Try.f24 (List.map Rk.spec [.leaf (.cell (.bool))]) (RPay [.leaf (.cell (.bool))]) (good_checker_proc_A q) (encA [.cell (.ptr), .cell (.int .i64)] a) (decR [.leaf (.cell (.bool))]) = good_checker_proc q a.1 a.2.1 := by kernel_rfl
theorem good_checker_proc_sum (q : Nat) : SumSound Try.prog 24 (good_checker_proc_S q) :=
  sumK_sound (good_checker_proc_orc q) hmix (code := codeOf Try.f24) Try.func24 (by kernel_rfl) (by kernel_rfl) (by kernel_rfl) (by kernel_rfl) (good_checker_proc_ok q) (good_checker_proc_eq q)

/-! spinneret/good.Check -/
def good_Check_l0 (q : Nat) : Nat → (Int) → (List T) → (Int) → (Int) → (T) → ((T × T × T × T × T × T × T × Unit)) → Option ((Unit × Unit × Int × T × (T × T × T × T × T × T × T × Unit) × Unit) ⊕ (Int × Int × Int × Unit))
  | 0, _, _, _, _, _, _ => none
  | k + 1, x2, x3, x4, x5, x6, x7 =>
    if (decide (x5 < x4)) = true then (
    (rd x3 x5 10).bind fun v6 =>
    (T.part v6 0 10).bind fun v7 =>
    if T.width v7 = 10 then
    (T.part v7 0 10).bind fun v8 =>
    (good_frame q v8).bind fun v9 =>
    (if (!v9.1) = true then some true else (T.part v7 0 10).bind fun v10 =>
    (good_graph q v10).bind fun v11 =>
    some (!v11.1)).bind fun v12 =>
    (if v12 = true then some true else (T.asInt .i64 (T.leaf v7 9)).bind fun v13 =>
    some (decide (v13 < (-1 : Int)))).bind fun v14 =>
    (if v14 = true then some true else (T.asInt .i64 (T.leaf v7 9)).bind fun v15 =>
    (T.asLst (T.leaf x6 6)).bind fun v16 =>
    some (decide (v15 ≥ (v16.length : Int)))).bind fun v17 =>
    (if v17 = true then some true else (T.asInt .i64 (T.leaf x6 5)).bind fun v18 =>
    (if (x5 == v18) = true then (T.part v7 0 10).bind fun v19 =>
    (good_claimed q v19).bind fun v20 =>
    some (!v20.1) else some false).bind fun v21 =>
    some v21).bind fun v22 =>
    if v22 = true then (
    some (.inr ((40, 4, x5, ()))))
    else (
    (T.asInt .i64 (T.leaf v7 7)).bind fun v23 =>
    good_Check_l0 q k (IntKind.i64.wrap (x2 + v23)) x3 x4 (IntKind.i64.wrap (x5 + (1 : Int))) x6 (x7.1, x7.2.1, x7.2.2.1, x7.2.2.2.1, x7.2.2.2.2.1, x7.2.2.2.2.2.1, x7.2.2.2.2.2.2.1, ()))
    else none)
    else (
    some (.inl ((), (), x2, x6, (x7.1, x7.2.1, x7.2.2.1, x7.2.2.2.1, x7.2.2.2.2.1, x7.2.2.2.2.2.1, x7.2.2.2.2.2.2.1, ()), ())))
def good_Check_l1 (q : Nat) : Nat → (Int) → (Int) → ((T × T × T × T × T × T × T × Unit)) → Option ((Unit) ⊕ (Int × Int × Int × Unit))
  | 0, _, _, _ => none
  | k + 1, x1, x2, x3 =>
    if (decide (x2 < x1)) = true then (
    (good_checker_proc q (T.agg [x3.1, x3.2.1, x3.2.2.1, x3.2.2.2.1, x3.2.2.2.2.1, x3.2.2.2.2.2.1, x3.2.2.2.2.2.2.1]) x2).bind fun v26 =>
    if (!v26.1) = true then (
    some (.inr ((40, 6, x2, ()))))
    else (
    good_Check_l1 q k x1 (IntKind.i64.wrap (x2 + (1 : Int))) (x3.1, x3.2.1, x3.2.2.1, x3.2.2.2.1, x3.2.2.2.2.1, x3.2.2.2.2.2.1, x3.2.2.2.2.2.2.1, ())))
    else (
    some (.inl (())))
def good_Check (q : Nat) (a0 : T) : Option (Int × Int × Int × Unit) :=
  if T.width a0 = 7 then
  (T.part a0 0 7).bind fun v1 =>
  (T.aggN 7 v1).bind fun v2 =>
  (good_checker_tables q (T.agg [T.leaf v2 0, T.leaf v2 1, T.leaf v2 2, T.leaf v2 3, T.leaf v2 4, T.leaf v2 5, T.leaf v2 6])).bind fun v3 =>
  if (decide (v3.1 > (0 : Int))) = true then (
  some (40, v3.1, v3.2.1, ()))
  else (
  cutB ((T.asLst (T.leaf a0 4)).bind fun v5 =>
  good_Check_l0 q q 0 v5 (v5.length : Int) 0 a0 ((T.leaf v2 0), (T.leaf v2 1), (T.leaf v2 2), (T.leaf v2 3), (T.leaf v2 4), (T.leaf v2 5), (T.leaf v2 6), ())) fun p4 =>
  if (decide (p4.2.2.1 > (16 : Int))) = true then (
  some (40, 5, (-1), ()))
  else (
  cutB ((T.asLst (T.leaf p4.2.2.2.1 4)).bind fun v25 =>
  good_Check_l1 q q (v25.length : Int) 0 (p4.2.2.2.2.1.1, p4.2.2.2.2.1.2.1, p4.2.2.2.2.1.2.2.1, p4.2.2.2.2.1.2.2.2.1, p4.2.2.2.2.1.2.2.2.2.1, p4.2.2.2.2.1.2.2.2.2.2.1, p4.2.2.2.2.1.2.2.2.2.2.2.1, ())) fun p24 =>
  some (0, 0, 0, ())))
  else none
@[reducible] def good_Check_S (q : Nat) : Summary := sumK [.cell (.raw)] [.leaf (.cell (.int .i64)), .leaf (.cell (.int .i64)), .leaf (.cell (.int .i64))] fun a => good_Check q a.1
@[reducible] def good_Check_T (q : Nat) : Alt [.leaf (.cell (.int .i64)), .leaf (.cell (.int .i64)), .leaf (.cell (.int .i64))] := ⟨[.cell (.raw)], fun a => good_Check q a.1⟩
def good_Check_C (q : Nat) : Nat → Option Summary := orcL [(20, good_checker_tables_S q), (21, good_frame_S q), (22, good_graph_S q), (23, good_claimed_S q), (24, good_checker_proc_S q)]
theorem good_Check_orc (q : Nat) : OrcSound Try.prog (good_Check_C q) := (orc_cons (good_checker_tables_sum q) (orc_cons (good_frame_sum q) (orc_cons (good_graph_sum q) (orc_cons (good_claimed_sum q) (orc_cons (good_checker_proc_sum q) orc_nil)))))
def good_Check_A (q : Nat) : Ann (RPay [.leaf (.cell (.int .i64)), .leaf (.cell (.int .i64)), .leaf (.cell (.int .i64))]) :=
  .seq (.d) (.seq (.d) (.seq (.d) (.seq (.d) (.cut [.tmp 1 (.bp 1 0), .tmp 5 (.bp 14 0), .tmp 8 (.int .i64), .boxT 1 7, .box 14 [.raw, .raw, .raw, .raw, .raw, .raw, .raw]] (.seq (.d) (.block (.loop [.tmp 1 (.bp 1 0), .tmp 5 (.bp 14 0), .tmp 8 (.int .i64), .tmp 25 (.lst), .tmp 26 (.int .i64), .tmp 27 (.int .i64), .boxT 1 7, .box 14 [.raw, .raw, .raw, .raw, .raw, .raw, .raw]] (fun k p => good_Check_l0 q k p.2.2.1 p.2.2.2.1 p.2.2.2.2.1 p.2.2.2.2.2.1 p.2.2.2.2.2.2.1 p.2.2.2.2.2.2.2.1) (.d)))) (.seq (.d) (.cut [] (.seq (.d) (.block (.loop [.tmp 5 (.bp 14 0), .tmp 74 (.int .i64), .tmp 75 (.int .i64), .box 14 [.raw, .raw, .raw, .raw, .raw, .raw, .raw]] (fun k p => good_Check_l1 q k p.2.1 p.2.2.1 p.2.2.2.1) (.d)))) (.d)))))))
theorem good_Check_ok (q : Nat) : Ok Try.prog Try.f13.ntmps (good_Check_C q) q (good_Check_A q) (codeOf Try.f13) (fun _ => fnK Try.prog Try.f13 (List.map Rk.spec [.leaf (.cell (.int .i64)), .leaf (.cell (.int .i64)), .leaf (.cell (.int .i64))]) (decR [.leaf (.cell (.int .i64)), .leaf (.cell (.int .i64)), .leaf (.cell (.int .i64))])) := by
  have h : (Ok Try.prog Try.f13.ntmps (good_Check_C q) q (good_Check_A q) (codeOf Try.f13) (fun _ => fnK Try.prog Try.f13 (List.map Rk.spec [.leaf (.cell (.int .i64)), .leaf (.cell (.int .i64)), .leaf (.cell (.int .i64))]) (decR [.leaf (.cell (.int .i64)), .leaf (.cell (.int .i64)), .leaf (.cell (.int .i64))]))) = ((True) ∧ ((True) ∧ ((True) ∧ ((True) ∧ (((True) ∧ ((∀ p : Unit × Unit × Int × List T × Int × Int × T × (T × T × T × T × T × T × T × Unit) × Unit, good_Check_l0 q 0 p.2.2.1 p.2.2.2.1 p.2.2.2.2.1 p.2.2.2.2.2.1 p.2.2.2.2.2.2.1 p.2.2.2.2.2.2.2.1 = none) ∧ ∀ n : Nat, (∀ p : Unit × Unit × Int × List T × Int × Int × T × (T × T × T × T × T × T × T × Unit) × Unit, good_Check_l0 q (n + 1) p.2.2.1 p.2.2.2.1 p.2.2.2.2.1 p.2.2.2.2.2.1 p.2.2.2.2.2.2.1 p.2.2.2.2.2.2.2.1 = good_Check_l0 q (n + 1) p.2.2.1 p.2.2.2.1 p.2.2.2.2.1 p.2.2.2.2.2.1 p.2.2.2.2.2.2.1 p.2.2.2.2.2.2.2.1) ∧ (True))) ∧ ((True) ∧ (((True) ∧ ((∀ p : Unit × Int × Int × (T × T × T × T × T × T × T × Unit) × Unit, good_Check_l1 q 0 p.2.1 p.2.2.1 p.2.2.2.1 = none) ∧ ∀ n : Nat, (∀ p : Unit × Int × Int × (T × T × T × T × T × T × T × Unit) × Unit, good_Check_l1 q (n + 1) p.2.1 p.2.2.1 p.2.2.2.1 = good_Check_l1 q (n + 1) p.2.1 p.2.2.1 p.2.2.2.1) ∧ (True))) ∧ (True)))))))) := by kernel_rfl
  exact h.mpr (⟨trivial, ⟨trivial, ⟨trivial, ⟨trivial, ⟨⟨trivial, ⟨fun _ => rfl, fun _ => ⟨fun _ => rfl, trivial⟩⟩⟩, ⟨trivial, ⟨⟨trivial, ⟨fun _ => rfl, fun _ => ⟨fun _ => rfl, trivial⟩⟩⟩, trivial⟩⟩⟩⟩⟩⟩⟩)
theorem good_Check_eq (q : Nat) (a : APay [.cell (.raw)]) : evFn Try.prog (good_Check_C q) q Try.f13 (List.map Rk.spec [.leaf (.cell (.int .i64)), .leaf (.cell (.int .i64)), .leaf (.cell (.int .i64))]) (RPay [.leaf (.cell (.int .i64)), .leaf (.cell (.int .i64)), .leaf (.cell (.int .i64))]) (good_Check_A q) (encA [.cell (.raw)] a) (decR [.leaf (.cell (.int .i64)), .leaf (.cell (.int .i64)), .leaf (.cell (.int .i64))]) = good_Check q a.1 := by kernel_rfl
theorem good_Check_sum (q : Nat) : SumSound Try.prog 13 (good_Check_S q) :=
  sumK_sound (good_Check_orc q) hmix (code := codeOf Try.f13) Try.func13 (by kernel_rfl) (by kernel_rfl) (by kernel_rfl) (by kernel_rfl) (good_Check_ok q) (good_Check_eq q)

/-! spinneret/spinneretlaw11.small -/
def law11_small (q : Nat) : Option ((List T × List T × List T × List T × List T × Int × List T × Unit) × Unit) :=
  some ((([]), ([]), ([]), ([]), ([T.agg [T.str emp, T.int .i64 (0 : Int), T.lst ([]), T.lst ([]), T.lst ([T.agg [T.lst ([]), T.lst ([]), T.bool false, T.bool false, T.bool false, T.bool false, T.bool false]]), T.int .i64 (0 : Int), T.int .i64 (0 : Int), T.int .i64 (0 : Int), T.int .i64 (1 : Int), T.int .i64 (-1 : Int)]]), (-1), ([]), ()), ())
@[reducible] def law11_small_S (q : Nat) : Summary := sumK [] [.agg [.cell (.lst), .cell (.lst), .cell (.lst), .cell (.lst), .own 10, .cell (.int .i64), .cell (.lst)]] fun a => law11_small q 
@[reducible] def law11_small_T (q : Nat) : Alt [.agg [.cell (.lst), .cell (.lst), .cell (.lst), .cell (.lst), .own 10, .cell (.int .i64), .cell (.lst)]] := ⟨[], fun a => law11_small q ⟩
def law11_small_C (q : Nat) : Nat → Option Summary := orcL []
theorem law11_small_orc (q : Nat) : OrcSound Try.prog (law11_small_C q) := orc_nil
def law11_small_A (q : Nat) : Ann (RPay [.agg [.cell (.lst), .cell (.lst), .cell (.lst), .cell (.lst), .own 10, .cell (.int .i64), .cell (.lst)]]) :=
  .d
theorem law11_small_ok (q : Nat) : Ok Try.prog Try.f19.ntmps (law11_small_C q) q (law11_small_A q) (codeOf Try.f19) (fun _ => fnK Try.prog Try.f19 (List.map Rk.spec [.agg [.cell (.lst), .cell (.lst), .cell (.lst), .cell (.lst), .own 10, .cell (.int .i64), .cell (.lst)]]) (decR [.agg [.cell (.lst), .cell (.lst), .cell (.lst), .cell (.lst), .own 10, .cell (.int .i64), .cell (.lst)]])) := by
  have h : (Ok Try.prog Try.f19.ntmps (law11_small_C q) q (law11_small_A q) (codeOf Try.f19) (fun _ => fnK Try.prog Try.f19 (List.map Rk.spec [.agg [.cell (.lst), .cell (.lst), .cell (.lst), .cell (.lst), .own 10, .cell (.int .i64), .cell (.lst)]]) (decR [.agg [.cell (.lst), .cell (.lst), .cell (.lst), .cell (.lst), .own 10, .cell (.int .i64), .cell (.lst)]]))) = (True) := by kernel_rfl
  exact h.mpr (trivial)
theorem law11_small_eq (q : Nat) (a : APay []) : evFn Try.prog (law11_small_C q) q Try.f19 (List.map Rk.spec [.agg [.cell (.lst), .cell (.lst), .cell (.lst), .cell (.lst), .own 10, .cell (.int .i64), .cell (.lst)]]) (RPay [.agg [.cell (.lst), .cell (.lst), .cell (.lst), .cell (.lst), .own 10, .cell (.int .i64), .cell (.lst)]]) (law11_small_A q) (encA [] a) (decR [.agg [.cell (.lst), .cell (.lst), .cell (.lst), .cell (.lst), .own 10, .cell (.int .i64), .cell (.lst)]]) = law11_small q  := by kernel_rfl
theorem law11_small_sum (q : Nat) : SumSound Try.prog 19 (law11_small_S q) :=
  sumK_sound (law11_small_orc q) hmix (code := codeOf Try.f19) Try.func19 (by kernel_rfl) (by kernel_rfl) (by kernel_rfl) (by kernel_rfl) (law11_small_ok q) (law11_small_eq q)

/-! spinneret/spinneretlaw11.shown -/
def law11_shown (q : Nat) : Option (Bool × Unit) :=
  (good_Check q (T.agg [T.lst ([]), T.lst ([]), T.lst ([]), T.lst ([]), T.lst ([]), T.int .i64 (0 : Int), T.lst ([])])).bind fun v1 =>
  (law11_small q).bind fun v2 =>
  (good_Check q (T.agg [T.lst v2.1.1, T.lst v2.1.2.1, T.lst v2.1.2.2.1, T.lst v2.1.2.2.2.1, T.lst v2.1.2.2.2.2.1, T.int .i64 v2.1.2.2.2.2.2.1, T.lst v2.1.2.2.2.2.2.2.1])).bind fun v3 =>
  (law11_small q).bind fun v4 =>
  if 0 ≤ (0 : Int) ∧ (0 : Int) < v4.1.2.2.2.2.1.length then
  (v4.1.2.2.2.2.1[0]?).bind fun v5 =>
  (good_Check q (T.agg [T.lst v4.1.1, T.lst v4.1.2.1, T.lst v4.1.2.2.1, T.lst v4.1.2.2.2.1, T.lst (List.set v4.1.2.2.2.2.1 0 (T.setLeaf v5 8 (T.int .i64 (0 : Int)))), T.int .i64 v4.1.2.2.2.2.2.1, T.lst v4.1.2.2.2.2.2.2.1])).bind fun v6 =>
  (good_Fits q (T.agg [T.int .i64 (8 : Int), T.bool false]) 255).bind fun v7 =>
  (good_Fits q (T.agg [T.int .i64 (8 : Int), T.bool false]) 256).bind fun v8 =>
  (good_Fits q (T.agg [T.int .i64 (16 : Int), T.bool true]) (-32768)).bind fun v9 =>
  (good_Reach q (T.agg [T.int .i64 (0 : Int), T.int .i64 (2 : Int), T.int .i64 (0 : Int), T.int .i64 (0 : Int), T.lst ([T.agg [T.int .i64 (0 : Int), T.int .i64 (3 : Int), T.int .i64 (2 : Int)]])])).bind fun v10 =>
  (if (v1.1 == (40 : Int)) = true then some (v1.2.1 == (3 : Int)) else some false).bind fun v11 =>
  (if v11 = true then some (v1.2.2.1 == (-1 : Int)) else some false).bind fun v12 =>
  (if v12 = true then some (v3.1 == (0 : Int)) else some false).bind fun v13 =>
  (if v13 = true then some (v3.2.1 == (0 : Int)) else some false).bind fun v14 =>
  (if v14 = true then some (v3.2.2.1 == (0 : Int)) else some false).bind fun v15 =>
  (if v15 = true then some (v6.1 == (40 : Int)) else some false).bind fun v16 =>
  (if v16 = true then some (v6.2.1 == (4 : Int)) else some false).bind fun v17 =>
  (if v17 = true then some (v6.2.2.1 == (0 : Int)) else some false).bind fun v18 =>
  (if v18 = true then some v7.1 else some false).bind fun v19 =>
  (if v19 = true then some (!v8.1) else some false).bind fun v20 =>
  (if v20 = true then some v9.1 else some false).bind fun v21 =>
  (if v21 = true then some (v10.1 == (7 : Int)) else some false).bind fun v22 =>
  some (v22, ())
  else none
@[reducible] def law11_shown_S (q : Nat) : Summary := sumK [] [.leaf (.cell (.bool))] fun a => law11_shown q 
@[reducible] def law11_shown_T (q : Nat) : Alt [.leaf (.cell (.bool))] := ⟨[], fun a => law11_shown q ⟩
def law11_shown_C (q : Nat) : Nat → Option Summary := orcL [(13, good_Check_S q), (19, law11_small_S q), (9, good_Fits_S q), (11, good_Reach_S q)]
theorem law11_shown_orc (q : Nat) : OrcSound Try.prog (law11_shown_C q) := (orc_cons (good_Check_sum q) (orc_cons (law11_small_sum q) (orc_cons (good_Fits_sum q) (orc_cons (good_Reach_sum q) orc_nil))))
def law11_shown_A (q : Nat) : Ann (RPay [.leaf (.cell (.bool))]) :=
  .d
theorem law11_shown_ok (q : Nat) : Ok Try.prog Try.f6.ntmps (law11_shown_C q) q (law11_shown_A q) (codeOf Try.f6) (fun _ => fnK Try.prog Try.f6 (List.map Rk.spec [.leaf (.cell (.bool))]) (decR [.leaf (.cell (.bool))])) := by
  have h : (Ok Try.prog Try.f6.ntmps (law11_shown_C q) q (law11_shown_A q) (codeOf Try.f6) (fun _ => fnK Try.prog Try.f6 (List.map Rk.spec [.leaf (.cell (.bool))]) (decR [.leaf (.cell (.bool))]))) = (True) := by kernel_rfl
  exact h.mpr (trivial)
theorem law11_shown_eq (q : Nat) (a : APay []) : evFn Try.prog (law11_shown_C q) q Try.f6 (List.map Rk.spec [.leaf (.cell (.bool))]) (RPay [.leaf (.cell (.bool))]) (law11_shown_A q) (encA [] a) (decR [.leaf (.cell (.bool))]) = law11_shown q  := by kernel_rfl
theorem law11_shown_sum (q : Nat) : SumSound Try.prog 6 (law11_shown_S q) :=
  sumK_sound (law11_shown_orc q) hmix (code := codeOf Try.f6) Try.func6 (by kernel_rfl) (by kernel_rfl) (by kernel_rfl) (by kernel_rfl) (law11_shown_ok q) (law11_shown_eq q)

/-! spinneret/spinneretlaw11.GoodStill -/
def law11_GoodStill (q : Nat) (a0 : T) : Option (Bool × Unit) :=
  if T.width a0 = 7 then
  (law11_shown q).bind fun v1 =>
  (T.part a0 0 7).bind fun v2 =>
  (good_Check q v2).bind fun v3 =>
  (T.part a0 0 7).bind fun v4 =>
  (good_Check q v4).bind fun v5 =>
  (if v1.1 = true then some (v3.1 == v5.1) else some false).bind fun v6 =>
  (if v6 = true then some (v3.2.1 == v5.2.1) else some false).bind fun v7 =>
  (if v7 = true then some (v3.2.2.1 == v5.2.2.1) else some false).bind fun v8 =>
  (if v8 = true then (if (v3.1 == (0 : Int)) = true then some true else some (v3.1 == (40 : Int))).bind fun v9 =>
  some v9 else some false).bind fun v10 =>
  (if v10 = true then (if (v3.1 != (0 : Int)) = true then some true else (if (v3.2.1 == (0 : Int)) = true then some (v3.2.2.1 == (0 : Int)) else some false).bind fun v11 =>
  some v11).bind fun v12 =>
  some v12 else some false).bind fun v13 =>
  some (v13, ())
  else none
@[reducible] def law11_GoodStill_S (q : Nat) : Summary := sumK [.cell (.raw)] [.leaf (.cell (.bool))] fun a => law11_GoodStill q a.1
@[reducible] def law11_GoodStill_T (q : Nat) : Alt [.leaf (.cell (.bool))] := ⟨[.cell (.raw)], fun a => law11_GoodStill q a.1⟩
def law11_GoodStill_C (q : Nat) : Nat → Option Summary := orcL [(6, law11_shown_S q), (13, good_Check_S q)]
theorem law11_GoodStill_orc (q : Nat) : OrcSound Try.prog (law11_GoodStill_C q) := (orc_cons (law11_shown_sum q) (orc_cons (good_Check_sum q) orc_nil))
def law11_GoodStill_A (q : Nat) : Ann (RPay [.leaf (.cell (.bool))]) :=
  .d
theorem law11_GoodStill_ok (q : Nat) : Ok Try.prog Try.f4.ntmps (law11_GoodStill_C q) q (law11_GoodStill_A q) (codeOf Try.f4) (fun _ => fnK Try.prog Try.f4 (List.map Rk.spec [.leaf (.cell (.bool))]) (decR [.leaf (.cell (.bool))])) := by
  have h : (Ok Try.prog Try.f4.ntmps (law11_GoodStill_C q) q (law11_GoodStill_A q) (codeOf Try.f4) (fun _ => fnK Try.prog Try.f4 (List.map Rk.spec [.leaf (.cell (.bool))]) (decR [.leaf (.cell (.bool))]))) = (True) := by kernel_rfl
  exact h.mpr (trivial)
theorem law11_GoodStill_eq (q : Nat) (a : APay [.cell (.raw)]) : evFn Try.prog (law11_GoodStill_C q) q Try.f4 (List.map Rk.spec [.leaf (.cell (.bool))]) (RPay [.leaf (.cell (.bool))]) (law11_GoodStill_A q) (encA [.cell (.raw)] a) (decR [.leaf (.cell (.bool))]) = law11_GoodStill q a.1 := by kernel_rfl
theorem law11_GoodStill_sum (q : Nat) : SumSound Try.prog 4 (law11_GoodStill_S q) :=
  sumK_sound (law11_GoodStill_orc q) hmix (code := codeOf Try.f4) Try.func4 (by kernel_rfl) (by kernel_rfl) (by kernel_rfl) (by kernel_rfl) (law11_GoodStill_ok q) (law11_GoodStill_eq q)

end Go.Ax
