/- The functions that the law reaches, part 0: what each computes, and that it does: printed by a program of this claim. -/
import Derived.Test.YtcpcbmebpmokbaaDoorTrailBackLib
import Derived.Test.YtcpcbmebpmokbaaDoorProg
import Derived.KernelRfl
set_option linter.unusedVariables false
set_option maxRecDepth 1000000
namespace Go.Ax
open Go Go.Proofs
theorem hmix : Tryd.prog.follows .mixedOrders = true := by kernel_rfl
/-! spinneret/trail.line -/
def trail_line_l0 (q : Nat) : Nat → (ByteArray) → (List T) → (Int) → (Int) → Option ((ByteArray × Unit) ⊕ (ByteArray × Unit))
  | 0, _, _, _, _ => none
  | k + 1, x0, x1, x2, x3 =>
    if (decide (x3 < x2)) = true then (
    (rd x1 x3 1).bind fun v2 =>
    (T.asInt .i64 (T.leaf v2 0)).bind fun v3 =>
    (lib_strconv_Itoa q v3).bind fun v4 =>
    if (ByteArray.mk #[32]).size + v4.1.size ≤ 9223372036854775807 then
    if x0.size + ((ByteArray.mk #[32]) ++ v4.1).size ≤ 9223372036854775807 then
    trail_line_l0 q k (x0 ++ ((ByteArray.mk #[32]) ++ v4.1)) x1 x2 (IntKind.i64.wrap (x3 + (1 : Int)))
    else none
    else none)
    else (
    some (.inl (x0, ())))
def trail_line (q : Nat) (a0 : ByteArray) (a1 : List T) : Option (ByteArray × Unit) :=
  cutB (trail_line_l0 q q a0 a1 (a1.length : Int) 0) fun p1 =>
  if p1.1.size + (ByteArray.mk #[10]).size ≤ 9223372036854775807 then
  some ((p1.1 ++ (ByteArray.mk #[10])), ())
  else none
@[reducible] def trail_line_S (q : Nat) : Summary := sumK [.cell (.str), .cell (.lst)] [.leaf (.cell (.str))] fun a => trail_line q a.1 a.2.1
@[reducible] def trail_line_T (q : Nat) : Alt [.leaf (.cell (.str))] := ⟨[.cell (.str), .cell (.lst)], fun a => trail_line q a.1 a.2.1⟩
def trail_line_C (q : Nat) : Nat → Option Summary := orcL [(20, lib_strconv_Itoa_S q)]
theorem trail_line_orc {G : World} (hG : GOk G) (q : Nat) : OrcSound Tryd.prog G (trail_line_C q) := (orc_cons (lib_strconv_Itoa_sum hG q) orc_nil)
def trail_line_A (q : Nat) : Ann (RPay [.leaf (.cell (.str))]) :=
  .seq (.d) (.cut [.tmp 0 (.str)] (.seq (.d) (.block (.loop [.tmp 0 (.str), .tmp 7 (.lst), .tmp 8 (.int .i64), .tmp 9 (.int .i64)] (fun k p => trail_line_l0 q k p.1 p.2.1 p.2.2.1 p.2.2.2.1) (.d)))) (.d))
theorem trail_line_ok (q : Nat) : Ok Tryd.prog Tryd.f12.ntmps (trail_line_C q) q (trail_line_A q) (codeOf Tryd.f12) (fun _ => fnK Tryd.prog Tryd.f12 (List.map Rk.spec [.leaf (.cell (.str))]) (decR [.leaf (.cell (.str))])) := by
  have h : (Ok Tryd.prog Tryd.f12.ntmps (trail_line_C q) q (trail_line_A q) (codeOf Tryd.f12) (fun _ => fnK Tryd.prog Tryd.f12 (List.map Rk.spec [.leaf (.cell (.str))]) (decR [.leaf (.cell (.str))]))) = ((True) ∧ (((True) ∧ ((∀ p : ByteArray × List T × Int × Int × Unit, trail_line_l0 q 0 p.1 p.2.1 p.2.2.1 p.2.2.2.1 = none) ∧ ∀ n : Nat, (∀ p : ByteArray × List T × Int × Int × Unit, trail_line_l0 q (n + 1) p.1 p.2.1 p.2.2.1 p.2.2.2.1 = trail_line_l0 q (n + 1) p.1 p.2.1 p.2.2.1 p.2.2.2.1) ∧ (True))) ∧ (True))) := by kernel_rfl
  exact h.mpr (⟨trivial, ⟨⟨trivial, ⟨fun _ => rfl, fun _ => ⟨fun _ => rfl, trivial⟩⟩⟩, trivial⟩⟩)
theorem trail_line_eq (q : Nat) (a : APay [.cell (.str), .cell (.lst)]) : evFn Tryd.prog (trail_line_C q) q Tryd.f12 (List.map Rk.spec [.leaf (.cell (.str))]) (RPay [.leaf (.cell (.str))]) (trail_line_A q) (encA [.cell (.str), .cell (.lst)] a) (decR [.leaf (.cell (.str))]) = trail_line q a.1 a.2.1 := by kernel_rfl
theorem trail_line_sum {G : World} (hG : GOk G) (q : Nat) : SumSound Tryd.prog G 12 (trail_line_S q) :=
  sumK_sound (trail_line_orc hG q) hmix (code := codeOf Tryd.f12) Tryd.func12 (by kernel_rfl) (by kernel_rfl) (by kernel_rfl) (by kernel_rfl) (trail_line_ok q) (trail_line_eq q)

/-! (*strings.Builder).WriteString: writes what it is handed -/
def strings_Builder_WriteString_w (q : Nat) (a1 : ByteArray) (a2 : List T) (a3 : (Unit × Unit × Unit)) : Option (Int × T × List T × (Unit × Unit × Unit) × Unit) :=
  (chk (List.map (fun b => T.int .u8 b.toNat) a1.data.toList) 1).bind fun v1 =>
  if fitsB (a2.length + v1.length) 1 = true then
  some ((a1.size : Int), T.ni, (a2 ++ v1), ((), (), ()), ())
  else none
@[reducible] def strings_Builder_WriteString_w_I : List It := [.tmp 0 (.bp 2000000 0), .tmp 1 (.str), .row none 2000001 1, .box 2000000 [.sp 2000000 40, .fb 2000001 5]]
@[reducible] def strings_Builder_WriteString_w_O : List It := [.tmp 0 (.int .i64), .tmp 1 (.raw), .row (some (.leaf 2000000 1)) 2000001 1, .box 2000000 [.sp 2000000 40, .fb 2000001 5]]
@[reducible] def strings_Builder_WriteString_w_S (q : Nat) : Summary := sumW 2 strings_Builder_WriteString_w_I strings_Builder_WriteString_w_O 2 fun a => strings_Builder_WriteString_w q a.2.1 a.2.2.1 a.2.2.2.1
def strings_Builder_WriteString_w_C (q : Nat) : Nat → Option Summary := orcL [(19, hand19_S)]
theorem strings_Builder_WriteString_w_orc {G : World} (hG : GOk G) (q : Nat) : OrcSound Tryd.prog G (strings_Builder_WriteString_w_C q) := (orc_cons (hand19_sum hG) orc_nil)
def strings_Builder_WriteString_w_A (q : Nat) : Ann (Pay strings_Builder_WriteString_w_O) :=
  .d
theorem strings_Builder_WriteString_w_ok (q : Nat) : Ok Tryd.prog Tryd.f11.ntmps (strings_Builder_WriteString_w_C q) q (strings_Builder_WriteString_w_A q) (codeOf Tryd.f11) (fun _ => fnKM Tryd.prog Tryd.f11 [false, false] strings_Builder_WriteString_w_O some) := by
  have h : (Ok Tryd.prog Tryd.f11.ntmps (strings_Builder_WriteString_w_C q) q (strings_Builder_WriteString_w_A q) (codeOf Tryd.f11) (fun _ => fnKM Tryd.prog Tryd.f11 [false, false] strings_Builder_WriteString_w_O some)) = (True) := by kernel_rfl
  exact h.mpr (trivial)
theorem strings_Builder_WriteString_w_eq (q : Nat) (a : Pay strings_Builder_WriteString_w_I) : evFnM Tryd.prog (strings_Builder_WriteString_w_C q) q Tryd.f11 [false, false] strings_Builder_WriteString_w_O (Pay strings_Builder_WriteString_w_O) (strings_Builder_WriteString_w_A q) (inSh strings_Builder_WriteString_w_I a) some = strings_Builder_WriteString_w q a.2.1 a.2.2.1 a.2.2.2.1 := by kernel_rfl
theorem strings_Builder_WriteString_w_sum {G : World} (hG : GOk G) (q : Nat) : SumSound Tryd.prog G 11 (strings_Builder_WriteString_w_S q) :=
  sumW_sound (strings_Builder_WriteString_w_orc hG q) hmix (code := codeOf Tryd.f11) Tryd.func11 (by kernel_rfl) (by kernel_rfl) (by kernel_rfl) (by kernel_rfl) (by kernel_rfl) (strings_Builder_WriteString_w_ok q) (strings_Builder_WriteString_w_eq q)

/-! spinneret/trail.Print -/
def trail_Print_l0 (q : Nat) : Nat → (List T) → (Int) → (Int) → (List T) → (T) → ((Unit × Unit × Unit)) → Option ((Unit × List T × (Unit × Unit × Unit) × Unit) ⊕ (ByteArray × Int × Unit))
  | 0, _, _, _, _, _, _ => none
  | k + 1, x2, x3, x4, x5, x6, x7 =>
    if (decide (x4 < x3)) = true then (
    (rd x2 x4 7).bind fun v19 =>
    (T.part v19 0 7).bind fun v20 =>
    if T.width v20 = 7 then
    cutB ((T.asInt .i64 (T.leaf x6 5)).bind fun v22 =>
    if (x4 == v22) = true then (
    (strings_Builder_WriteString_w q (ByteArray.mk #[99, 121, 99, 108, 101, 10]) x5 ((), (), ())).bind fun v23 =>
    some (.inl ((), (), (), x2, x3, x4, v23.2.2.1, x6, ((), (), ()), v20, ())))
    else (
    some (.inl ((), (), (), x2, x3, x4, x5, x6, ((), (), ()), v20, ())))) fun p21 =>
    (T.asInt .i64 (T.leaf p21.2.2.2.2.2.2.2.2.2.1 0)).bind fun v24 =>
    (T.asInt .i64 (T.leaf p21.2.2.2.2.2.2.2.2.2.1 1)).bind fun v25 =>
    (T.asInt .i64 (T.leaf p21.2.2.2.2.2.2.2.2.2.1 2)).bind fun v26 =>
    (T.asInt .i64 (T.leaf p21.2.2.2.2.2.2.2.2.2.1 3)).bind fun v27 =>
    (T.asInt .i64 (T.leaf p21.2.2.2.2.2.2.2.2.2.1 4)).bind fun v28 =>
    (T.asInt .i64 (T.leaf p21.2.2.2.2.2.2.2.2.2.1 5)).bind fun v29 =>
    (T.asInt .i64 (T.leaf p21.2.2.2.2.2.2.2.2.2.1 6)).bind fun v30 =>
    (trail_line q (ByteArray.mk #[109, 111, 118, 101]) ([T.int .i64 v24, T.int .i64 v25, T.int .i64 v26, T.int .i64 v27, T.int .i64 v28, T.int .i64 v29, T.int .i64 v30])).bind fun v31 =>
    (strings_Builder_WriteString_w q v31.1 p21.2.2.2.2.2.2.1 ((), (), ())).bind fun v32 =>
    trail_Print_l0 q k p21.2.2.2.1 p21.2.2.2.2.1 (IntKind.i64.wrap (p21.2.2.2.2.2.1 + (1 : Int))) v32.2.2.1 p21.2.2.2.2.2.2.2.1 ((), (), ())
    else none)
    else (
    some (.inl ((), x5, ((), (), ()), ())))
def trail_Print (q : Nat) (a0 : T) : Option (ByteArray × Int × Unit) :=
  if T.width a0 = 8 then
  (T.asInt .i64 (T.leaf a0 0)).bind fun v1 =>
  (if (decide (v1 < (1 : Int))) = true then some true else (T.asInt .i64 (T.leaf a0 0)).bind fun v2 =>
  some (decide (v2 > (4 : Int)))).bind fun v3 =>
  (if v3 = true then some true else (T.asInt .i64 (T.leaf a0 5)).bind fun v4 =>
  some (decide (v4 < (-1 : Int)))).bind fun v5 =>
  (if v5 = true then some true else (T.asInt .i64 (T.leaf a0 5)).bind fun v6 =>
  (T.asLst (T.leaf a0 4)).bind fun v7 =>
  some (decide (v6 ≥ (v7.length : Int)))).bind fun v8 =>
  if v8 = true then (
  some (emp, 42, ()))
  else (
  (T.asInt .i64 (T.leaf a0 0)).bind fun v9 =>
  (T.asInt .i64 (T.leaf a0 1)).bind fun v10 =>
  (T.asInt .i64 (T.leaf a0 2)).bind fun v11 =>
  (T.asInt .i64 (T.leaf a0 3)).bind fun v12 =>
  (T.asInt .i64 (T.leaf a0 6)).bind fun v13 =>
  (T.asInt .i64 (T.leaf a0 7)).bind fun v14 =>
  (trail_line q (ByteArray.mk #[102, 111, 117, 110, 100]) ([T.int .i64 v9, T.int .i64 v10, T.int .i64 v11, T.int .i64 v12, T.int .i64 v13, T.int .i64 v14])).bind fun v15 =>
  (strings_Builder_WriteString_w q v15.1 [] ((), (), ())).bind fun v16 =>
  cutB ((T.asLst (T.leaf a0 4)).bind fun v18 =>
  trail_Print_l0 q q v18 (v18.length : Int) 0 v16.2.2.1 a0 ((), (), ())) fun p17 =>
  (bldStr p17.2.1).bind fun v33 =>
  some (v33, 0, ()))
  else none
@[reducible] def trail_Print_S (q : Nat) : Summary := sumK [.cell (.raw)] [.leaf (.cell (.str)), .leaf (.cell (.int .i64))] fun a => trail_Print q a.1
@[reducible] def trail_Print_T (q : Nat) : Alt [.leaf (.cell (.str)), .leaf (.cell (.int .i64))] := ⟨[.cell (.raw)], fun a => trail_Print q a.1⟩
def trail_Print_C (q : Nat) : Nat → Option Summary := orcL [(12, trail_line_S q), (11, strings_Builder_WriteString_w_S q), (13, hand13_S)]
theorem trail_Print_orc {G : World} (hG : GOk G) (q : Nat) : OrcSound Tryd.prog G (trail_Print_C q) := (orc_cons (trail_line_sum hG q) (orc_cons (strings_Builder_WriteString_w_sum hG q) (orc_cons (hand13_sum hG) orc_nil)))
def trail_Print_A (q : Nat) : Ann (RPay [.leaf (.cell (.str)), .leaf (.cell (.int .i64))]) :=
  .seq (.d) (.seq (.d) (.seq (.d) (.seq (.d) (.cut [.tmp 4 (.bp 4 0), .row none 117 1, .box 4 [.sp 4 40, .fb 117 5]] (.seq (.d) (.block (.loop [.tmp 1 (.bp 1 0), .tmp 4 (.bp 4 0), .tmp 44 (.lst), .tmp 45 (.int .i64), .tmp 46 (.int .i64), .row none 117 1, .boxT 1 8, .box 4 [.sp 4 40, .fb 117 5]] (fun k p => trail_Print_l0 q k p.2.2.1 p.2.2.2.1 p.2.2.2.2.1 p.2.2.2.2.2.1 p.2.2.2.2.2.2.1 p.2.2.2.2.2.2.2.1) (.seq (.d) (.seq (.d) (.seq (.block (.seq (.d) (.cut [.tmp 1 (.bp 1 0), .tmp 4 (.bp 4 0), .tmp 6 (.bp 6 0), .tmp 44 (.lst), .tmp 45 (.int .i64), .tmp 46 (.int .i64), .row none 117 1, .boxT 1 8, .box 4 [.sp 4 40, .fb 117 5], .boxT 6 7] (.d) (.d)))) (.d))))))) (.d)))))
theorem trail_Print_ok (q : Nat) : Ok Tryd.prog Tryd.f6.ntmps (trail_Print_C q) q (trail_Print_A q) (codeOf Tryd.f6) (fun _ => fnK Tryd.prog Tryd.f6 (List.map Rk.spec [.leaf (.cell (.str)), .leaf (.cell (.int .i64))]) (decR [.leaf (.cell (.str)), .leaf (.cell (.int .i64))])) := by
  have h : (Ok Tryd.prog Tryd.f6.ntmps (trail_Print_C q) q (trail_Print_A q) (codeOf Tryd.f6) (fun _ => fnK Tryd.prog Tryd.f6 (List.map Rk.spec [.leaf (.cell (.str)), .leaf (.cell (.int .i64))]) (decR [.leaf (.cell (.str)), .leaf (.cell (.int .i64))]))) = ((True) ∧ ((True) ∧ ((True) ∧ ((True) ∧ (((True) ∧ ((∀ p : Unit × Unit × List T × Int × Int × List T × T × (Unit × Unit × Unit) × Unit, trail_Print_l0 q 0 p.2.2.1 p.2.2.2.1 p.2.2.2.2.1 p.2.2.2.2.2.1 p.2.2.2.2.2.2.1 p.2.2.2.2.2.2.2.1 = none) ∧ ∀ n : Nat, (∀ p : Unit × Unit × List T × Int × Int × List T × T × (Unit × Unit × Unit) × Unit, trail_Print_l0 q (n + 1) p.2.2.1 p.2.2.2.1 p.2.2.2.2.1 p.2.2.2.2.2.1 p.2.2.2.2.2.2.1 p.2.2.2.2.2.2.2.1 = trail_Print_l0 q (n + 1) p.2.2.1 p.2.2.2.1 p.2.2.2.2.1 p.2.2.2.2.2.1 p.2.2.2.2.2.2.1 p.2.2.2.2.2.2.2.1) ∧ ((True) ∧ ((True) ∧ (((True) ∧ ((True) ∧ (True))) ∧ (True)))))) ∧ (True)))))) := by kernel_rfl
  exact h.mpr (⟨trivial, ⟨trivial, ⟨trivial, ⟨trivial, ⟨⟨trivial, ⟨fun _ => rfl, fun _ => ⟨fun _ => rfl, ⟨trivial, ⟨trivial, ⟨⟨trivial, ⟨trivial, trivial⟩⟩, trivial⟩⟩⟩⟩⟩⟩, trivial⟩⟩⟩⟩⟩)
theorem trail_Print_eq (q : Nat) (a : APay [.cell (.raw)]) : evFn Tryd.prog (trail_Print_C q) q Tryd.f6 (List.map Rk.spec [.leaf (.cell (.str)), .leaf (.cell (.int .i64))]) (RPay [.leaf (.cell (.str)), .leaf (.cell (.int .i64))]) (trail_Print_A q) (encA [.cell (.raw)] a) (decR [.leaf (.cell (.str)), .leaf (.cell (.int .i64))]) = trail_Print q a.1 := by kernel_rfl
theorem trail_Print_sum {G : World} (hG : GOk G) (q : Nat) : SumSound Tryd.prog G 6 (trail_Print_S q) :=
  sumK_sound (trail_Print_orc hG q) hmix (code := codeOf Tryd.f6) Tryd.func6 (by kernel_rfl) (by kernel_rfl) (by kernel_rfl) (by kernel_rfl) (trail_Print_ok q) (trail_Print_eq q)

/-! spinneret/trail.numbers -/
def trail_numbers_l0 (q : Nat) : Nat → (List T) → (Int) → (Int) → (List T) → Option ((Unit × List T × Unit) ⊕ (List T × Bool × Unit))
  | 0, _, _, _, _ => none
  | k + 1, x1, x2, x3, x4 =>
    if (decide (x3 < x2)) = true then (
    (rd x1 x3 1).bind fun v7 =>
    (T.asStr (T.leaf v7 0)).bind fun v8 =>
    (lib_strconv_ParseInt q v8 10 64).bind fun v9 =>
    (if (!(v9.2.1 == false)) = true then some true else (lib_strconv_FormatInt q v9.1 10).bind fun v10 =>
    some (!strEq v10.1 v8)).bind fun v11 =>
    if v11 = true then (
    some (.inr (([], false, ()))))
    else (
    if fitsB (x4.length + ([T.int .i64 v9.1]).length) 8 = true then
    trail_numbers_l0 q k x1 x2 (IntKind.i64.wrap (x3 + (1 : Int))) (x4 ++ [T.int .i64 v9.1])
    else none))
    else (
    some (.inl ((), x4, ())))
def trail_numbers (q : Nat) (a0 : ByteArray) (a1 : ByteArray) (a2 : Int) : Option (List T × Bool × Unit) :=
  (lib_strings_Split q a0 (ByteArray.mk #[32])).bind fun v1 =>
  (rd v1.1 (0 : Int) 1).bind fun v2 =>
  (T.asStr (T.leaf v2 0)).bind fun v3 =>
  (if (!strEq v3 a1) = true then some true else some ((v1.1.length : Int) != (IntKind.i64.wrap (a2 + (1 : Int))))).bind fun v4 =>
  if v4 = true then (
  some ([], false, ()))
  else (
  cutB (if true = true ∧ 0 ≤ (1 : Int) ∧ (1 : Int) ≤ (v1.1.length : Int) ∧ (v1.1.length : Int) ≤ v1.1.length then
  (chk v1.1 1).bind fun v6 =>
  trail_numbers_l0 q q (List.take ((Int.toNat (v1.1.length : Int)) - 1) (List.drop 1 v6)) ((List.take ((Int.toNat (v1.1.length : Int)) - 1) (List.drop 1 v6)).length : Int) 0 []
  else none) fun p5 =>
  some (p5.2.1, true, ()))
@[reducible] def trail_numbers_S (q : Nat) : Summary := sumK [.cell (.str), .cell (.str), .cell (.int .i64)] [.leaf (.own 1), .leaf (.cell (.bool))] fun a => trail_numbers q a.1 a.2.1 a.2.2.1
@[reducible] def trail_numbers_T (q : Nat) : Alt [.leaf (.own 1), .leaf (.cell (.bool))] := ⟨[.cell (.str), .cell (.str), .cell (.int .i64)], fun a => trail_numbers q a.1 a.2.1 a.2.2.1⟩
def trail_numbers_C (q : Nat) : Nat → Option Summary := orcL [(23, lib_strings_Split_S q), (24, lib_strconv_ParseInt_S q), (25, lib_strconv_FormatInt_S q)]
theorem trail_numbers_orc {G : World} (hG : GOk G) (q : Nat) : OrcSound Tryd.prog G (trail_numbers_C q) := (orc_cons (lib_strings_Split_sum hG q) (orc_cons (lib_strconv_ParseInt_sum hG q) (orc_cons (lib_strconv_FormatInt_sum hG q) orc_nil)))
def trail_numbers_A (q : Nat) : Ann (RPay [.leaf (.own 1), .leaf (.cell (.bool))]) :=
  .seq (.d) (.seq (.d) (.seq (.d) (.seq (.d) (.cut [.tmp 9 (.full 1000009), .row none 1000009 1] (.seq (.d) (.block (.loop [.tmp 9 (.full 1000009), .tmp 29 (.lst), .tmp 30 (.int .i64), .tmp 31 (.int .i64), .row (some (.tmp 9)) 1000009 1] (fun k p => trail_numbers_l0 q k p.2.1 p.2.2.1 p.2.2.2.1 p.2.2.2.2.1) (.d)))) (.d)))))
theorem trail_numbers_ok (q : Nat) : Ok Tryd.prog Tryd.f16.ntmps (trail_numbers_C q) q (trail_numbers_A q) (codeOf Tryd.f16) (fun _ => fnK Tryd.prog Tryd.f16 (List.map Rk.spec [.leaf (.own 1), .leaf (.cell (.bool))]) (decR [.leaf (.own 1), .leaf (.cell (.bool))])) := by
  have h : (Ok Tryd.prog Tryd.f16.ntmps (trail_numbers_C q) q (trail_numbers_A q) (codeOf Tryd.f16) (fun _ => fnK Tryd.prog Tryd.f16 (List.map Rk.spec [.leaf (.own 1), .leaf (.cell (.bool))]) (decR [.leaf (.own 1), .leaf (.cell (.bool))]))) = ((True) ∧ ((True) ∧ ((True) ∧ ((True) ∧ (((True) ∧ ((∀ p : Unit × List T × Int × Int × List T × Unit, trail_numbers_l0 q 0 p.2.1 p.2.2.1 p.2.2.2.1 p.2.2.2.2.1 = none) ∧ ∀ n : Nat, (∀ p : Unit × List T × Int × Int × List T × Unit, trail_numbers_l0 q (n + 1) p.2.1 p.2.2.1 p.2.2.2.1 p.2.2.2.2.1 = trail_numbers_l0 q (n + 1) p.2.1 p.2.2.1 p.2.2.2.1 p.2.2.2.2.1) ∧ (True))) ∧ (True)))))) := by kernel_rfl
  exact h.mpr (⟨trivial, ⟨trivial, ⟨trivial, ⟨trivial, ⟨⟨trivial, ⟨fun _ => rfl, fun _ => ⟨fun _ => rfl, trivial⟩⟩⟩, trivial⟩⟩⟩⟩⟩)
theorem trail_numbers_eq (q : Nat) (a : APay [.cell (.str), .cell (.str), .cell (.int .i64)]) : evFn Tryd.prog (trail_numbers_C q) q Tryd.f16 (List.map Rk.spec [.leaf (.own 1), .leaf (.cell (.bool))]) (RPay [.leaf (.own 1), .leaf (.cell (.bool))]) (trail_numbers_A q) (encA [.cell (.str), .cell (.str), .cell (.int .i64)] a) (decR [.leaf (.own 1), .leaf (.cell (.bool))]) = trail_numbers q a.1 a.2.1 a.2.2.1 := by kernel_rfl
theorem trail_numbers_sum {G : World} (hG : GOk G) (q : Nat) : SumSound Tryd.prog G 16 (trail_numbers_S q) :=
  sumK_sound (trail_numbers_orc hG q) hmix (code := codeOf Tryd.f16) Tryd.func16 (by kernel_rfl) (by kernel_rfl) (by kernel_rfl) (by kernel_rfl) (trail_numbers_ok q) (trail_numbers_eq q)

/-! spinneret/trail.Parse -/
def trail_Parse_g0 (q : Nat) : Nat → (ByteArray) → (Int) → (Bool) → (Bool) → (List T) → ((Int × Int × Int × Int × Unit × Int × Int × Int × Unit)) → ((Int × Int × Int × Int × Unit × Int × Int × Int × Unit)) → Option ((Int × Int × Int × Int × List T × Int × Int × Int × Unit) × Int × Int × Unit)
  | 0, _, _, _, _, _, _, _ => none
  | k + 1, x0, x3, x4, x5, x6, x7, x8 =>
    (if (x3 == (x0.size : Int)) = true then some (!x4) else some false).bind fun v1 =>
    (if v1 = true then some (!x5) else some false).bind fun v2 =>
    if v2 = true then (
    some ((x8.1, x8.2.1, x8.2.2.1, x8.2.2.2.1, x6, x8.2.2.2.2.2.1, x8.2.2.2.2.2.2.1, x8.2.2.2.2.2.2.2.1, ()), 0, 0, ()))
    else (
    (substr x0 x3 (x0.size : Int)).bind fun v3 =>
    (lib_strings_IndexByte q v3 10).bind fun v4 =>
    if (decide (v4.1 < (0 : Int))) = true then (
    some ((0, 0, 0, 0, [], 0, 0, 0, ()), 43, x3, ()))
    else (
    (substr x0 x3 (IntKind.i64.wrap (x3 + v4.1))).bind fun v5 =>
    cutB (if x4 = true then (
    (trail_numbers q v5 (ByteArray.mk #[102, 111, 117, 110, 100]) 6).bind fun v7 =>
    (if (!v7.2.1) = true then some true else if 0 ≤ (0 : Int) ∧ (0 : Int) < v7.1.length then
    (v7.1[0]?).bind fun v8 =>
    (T.asInt .i64 (T.leaf v8 0)).bind fun v9 =>
    some (decide (v9 < (1 : Int)))
    else none).bind fun v10 =>
    (if v10 = true then some true else if 0 ≤ (0 : Int) ∧ (0 : Int) < v7.1.length then
    (v7.1[0]?).bind fun v11 =>
    (T.asInt .i64 (T.leaf v11 0)).bind fun v12 =>
    some (decide (v12 > (4 : Int)))
    else none).bind fun v13 =>
    if v13 = true then (
    some (.inr (((0, 0, 0, 0, [], 0, 0, 0, ()), 43, x3, ()))))
    else (
    if 0 ≤ (0 : Int) ∧ (0 : Int) < v7.1.length then
    (v7.1[0]?).bind fun v14 =>
    (T.asInt .i64 (T.leaf v14 0)).bind fun v15 =>
    if 0 ≤ (1 : Int) ∧ (1 : Int) < v7.1.length then
    (v7.1[1]?).bind fun v16 =>
    (T.asInt .i64 (T.leaf v16 0)).bind fun v17 =>
    if 0 ≤ (2 : Int) ∧ (2 : Int) < v7.1.length then
    (v7.1[2]?).bind fun v18 =>
    (T.asInt .i64 (T.leaf v18 0)).bind fun v19 =>
    if 0 ≤ (3 : Int) ∧ (3 : Int) < v7.1.length then
    (v7.1[3]?).bind fun v20 =>
    (T.asInt .i64 (T.leaf v20 0)).bind fun v21 =>
    if 0 ≤ (4 : Int) ∧ (4 : Int) < v7.1.length then
    (v7.1[4]?).bind fun v22 =>
    (T.asInt .i64 (T.leaf v22 0)).bind fun v23 =>
    if 0 ≤ (5 : Int) ∧ (5 : Int) < v7.1.length then
    (v7.1[5]?).bind fun v24 =>
    (T.asInt .i64 (T.leaf v24 0)).bind fun v25 =>
    some (.inl (x0, (), (), x3, false, x5, v4.1, x6, (x7.1, x7.2.1, x7.2.2.1, x7.2.2.2.1, (), x7.2.2.2.2.2.1, x7.2.2.2.2.2.2.1, x7.2.2.2.2.2.2.2.1, ()), (v15, v17, v19, v21, (), x8.2.2.2.2.2.1, v23, v25, ()), ()))
    else none
    else none
    else none
    else none
    else none
    else none))
    else (
    (if (strEq v5 (ByteArray.mk #[99, 121, 99, 108, 101])) = true then some (decide (x8.2.2.2.2.2.1 < (0 : Int))) else some false).bind fun v26 =>
    if v26 = true then (
    some (.inl (x0, (), (), x3, x4, true, v4.1, x6, (x7.1, x7.2.1, x7.2.2.1, x7.2.2.2.1, (), x7.2.2.2.2.2.1, x7.2.2.2.2.2.2.1, x7.2.2.2.2.2.2.2.1, ()), (x8.1, x8.2.1, x8.2.2.1, x8.2.2.2.1, (), (x6.length : Int), x8.2.2.2.2.2.2.1, x8.2.2.2.2.2.2.2.1, ()), ())))
    else (
    (trail_numbers q v5 (ByteArray.mk #[109, 111, 118, 101]) 7).bind fun v27 =>
    if (!v27.2.1) = true then (
    some (.inr (((0, 0, 0, 0, [], 0, 0, 0, ()), 43, x3, ()))))
    else (
    if 0 ≤ (0 : Int) ∧ (0 : Int) < v27.1.length then
    (v27.1[0]?).bind fun v28 =>
    (T.asInt .i64 (T.leaf v28 0)).bind fun v29 =>
    if 0 ≤ (1 : Int) ∧ (1 : Int) < v27.1.length then
    (v27.1[1]?).bind fun v30 =>
    (T.asInt .i64 (T.leaf v30 0)).bind fun v31 =>
    if 0 ≤ (2 : Int) ∧ (2 : Int) < v27.1.length then
    (v27.1[2]?).bind fun v32 =>
    (T.asInt .i64 (T.leaf v32 0)).bind fun v33 =>
    if 0 ≤ (3 : Int) ∧ (3 : Int) < v27.1.length then
    (v27.1[3]?).bind fun v34 =>
    (T.asInt .i64 (T.leaf v34 0)).bind fun v35 =>
    if 0 ≤ (4 : Int) ∧ (4 : Int) < v27.1.length then
    (v27.1[4]?).bind fun v36 =>
    (T.asInt .i64 (T.leaf v36 0)).bind fun v37 =>
    if 0 ≤ (5 : Int) ∧ (5 : Int) < v27.1.length then
    (v27.1[5]?).bind fun v38 =>
    (T.asInt .i64 (T.leaf v38 0)).bind fun v39 =>
    if 0 ≤ (6 : Int) ∧ (6 : Int) < v27.1.length then
    (v27.1[6]?).bind fun v40 =>
    (T.asInt .i64 (T.leaf v40 0)).bind fun v41 =>
    (chk ([T.agg [T.int .i64 v29, T.int .i64 v31, T.int .i64 v33, T.int .i64 v35, T.int .i64 v37, T.int .i64 v39, T.int .i64 v41]]) 7).bind fun v42 =>
    if fitsB (x6.length + v42.length) 56 = true then
    some (.inl (x0, (), (), x3, x4, false, v4.1, (x6 ++ v42), (x7.1, x7.2.1, x7.2.2.1, x7.2.2.2.1, (), x7.2.2.2.2.2.1, x7.2.2.2.2.2.2.1, x7.2.2.2.2.2.2.2.1, ()), (x8.1, x8.2.1, x8.2.2.1, x8.2.2.2.1, (), x8.2.2.2.2.2.1, x8.2.2.2.2.2.2.1, x8.2.2.2.2.2.2.2.1, ()), ()))
    else none
    else none
    else none
    else none
    else none
    else none
    else none
    else none)))) fun p6 =>
    trail_Parse_g0 q k p6.1 (IntKind.i64.wrap (p6.2.2.2.1 + (IntKind.i64.wrap (p6.2.2.2.2.2.2.1 + (1 : Int))))) p6.2.2.2.2.1 p6.2.2.2.2.2.1 p6.2.2.2.2.2.2.2.1 (p6.2.2.2.2.2.2.2.2.1.1, p6.2.2.2.2.2.2.2.2.1.2.1, p6.2.2.2.2.2.2.2.2.1.2.2.1, p6.2.2.2.2.2.2.2.2.1.2.2.2.1, (), p6.2.2.2.2.2.2.2.2.1.2.2.2.2.2.1, p6.2.2.2.2.2.2.2.2.1.2.2.2.2.2.2.1, p6.2.2.2.2.2.2.2.2.1.2.2.2.2.2.2.2.1, ()) (p6.2.2.2.2.2.2.2.2.2.1.1, p6.2.2.2.2.2.2.2.2.2.1.2.1, p6.2.2.2.2.2.2.2.2.2.1.2.2.1, p6.2.2.2.2.2.2.2.2.2.1.2.2.2.1, (), p6.2.2.2.2.2.2.2.2.2.1.2.2.2.2.2.1, p6.2.2.2.2.2.2.2.2.2.1.2.2.2.2.2.2.1, p6.2.2.2.2.2.2.2.2.2.1.2.2.2.2.2.2.2.1, ())))
def trail_Parse (q : Nat) (a0 : ByteArray) : Option ((Int × Int × Int × Int × List T × Int × Int × Int × Unit) × Int × Int × Unit) :=
  (if ((0 : Int) == (a0.size : Int)) = true then some (!true) else some false).bind fun v43 =>
  (if v43 = true then some (!false) else some false).bind fun v44 =>
  if v44 = true then (
  some ((0, 0, 0, 0, [], (-1), 0, 0, ()), 0, 0, ()))
  else (
  (substr a0 (0 : Int) (a0.size : Int)).bind fun v45 =>
  (lib_strings_IndexByte q v45 10).bind fun v46 =>
  if (decide (v46.1 < (0 : Int))) = true then (
  some ((0, 0, 0, 0, [], 0, 0, 0, ()), 43, 0, ()))
  else (
  (substr a0 (0 : Int) (IntKind.i64.wrap ((0 : Int) + v46.1))).bind fun v47 =>
  cutB (if true = true then (
  (trail_numbers q v47 (ByteArray.mk #[102, 111, 117, 110, 100]) 6).bind fun v49 =>
  (if (!v49.2.1) = true then some true else if 0 ≤ (0 : Int) ∧ (0 : Int) < v49.1.length then
  (v49.1[0]?).bind fun v50 =>
  (T.asInt .i64 (T.leaf v50 0)).bind fun v51 =>
  some (decide (v51 < (1 : Int)))
  else none).bind fun v52 =>
  (if v52 = true then some true else if 0 ≤ (0 : Int) ∧ (0 : Int) < v49.1.length then
  (v49.1[0]?).bind fun v53 =>
  (T.asInt .i64 (T.leaf v53 0)).bind fun v54 =>
  some (decide (v54 > (4 : Int)))
  else none).bind fun v55 =>
  if v55 = true then (
  some (.inr (((0, 0, 0, 0, [], 0, 0, 0, ()), 43, 0, ()))))
  else (
  if 0 ≤ (0 : Int) ∧ (0 : Int) < v49.1.length then
  (v49.1[0]?).bind fun v56 =>
  (T.asInt .i64 (T.leaf v56 0)).bind fun v57 =>
  if 0 ≤ (1 : Int) ∧ (1 : Int) < v49.1.length then
  (v49.1[1]?).bind fun v58 =>
  (T.asInt .i64 (T.leaf v58 0)).bind fun v59 =>
  if 0 ≤ (2 : Int) ∧ (2 : Int) < v49.1.length then
  (v49.1[2]?).bind fun v60 =>
  (T.asInt .i64 (T.leaf v60 0)).bind fun v61 =>
  if 0 ≤ (3 : Int) ∧ (3 : Int) < v49.1.length then
  (v49.1[3]?).bind fun v62 =>
  (T.asInt .i64 (T.leaf v62 0)).bind fun v63 =>
  if 0 ≤ (4 : Int) ∧ (4 : Int) < v49.1.length then
  (v49.1[4]?).bind fun v64 =>
  (T.asInt .i64 (T.leaf v64 0)).bind fun v65 =>
  if 0 ≤ (5 : Int) ∧ (5 : Int) < v49.1.length then
  (v49.1[5]?).bind fun v66 =>
  (T.asInt .i64 (T.leaf v66 0)).bind fun v67 =>
  some (.inl (a0, (), (), 0, false, false, v46.1, [], (0, 0, 0, 0, (), 0, 0, 0, ()), (v57, v59, v61, v63, (), (-1), v65, v67, ()), ()))
  else none
  else none
  else none
  else none
  else none
  else none))
  else (
  (if (strEq v47 (ByteArray.mk #[99, 121, 99, 108, 101])) = true then some (decide ((-1 : Int) < (0 : Int))) else some false).bind fun v68 =>
  if v68 = true then (
  some (.inl (a0, (), (), 0, true, true, v46.1, [], (0, 0, 0, 0, (), 0, 0, 0, ()), (0, 0, 0, 0, (), 0, 0, 0, ()), ())))
  else (
  (trail_numbers q v47 (ByteArray.mk #[109, 111, 118, 101]) 7).bind fun v69 =>
  if (!v69.2.1) = true then (
  some (.inr (((0, 0, 0, 0, [], 0, 0, 0, ()), 43, 0, ()))))
  else (
  if 0 ≤ (0 : Int) ∧ (0 : Int) < v69.1.length then
  (v69.1[0]?).bind fun v70 =>
  (T.asInt .i64 (T.leaf v70 0)).bind fun v71 =>
  if 0 ≤ (1 : Int) ∧ (1 : Int) < v69.1.length then
  (v69.1[1]?).bind fun v72 =>
  (T.asInt .i64 (T.leaf v72 0)).bind fun v73 =>
  if 0 ≤ (2 : Int) ∧ (2 : Int) < v69.1.length then
  (v69.1[2]?).bind fun v74 =>
  (T.asInt .i64 (T.leaf v74 0)).bind fun v75 =>
  if 0 ≤ (3 : Int) ∧ (3 : Int) < v69.1.length then
  (v69.1[3]?).bind fun v76 =>
  (T.asInt .i64 (T.leaf v76 0)).bind fun v77 =>
  if 0 ≤ (4 : Int) ∧ (4 : Int) < v69.1.length then
  (v69.1[4]?).bind fun v78 =>
  (T.asInt .i64 (T.leaf v78 0)).bind fun v79 =>
  if 0 ≤ (5 : Int) ∧ (5 : Int) < v69.1.length then
  (v69.1[5]?).bind fun v80 =>
  (T.asInt .i64 (T.leaf v80 0)).bind fun v81 =>
  if 0 ≤ (6 : Int) ∧ (6 : Int) < v69.1.length then
  (v69.1[6]?).bind fun v82 =>
  (T.asInt .i64 (T.leaf v82 0)).bind fun v83 =>
  (chk ([T.agg [T.int .i64 v71, T.int .i64 v73, T.int .i64 v75, T.int .i64 v77, T.int .i64 v79, T.int .i64 v81, T.int .i64 v83]]) 7).bind fun v84 =>
  if fitsB v84.length 56 = true then
  some (.inl (a0, (), (), 0, true, false, v46.1, v84, (0, 0, 0, 0, (), 0, 0, 0, ()), (0, 0, 0, 0, (), (-1), 0, 0, ()), ()))
  else none
  else none
  else none
  else none
  else none
  else none
  else none
  else none)))) fun p48 =>
  trail_Parse_g0 q q p48.1 (IntKind.i64.wrap (p48.2.2.2.1 + (IntKind.i64.wrap (p48.2.2.2.2.2.2.1 + (1 : Int))))) p48.2.2.2.2.1 p48.2.2.2.2.2.1 p48.2.2.2.2.2.2.2.1 (p48.2.2.2.2.2.2.2.2.1.1, p48.2.2.2.2.2.2.2.2.1.2.1, p48.2.2.2.2.2.2.2.2.1.2.2.1, p48.2.2.2.2.2.2.2.2.1.2.2.2.1, (), p48.2.2.2.2.2.2.2.2.1.2.2.2.2.2.1, p48.2.2.2.2.2.2.2.2.1.2.2.2.2.2.2.1, p48.2.2.2.2.2.2.2.2.1.2.2.2.2.2.2.2.1, ()) (p48.2.2.2.2.2.2.2.2.2.1.1, p48.2.2.2.2.2.2.2.2.2.1.2.1, p48.2.2.2.2.2.2.2.2.2.1.2.2.1, p48.2.2.2.2.2.2.2.2.2.1.2.2.2.1, (), p48.2.2.2.2.2.2.2.2.2.1.2.2.2.2.2.1, p48.2.2.2.2.2.2.2.2.2.1.2.2.2.2.2.2.1, p48.2.2.2.2.2.2.2.2.2.1.2.2.2.2.2.2.2.1, ())))
@[reducible] def trail_Parse_S (q : Nat) : Summary := sumK [.cell (.str)] [.agg [.cell (.int .i64), .cell (.int .i64), .cell (.int .i64), .cell (.int .i64), .own 7, .cell (.int .i64), .cell (.int .i64), .cell (.int .i64)], .leaf (.cell (.int .i64)), .leaf (.cell (.int .i64))] fun a => trail_Parse q a.1
@[reducible] def trail_Parse_T (q : Nat) : Alt [.agg [.cell (.int .i64), .cell (.int .i64), .cell (.int .i64), .cell (.int .i64), .own 7, .cell (.int .i64), .cell (.int .i64), .cell (.int .i64)], .leaf (.cell (.int .i64)), .leaf (.cell (.int .i64))] := ⟨[.cell (.str)], fun a => trail_Parse q a.1⟩
def trail_Parse_C (q : Nat) : Nat → Option Summary := orcL [(15, lib_strings_IndexByte_S q), (16, trail_numbers_S q)]
theorem trail_Parse_orc {G : World} (hG : GOk G) (q : Nat) : OrcSound Tryd.prog G (trail_Parse_C q) := (orc_cons (lib_strings_IndexByte_sum hG q) (orc_cons (trail_numbers_sum hG q) orc_nil))
def trail_Parse_A (q : Nat) : Ann (RPay [.agg [.cell (.int .i64), .cell (.int .i64), .cell (.int .i64), .cell (.int .i64), .own 7, .cell (.int .i64), .cell (.int .i64), .cell (.int .i64)], .leaf (.cell (.int .i64)), .leaf (.cell (.int .i64))]) :=
  .seq (.d) (.scope (.seq (.d) (.seq (.d) (.seq (.d) (.seq (.d) (.seq (.d) (.seq (.d) (.seq (.d) (.cut [.tmp 0 (.str), .tmp 2 (.bp 2 0), .tmp 5 (.bp 5 0), .tmp 6 (.int .i64), .tmp 7 (.bool), .tmp 8 (.bool), .tmp 9 (.int .i64), .row none 77 7, .box 2 [.int .i64, .int .i64, .int .i64, .int .i64, .nilv, .int .i64, .int .i64, .int .i64], .box 5 [.int .i64, .int .i64, .int .i64, .int .i64, .full 77, .int .i64, .int .i64, .int .i64]] (.d) (.d))))))))) (.lab 0 [.tmp 0 (.str), .tmp 2 (.bp 2 0), .tmp 5 (.bp 5 0), .tmp 6 (.int .i64), .tmp 7 (.bool), .tmp 8 (.bool), .row none 77 7, .box 2 [.int .i64, .int .i64, .int .i64, .int .i64, .nilv, .int .i64, .int .i64, .int .i64], .box 5 [.int .i64, .int .i64, .int .i64, .int .i64, .full 77, .int .i64, .int .i64, .int .i64]] (fun k p => trail_Parse_g0 q k p.1 p.2.2.2.1 p.2.2.2.2.1 p.2.2.2.2.2.1 p.2.2.2.2.2.2.1 p.2.2.2.2.2.2.2.1 p.2.2.2.2.2.2.2.2.1) (.seq (.d) (.seq (.d) (.seq (.d) (.seq (.d) (.seq (.d) (.cut [.tmp 0 (.str), .tmp 2 (.bp 2 0), .tmp 5 (.bp 5 0), .tmp 6 (.int .i64), .tmp 7 (.bool), .tmp 8 (.bool), .tmp 9 (.int .i64), .row none 77 7, .box 2 [.int .i64, .int .i64, .int .i64, .int .i64, .nilv, .int .i64, .int .i64, .int .i64], .box 5 [.int .i64, .int .i64, .int .i64, .int .i64, .full 77, .int .i64, .int .i64, .int .i64]] (.d) (.d))))))) (.d)))
theorem trail_Parse_ok (q : Nat) : Ok Tryd.prog Tryd.f8.ntmps (trail_Parse_C q) q (trail_Parse_A q) (codeOf Tryd.f8) (fun _ => fnK Tryd.prog Tryd.f8 (List.map Rk.spec [.agg [.cell (.int .i64), .cell (.int .i64), .cell (.int .i64), .cell (.int .i64), .own 7, .cell (.int .i64), .cell (.int .i64), .cell (.int .i64)], .leaf (.cell (.int .i64)), .leaf (.cell (.int .i64))]) (decR [.agg [.cell (.int .i64), .cell (.int .i64), .cell (.int .i64), .cell (.int .i64), .own 7, .cell (.int .i64), .cell (.int .i64), .cell (.int .i64)], .leaf (.cell (.int .i64)), .leaf (.cell (.int .i64))])) := by
  have h : (Ok Tryd.prog Tryd.f8.ntmps (trail_Parse_C q) q (trail_Parse_A q) (codeOf Tryd.f8) (fun _ => fnK Tryd.prog Tryd.f8 (List.map Rk.spec [.agg [.cell (.int .i64), .cell (.int .i64), .cell (.int .i64), .cell (.int .i64), .own 7, .cell (.int .i64), .cell (.int .i64), .cell (.int .i64)], .leaf (.cell (.int .i64)), .leaf (.cell (.int .i64))]) (decR [.agg [.cell (.int .i64), .cell (.int .i64), .cell (.int .i64), .cell (.int .i64), .own 7, .cell (.int .i64), .cell (.int .i64), .cell (.int .i64)], .leaf (.cell (.int .i64)), .leaf (.cell (.int .i64))]))) = ((True) ∧ (((True) ∧ ((True) ∧ ((True) ∧ ((True) ∧ ((True) ∧ ((True) ∧ ((True) ∧ ((True) ∧ (True))))))))) ∧ (((∀ p : ByteArray × Unit × Unit × Int × Bool × Bool × List T × (Int × Int × Int × Int × Unit × Int × Int × Int × Unit) × (Int × Int × Int × Int × Unit × Int × Int × Int × Unit) × Unit, trail_Parse_g0 q 0 p.1 p.2.2.2.1 p.2.2.2.2.1 p.2.2.2.2.2.1 p.2.2.2.2.2.2.1 p.2.2.2.2.2.2.2.1 p.2.2.2.2.2.2.2.2.1 = none) ∧ ∀ n : Nat, (∀ p : ByteArray × Unit × Unit × Int × Bool × Bool × List T × (Int × Int × Int × Int × Unit × Int × Int × Int × Unit) × (Int × Int × Int × Int × Unit × Int × Int × Int × Unit) × Unit, trail_Parse_g0 q (n + 1) p.1 p.2.2.2.1 p.2.2.2.2.1 p.2.2.2.2.2.1 p.2.2.2.2.2.2.1 p.2.2.2.2.2.2.2.1 p.2.2.2.2.2.2.2.2.1 = trail_Parse_g0 q (n + 1) p.1 p.2.2.2.1 p.2.2.2.2.1 p.2.2.2.2.2.1 p.2.2.2.2.2.2.1 p.2.2.2.2.2.2.2.1 p.2.2.2.2.2.2.2.2.1) ∧ ((True) ∧ ((True) ∧ ((True) ∧ ((True) ∧ ((True) ∧ ((True) ∧ (True)))))))) ∧ (True)))) := by kernel_rfl
  exact h.mpr (⟨trivial, ⟨⟨trivial, ⟨trivial, ⟨trivial, ⟨trivial, ⟨trivial, ⟨trivial, ⟨trivial, ⟨trivial, trivial⟩⟩⟩⟩⟩⟩⟩⟩, ⟨⟨fun _ => rfl, fun _ => ⟨fun _ => rfl, ⟨trivial, ⟨trivial, ⟨trivial, ⟨trivial, ⟨trivial, ⟨trivial, trivial⟩⟩⟩⟩⟩⟩⟩⟩, trivial⟩⟩⟩)
theorem trail_Parse_eq (q : Nat) (a : APay [.cell (.str)]) : evFn Tryd.prog (trail_Parse_C q) q Tryd.f8 (List.map Rk.spec [.agg [.cell (.int .i64), .cell (.int .i64), .cell (.int .i64), .cell (.int .i64), .own 7, .cell (.int .i64), .cell (.int .i64), .cell (.int .i64)], .leaf (.cell (.int .i64)), .leaf (.cell (.int .i64))]) (RPay [.agg [.cell (.int .i64), .cell (.int .i64), .cell (.int .i64), .cell (.int .i64), .own 7, .cell (.int .i64), .cell (.int .i64), .cell (.int .i64)], .leaf (.cell (.int .i64)), .leaf (.cell (.int .i64))]) (trail_Parse_A q) (encA [.cell (.str)] a) (decR [.agg [.cell (.int .i64), .cell (.int .i64), .cell (.int .i64), .cell (.int .i64), .own 7, .cell (.int .i64), .cell (.int .i64), .cell (.int .i64)], .leaf (.cell (.int .i64)), .leaf (.cell (.int .i64))]) = trail_Parse q a.1 := by kernel_rfl
theorem trail_Parse_sum {G : World} (hG : GOk G) (q : Nat) : SumSound Tryd.prog G 8 (trail_Parse_S q) :=
  sumK_sound (trail_Parse_orc hG q) hmix (code := codeOf Tryd.f8) Tryd.func8 (by kernel_rfl) (by kernel_rfl) (by kernel_rfl) (by kernel_rfl) (trail_Parse_ok q) (trail_Parse_eq q)

/-! spinneret/spinneretref20.SameMoves -/
def ref20_SameMoves_l0 (q : Nat) : Nat → (List T) → (List T) → (Int) → Option ((Unit) ⊕ (Bool × Unit))
  | 0, _, _, _ => none
  | k + 1, x0, x1, x2 =>
    if (decide (x2 < (x0.length : Int))) = true then (
    (rd x0 x2 7).bind fun v2 =>
    (T.part v2 0 7).bind fun v3 =>
    (rd x1 x2 7).bind fun v4 =>
    (T.part v4 0 7).bind fun v5 =>
    (T.ints [.i64, .i64, .i64, .i64, .i64, .i64, .i64] v3).bind fun v6 =>
    (T.ints [.i64, .i64, .i64, .i64, .i64, .i64, .i64] v5).bind fun v7 =>
    if (!(v6 == v7)) = true then (
    some (.inr ((false, ()))))
    else (
    ref20_SameMoves_l0 q k x0 x1 (IntKind.i64.wrap (x2 + (1 : Int)))))
    else (
    some (.inl (())))
def ref20_SameMoves (q : Nat) (a0 : List T) (a1 : List T) : Option (Bool × Unit) :=
  if ((a0.length : Int) != (a1.length : Int)) = true then (
  some (false, ()))
  else (
  cutB (ref20_SameMoves_l0 q q a0 a1 0) fun p1 =>
  some (true, ()))
@[reducible] def ref20_SameMoves_S (q : Nat) : Summary := sumK [.cell (.lst), .cell (.lst)] [.leaf (.cell (.bool))] fun a => ref20_SameMoves q a.1 a.2.1
@[reducible] def ref20_SameMoves_T (q : Nat) : Alt [.leaf (.cell (.bool))] := ⟨[.cell (.lst), .cell (.lst)], fun a => ref20_SameMoves q a.1 a.2.1⟩
def ref20_SameMoves_C (q : Nat) : Nat → Option Summary := orcL []
theorem ref20_SameMoves_orc {G : World} (hG : GOk G) (q : Nat) : OrcSound Tryd.prog G (ref20_SameMoves_C q) := orc_nil
def ref20_SameMoves_A (q : Nat) : Ann (RPay [.leaf (.cell (.bool))]) :=
  .seq (.d) (.seq (.d) (.cut [] (.seq (.d) (.block (.loop [.tmp 0 (.lst), .tmp 1 (.lst), .tmp 5 (.int .i64)] (fun k p => ref20_SameMoves_l0 q k p.1 p.2.1 p.2.2.1) (.d)))) (.d)))
theorem ref20_SameMoves_ok (q : Nat) : Ok Tryd.prog Tryd.f18.ntmps (ref20_SameMoves_C q) q (ref20_SameMoves_A q) (codeOf Tryd.f18) (fun _ => fnK Tryd.prog Tryd.f18 (List.map Rk.spec [.leaf (.cell (.bool))]) (decR [.leaf (.cell (.bool))])) := by
  have h : (Ok Tryd.prog Tryd.f18.ntmps (ref20_SameMoves_C q) q (ref20_SameMoves_A q) (codeOf Tryd.f18) (fun _ => fnK Tryd.prog Tryd.f18 (List.map Rk.spec [.leaf (.cell (.bool))]) (decR [.leaf (.cell (.bool))]))) = ((True) ∧ ((True) ∧ (((True) ∧ ((∀ p : List T × List T × Int × Unit, ref20_SameMoves_l0 q 0 p.1 p.2.1 p.2.2.1 = none) ∧ ∀ n : Nat, (∀ p : List T × List T × Int × Unit, ref20_SameMoves_l0 q (n + 1) p.1 p.2.1 p.2.2.1 = ref20_SameMoves_l0 q (n + 1) p.1 p.2.1 p.2.2.1) ∧ (True))) ∧ (True)))) := by kernel_rfl
  exact h.mpr (⟨trivial, ⟨trivial, ⟨⟨trivial, ⟨fun _ => rfl, fun _ => ⟨fun _ => rfl, trivial⟩⟩⟩, trivial⟩⟩⟩)
theorem ref20_SameMoves_eq (q : Nat) (a : APay [.cell (.lst), .cell (.lst)]) : evFn Tryd.prog (ref20_SameMoves_C q) q Tryd.f18 (List.map Rk.spec [.leaf (.cell (.bool))]) (RPay [.leaf (.cell (.bool))]) (ref20_SameMoves_A q) (encA [.cell (.lst), .cell (.lst)] a) (decR [.leaf (.cell (.bool))]) = ref20_SameMoves q a.1 a.2.1 := by kernel_rfl
theorem ref20_SameMoves_sum {G : World} (hG : GOk G) (q : Nat) : SumSound Tryd.prog G 18 (ref20_SameMoves_S q) :=
  sumK_sound (ref20_SameMoves_orc hG q) hmix (code := codeOf Tryd.f18) Tryd.func18 (by kernel_rfl) (by kernel_rfl) (by kernel_rfl) (by kernel_rfl) (ref20_SameMoves_ok q) (ref20_SameMoves_eq q)

/-! spinneret/spinneretref20.SameFound -/
def ref20_SameFound (q : Nat) (a0 : T) (a1 : T) : Option (Bool × Unit) :=
  if T.width a0 = 8 then
  if T.width a1 = 8 then
  (T.asLst (T.leaf a0 4)).bind fun v1 =>
  (T.asLst (T.leaf a1 4)).bind fun v2 =>
  (ref20_SameMoves q v1 v2).bind fun v3 =>
  (if v3.1 = true then (T.asInt .i64 (T.leaf a0 0)).bind fun v4 =>
  (T.asInt .i64 (T.leaf a1 0)).bind fun v5 =>
  some (v4 == v5) else some false).bind fun v6 =>
  (if v6 = true then (T.asInt .i64 (T.leaf a0 1)).bind fun v7 =>
  (T.asInt .i64 (T.leaf a1 1)).bind fun v8 =>
  some (v7 == v8) else some false).bind fun v9 =>
  (if v9 = true then (T.asInt .i64 (T.leaf a0 2)).bind fun v10 =>
  (T.asInt .i64 (T.leaf a1 2)).bind fun v11 =>
  some (v10 == v11) else some false).bind fun v12 =>
  (if v12 = true then (T.asInt .i64 (T.leaf a0 3)).bind fun v13 =>
  (T.asInt .i64 (T.leaf a1 3)).bind fun v14 =>
  some (v13 == v14) else some false).bind fun v15 =>
  (if v15 = true then (T.asInt .i64 (T.leaf a0 5)).bind fun v16 =>
  (T.asInt .i64 (T.leaf a1 5)).bind fun v17 =>
  some (v16 == v17) else some false).bind fun v18 =>
  (if v18 = true then (T.asInt .i64 (T.leaf a0 6)).bind fun v19 =>
  (T.asInt .i64 (T.leaf a1 6)).bind fun v20 =>
  some (v19 == v20) else some false).bind fun v21 =>
  (if v21 = true then (T.asInt .i64 (T.leaf a0 7)).bind fun v22 =>
  (T.asInt .i64 (T.leaf a1 7)).bind fun v23 =>
  some (v22 == v23) else some false).bind fun v24 =>
  some (v24, ())
  else none
  else none
@[reducible] def ref20_SameFound_S (q : Nat) : Summary := sumK [.cell (.raw), .cell (.raw)] [.leaf (.cell (.bool))] fun a => ref20_SameFound q a.1 a.2.1
@[reducible] def ref20_SameFound_T (q : Nat) : Alt [.leaf (.cell (.bool))] := ⟨[.cell (.raw), .cell (.raw)], fun a => ref20_SameFound q a.1 a.2.1⟩
def ref20_SameFound_C (q : Nat) : Nat → Option Summary := orcL [(18, ref20_SameMoves_S q)]
theorem ref20_SameFound_orc {G : World} (hG : GOk G) (q : Nat) : OrcSound Tryd.prog G (ref20_SameFound_C q) := (orc_cons (ref20_SameMoves_sum hG q) orc_nil)
def ref20_SameFound_A (q : Nat) : Ann (RPay [.leaf (.cell (.bool))]) :=
  .d
theorem ref20_SameFound_ok (q : Nat) : Ok Tryd.prog Tryd.f10.ntmps (ref20_SameFound_C q) q (ref20_SameFound_A q) (codeOf Tryd.f10) (fun _ => fnK Tryd.prog Tryd.f10 (List.map Rk.spec [.leaf (.cell (.bool))]) (decR [.leaf (.cell (.bool))])) := by
  have h : (Ok Tryd.prog Tryd.f10.ntmps (ref20_SameFound_C q) q (ref20_SameFound_A q) (codeOf Tryd.f10) (fun _ => fnK Tryd.prog Tryd.f10 (List.map Rk.spec [.leaf (.cell (.bool))]) (decR [.leaf (.cell (.bool))]))) = (True) := by kernel_rfl
  exact h.mpr (trivial)
theorem ref20_SameFound_eq (q : Nat) (a : APay [.cell (.raw), .cell (.raw)]) : evFn Tryd.prog (ref20_SameFound_C q) q Tryd.f10 (List.map Rk.spec [.leaf (.cell (.bool))]) (RPay [.leaf (.cell (.bool))]) (ref20_SameFound_A q) (encA [.cell (.raw), .cell (.raw)] a) (decR [.leaf (.cell (.bool))]) = ref20_SameFound q a.1 a.2.1 := by kernel_rfl
theorem ref20_SameFound_sum {G : World} (hG : GOk G) (q : Nat) : SumSound Tryd.prog G 10 (ref20_SameFound_S q) :=
  sumK_sound (ref20_SameFound_orc hG q) hmix (code := codeOf Tryd.f10) Tryd.func10 (by kernel_rfl) (by kernel_rfl) (by kernel_rfl) (by kernel_rfl) (ref20_SameFound_ok q) (ref20_SameFound_eq q)

/-! spinneret/spinneretlaw23.shown -/
def law23_shown (q : Nat) : Option (Bool × Unit) :=
  (trail_Print q (T.agg [T.int .i64 (1 : Int), T.int .i64 (0 : Int), T.int .i64 (0 : Int), T.int .i64 (0 : Int), T.lst ([]), T.int .i64 (-1 : Int), T.int .i64 (9 : Int), T.int .i64 (12 : Int)])).bind fun v1 =>
  (trail_Parse q v1.1).bind fun v2 =>
  (trail_Parse q emp).bind fun v3 =>
  (trail_Parse q (ByteArray.mk #[102, 111, 117, 110, 100, 32, 49, 32, 48, 32, 48, 32, 48, 32, 57, 32, 49, 50])).bind fun v4 =>
  (ref20_SameFound q (T.agg [T.int .i64 v2.1.1, T.int .i64 v2.1.2.1, T.int .i64 v2.1.2.2.1, T.int .i64 v2.1.2.2.2.1, T.lst v2.1.2.2.2.2.1, T.int .i64 v2.1.2.2.2.2.2.1, T.int .i64 v2.1.2.2.2.2.2.2.1, T.int .i64 v2.1.2.2.2.2.2.2.2.1]) (T.agg [T.int .i64 (1 : Int), T.int .i64 (0 : Int), T.int .i64 (0 : Int), T.int .i64 (0 : Int), T.lst ([]), T.int .i64 (-1 : Int), T.int .i64 (9 : Int), T.int .i64 (12 : Int)])).bind fun v5 =>
  (if (v1.2.1 == (0 : Int)) = true then some (strEq v1.1 (ByteArray.mk #[102, 111, 117, 110, 100, 32, 49, 32, 48, 32, 48, 32, 48, 32, 57, 32, 49, 50, 10])) else some false).bind fun v6 =>
  (if v6 = true then some (v2.2.1 == (0 : Int)) else some false).bind fun v7 =>
  (if v7 = true then some (v2.2.2.1 == (0 : Int)) else some false).bind fun v8 =>
  (if v8 = true then some v5.1 else some false).bind fun v9 =>
  (if v9 = true then some (v3.2.1 == (43 : Int)) else some false).bind fun v10 =>
  (if v10 = true then some (v3.2.2.1 == (0 : Int)) else some false).bind fun v11 =>
  (if v11 = true then some (v4.2.1 == (43 : Int)) else some false).bind fun v12 =>
  (if v12 = true then some (v4.2.2.1 == (0 : Int)) else some false).bind fun v13 =>
  some (v13, ())
@[reducible] def law23_shown_S (q : Nat) : Summary := sumK [] [.leaf (.cell (.bool))] fun a => law23_shown q 
@[reducible] def law23_shown_T (q : Nat) : Alt [.leaf (.cell (.bool))] := ⟨[], fun a => law23_shown q ⟩
def law23_shown_C (q : Nat) : Nat → Option Summary := orcL [(6, trail_Print_S q), (8, trail_Parse_S q), (10, ref20_SameFound_S q)]
theorem law23_shown_orc {G : World} (hG : GOk G) (q : Nat) : OrcSound Tryd.prog G (law23_shown_C q) := (orc_cons (trail_Print_sum hG q) (orc_cons (trail_Parse_sum hG q) (orc_cons (ref20_SameFound_sum hG q) orc_nil)))
def law23_shown_A (q : Nat) : Ann (RPay [.leaf (.cell (.bool))]) :=
  .d
theorem law23_shown_ok (q : Nat) : Ok Tryd.prog Tryd.f5.ntmps (law23_shown_C q) q (law23_shown_A q) (codeOf Tryd.f5) (fun _ => fnK Tryd.prog Tryd.f5 (List.map Rk.spec [.leaf (.cell (.bool))]) (decR [.leaf (.cell (.bool))])) := by
  have h : (Ok Tryd.prog Tryd.f5.ntmps (law23_shown_C q) q (law23_shown_A q) (codeOf Tryd.f5) (fun _ => fnK Tryd.prog Tryd.f5 (List.map Rk.spec [.leaf (.cell (.bool))]) (decR [.leaf (.cell (.bool))]))) = (True) := by kernel_rfl
  exact h.mpr (trivial)
theorem law23_shown_eq (q : Nat) (a : APay []) : evFn Tryd.prog (law23_shown_C q) q Tryd.f5 (List.map Rk.spec [.leaf (.cell (.bool))]) (RPay [.leaf (.cell (.bool))]) (law23_shown_A q) (encA [] a) (decR [.leaf (.cell (.bool))]) = law23_shown q  := by kernel_rfl
theorem law23_shown_sum {G : World} (hG : GOk G) (q : Nat) : SumSound Tryd.prog G 5 (law23_shown_S q) :=
  sumK_sound (law23_shown_orc hG q) hmix (code := codeOf Tryd.f5) Tryd.func5 (by kernel_rfl) (by kernel_rfl) (by kernel_rfl) (by kernel_rfl) (law23_shown_ok q) (law23_shown_eq q)

/-! spinneret/spinneretlaw23.TrailBack -/
def law23_TrailBack (q : Nat) (a0 : T) (a1 : ByteArray) : Option (Bool × Unit) :=
  if T.width a0 = 8 then
  (law23_shown q).bind fun v1 =>
  (T.part a0 0 8).bind fun v2 =>
  (trail_Print q v2).bind fun v3 =>
  cutB (if (v3.2.1 == (0 : Int)) = true then (
  (trail_Parse q v3.1).bind fun v5 =>
  (T.part a0 0 8).bind fun v6 =>
  (ref20_SameFound q v6 (T.agg [T.int .i64 v5.1.1, T.int .i64 v5.1.2.1, T.int .i64 v5.1.2.2.1, T.int .i64 v5.1.2.2.2.1, T.lst v5.1.2.2.2.2.1, T.int .i64 v5.1.2.2.2.2.2.1, T.int .i64 v5.1.2.2.2.2.2.2.1, T.int .i64 v5.1.2.2.2.2.2.2.2.1])).bind fun v7 =>
  (if (v5.2.1 != (0 : Int)) = true then some true else some (!v7.1)).bind fun v8 =>
  if v8 = true then (
  some (.inr ((false, ()))))
  else (
  some (.inl (a1, v1.1, ()))))
  else (
  some (.inl (a1, v1.1, ())))) fun p4 =>
  (trail_Parse q p4.1).bind fun v9 =>
  if (v9.2.1 == (0 : Int)) = true then (
  (trail_Print q (T.agg [T.int .i64 v9.1.1, T.int .i64 v9.1.2.1, T.int .i64 v9.1.2.2.1, T.int .i64 v9.1.2.2.2.1, T.lst v9.1.2.2.2.2.1, T.int .i64 v9.1.2.2.2.2.2.1, T.int .i64 v9.1.2.2.2.2.2.2.1, T.int .i64 v9.1.2.2.2.2.2.2.2.1])).bind fun v10 =>
  (if p4.2.1 = true then some (v10.2.1 == (0 : Int)) else some false).bind fun v11 =>
  (if v11 = true then some (strEq v10.1 p4.1) else some false).bind fun v12 =>
  some (v12, ()))
  else (
  some (p4.2.1, ()))
  else none
@[reducible] def law23_TrailBack_S (q : Nat) : Summary := sumK [.cell (.raw), .cell (.str)] [.leaf (.cell (.bool))] fun a => law23_TrailBack q a.1 a.2.1
@[reducible] def law23_TrailBack_T (q : Nat) : Alt [.leaf (.cell (.bool))] := ⟨[.cell (.raw), .cell (.str)], fun a => law23_TrailBack q a.1 a.2.1⟩
def law23_TrailBack_C (q : Nat) : Nat → Option Summary := orcL [(5, law23_shown_S q), (6, trail_Print_S q), (8, trail_Parse_S q), (10, ref20_SameFound_S q)]
theorem law23_TrailBack_orc {G : World} (hG : GOk G) (q : Nat) : OrcSound Tryd.prog G (law23_TrailBack_C q) := (orc_cons (law23_shown_sum hG q) (orc_cons (trail_Print_sum hG q) (orc_cons (trail_Parse_sum hG q) (orc_cons (ref20_SameFound_sum hG q) orc_nil))))
def law23_TrailBack_A (q : Nat) : Ann (RPay [.leaf (.cell (.bool))]) :=
  .seq (.d) (.seq (.d) (.seq (.d) (.cut [.tmp 1 (.str), .tmp 5 (.bool)] (.d) (.d))))
theorem law23_TrailBack_ok (q : Nat) : Ok Tryd.prog Tryd.f4.ntmps (law23_TrailBack_C q) q (law23_TrailBack_A q) (codeOf Tryd.f4) (fun _ => fnK Tryd.prog Tryd.f4 (List.map Rk.spec [.leaf (.cell (.bool))]) (decR [.leaf (.cell (.bool))])) := by
  have h : (Ok Tryd.prog Tryd.f4.ntmps (law23_TrailBack_C q) q (law23_TrailBack_A q) (codeOf Tryd.f4) (fun _ => fnK Tryd.prog Tryd.f4 (List.map Rk.spec [.leaf (.cell (.bool))]) (decR [.leaf (.cell (.bool))]))) = ((True) ∧ ((True) ∧ ((True) ∧ ((True) ∧ (True))))) := by kernel_rfl
  exact h.mpr (⟨trivial, ⟨trivial, ⟨trivial, ⟨trivial, trivial⟩⟩⟩⟩)
theorem law23_TrailBack_eq (q : Nat) (a : APay [.cell (.raw), .cell (.str)]) : evFn Tryd.prog (law23_TrailBack_C q) q Tryd.f4 (List.map Rk.spec [.leaf (.cell (.bool))]) (RPay [.leaf (.cell (.bool))]) (law23_TrailBack_A q) (encA [.cell (.raw), .cell (.str)] a) (decR [.leaf (.cell (.bool))]) = law23_TrailBack q a.1 a.2.1 := by kernel_rfl
theorem law23_TrailBack_sum {G : World} (hG : GOk G) (q : Nat) : SumSound Tryd.prog G 4 (law23_TrailBack_S q) :=
  sumK_sound (law23_TrailBack_orc hG q) hmix (code := codeOf Tryd.f4) Tryd.func4 (by kernel_rfl) (by kernel_rfl) (by kernel_rfl) (by kernel_rfl) (law23_TrailBack_ok q) (law23_TrailBack_eq q)

end Go.Ax
