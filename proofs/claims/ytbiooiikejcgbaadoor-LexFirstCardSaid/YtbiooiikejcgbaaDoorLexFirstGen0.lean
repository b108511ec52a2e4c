/- The functions that the law reaches, part 0: what each computes, and that it does: printed by a program of this claim. -/
import Derived.Test.YtbiooiikejcgbaaDoorLexFirstLib
import Derived.Test.YtbiooiikejcgbaaDoorProg
import Derived.KernelRfl
set_option linter.unusedVariables false
set_option maxRecDepth 1000000
namespace Go.Ax
open Go Go.Proofs
theorem hmix : Tryd.prog.follows .mixedOrders = true := by kernel_rfl
/-! internal/stringslite.HasPrefix -/
def internal_stringslite_HasPrefix (q : Nat) (a0 : ByteArray) (a1 : ByteArray) : Option (Bool × Unit) :=
  (if (decide ((a0.size : Int) ≥ (a1.size : Int))) = true then (substr a0 (0 : Int) (a1.size : Int)).bind fun v1 =>
  some (strEq v1 a1) else some false).bind fun v2 =>
  some (v2, ())
@[reducible] def internal_stringslite_HasPrefix_S (q : Nat) : Summary := sumK [.cell (.str), .cell (.str)] [.leaf (.cell (.bool))] fun a => internal_stringslite_HasPrefix q a.1 a.2.1
@[reducible] def internal_stringslite_HasPrefix_T (q : Nat) : Alt [.leaf (.cell (.bool))] := ⟨[.cell (.str), .cell (.str)], fun a => internal_stringslite_HasPrefix q a.1 a.2.1⟩
def internal_stringslite_HasPrefix_C (q : Nat) : Nat → Option Summary := orcL []
theorem internal_stringslite_HasPrefix_orc {G : World} (hG : GOk G) (q : Nat) : OrcSound Tryd.prog G (internal_stringslite_HasPrefix_C q) := orc_nil
def internal_stringslite_HasPrefix_A (q : Nat) : Ann (RPay [.leaf (.cell (.bool))]) :=
  .d
theorem internal_stringslite_HasPrefix_ok (q : Nat) : Ok Tryd.prog Tryd.f31.ntmps (internal_stringslite_HasPrefix_C q) q (internal_stringslite_HasPrefix_A q) (codeOf Tryd.f31) (fun _ => fnK Tryd.prog Tryd.f31 (List.map Rk.spec [.leaf (.cell (.bool))]) (decR [.leaf (.cell (.bool))])) := by
  have h : (Ok Tryd.prog Tryd.f31.ntmps (internal_stringslite_HasPrefix_C q) q (internal_stringslite_HasPrefix_A q) (codeOf Tryd.f31) (fun _ => fnK Tryd.prog Tryd.f31 (List.map Rk.spec [.leaf (.cell (.bool))]) (decR [.leaf (.cell (.bool))]))) = (True) := by kernel_rfl
  exact h.mpr (trivial)
theorem internal_stringslite_HasPrefix_eq (q : Nat) (a : APay [.cell (.str), .cell (.str)]) : evFn Tryd.prog (internal_stringslite_HasPrefix_C q) q Tryd.f31 (List.map Rk.spec [.leaf (.cell (.bool))]) (RPay [.leaf (.cell (.bool))]) (internal_stringslite_HasPrefix_A q) (encA [.cell (.str), .cell (.str)] a) (decR [.leaf (.cell (.bool))]) = internal_stringslite_HasPrefix q a.1 a.2.1 := by kernel_rfl
theorem internal_stringslite_HasPrefix_sum {G : World} (hG : GOk G) (q : Nat) : SumSound Tryd.prog G 31 (internal_stringslite_HasPrefix_S q) :=
  sumK_sound (internal_stringslite_HasPrefix_orc hG q) hmix (code := codeOf Tryd.f31) Tryd.func31 (by kernel_rfl) (by kernel_rfl) (by kernel_rfl) (by kernel_rfl) (internal_stringslite_HasPrefix_ok q) (internal_stringslite_HasPrefix_eq q)

/-! strings.HasPrefix -/
def strings_HasPrefix (q : Nat) (a0 : ByteArray) (a1 : ByteArray) : Option (Bool × Unit) :=
  (internal_stringslite_HasPrefix q a0 a1).bind fun v1 =>
  some (v1.1, ())
@[reducible] def strings_HasPrefix_S (q : Nat) : Summary := sumK [.cell (.str), .cell (.str)] [.leaf (.cell (.bool))] fun a => strings_HasPrefix q a.1 a.2.1
@[reducible] def strings_HasPrefix_T (q : Nat) : Alt [.leaf (.cell (.bool))] := ⟨[.cell (.str), .cell (.str)], fun a => strings_HasPrefix q a.1 a.2.1⟩
def strings_HasPrefix_C (q : Nat) : Nat → Option Summary := orcL [(31, internal_stringslite_HasPrefix_S q)]
theorem strings_HasPrefix_orc {G : World} (hG : GOk G) (q : Nat) : OrcSound Tryd.prog G (strings_HasPrefix_C q) := (orc_cons (internal_stringslite_HasPrefix_sum hG q) orc_nil)
def strings_HasPrefix_A (q : Nat) : Ann (RPay [.leaf (.cell (.bool))]) :=
  .d
theorem strings_HasPrefix_ok (q : Nat) : Ok Tryd.prog Tryd.f17.ntmps (strings_HasPrefix_C q) q (strings_HasPrefix_A q) (codeOf Tryd.f17) (fun _ => fnK Tryd.prog Tryd.f17 (List.map Rk.spec [.leaf (.cell (.bool))]) (decR [.leaf (.cell (.bool))])) := by
  have h : (Ok Tryd.prog Tryd.f17.ntmps (strings_HasPrefix_C q) q (strings_HasPrefix_A q) (codeOf Tryd.f17) (fun _ => fnK Tryd.prog Tryd.f17 (List.map Rk.spec [.leaf (.cell (.bool))]) (decR [.leaf (.cell (.bool))]))) = (True) := by kernel_rfl
  exact h.mpr (trivial)
theorem strings_HasPrefix_eq (q : Nat) (a : APay [.cell (.str), .cell (.str)]) : evFn Tryd.prog (strings_HasPrefix_C q) q Tryd.f17 (List.map Rk.spec [.leaf (.cell (.bool))]) (RPay [.leaf (.cell (.bool))]) (strings_HasPrefix_A q) (encA [.cell (.str), .cell (.str)] a) (decR [.leaf (.cell (.bool))]) = strings_HasPrefix q a.1 a.2.1 := by kernel_rfl
theorem strings_HasPrefix_sum {G : World} (hG : GOk G) (q : Nat) : SumSound Tryd.prog G 17 (strings_HasPrefix_S q) :=
  sumK_sound (strings_HasPrefix_orc hG q) hmix (code := codeOf Tryd.f17) Tryd.func17 (by kernel_rfl) (by kernel_rfl) (by kernel_rfl) (by kernel_rfl) (strings_HasPrefix_ok q) (strings_HasPrefix_eq q)

/-! spinneret/lex.blank -/
def lex_blank (q : Nat) (a0 : ByteArray) : Option (Int × Int × Unit) :=
  (byteAt a0 (0 : Int)).bind fun v1 =>
  if (v1 == (10 : Int)) = true then (
  some (1, 1, ()))
  else (
  (lib_strings_IndexByte q (ByteArray.mk #[32, 9, 12, 13]) v1).bind fun v2 =>
  if (decide (v2.1 ≥ (0 : Int))) = true then (
  some (1, 0, ()))
  else (
  (strings_HasPrefix q a0 (ByteArray.mk #[92, 10])).bind fun v3 =>
  if v3.1 = true then (
  some (2, 0, ()))
  else (
  (strings_HasPrefix q a0 (ByteArray.mk #[47, 47])).bind fun v4 =>
  if v4.1 = true then (
  cutB ((lib_strings_IndexByte q a0 10).bind fun v6 =>
  if (decide (v6.1 < (0 : Int))) = true then (
  some (.inl ((a0.size : Int), ())))
  else (
  some (.inl (v6.1, ())))) fun p5 =>
  some (p5.1, 0, ()))
  else (
  (strings_HasPrefix q a0 (ByteArray.mk #[47, 42])).bind fun v7 =>
  if v7.1 = true then (
  (substr a0 (2 : Int) (a0.size : Int)).bind fun v8 =>
  (lib_strings_Index q v8 (ByteArray.mk #[42, 47])).bind fun v9 =>
  if (decide (v9.1 < (0 : Int))) = true then (
  some ((-1), 0, ()))
  else (
  some ((IntKind.i64.wrap (v9.1 + (4 : Int))), 0, ())))
  else (
  some (0, 0, ()))))))
@[reducible] def lex_blank_S (q : Nat) : Summary := sumK [.cell (.str)] [.leaf (.cell (.int .i64)), .leaf (.cell (.int .i64))] fun a => lex_blank q a.1
@[reducible] def lex_blank_T (q : Nat) : Alt [.leaf (.cell (.int .i64)), .leaf (.cell (.int .i64))] := ⟨[.cell (.str)], fun a => lex_blank q a.1⟩
def lex_blank_C (q : Nat) : Nat → Option Summary := orcL [(16, lib_strings_IndexByte_S q), (17, strings_HasPrefix_S q), (18, lib_strings_Index_S q)]
theorem lex_blank_orc {G : World} (hG : GOk G) (q : Nat) : OrcSound Tryd.prog G (lex_blank_C q) := (orc_cons (lib_strings_IndexByte_sum hG q) (orc_cons (strings_HasPrefix_sum hG q) (orc_cons (lib_strings_Index_sum hG q) orc_nil)))
def lex_blank_A (q : Nat) : Ann (RPay [.leaf (.cell (.int .i64)), .leaf (.cell (.int .i64))]) :=
  .seq (.d) (.seq (.d) (.seq (.seq (.d) (.block (.seq (.d) (.cond (.d) (.seq (.d) (.cond (.d) (.seq (.d) (.cond (.d) (.seq (.d) (.cond (.cut [.tmp 4 (.int .i64)] (.d) (.d)) (.d))))))))))) (.d)))
theorem lex_blank_ok (q : Nat) : Ok Tryd.prog Tryd.f9.ntmps (lex_blank_C q) q (lex_blank_A q) (codeOf Tryd.f9) (fun _ => fnK Tryd.prog Tryd.f9 (List.map Rk.spec [.leaf (.cell (.int .i64)), .leaf (.cell (.int .i64))]) (decR [.leaf (.cell (.int .i64)), .leaf (.cell (.int .i64))])) := by
  have h : (Ok Tryd.prog Tryd.f9.ntmps (lex_blank_C q) q (lex_blank_A q) (codeOf Tryd.f9) (fun _ => fnK Tryd.prog Tryd.f9 (List.map Rk.spec [.leaf (.cell (.int .i64)), .leaf (.cell (.int .i64))]) (decR [.leaf (.cell (.int .i64)), .leaf (.cell (.int .i64))]))) = ((True) ∧ ((True) ∧ (((True) ∧ ((True) ∧ ((True) ∧ ((True) ∧ ((True) ∧ ((True) ∧ ((True) ∧ ((True) ∧ (((True) ∧ (True)) ∧ (True)))))))))) ∧ (True)))) := by kernel_rfl
  exact h.mpr (⟨trivial, ⟨trivial, ⟨⟨trivial, ⟨trivial, ⟨trivial, ⟨trivial, ⟨trivial, ⟨trivial, ⟨trivial, ⟨trivial, ⟨⟨trivial, trivial⟩, trivial⟩⟩⟩⟩⟩⟩⟩⟩⟩, trivial⟩⟩⟩)
theorem lex_blank_eq (q : Nat) (a : APay [.cell (.str)]) : evFn Tryd.prog (lex_blank_C q) q Tryd.f9 (List.map Rk.spec [.leaf (.cell (.int .i64)), .leaf (.cell (.int .i64))]) (RPay [.leaf (.cell (.int .i64)), .leaf (.cell (.int .i64))]) (lex_blank_A q) (encA [.cell (.str)] a) (decR [.leaf (.cell (.int .i64)), .leaf (.cell (.int .i64))]) = lex_blank q a.1 := by kernel_rfl
theorem lex_blank_sum {G : World} (hG : GOk G) (q : Nat) : SumSound Tryd.prog G 9 (lex_blank_S q) :=
  sumK_sound (lex_blank_orc hG q) hmix (code := codeOf Tryd.f9) Tryd.func9 (by kernel_rfl) (by kernel_rfl) (by kernel_rfl) (by kernel_rfl) (lex_blank_ok q) (lex_blank_eq q)

/-! spinneret/lex.letter -/
def lex_letter (q : Nat) (a0 : Int) : Option (Bool × Unit) :=
  (if (a0 == (95 : Int)) = true then some true else (if (decide ((bitOp .or .u8 a0 (32 : Int)) ≥ (97 : Int))) = true then some (decide ((bitOp .or .u8 a0 (32 : Int)) ≤ (122 : Int))) else some false).bind fun v1 =>
  some v1).bind fun v2 =>
  some (v2, ())
@[reducible] def lex_letter_S (q : Nat) : Summary := sumK [.cell (.int .u8)] [.leaf (.cell (.bool))] fun a => lex_letter q a.1
@[reducible] def lex_letter_T (q : Nat) : Alt [.leaf (.cell (.bool))] := ⟨[.cell (.int .u8)], fun a => lex_letter q a.1⟩
def lex_letter_C (q : Nat) : Nat → Option Summary := orcL []
theorem lex_letter_orc {G : World} (hG : GOk G) (q : Nat) : OrcSound Tryd.prog G (lex_letter_C q) := orc_nil
def lex_letter_A (q : Nat) : Ann (RPay [.leaf (.cell (.bool))]) :=
  .d
theorem lex_letter_ok (q : Nat) : Ok Tryd.prog Tryd.f19.ntmps (lex_letter_C q) q (lex_letter_A q) (codeOf Tryd.f19) (fun _ => fnK Tryd.prog Tryd.f19 (List.map Rk.spec [.leaf (.cell (.bool))]) (decR [.leaf (.cell (.bool))])) := by
  have h : (Ok Tryd.prog Tryd.f19.ntmps (lex_letter_C q) q (lex_letter_A q) (codeOf Tryd.f19) (fun _ => fnK Tryd.prog Tryd.f19 (List.map Rk.spec [.leaf (.cell (.bool))]) (decR [.leaf (.cell (.bool))]))) = (True) := by kernel_rfl
  exact h.mpr (trivial)
theorem lex_letter_eq (q : Nat) (a : APay [.cell (.int .u8)]) : evFn Tryd.prog (lex_letter_C q) q Tryd.f19 (List.map Rk.spec [.leaf (.cell (.bool))]) (RPay [.leaf (.cell (.bool))]) (lex_letter_A q) (encA [.cell (.int .u8)] a) (decR [.leaf (.cell (.bool))]) = lex_letter q a.1 := by kernel_rfl
theorem lex_letter_sum {G : World} (hG : GOk G) (q : Nat) : SumSound Tryd.prog G 19 (lex_letter_S q) :=
  sumK_sound (lex_letter_orc hG q) hmix (code := codeOf Tryd.f19) Tryd.func19 (by kernel_rfl) (by kernel_rfl) (by kernel_rfl) (by kernel_rfl) (lex_letter_ok q) (lex_letter_eq q)

/-! spinneret/lex.digit -/
def lex_digit (q : Nat) (a0 : Int) : Option (Bool × Unit) :=
  some ((decide ((IntKind.u8.wrap (a0 - (48 : Int))) ≤ (9 : Int))), ())
@[reducible] def lex_digit_S (q : Nat) : Summary := sumK [.cell (.int .u8)] [.leaf (.cell (.bool))] fun a => lex_digit q a.1
@[reducible] def lex_digit_T (q : Nat) : Alt [.leaf (.cell (.bool))] := ⟨[.cell (.int .u8)], fun a => lex_digit q a.1⟩
def lex_digit_C (q : Nat) : Nat → Option Summary := orcL []
theorem lex_digit_orc {G : World} (hG : GOk G) (q : Nat) : OrcSound Tryd.prog G (lex_digit_C q) := orc_nil
def lex_digit_A (q : Nat) : Ann (RPay [.leaf (.cell (.bool))]) :=
  .d
theorem lex_digit_ok (q : Nat) : Ok Tryd.prog Tryd.f20.ntmps (lex_digit_C q) q (lex_digit_A q) (codeOf Tryd.f20) (fun _ => fnK Tryd.prog Tryd.f20 (List.map Rk.spec [.leaf (.cell (.bool))]) (decR [.leaf (.cell (.bool))])) := by
  have h : (Ok Tryd.prog Tryd.f20.ntmps (lex_digit_C q) q (lex_digit_A q) (codeOf Tryd.f20) (fun _ => fnK Tryd.prog Tryd.f20 (List.map Rk.spec [.leaf (.cell (.bool))]) (decR [.leaf (.cell (.bool))]))) = (True) := by kernel_rfl
  exact h.mpr (trivial)
theorem lex_digit_eq (q : Nat) (a : APay [.cell (.int .u8)]) : evFn Tryd.prog (lex_digit_C q) q Tryd.f20 (List.map Rk.spec [.leaf (.cell (.bool))]) (RPay [.leaf (.cell (.bool))]) (lex_digit_A q) (encA [.cell (.int .u8)] a) (decR [.leaf (.cell (.bool))]) = lex_digit q a.1 := by kernel_rfl
theorem lex_digit_sum {G : World} (hG : GOk G) (q : Nat) : SumSound Tryd.prog G 20 (lex_digit_S q) :=
  sumK_sound (lex_digit_orc hG q) hmix (code := codeOf Tryd.f20) Tryd.func20 (by kernel_rfl) (by kernel_rfl) (by kernel_rfl) (by kernel_rfl) (lex_digit_ok q) (lex_digit_eq q)

/-! spinneret/lex.textual -/
def lex_textual_l0 (q : Nat) : Nat → (ByteArray) → (Int) → (Int) → Option ((Unit) ⊕ (Int × Int × Unit))
  | 0, _, _, _ => none
  | k + 1, x0, x1, x2 =>
    (if (decide (x2 < (x0.size : Int))) = true then (byteAt x0 x2).bind fun v2 =>
    some (v2 != (10 : Int)) else some false).bind fun v3 =>
    if v3 = true then (
    cutB ((byteAt x0 x2).bind fun v5 =>
    (if (v5 == (34 : Int)) = true then some (decide ((IntKind.i64.wrap ((IntKind.i64.wrap (x2 - x1)) - (1 : Int))) > (200 : Int))) else some false).bind fun v6 =>
    if v6 = true then (
    some (.inr ((.inr ((0, 5, ()))))))
    else (
    (byteAt x0 x2).bind fun v7 =>
    if (v7 == (34 : Int)) = true then (
    some (.inr ((.inr (((IntKind.i64.wrap (x2 + (1 : Int))), 0, ()))))))
    else (
    (byteAt x0 x2).bind fun v8 =>
    (if (v8 == (92 : Int)) = true then some (decide ((IntKind.i64.wrap (x2 + (1 : Int))) < (x0.size : Int))) else some false).bind fun v9 =>
    (if v9 = true then (byteAt x0 (IntKind.i64.wrap (x2 + (1 : Int)))).bind fun v10 =>
    some (v10 != (10 : Int)) else some false).bind fun v11 =>
    if v11 = true then (
    some (.inl (x0, x1, (IntKind.i64.wrap (x2 + (1 : Int))), ())))
    else (
    some (.inl (x0, x1, x2, ())))))) fun p4 =>
    lex_textual_l0 q k p4.1 p4.2.1 (IntKind.i64.wrap (p4.2.2.1 + (1 : Int))))
    else (
    some (.inl (())))
def lex_textual (q : Nat) (a0 : ByteArray) (a1 : Int) : Option (Int × Int × Unit) :=
  cutB (lex_textual_l0 q q a0 a1 (IntKind.i64.wrap (a1 + (1 : Int)))) fun p1 =>
  some (0, 3, ())
@[reducible] def lex_textual_S (q : Nat) : Summary := sumK [.cell (.str), .cell (.int .i64)] [.leaf (.cell (.int .i64)), .leaf (.cell (.int .i64))] fun a => lex_textual q a.1 a.2.1
@[reducible] def lex_textual_T (q : Nat) : Alt [.leaf (.cell (.int .i64)), .leaf (.cell (.int .i64))] := ⟨[.cell (.str), .cell (.int .i64)], fun a => lex_textual q a.1 a.2.1⟩
def lex_textual_C (q : Nat) : Nat → Option Summary := orcL []
theorem lex_textual_orc {G : World} (hG : GOk G) (q : Nat) : OrcSound Tryd.prog G (lex_textual_C q) := orc_nil
def lex_textual_A (q : Nat) : Ann (RPay [.leaf (.cell (.int .i64)), .leaf (.cell (.int .i64))]) :=
  .seq (.d) (.cut [] (.seq (.d) (.block (.loop [.tmp 0 (.str), .tmp 1 (.int .i64), .tmp 6 (.int .i64)] (fun k p => lex_textual_l0 q k p.1 p.2.1 p.2.2.1) (.seq (.d) (.cut [.tmp 0 (.str), .tmp 1 (.int .i64), .tmp 6 (.int .i64)] (.d) (.d)))))) (.d))
theorem lex_textual_ok (q : Nat) : Ok Tryd.prog Tryd.f21.ntmps (lex_textual_C q) q (lex_textual_A q) (codeOf Tryd.f21) (fun _ => fnK Tryd.prog Tryd.f21 (List.map Rk.spec [.leaf (.cell (.int .i64)), .leaf (.cell (.int .i64))]) (decR [.leaf (.cell (.int .i64)), .leaf (.cell (.int .i64))])) := by
  have h : (Ok Tryd.prog Tryd.f21.ntmps (lex_textual_C q) q (lex_textual_A q) (codeOf Tryd.f21) (fun _ => fnK Tryd.prog Tryd.f21 (List.map Rk.spec [.leaf (.cell (.int .i64)), .leaf (.cell (.int .i64))]) (decR [.leaf (.cell (.int .i64)), .leaf (.cell (.int .i64))]))) = ((True) ∧ (((True) ∧ ((∀ p : ByteArray × Int × Int × Unit, lex_textual_l0 q 0 p.1 p.2.1 p.2.2.1 = none) ∧ ∀ n : Nat, (∀ p : ByteArray × Int × Int × Unit, lex_textual_l0 q (n + 1) p.1 p.2.1 p.2.2.1 = lex_textual_l0 q (n + 1) p.1 p.2.1 p.2.2.1) ∧ ((True) ∧ ((True) ∧ (True))))) ∧ (True))) := by kernel_rfl
  exact h.mpr (⟨trivial, ⟨⟨trivial, ⟨fun _ => rfl, fun _ => ⟨fun _ => rfl, ⟨trivial, ⟨trivial, trivial⟩⟩⟩⟩⟩, trivial⟩⟩)
theorem lex_textual_eq (q : Nat) (a : APay [.cell (.str), .cell (.int .i64)]) : evFn Tryd.prog (lex_textual_C q) q Tryd.f21 (List.map Rk.spec [.leaf (.cell (.int .i64)), .leaf (.cell (.int .i64))]) (RPay [.leaf (.cell (.int .i64)), .leaf (.cell (.int .i64))]) (lex_textual_A q) (encA [.cell (.str), .cell (.int .i64)] a) (decR [.leaf (.cell (.int .i64)), .leaf (.cell (.int .i64))]) = lex_textual q a.1 a.2.1 := by kernel_rfl
theorem lex_textual_sum {G : World} (hG : GOk G) (q : Nat) : SumSound Tryd.prog G 21 (lex_textual_S q) :=
  sumK_sound (lex_textual_orc hG q) hmix (code := codeOf Tryd.f21) Tryd.func21 (by kernel_rfl) (by kernel_rfl) (by kernel_rfl) (by kernel_rfl) (lex_textual_ok q) (lex_textual_eq q)

/-! spinneret/lex.quoted -/
def lex_quoted (q : Nat) (a0 : ByteArray) : Option (Int × Int × Unit) :=
  (substr a0 (1 : Int) (a0.size : Int)).bind fun v1 =>
  (lib_strings_Cut q v1 (ByteArray.mk #[39])).bind fun v2 =>
  cutB ((strings_HasPrefix q a0 (ByteArray.mk #[39, 92, 39, 39])).bind fun v4 =>
  if v4.1 = true then (
  some (.inr ((39, 4, ()))))
  else (
  (if ((v2.1.size : Int) == (IntKind.i64.wrap ((a0.size : Int) - (1 : Int)))) = true then some true else some ((IntKind.i64.wrap ((IntKind.i64.wrap ((v2.2.1.size : Int) + (v2.1.size : Int))) + (2 : Int))) != (a0.size : Int))).bind fun v5 =>
  if v5 = true then (
  some (.inr ((0, 0, ()))))
  else (
  (if ((v2.1.size : Int) == (1 : Int)) = true then some (!strEq v2.1 (ByteArray.mk #[92])) else some false).bind fun v6 =>
  (if v6 = true then some (!strEq v2.1 (ByteArray.mk #[10])) else some false).bind fun v7 =>
  if v7 = true then (
  (byteAt v2.1 (0 : Int)).bind fun v8 =>
  some (.inr (((IntKind.i64.wrap (v8)), 3, ()))))
  else (
  (if ((v2.1.size : Int) == (2 : Int)) = true then (byteAt v2.1 (0 : Int)).bind fun v9 =>
  some (v9 == (92 : Int)) else some false).bind fun v10 =>
  if v10 = true then (
  (byteAt v2.1 (1 : Int)).bind fun v11 =>
  (lib_strings_IndexByte q (ByteArray.mk #[110, 10, 116, 9, 48, 0, 92, 92, 39, 39]) v11).bind fun v12 =>
  (if (decide (v12.1 ≥ (0 : Int))) = true then some ((Int.tmod v12.1 (2 : Int)) == (0 : Int)) else some false).bind fun v13 =>
  if v13 = true then (
  (byteAt (ByteArray.mk #[110, 10, 116, 9, 48, 0, 92, 92, 39, 39]) (IntKind.i64.wrap (v12.1 + (1 : Int)))).bind fun v14 =>
  some (.inr (((IntKind.i64.wrap (v14)), 4, ()))))
  else (
  some (.inl (()))))
  else (
  some (.inl (()))))))) fun p3 =>
  some (0, 0, ())
@[reducible] def lex_quoted_S (q : Nat) : Summary := sumK [.cell (.str)] [.leaf (.cell (.int .i64)), .leaf (.cell (.int .i64))] fun a => lex_quoted q a.1
@[reducible] def lex_quoted_T (q : Nat) : Alt [.leaf (.cell (.int .i64)), .leaf (.cell (.int .i64))] := ⟨[.cell (.str)], fun a => lex_quoted q a.1⟩
def lex_quoted_C (q : Nat) : Nat → Option Summary := orcL [(33, lib_strings_Cut_S q), (17, strings_HasPrefix_S q), (16, lib_strings_IndexByte_S q)]
theorem lex_quoted_orc {G : World} (hG : GOk G) (q : Nat) : OrcSound Tryd.prog G (lex_quoted_C q) := (orc_cons (lib_strings_Cut_sum hG q) (orc_cons (strings_HasPrefix_sum hG q) (orc_cons (lib_strings_IndexByte_sum hG q) orc_nil)))
def lex_quoted_A (q : Nat) : Ann (RPay [.leaf (.cell (.int .i64)), .leaf (.cell (.int .i64))]) :=
  .seq (.d) (.seq (.d) (.cut [] (.d) (.d)))
theorem lex_quoted_ok (q : Nat) : Ok Tryd.prog Tryd.f22.ntmps (lex_quoted_C q) q (lex_quoted_A q) (codeOf Tryd.f22) (fun _ => fnK Tryd.prog Tryd.f22 (List.map Rk.spec [.leaf (.cell (.int .i64)), .leaf (.cell (.int .i64))]) (decR [.leaf (.cell (.int .i64)), .leaf (.cell (.int .i64))])) := by
  have h : (Ok Tryd.prog Tryd.f22.ntmps (lex_quoted_C q) q (lex_quoted_A q) (codeOf Tryd.f22) (fun _ => fnK Tryd.prog Tryd.f22 (List.map Rk.spec [.leaf (.cell (.int .i64)), .leaf (.cell (.int .i64))]) (decR [.leaf (.cell (.int .i64)), .leaf (.cell (.int .i64))]))) = ((True) ∧ ((True) ∧ ((True) ∧ (True)))) := by kernel_rfl
  exact h.mpr (⟨trivial, ⟨trivial, ⟨trivial, trivial⟩⟩⟩)
theorem lex_quoted_eq (q : Nat) (a : APay [.cell (.str)]) : evFn Tryd.prog (lex_quoted_C q) q Tryd.f22 (List.map Rk.spec [.leaf (.cell (.int .i64)), .leaf (.cell (.int .i64))]) (RPay [.leaf (.cell (.int .i64)), .leaf (.cell (.int .i64))]) (lex_quoted_A q) (encA [.cell (.str)] a) (decR [.leaf (.cell (.int .i64)), .leaf (.cell (.int .i64))]) = lex_quoted q a.1 := by kernel_rfl
theorem lex_quoted_sum {G : World} (hG : GOk G) (q : Nat) : SumSound Tryd.prog G 22 (lex_quoted_S q) :=
  sumK_sound (lex_quoted_orc hG q) hmix (code := codeOf Tryd.f22) Tryd.func22 (by kernel_rfl) (by kernel_rfl) (by kernel_rfl) (by kernel_rfl) (lex_quoted_ok q) (lex_quoted_eq q)

/-! spinneret/lex.token -/
def lex_token_l0 (q : Nat) : Nat → (ByteArray) → (Int) → (Int) → ((Int × Int × Int × ByteArray × Int × Unit)) → Option ((ByteArray × Int × Unit × Int × (Int × Int × Int × ByteArray × Int × Unit) × Unit) ⊕ ((Int × Int × Int × ByteArray × Int × Unit) × Int × Int × Unit))
  | 0, _, _, _, _ => none
  | k + 1, x0, x1, x3, x4 =>
    (if (decide (x3 < (x0.size : Int))) = true then (byteAt x0 x3).bind fun v2 =>
    (lex_letter q v2).bind fun v3 =>
    (if v3.1 = true then some true else (byteAt x0 x3).bind fun v4 =>
    (lex_digit q v4).bind fun v5 =>
    some v5.1).bind fun v6 =>
    some v6 else some false).bind fun v7 =>
    if v7 = true then (
    lex_token_l0 q k x0 x1 (IntKind.i64.wrap (x3 + (1 : Int))) (x4.1, x4.2.1, x4.2.2.1, x4.2.2.2.1, x4.2.2.2.2.1, ()))
    else (
    some (.inl (x0, x1, (), x3, (x4.1, x4.2.1, x4.2.2.1, x4.2.2.2.1, x4.2.2.2.2.1, ()), ())))
def lex_token_g0 (q : Nat) : Nat → (ByteArray) → (Int) → (Int) → ((Int × Int × Int × ByteArray × Int × Unit)) → Option ((Int × Int × Int × ByteArray × Int × Unit) × Int × Int × Unit)
  | 0, _, _, _, _ => none
  | k + 1, x0, x1, x3, x4 =>
    cutB (lex_token_l0 q q x0 x1 x3 (x4.1, x4.2.1, x4.2.2.1, x4.2.2.2.1, x4.2.2.2.2.1, ())) fun p1 =>
    if (decide ((IntKind.i64.wrap (p1.2.2.2.1 - p1.2.1)) > (32 : Int))) = true then (
    some ((p1.2.2.2.2.1.1, p1.2.2.2.2.1.2.1, p1.2.2.2.2.1.2.2.1, p1.2.2.2.2.1.2.2.2.1, p1.2.2.2.2.1.2.2.2.2.1, ()), 0, 5, ()))
    else (
    (substr p1.1 p1.2.1 p1.2.2.2.1).bind fun v8 =>
    some ((1, 0, 0, v8, 0, ()), p1.2.2.2.1, 0, ()))
def lex_token_l1 (q : Nat) : Nat → (ByteArray) → (Int) → (Int) → ((Int × Int × Int × ByteArray × Int × Unit)) → Option ((ByteArray × Int × Unit × Int × (Int × Int × Int × ByteArray × Int × Unit) × Unit) ⊕ ((Int × Int × Int × ByteArray × Int × Unit) × Int × Int × Unit))
  | 0, _, _, _, _ => none
  | k + 1, x0, x1, x3, x4 =>
    (if (decide (x3 < (x0.size : Int))) = true then (byteAt x0 x3).bind fun v10 =>
    (lex_digit q v10).bind fun v11 =>
    some v11.1 else some false).bind fun v12 =>
    if v12 = true then (
    (byteAt x0 x3).bind fun v13 =>
    if (decide ((IntKind.i64.wrap ((IntKind.i64.wrap (x4.2.2.2.2.1 * (10 : Int))) + (IntKind.i64.wrap (IntKind.u8.wrap (v13 - (48 : Int)))))) > (2147483647 : Int))) = true then (
    some (.inr (((x4.1, x4.2.1, x4.2.2.1, x4.2.2.2.1, (IntKind.i64.wrap ((IntKind.i64.wrap (x4.2.2.2.2.1 * (10 : Int))) + (IntKind.i64.wrap (IntKind.u8.wrap (v13 - (48 : Int)))))), ()), 0, 4, ()))))
    else (
    lex_token_l1 q k x0 x1 (IntKind.i64.wrap (x3 + (1 : Int))) (x4.1, x4.2.1, x4.2.2.1, x4.2.2.2.1, (IntKind.i64.wrap ((IntKind.i64.wrap (x4.2.2.2.2.1 * (10 : Int))) + (IntKind.i64.wrap (IntKind.u8.wrap (v13 - (48 : Int)))))), ())))
    else (
    some (.inl (x0, x1, (), x3, (x4.1, x4.2.1, x4.2.2.1, x4.2.2.2.1, x4.2.2.2.2.1, ()), ())))
def lex_token_g1 (q : Nat) : Nat → (ByteArray) → (Int) → (Int) → ((Int × Int × Int × ByteArray × Int × Unit)) → Option ((Int × Int × Int × ByteArray × Int × Unit) × Int × Int × Unit)
  | 0, _, _, _, _ => none
  | k + 1, x0, x1, x3, x4 =>
    cutB (lex_token_l1 q q x0 x1 x3 (x4.1, x4.2.1, x4.2.2.1, x4.2.2.2.1, x4.2.2.2.2.1, ())) fun p9 =>
    (substr p9.1 p9.2.1 p9.2.2.2.1).bind fun v14 =>
    some ((2, 0, 0, v14, p9.2.2.2.2.1.2.2.2.2.1, ()), p9.2.2.2.1, 0, ())
def lex_token_g2 (q : Nat) : Nat → (ByteArray) → (Int) → ((Int × Int × Int × ByteArray × Int × Unit)) → Option ((Int × Int × Int × ByteArray × Int × Unit) × Int × Int × Unit)
  | 0, _, _, _ => none
  | k + 1, x0, x1, x3 =>
    (lex_textual q x0 x1).bind fun v15 =>
    if (v15.2.1 != (0 : Int)) = true then (
    some ((x3.1, x3.2.1, x3.2.2.1, x3.2.2.2.1, x3.2.2.2.2.1, ()), 0, v15.2.1, ()))
    else (
    (substr x0 (IntKind.i64.wrap (x1 + (1 : Int))) (IntKind.i64.wrap (v15.1 - (1 : Int)))).bind fun v16 =>
    some ((3, 0, 0, v16, 0, ()), v15.1, 0, ()))
def lex_token_g3 (q : Nat) : Nat → (ByteArray) → (Int) → ((Int × Int × Int × ByteArray × Int × Unit)) → Option ((Int × Int × Int × ByteArray × Int × Unit) × Int × Int × Unit)
  | 0, _, _, _ => none
  | k + 1, x0, x1, x3 =>
    (substr x0 x1 (x0.size : Int)).bind fun v17 =>
    (lex_quoted q v17).bind fun v18 =>
    if (v18.2.1 == (0 : Int)) = true then (
    some ((x3.1, x3.2.1, x3.2.2.1, x3.2.2.2.1, v18.1, ()), 0, 3, ()))
    else (
    (substr x0 x1 (IntKind.i64.wrap (x1 + v18.2.1))).bind fun v19 =>
    some ((2, 0, 0, v19, v18.1, ()), (IntKind.i64.wrap (x1 + v18.2.1)), 0, ()))
def lex_token_l2 (q : Nat) : Nat → (ByteArray) → (Int) → (List T) → (Int) → (Int) → ((Int × Int × Int × ByteArray × Int × Unit)) → Option ((Unit × (Int × Int × Int × ByteArray × Int × Unit) × Unit) ⊕ ((Int × Int × Int × ByteArray × Int × Unit) × Int × Int × Unit))
  | 0, _, _, _, _, _, _ => none
  | k + 1, x0, x1, x3, x4, x5, x6 =>
    if (decide (x5 < x4)) = true then (
    (rd x3 x5 1).bind fun v24 =>
    (T.asStr (T.leaf v24 0)).bind fun v25 =>
    (substr x0 x1 (x0.size : Int)).bind fun v26 =>
    (strings_HasPrefix q v26 v25).bind fun v27 =>
    if v27.1 = true then (
    some (.inr (((4, 0, 0, v25, 0, ()), (IntKind.i64.wrap (x1 + (v25.size : Int))), 0, ()))))
    else (
    lex_token_l2 q k x0 x1 x3 x4 (IntKind.i64.wrap (x5 + (1 : Int))) (x6.1, x6.2.1, x6.2.2.1, x6.2.2.2.1, x6.2.2.2.2.1, ())))
    else (
    some (.inl ((), (x6.1, x6.2.1, x6.2.2.1, x6.2.2.2.1, x6.2.2.2.2.1, ()), ())))
def lex_token (q : Nat) (a0 : ByteArray) (a1 : Int) (a2 : List T) : Option ((Int × Int × Int × ByteArray × Int × Unit) × Int × Int × Unit) :=
  (byteAt a0 a1).bind fun v20 =>
  (lex_letter q v20).bind fun v21 =>
  if v21.1 = true then (
  lex_token_g0 q q a0 a1 a1 (0, 0, 0, emp, 0, ()))
  else (
  (lex_digit q v20).bind fun v22 =>
  if v22.1 = true then (
  lex_token_g1 q q a0 a1 a1 (0, 0, 0, emp, 0, ()))
  else (
  if (v20 == (34 : Int)) = true then (
  lex_token_g2 q q a0 a1 (0, 0, 0, emp, 0, ()))
  else (
  if (v20 == (39 : Int)) = true then (
  lex_token_g3 q q a0 a1 (0, 0, 0, emp, 0, ()))
  else (
  cutB (lex_token_l2 q q a0 a1 a2 (a2.length : Int) 0 (0, 0, 0, emp, 0, ())) fun p23 =>
  some ((p23.2.1.1, p23.2.1.2.1, p23.2.1.2.2.1, p23.2.1.2.2.2.1, p23.2.1.2.2.2.2.1, ()), 0, 2, ())))))
@[reducible] def lex_token_S (q : Nat) : Summary := sumK [.cell (.str), .cell (.int .i64), .cell (.lst)] [.agg [.cell (.int .i64), .cell (.int .i64), .cell (.int .i64), .cell (.str), .cell (.int .i64)], .leaf (.cell (.int .i64)), .leaf (.cell (.int .i64))] fun a => lex_token q a.1 a.2.1 a.2.2.1
@[reducible] def lex_token_T (q : Nat) : Alt [.agg [.cell (.int .i64), .cell (.int .i64), .cell (.int .i64), .cell (.str), .cell (.int .i64)], .leaf (.cell (.int .i64)), .leaf (.cell (.int .i64))] := ⟨[.cell (.str), .cell (.int .i64), .cell (.lst)], fun a => lex_token q a.1 a.2.1 a.2.2.1⟩
def lex_token_C (q : Nat) : Nat → Option Summary := orcL [(19, lex_letter_S q), (20, lex_digit_S q), (17, strings_HasPrefix_S q), (21, lex_textual_S q), (22, lex_quoted_S q)]
theorem lex_token_orc {G : World} (hG : GOk G) (q : Nat) : OrcSound Tryd.prog G (lex_token_C q) := (orc_cons (lex_letter_sum hG q) (orc_cons (lex_digit_sum hG q) (orc_cons (strings_HasPrefix_sum hG q) (orc_cons (lex_textual_sum hG q) (orc_cons (lex_quoted_sum hG q) orc_nil)))))
def lex_token_A (q : Nat) : Ann (RPay [.agg [.cell (.int .i64), .cell (.int .i64), .cell (.int .i64), .cell (.str), .cell (.int .i64)], .leaf (.cell (.int .i64)), .leaf (.cell (.int .i64))]) :=
  .seq (.d) (.scope (.seq (.d) (.seq (.d) (.seq (.d) (.cut [.tmp 6 (.bp 6 0), .box 6 [.int .i64, .int .i64, .int .i64, .str, .int .i64]] (.seq (.d) (.block (.loop [.tmp 0 (.str), .tmp 1 (.int .i64), .tmp 6 (.bp 6 0), .tmp 28 (.lst), .tmp 29 (.int .i64), .tmp 30 (.int .i64), .box 6 [.int .i64, .int .i64, .int .i64, .str, .int .i64]] (fun k p => lex_token_l2 q k p.1 p.2.1 p.2.2.2.1 p.2.2.2.2.1 p.2.2.2.2.2.1 p.2.2.2.2.2.2.1) (.d)))) (.d))))) (.lab 0 [.tmp 0 (.str), .tmp 1 (.int .i64), .tmp 6 (.bp 6 0), .tmp 7 (.int .i64), .box 6 [.int .i64, .int .i64, .int .i64, .str, .int .i64]] (fun k p => lex_token_g0 q k p.1 p.2.1 p.2.2.2.1 p.2.2.2.2.1) (.seq (.d) (.cut [.tmp 0 (.str), .tmp 1 (.int .i64), .tmp 6 (.bp 6 0), .tmp 7 (.int .i64), .box 6 [.int .i64, .int .i64, .int .i64, .str, .int .i64]] (.block (.loop [.tmp 0 (.str), .tmp 1 (.int .i64), .tmp 6 (.bp 6 0), .tmp 7 (.int .i64), .box 6 [.int .i64, .int .i64, .int .i64, .str, .int .i64]] (fun k p => lex_token_l0 q k p.1 p.2.1 p.2.2.2.1 p.2.2.2.2.1) (.d))) (.d))) (.lab 1 [.tmp 0 (.str), .tmp 1 (.int .i64), .tmp 6 (.bp 6 0), .tmp 7 (.int .i64), .box 6 [.int .i64, .int .i64, .int .i64, .str, .int .i64]] (fun k p => lex_token_g1 q k p.1 p.2.1 p.2.2.2.1 p.2.2.2.2.1) (.seq (.d) (.cut [.tmp 0 (.str), .tmp 1 (.int .i64), .tmp 6 (.bp 6 0), .tmp 7 (.int .i64), .box 6 [.int .i64, .int .i64, .int .i64, .str, .int .i64]] (.block (.loop [.tmp 0 (.str), .tmp 1 (.int .i64), .tmp 6 (.bp 6 0), .tmp 7 (.int .i64), .box 6 [.int .i64, .int .i64, .int .i64, .str, .int .i64]] (fun k p => lex_token_l1 q k p.1 p.2.1 p.2.2.2.1 p.2.2.2.2.1) (.d))) (.d))) (.lab 2 [.tmp 0 (.str), .tmp 1 (.int .i64), .tmp 6 (.bp 6 0), .box 6 [.int .i64, .int .i64, .int .i64, .str, .int .i64]] (fun k p => lex_token_g2 q k p.1 p.2.1 p.2.2.2.1) (.d) (.lab 3 [.tmp 0 (.str), .tmp 1 (.int .i64), .tmp 6 (.bp 6 0), .box 6 [.int .i64, .int .i64, .int .i64, .str, .int .i64]] (fun k p => lex_token_g3 q k p.1 p.2.1 p.2.2.2.1) (.d) (.d))))))
theorem lex_token_ok (q : Nat) : Ok Tryd.prog Tryd.f10.ntmps (lex_token_C q) q (lex_token_A q) (codeOf Tryd.f10) (fun _ => fnK Tryd.prog Tryd.f10 (List.map Rk.spec [.agg [.cell (.int .i64), .cell (.int .i64), .cell (.int .i64), .cell (.str), .cell (.int .i64)], .leaf (.cell (.int .i64)), .leaf (.cell (.int .i64))]) (decR [.agg [.cell (.int .i64), .cell (.int .i64), .cell (.int .i64), .cell (.str), .cell (.int .i64)], .leaf (.cell (.int .i64)), .leaf (.cell (.int .i64))])) := by
  have h : (Ok Tryd.prog Tryd.f10.ntmps (lex_token_C q) q (lex_token_A q) (codeOf Tryd.f10) (fun _ => fnK Tryd.prog Tryd.f10 (List.map Rk.spec [.agg [.cell (.int .i64), .cell (.int .i64), .cell (.int .i64), .cell (.str), .cell (.int .i64)], .leaf (.cell (.int .i64)), .leaf (.cell (.int .i64))]) (decR [.agg [.cell (.int .i64), .cell (.int .i64), .cell (.int .i64), .cell (.str), .cell (.int .i64)], .leaf (.cell (.int .i64)), .leaf (.cell (.int .i64))]))) = ((True) ∧ (((True) ∧ ((True) ∧ ((True) ∧ (((True) ∧ ((∀ p : ByteArray × Int × Unit × List T × Int × Int × (Int × Int × Int × ByteArray × Int × Unit) × Unit, lex_token_l2 q 0 p.1 p.2.1 p.2.2.2.1 p.2.2.2.2.1 p.2.2.2.2.2.1 p.2.2.2.2.2.2.1 = none) ∧ ∀ n : Nat, (∀ p : ByteArray × Int × Unit × List T × Int × Int × (Int × Int × Int × ByteArray × Int × Unit) × Unit, lex_token_l2 q (n + 1) p.1 p.2.1 p.2.2.2.1 p.2.2.2.2.1 p.2.2.2.2.2.1 p.2.2.2.2.2.2.1 = lex_token_l2 q (n + 1) p.1 p.2.1 p.2.2.2.1 p.2.2.2.2.1 p.2.2.2.2.2.1 p.2.2.2.2.2.2.1) ∧ (True))) ∧ (True))))) ∧ (((∀ p : ByteArray × Int × Unit × Int × (Int × Int × Int × ByteArray × Int × Unit) × Unit, lex_token_g0 q 0 p.1 p.2.1 p.2.2.2.1 p.2.2.2.2.1 = none) ∧ ∀ n : Nat, (∀ p : ByteArray × Int × Unit × Int × (Int × Int × Int × ByteArray × Int × Unit) × Unit, lex_token_g0 q (n + 1) p.1 p.2.1 p.2.2.2.1 p.2.2.2.2.1 = lex_token_g0 q (n + 1) p.1 p.2.1 p.2.2.2.1 p.2.2.2.2.1) ∧ ((True) ∧ (((∀ p : ByteArray × Int × Unit × Int × (Int × Int × Int × ByteArray × Int × Unit) × Unit, lex_token_l0 q 0 p.1 p.2.1 p.2.2.2.1 p.2.2.2.2.1 = none) ∧ ∀ n : Nat, (∀ p : ByteArray × Int × Unit × Int × (Int × Int × Int × ByteArray × Int × Unit) × Unit, lex_token_l0 q (n + 1) p.1 p.2.1 p.2.2.2.1 p.2.2.2.2.1 = lex_token_l0 q (n + 1) p.1 p.2.1 p.2.2.2.1 p.2.2.2.2.1) ∧ (True)) ∧ (True)))) ∧ (((∀ p : ByteArray × Int × Unit × Int × (Int × Int × Int × ByteArray × Int × Unit) × Unit, lex_token_g1 q 0 p.1 p.2.1 p.2.2.2.1 p.2.2.2.2.1 = none) ∧ ∀ n : Nat, (∀ p : ByteArray × Int × Unit × Int × (Int × Int × Int × ByteArray × Int × Unit) × Unit, lex_token_g1 q (n + 1) p.1 p.2.1 p.2.2.2.1 p.2.2.2.2.1 = lex_token_g1 q (n + 1) p.1 p.2.1 p.2.2.2.1 p.2.2.2.2.1) ∧ ((True) ∧ (((∀ p : ByteArray × Int × Unit × Int × (Int × Int × Int × ByteArray × Int × Unit) × Unit, lex_token_l1 q 0 p.1 p.2.1 p.2.2.2.1 p.2.2.2.2.1 = none) ∧ ∀ n : Nat, (∀ p : ByteArray × Int × Unit × Int × (Int × Int × Int × ByteArray × Int × Unit) × Unit, lex_token_l1 q (n + 1) p.1 p.2.1 p.2.2.2.1 p.2.2.2.2.1 = lex_token_l1 q (n + 1) p.1 p.2.1 p.2.2.2.1 p.2.2.2.2.1) ∧ (True)) ∧ (True)))) ∧ (((∀ p : ByteArray × Int × Unit × (Int × Int × Int × ByteArray × Int × Unit) × Unit, lex_token_g2 q 0 p.1 p.2.1 p.2.2.2.1 = none) ∧ ∀ n : Nat, (∀ p : ByteArray × Int × Unit × (Int × Int × Int × ByteArray × Int × Unit) × Unit, lex_token_g2 q (n + 1) p.1 p.2.1 p.2.2.2.1 = lex_token_g2 q (n + 1) p.1 p.2.1 p.2.2.2.1) ∧ (True)) ∧ (((∀ p : ByteArray × Int × Unit × (Int × Int × Int × ByteArray × Int × Unit) × Unit, lex_token_g3 q 0 p.1 p.2.1 p.2.2.2.1 = none) ∧ ∀ n : Nat, (∀ p : ByteArray × Int × Unit × (Int × Int × Int × ByteArray × Int × Unit) × Unit, lex_token_g3 q (n + 1) p.1 p.2.1 p.2.2.2.1 = lex_token_g3 q (n + 1) p.1 p.2.1 p.2.2.2.1) ∧ (True)) ∧ (True))))))) := by kernel_rfl
  exact h.mpr (⟨trivial, ⟨⟨trivial, ⟨trivial, ⟨trivial, ⟨⟨trivial, ⟨fun _ => rfl, fun _ => ⟨fun _ => rfl, trivial⟩⟩⟩, trivial⟩⟩⟩⟩, ⟨⟨fun _ => rfl, fun _ => ⟨fun _ => rfl, ⟨trivial, ⟨⟨fun _ => rfl, fun _ => ⟨fun _ => rfl, trivial⟩⟩, trivial⟩⟩⟩⟩, ⟨⟨fun _ => rfl, fun _ => ⟨fun _ => rfl, ⟨trivial, ⟨⟨fun _ => rfl, fun _ => ⟨fun _ => rfl, trivial⟩⟩, trivial⟩⟩⟩⟩, ⟨⟨fun _ => rfl, fun _ => ⟨fun _ => rfl, trivial⟩⟩, ⟨⟨fun _ => rfl, fun _ => ⟨fun _ => rfl, trivial⟩⟩, trivial⟩⟩⟩⟩⟩⟩)
theorem lex_token_eq (q : Nat) (a : APay [.cell (.str), .cell (.int .i64), .cell (.lst)]) : evFn Tryd.prog (lex_token_C q) q Tryd.f10 (List.map Rk.spec [.agg [.cell (.int .i64), .cell (.int .i64), .cell (.int .i64), .cell (.str), .cell (.int .i64)], .leaf (.cell (.int .i64)), .leaf (.cell (.int .i64))]) (RPay [.agg [.cell (.int .i64), .cell (.int .i64), .cell (.int .i64), .cell (.str), .cell (.int .i64)], .leaf (.cell (.int .i64)), .leaf (.cell (.int .i64))]) (lex_token_A q) (encA [.cell (.str), .cell (.int .i64), .cell (.lst)] a) (decR [.agg [.cell (.int .i64), .cell (.int .i64), .cell (.int .i64), .cell (.str), .cell (.int .i64)], .leaf (.cell (.int .i64)), .leaf (.cell (.int .i64))]) = lex_token q a.1 a.2.1 a.2.2.1 := by kernel_rfl
theorem lex_token_sum {G : World} (hG : GOk G) (q : Nat) : SumSound Tryd.prog G 10 (lex_token_S q) :=
  sumK_sound (lex_token_orc hG q) hmix (code := codeOf Tryd.f10) Tryd.func10 (by kernel_rfl) (by kernel_rfl) (by kernel_rfl) (by kernel_rfl) (lex_token_ok q) (lex_token_eq q)

/-! strings.Clone -/
def strings_Clone (q : Nat) (a0 : ByteArray) : Option (ByteArray × Unit) :=
  (lib_internal_stringslite_Clone q a0).bind fun v1 =>
  some (v1.1, ())
@[reducible] def strings_Clone_S (q : Nat) : Summary := sumK [.cell (.str)] [.leaf (.cell (.str))] fun a => strings_Clone q a.1
@[reducible] def strings_Clone_T (q : Nat) : Alt [.leaf (.cell (.str))] := ⟨[.cell (.str)], fun a => strings_Clone q a.1⟩
def strings_Clone_C (q : Nat) : Nat → Option Summary := orcL [(23, lib_internal_stringslite_Clone_S q)]
theorem strings_Clone_orc {G : World} (hG : GOk G) (q : Nat) : OrcSound Tryd.prog G (strings_Clone_C q) := (orc_cons (lib_internal_stringslite_Clone_sum hG q) orc_nil)
def strings_Clone_A (q : Nat) : Ann (RPay [.leaf (.cell (.str))]) :=
  .d
theorem strings_Clone_ok (q : Nat) : Ok Tryd.prog Tryd.f11.ntmps (strings_Clone_C q) q (strings_Clone_A q) (codeOf Tryd.f11) (fun _ => fnK Tryd.prog Tryd.f11 (List.map Rk.spec [.leaf (.cell (.str))]) (decR [.leaf (.cell (.str))])) := by
  have h : (Ok Tryd.prog Tryd.f11.ntmps (strings_Clone_C q) q (strings_Clone_A q) (codeOf Tryd.f11) (fun _ => fnK Tryd.prog Tryd.f11 (List.map Rk.spec [.leaf (.cell (.str))]) (decR [.leaf (.cell (.str))]))) = (True) := by kernel_rfl
  exact h.mpr (trivial)
theorem strings_Clone_eq (q : Nat) (a : APay [.cell (.str)]) : evFn Tryd.prog (strings_Clone_C q) q Tryd.f11 (List.map Rk.spec [.leaf (.cell (.str))]) (RPay [.leaf (.cell (.str))]) (strings_Clone_A q) (encA [.cell (.str)] a) (decR [.leaf (.cell (.str))]) = strings_Clone q a.1 := by kernel_rfl
theorem strings_Clone_sum {G : World} (hG : GOk G) (q : Nat) : SumSound Tryd.prog G 11 (strings_Clone_S q) :=
  sumK_sound (strings_Clone_orc hG q) hmix (code := codeOf Tryd.f11) Tryd.func11 (by kernel_rfl) (by kernel_rfl) (by kernel_rfl) (by kernel_rfl) (strings_Clone_ok q) (strings_Clone_eq q)

/-! spinneret/lex.Tokens -/
def lex_Tokens_g0 (q : Nat) : Nat → (ByteArray) → (Int) → (Int) → (List T) → (List T) → Option (List T × Int × Int × Unit)
  | 0, _, _, _, _, _ => none
  | k + 1, x0, x3, x4, x5, x6 =>
    if (x3 == (x0.size : Int)) = true then (
    if fitsB (x5.length + ([T.agg [T.int .i64 (0 : Int), T.int .i64 x3, T.int .i64 x4, T.str emp, T.int .i64 (0 : Int)]]).length) 48 = true then
    some ((x5 ++ [T.agg [T.int .i64 (0 : Int), T.int .i64 x3, T.int .i64 x4, T.str emp, T.int .i64 (0 : Int)]]), 0, 0, ())
    else none)
    else (
    (substr x0 x3 (x0.size : Int)).bind fun v1 =>
    (lex_blank q v1).bind fun v2 =>
    if (decide (v2.1 < (0 : Int))) = true then (
    some ([], 3, x3, ()))
    else (
    if (decide (v2.1 > (0 : Int))) = true then (
    lex_Tokens_g0 q k x0 (IntKind.i64.wrap (x3 + v2.1)) (IntKind.i64.wrap (x4 + v2.2.1)) x5 x6)
    else (
    (lex_token q x0 x3 x6).bind fun v3 =>
    cutB ((if (v3.2.2.1 == (0 : Int)) = true then some ((x5.length : Int) == (8191 : Int)) else some false).bind fun v5 =>
    if v5 = true then (
    some (.inl (x0, (), (), x3, x4, (), v3.2.1, 8, x5, x6, (v3.1.1, v3.1.2.1, v3.1.2.2.1, v3.1.2.2.2.1, v3.1.2.2.2.2.1, ()), ())))
    else (
    some (.inl (x0, (), (), x3, x4, (), v3.2.1, v3.2.2.1, x5, x6, (v3.1.1, v3.1.2.1, v3.1.2.2.1, v3.1.2.2.2.1, v3.1.2.2.2.2.1, ()), ())))) fun p4 =>
    if (p4.2.2.2.2.2.2.2.1 != (0 : Int)) = true then (
    some ([], p4.2.2.2.2.2.2.2.1, p4.2.2.2.1, ()))
    else (
    (strings_Clone q p4.2.2.2.2.2.2.2.2.2.2.1.2.2.2.1).bind fun v6 =>
    if fitsB (p4.2.2.2.2.2.2.2.2.1.length + ([T.agg [T.int .i64 p4.2.2.2.2.2.2.2.2.2.2.1.1, T.int .i64 p4.2.2.2.1, T.int .i64 p4.2.2.2.2.1, T.str v6.1, T.int .i64 p4.2.2.2.2.2.2.2.2.2.2.1.2.2.2.2.1]]).length) 48 = true then
    lex_Tokens_g0 q k p4.1 p4.2.2.2.2.2.2.1 p4.2.2.2.2.1 (p4.2.2.2.2.2.2.2.2.1 ++ [T.agg [T.int .i64 p4.2.2.2.2.2.2.2.2.2.2.1.1, T.int .i64 p4.2.2.2.1, T.int .i64 p4.2.2.2.2.1, T.str v6.1, T.int .i64 p4.2.2.2.2.2.2.2.2.2.2.1.2.2.2.2.1]]) p4.2.2.2.2.2.2.2.2.2.1
    else none))))
def lex_Tokens (q : Nat) (a0 : ByteArray) : Option (List T × Int × Int × Unit) :=
  if (decide ((a0.size : Int) > (65535 : Int))) = true then (
  some ([], 1, 65535, ()))
  else (
  (lib_strings_Fields q (ByteArray.mk #[33, 33, 32, 63, 63, 32, 45, 62, 32, 58, 58, 32, 43, 43, 32, 45, 45, 32, 60, 60, 32, 62, 62, 32, 60, 61, 32, 62, 61, 32, 61, 61, 32, 33, 61, 32, 38, 38, 32, 124, 124, 32, 46, 46, 32, 33, 32, 63, 32, 60, 32, 62, 32, 61, 32, 43, 32, 45, 32, 42, 32, 47, 32, 37, 32, 38, 32, 124, 32, 94, 32, 126, 32, 40, 32, 41, 32, 91, 32, 93, 32, 123, 32, 125, 32, 44, 32, 59, 32, 58, 32, 46, 32, 64, 32, 35])).bind fun v7 =>
  if ((0 : Int) == (a0.size : Int)) = true then (
  some (([T.agg [T.int .i64 (0 : Int), T.int .i64 (0 : Int), T.int .i64 (1 : Int), T.str emp, T.int .i64 (0 : Int)]]), 0, 0, ()))
  else (
  (substr a0 (0 : Int) (a0.size : Int)).bind fun v8 =>
  (lex_blank q v8).bind fun v9 =>
  if (decide (v9.1 < (0 : Int))) = true then (
  some ([], 3, 0, ()))
  else (
  if (decide (v9.1 > (0 : Int))) = true then (
  lex_Tokens_g0 q q a0 (IntKind.i64.wrap ((0 : Int) + v9.1)) (IntKind.i64.wrap ((1 : Int) + v9.2.1)) [] v7.1)
  else (
  (lex_token q a0 0 v7.1).bind fun v10 =>
  cutB ((if (v10.2.2.1 == (0 : Int)) = true then some ((0 : Int) == (8191 : Int)) else some false).bind fun v12 =>
  if v12 = true then (
  some (.inl (a0, (), (), 0, 1, (), v10.2.1, 8, v7.1, (v10.1.1, v10.1.2.1, v10.1.2.2.1, v10.1.2.2.2.1, v10.1.2.2.2.2.1, ()), ())))
  else (
  some (.inl (a0, (), (), 0, 1, (), v10.2.1, v10.2.2.1, v7.1, (v10.1.1, v10.1.2.1, v10.1.2.2.1, v10.1.2.2.2.1, v10.1.2.2.2.2.1, ()), ())))) fun p11 =>
  if (p11.2.2.2.2.2.2.2.1 != (0 : Int)) = true then (
  some ([], p11.2.2.2.2.2.2.2.1, p11.2.2.2.1, ()))
  else (
  (strings_Clone q p11.2.2.2.2.2.2.2.2.2.1.2.2.2.1).bind fun v13 =>
  lex_Tokens_g0 q q p11.1 p11.2.2.2.2.2.2.1 p11.2.2.2.2.1 ([T.agg [T.int .i64 p11.2.2.2.2.2.2.2.2.2.1.1, T.int .i64 p11.2.2.2.1, T.int .i64 p11.2.2.2.2.1, T.str v13.1, T.int .i64 p11.2.2.2.2.2.2.2.2.2.1.2.2.2.2.1]]) p11.2.2.2.2.2.2.2.2.1)))))
@[reducible] def lex_Tokens_S (q : Nat) : Summary := sumK [.cell (.str)] [.leaf (.own 5), .leaf (.cell (.int .i64)), .leaf (.cell (.int .i64))] fun a => lex_Tokens q a.1
@[reducible] def lex_Tokens_T (q : Nat) : Alt [.leaf (.own 5), .leaf (.cell (.int .i64)), .leaf (.cell (.int .i64))] := ⟨[.cell (.str)], fun a => lex_Tokens q a.1⟩
def lex_Tokens_C (q : Nat) : Nat → Option Summary := orcL [(8, lib_strings_Fields_S q), (9, lex_blank_S q), (10, lex_token_S q), (11, strings_Clone_S q)]
theorem lex_Tokens_orc {G : World} (hG : GOk G) (q : Nat) : OrcSound Tryd.prog G (lex_Tokens_C q) := (orc_cons (lib_strings_Fields_sum hG q) (orc_cons (lex_blank_sum hG q) (orc_cons (lex_token_sum hG q) (orc_cons (strings_Clone_sum hG q) orc_nil))))
def lex_Tokens_A (q : Nat) : Ann (RPay [.leaf (.own 5), .leaf (.cell (.int .i64)), .leaf (.cell (.int .i64))]) :=
  .seq (.d) (.scope (.seq (.d) (.seq (.d) (.seq (.d) (.seq (.d) (.seq (.d) (.seq (.d) (.seq (.d) (.seq (.d) (.cut [.tmp 0 (.str), .tmp 5 (.nilv), .tmp 6 (.full 95), .tmp 7 (.int .i64), .tmp 8 (.int .i64), .tmp 11 (.bp 11 0), .tmp 12 (.int .i64), .tmp 13 (.int .i64), .row none 95 1, .box 11 [.int .i64, .int .i64, .int .i64, .str, .int .i64]] (.d) (.d)))))))))) (.lab 0 [.tmp 0 (.str), .tmp 5 (.full 1000005), .tmp 6 (.full 95), .tmp 7 (.int .i64), .tmp 8 (.int .i64), .row (some 5) 1000005 5, .row none 95 1] (fun k p => lex_Tokens_g0 q k p.1 p.2.2.2.1 p.2.2.2.2.1 p.2.2.2.2.2.1 p.2.2.2.2.2.2.1) (.seq (.d) (.seq (.d) (.seq (.d) (.seq (.d) (.cut [.tmp 0 (.str), .tmp 5 (.full 1000005), .tmp 6 (.full 95), .tmp 7 (.int .i64), .tmp 8 (.int .i64), .tmp 11 (.bp 11 0), .tmp 12 (.int .i64), .tmp 13 (.int .i64), .row none 1000005 5, .row none 95 1, .box 11 [.int .i64, .int .i64, .int .i64, .str, .int .i64]] (.d) (.d)))))) (.d)))
theorem lex_Tokens_ok (q : Nat) : Ok Tryd.prog Tryd.f5.ntmps (lex_Tokens_C q) q (lex_Tokens_A q) (codeOf Tryd.f5) (fun _ => fnK Tryd.prog Tryd.f5 (List.map Rk.spec [.leaf (.own 5), .leaf (.cell (.int .i64)), .leaf (.cell (.int .i64))]) (decR [.leaf (.own 5), .leaf (.cell (.int .i64)), .leaf (.cell (.int .i64))])) := by
  have h : (Ok Tryd.prog Tryd.f5.ntmps (lex_Tokens_C q) q (lex_Tokens_A q) (codeOf Tryd.f5) (fun _ => fnK Tryd.prog Tryd.f5 (List.map Rk.spec [.leaf (.own 5), .leaf (.cell (.int .i64)), .leaf (.cell (.int .i64))]) (decR [.leaf (.own 5), .leaf (.cell (.int .i64)), .leaf (.cell (.int .i64))]))) = ((True) ∧ (((True) ∧ ((True) ∧ ((True) ∧ ((True) ∧ ((True) ∧ ((True) ∧ ((True) ∧ ((True) ∧ ((True) ∧ (True)))))))))) ∧ (((∀ p : ByteArray × Unit × Unit × Int × Int × List T × List T × Unit, lex_Tokens_g0 q 0 p.1 p.2.2.2.1 p.2.2.2.2.1 p.2.2.2.2.2.1 p.2.2.2.2.2.2.1 = none) ∧ ∀ n : Nat, (∀ p : ByteArray × Unit × Unit × Int × Int × List T × List T × Unit, lex_Tokens_g0 q (n + 1) p.1 p.2.2.2.1 p.2.2.2.2.1 p.2.2.2.2.2.1 p.2.2.2.2.2.2.1 = lex_Tokens_g0 q (n + 1) p.1 p.2.2.2.1 p.2.2.2.2.1 p.2.2.2.2.2.1 p.2.2.2.2.2.2.1) ∧ ((True) ∧ ((True) ∧ ((True) ∧ ((True) ∧ ((True) ∧ (True))))))) ∧ (True)))) := by kernel_rfl
  exact h.mpr (⟨trivial, ⟨⟨trivial, ⟨trivial, ⟨trivial, ⟨trivial, ⟨trivial, ⟨trivial, ⟨trivial, ⟨trivial, ⟨trivial, trivial⟩⟩⟩⟩⟩⟩⟩⟩⟩, ⟨⟨fun _ => rfl, fun _ => ⟨fun _ => rfl, ⟨trivial, ⟨trivial, ⟨trivial, ⟨trivial, ⟨trivial, trivial⟩⟩⟩⟩⟩⟩⟩, trivial⟩⟩⟩)
theorem lex_Tokens_eq (q : Nat) (a : APay [.cell (.str)]) : evFn Tryd.prog (lex_Tokens_C q) q Tryd.f5 (List.map Rk.spec [.leaf (.own 5), .leaf (.cell (.int .i64)), .leaf (.cell (.int .i64))]) (RPay [.leaf (.own 5), .leaf (.cell (.int .i64)), .leaf (.cell (.int .i64))]) (lex_Tokens_A q) (encA [.cell (.str)] a) (decR [.leaf (.own 5), .leaf (.cell (.int .i64)), .leaf (.cell (.int .i64))]) = lex_Tokens q a.1 := by kernel_rfl
theorem lex_Tokens_sum {G : World} (hG : GOk G) (q : Nat) : SumSound Tryd.prog G 5 (lex_Tokens_S q) :=
  sumK_sound (lex_Tokens_orc hG q) hmix (code := codeOf Tryd.f5) Tryd.func5 (by kernel_rfl) (by kernel_rfl) (by kernel_rfl) (by kernel_rfl) (lex_Tokens_ok q) (lex_Tokens_eq q)

/-! spinneret/spinneretref01.begins -/
def ref01_begins (q : Nat) (a0 : ByteArray) (a1 : Int) (a2 : ByteArray) : Option (Bool × Unit) :=
  (if (decide ((IntKind.i64.wrap (a1 + (a2.size : Int))) ≤ (a0.size : Int))) = true then (substr a0 a1 (IntKind.i64.wrap (a1 + (a2.size : Int)))).bind fun v1 =>
  some (strEq v1 a2) else some false).bind fun v2 =>
  some (v2, ())
@[reducible] def ref01_begins_S (q : Nat) : Summary := sumK [.cell (.str), .cell (.int .i64), .cell (.str)] [.leaf (.cell (.bool))] fun a => ref01_begins q a.1 a.2.1 a.2.2.1
@[reducible] def ref01_begins_T (q : Nat) : Alt [.leaf (.cell (.bool))] := ⟨[.cell (.str), .cell (.int .i64), .cell (.str)], fun a => ref01_begins q a.1 a.2.1 a.2.2.1⟩
def ref01_begins_C (q : Nat) : Nat → Option Summary := orcL []
theorem ref01_begins_orc {G : World} (hG : GOk G) (q : Nat) : OrcSound Tryd.prog G (ref01_begins_C q) := orc_nil
def ref01_begins_A (q : Nat) : Ann (RPay [.leaf (.cell (.bool))]) :=
  .d
theorem ref01_begins_ok (q : Nat) : Ok Tryd.prog Tryd.f13.ntmps (ref01_begins_C q) q (ref01_begins_A q) (codeOf Tryd.f13) (fun _ => fnK Tryd.prog Tryd.f13 (List.map Rk.spec [.leaf (.cell (.bool))]) (decR [.leaf (.cell (.bool))])) := by
  have h : (Ok Tryd.prog Tryd.f13.ntmps (ref01_begins_C q) q (ref01_begins_A q) (codeOf Tryd.f13) (fun _ => fnK Tryd.prog Tryd.f13 (List.map Rk.spec [.leaf (.cell (.bool))]) (decR [.leaf (.cell (.bool))]))) = (True) := by kernel_rfl
  exact h.mpr (trivial)
theorem ref01_begins_eq (q : Nat) (a : APay [.cell (.str), .cell (.int .i64), .cell (.str)]) : evFn Tryd.prog (ref01_begins_C q) q Tryd.f13 (List.map Rk.spec [.leaf (.cell (.bool))]) (RPay [.leaf (.cell (.bool))]) (ref01_begins_A q) (encA [.cell (.str), .cell (.int .i64), .cell (.str)] a) (decR [.leaf (.cell (.bool))]) = ref01_begins q a.1 a.2.1 a.2.2.1 := by kernel_rfl
theorem ref01_begins_sum {G : World} (hG : GOk G) (q : Nat) : SumSound Tryd.prog G 13 (ref01_begins_S q) :=
  sumK_sound (ref01_begins_orc hG q) hmix (code := codeOf Tryd.f13) Tryd.func13 (by kernel_rfl) (by kernel_rfl) (by kernel_rfl) (by kernel_rfl) (ref01_begins_ok q) (ref01_begins_eq q)

/-! spinneret/spinneretref01.Blank -/
def ref01_Blank_l0 (q : Nat) : Nat → (ByteArray) → (Int) → (Int) → Option ((Unit) ⊕ ((Unit) ⊕ (Int × Int × Bool × Unit)))
  | 0, _, _, _ => none
  | k + 1, x0, x1, x2 =>
    if (decide (x2 < (x0.size : Int))) = true then (
    (ref01_begins q x0 x2 (ByteArray.mk #[42, 47])).bind fun v10 =>
    if v10.1 = true then (
    some (.inr ((.inr (((IntKind.i64.wrap ((IntKind.i64.wrap (x2 + (2 : Int))) - x1)), 0, true, ()))))))
    else (
    ref01_Blank_l0 q k x0 x1 (IntKind.i64.wrap (x2 + (1 : Int)))))
    else (
    some (.inl (())))
def ref01_Blank_l1 (q : Nat) : Nat → (ByteArray) → (Int) → (Int) → Option ((Int × Unit) ⊕ ((Unit) ⊕ (Int × Int × Bool × Unit)))
  | 0, _, _, _ => none
  | k + 1, x0, x1, x2 =>
    (if (decide ((IntKind.i64.wrap (x1 + x2)) < (x0.size : Int))) = true then (byteAt x0 (IntKind.i64.wrap (x1 + x2))).bind fun v12 =>
    some (v12 != (10 : Int)) else some false).bind fun v13 =>
    if v13 = true then (
    ref01_Blank_l1 q k x0 x1 (IntKind.i64.wrap (x2 + (1 : Int))))
    else (
    some (.inl (x2, ())))
def ref01_Blank (q : Nat) (a0 : ByteArray) (a1 : Int) : Option (Int × Int × Bool × Unit) :=
  (byteAt a0 a1).bind fun v1 =>
  (ref01_begins q a0 a1 (ByteArray.mk #[92, 10])).bind fun v2 =>
  (ref01_begins q a0 a1 (ByteArray.mk #[47, 42])).bind fun v3 =>
  (ref01_begins q a0 a1 (ByteArray.mk #[47, 47])).bind fun v4 =>
  cutB (if (v1 == (10 : Int)) = true then (
  some (.inr ((1, 1, true, ()))))
  else (
  (if (v1 == (32 : Int)) = true then some true else some (v1 == (9 : Int))).bind fun v6 =>
  (if v6 = true then some true else some (v1 == (12 : Int))).bind fun v7 =>
  (if v7 = true then some true else some (v1 == (13 : Int))).bind fun v8 =>
  if v8 = true then (
  some (.inr ((1, 0, true, ()))))
  else (
  if v2.1 = true then (
  some (.inr ((2, 0, true, ()))))
  else (
  if v3.1 = true then (
  cutB (ref01_Blank_l0 q q a0 a1 (IntKind.i64.wrap (a1 + (2 : Int)))) fun p9 =>
  some (.inr ((0, 0, false, ()))))
  else (
  if v4.1 = true then (
  cutB (ref01_Blank_l1 q q a0 a1 0) fun p11 =>
  some (.inr ((p11.1, 0, true, ()))))
  else (
  some (.inl (())))))))) fun p5 =>
  some (0, 0, true, ())
@[reducible] def ref01_Blank_S (q : Nat) : Summary := sumK [.cell (.str), .cell (.int .i64)] [.leaf (.cell (.int .i64)), .leaf (.cell (.int .i64)), .leaf (.cell (.bool))] fun a => ref01_Blank q a.1 a.2.1
@[reducible] def ref01_Blank_T (q : Nat) : Alt [.leaf (.cell (.int .i64)), .leaf (.cell (.int .i64)), .leaf (.cell (.bool))] := ⟨[.cell (.str), .cell (.int .i64)], fun a => ref01_Blank q a.1 a.2.1⟩
def ref01_Blank_C (q : Nat) : Nat → Option Summary := orcL [(13, ref01_begins_S q)]
theorem ref01_Blank_orc {G : World} (hG : GOk G) (q : Nat) : OrcSound Tryd.prog G (ref01_Blank_C q) := (orc_cons (ref01_begins_sum hG q) orc_nil)
def ref01_Blank_A (q : Nat) : Ann (RPay [.leaf (.cell (.int .i64)), .leaf (.cell (.int .i64)), .leaf (.cell (.bool))]) :=
  .seq (.d) (.seq (.d) (.seq (.d) (.seq (.d) (.seq (.d) (.cut [] (.block (.seq (.d) (.cond (.d) (.seq (.d) (.cond (.d) (.seq (.d) (.cond (.d) (.seq (.d) (.cond (.cut [] (.seq (.d) (.block (.loop [.tmp 0 (.str), .tmp 1 (.int .i64), .tmp 11 (.int .i64)] (fun k p => ref01_Blank_l0 q k p.1 p.2.1 p.2.2.1) (.d)))) (.d)) (.seq (.d) (.cond (.seq (.d) (.cut [.tmp 13 (.int .i64)] (.block (.loop [.tmp 0 (.str), .tmp 1 (.int .i64), .tmp 13 (.int .i64)] (fun k p => ref01_Blank_l1 q k p.1 p.2.1 p.2.2.1) (.d))) (.d))) (.d)))))))))))) (.d))))))
theorem ref01_Blank_ok (q : Nat) : Ok Tryd.prog Tryd.f7.ntmps (ref01_Blank_C q) q (ref01_Blank_A q) (codeOf Tryd.f7) (fun _ => fnK Tryd.prog Tryd.f7 (List.map Rk.spec [.leaf (.cell (.int .i64)), .leaf (.cell (.int .i64)), .leaf (.cell (.bool))]) (decR [.leaf (.cell (.int .i64)), .leaf (.cell (.int .i64)), .leaf (.cell (.bool))])) := by
  have h : (Ok Tryd.prog Tryd.f7.ntmps (ref01_Blank_C q) q (ref01_Blank_A q) (codeOf Tryd.f7) (fun _ => fnK Tryd.prog Tryd.f7 (List.map Rk.spec [.leaf (.cell (.int .i64)), .leaf (.cell (.int .i64)), .leaf (.cell (.bool))]) (decR [.leaf (.cell (.int .i64)), .leaf (.cell (.int .i64)), .leaf (.cell (.bool))]))) = ((True) ∧ ((True) ∧ ((True) ∧ ((True) ∧ ((True) ∧ (((True) ∧ ((True) ∧ ((True) ∧ ((True) ∧ ((True) ∧ ((True) ∧ ((True) ∧ ((((True) ∧ ((∀ p : ByteArray × Int × Int × Unit, ref01_Blank_l0 q 0 p.1 p.2.1 p.2.2.1 = none) ∧ ∀ n : Nat, (∀ p : ByteArray × Int × Int × Unit, ref01_Blank_l0 q (n + 1) p.1 p.2.1 p.2.2.1 = ref01_Blank_l0 q (n + 1) p.1 p.2.1 p.2.2.1) ∧ (True))) ∧ (True)) ∧ ((True) ∧ (((True) ∧ (((∀ p : ByteArray × Int × Int × Unit, ref01_Blank_l1 q 0 p.1 p.2.1 p.2.2.1 = none) ∧ ∀ n : Nat, (∀ p : ByteArray × Int × Int × Unit, ref01_Blank_l1 q (n + 1) p.1 p.2.1 p.2.2.1 = ref01_Blank_l1 q (n + 1) p.1 p.2.1 p.2.2.1) ∧ (True)) ∧ (True))) ∧ (True))))))))))) ∧ (True))))))) := by kernel_rfl
  exact h.mpr (⟨trivial, ⟨trivial, ⟨trivial, ⟨trivial, ⟨trivial, ⟨⟨trivial, ⟨trivial, ⟨trivial, ⟨trivial, ⟨trivial, ⟨trivial, ⟨trivial, ⟨⟨⟨trivial, ⟨fun _ => rfl, fun _ => ⟨fun _ => rfl, trivial⟩⟩⟩, trivial⟩, ⟨trivial, ⟨⟨trivial, ⟨⟨fun _ => rfl, fun _ => ⟨fun _ => rfl, trivial⟩⟩, trivial⟩⟩, trivial⟩⟩⟩⟩⟩⟩⟩⟩⟩⟩, trivial⟩⟩⟩⟩⟩⟩)
theorem ref01_Blank_eq (q : Nat) (a : APay [.cell (.str), .cell (.int .i64)]) : evFn Tryd.prog (ref01_Blank_C q) q Tryd.f7 (List.map Rk.spec [.leaf (.cell (.int .i64)), .leaf (.cell (.int .i64)), .leaf (.cell (.bool))]) (RPay [.leaf (.cell (.int .i64)), .leaf (.cell (.int .i64)), .leaf (.cell (.bool))]) (ref01_Blank_A q) (encA [.cell (.str), .cell (.int .i64)] a) (decR [.leaf (.cell (.int .i64)), .leaf (.cell (.int .i64)), .leaf (.cell (.bool))]) = ref01_Blank q a.1 a.2.1 := by kernel_rfl
theorem ref01_Blank_sum {G : World} (hG : GOk G) (q : Nat) : SumSound Tryd.prog G 7 (ref01_Blank_S q) :=
  sumK_sound (ref01_Blank_orc hG q) hmix (code := codeOf Tryd.f7) Tryd.func7 (by kernel_rfl) (by kernel_rfl) (by kernel_rfl) (by kernel_rfl) (ref01_Blank_ok q) (ref01_Blank_eq q)

/-! spinneret/spinneretref01.Letter -/
def ref01_Letter (q : Nat) (a0 : Int) : Option (Bool × Unit) :=
  (if (decide (a0 ≥ (97 : Int))) = true then some (decide (a0 ≤ (122 : Int))) else some false).bind fun v1 =>
  (if v1 = true then some true else (if (decide (a0 ≥ (65 : Int))) = true then some (decide (a0 ≤ (90 : Int))) else some false).bind fun v2 =>
  some v2).bind fun v3 =>
  (if v3 = true then some true else some (a0 == (95 : Int))).bind fun v4 =>
  some (v4, ())
@[reducible] def ref01_Letter_S (q : Nat) : Summary := sumK [.cell (.int .u8)] [.leaf (.cell (.bool))] fun a => ref01_Letter q a.1
@[reducible] def ref01_Letter_T (q : Nat) : Alt [.leaf (.cell (.bool))] := ⟨[.cell (.int .u8)], fun a => ref01_Letter q a.1⟩
def ref01_Letter_C (q : Nat) : Nat → Option Summary := orcL []
theorem ref01_Letter_orc {G : World} (hG : GOk G) (q : Nat) : OrcSound Tryd.prog G (ref01_Letter_C q) := orc_nil
def ref01_Letter_A (q : Nat) : Ann (RPay [.leaf (.cell (.bool))]) :=
  .d
theorem ref01_Letter_ok (q : Nat) : Ok Tryd.prog Tryd.f24.ntmps (ref01_Letter_C q) q (ref01_Letter_A q) (codeOf Tryd.f24) (fun _ => fnK Tryd.prog Tryd.f24 (List.map Rk.spec [.leaf (.cell (.bool))]) (decR [.leaf (.cell (.bool))])) := by
  have h : (Ok Tryd.prog Tryd.f24.ntmps (ref01_Letter_C q) q (ref01_Letter_A q) (codeOf Tryd.f24) (fun _ => fnK Tryd.prog Tryd.f24 (List.map Rk.spec [.leaf (.cell (.bool))]) (decR [.leaf (.cell (.bool))]))) = (True) := by kernel_rfl
  exact h.mpr (trivial)
theorem ref01_Letter_eq (q : Nat) (a : APay [.cell (.int .u8)]) : evFn Tryd.prog (ref01_Letter_C q) q Tryd.f24 (List.map Rk.spec [.leaf (.cell (.bool))]) (RPay [.leaf (.cell (.bool))]) (ref01_Letter_A q) (encA [.cell (.int .u8)] a) (decR [.leaf (.cell (.bool))]) = ref01_Letter q a.1 := by kernel_rfl
theorem ref01_Letter_sum {G : World} (hG : GOk G) (q : Nat) : SumSound Tryd.prog G 24 (ref01_Letter_S q) :=
  sumK_sound (ref01_Letter_orc hG q) hmix (code := codeOf Tryd.f24) Tryd.func24 (by kernel_rfl) (by kernel_rfl) (by kernel_rfl) (by kernel_rfl) (ref01_Letter_ok q) (ref01_Letter_eq q)

/-! spinneret/spinneretref01.Digit -/
def ref01_Digit (q : Nat) (a0 : Int) : Option (Bool × Unit) :=
  (if (decide (a0 ≥ (48 : Int))) = true then some (decide (a0 ≤ (57 : Int))) else some false).bind fun v1 =>
  some (v1, ())
@[reducible] def ref01_Digit_S (q : Nat) : Summary := sumK [.cell (.int .u8)] [.leaf (.cell (.bool))] fun a => ref01_Digit q a.1
@[reducible] def ref01_Digit_T (q : Nat) : Alt [.leaf (.cell (.bool))] := ⟨[.cell (.int .u8)], fun a => ref01_Digit q a.1⟩
def ref01_Digit_C (q : Nat) : Nat → Option Summary := orcL []
theorem ref01_Digit_orc {G : World} (hG : GOk G) (q : Nat) : OrcSound Tryd.prog G (ref01_Digit_C q) := orc_nil
def ref01_Digit_A (q : Nat) : Ann (RPay [.leaf (.cell (.bool))]) :=
  .d
theorem ref01_Digit_ok (q : Nat) : Ok Tryd.prog Tryd.f25.ntmps (ref01_Digit_C q) q (ref01_Digit_A q) (codeOf Tryd.f25) (fun _ => fnK Tryd.prog Tryd.f25 (List.map Rk.spec [.leaf (.cell (.bool))]) (decR [.leaf (.cell (.bool))])) := by
  have h : (Ok Tryd.prog Tryd.f25.ntmps (ref01_Digit_C q) q (ref01_Digit_A q) (codeOf Tryd.f25) (fun _ => fnK Tryd.prog Tryd.f25 (List.map Rk.spec [.leaf (.cell (.bool))]) (decR [.leaf (.cell (.bool))]))) = (True) := by kernel_rfl
  exact h.mpr (trivial)
theorem ref01_Digit_eq (q : Nat) (a : APay [.cell (.int .u8)]) : evFn Tryd.prog (ref01_Digit_C q) q Tryd.f25 (List.map Rk.spec [.leaf (.cell (.bool))]) (RPay [.leaf (.cell (.bool))]) (ref01_Digit_A q) (encA [.cell (.int .u8)] a) (decR [.leaf (.cell (.bool))]) = ref01_Digit q a.1 := by kernel_rfl
theorem ref01_Digit_sum {G : World} (hG : GOk G) (q : Nat) : SumSound Tryd.prog G 25 (ref01_Digit_S q) :=
  sumK_sound (ref01_Digit_orc hG q) hmix (code := codeOf Tryd.f25) Tryd.func25 (by kernel_rfl) (by kernel_rfl) (by kernel_rfl) (by kernel_rfl) (ref01_Digit_ok q) (ref01_Digit_eq q)

/-! spinneret/spinneretref01.char -/
def ref01_char (q : Nat) (a0 : ByteArray) (a1 : Int) : Option (Int × Int × Unit) :=
  (if (decide ((IntKind.i64.wrap (a1 + (2 : Int))) < (a0.size : Int))) = true then (byteAt a0 (IntKind.i64.wrap (a1 + (2 : Int)))).bind fun v1 =>
  some (v1 == (39 : Int)) else some false).bind fun v2 =>
  (if v2 = true then (byteAt a0 (IntKind.i64.wrap (a1 + (1 : Int)))).bind fun v3 =>
  some (v3 != (39 : Int)) else some false).bind fun v4 =>
  (if v4 = true then (byteAt a0 (IntKind.i64.wrap (a1 + (1 : Int)))).bind fun v5 =>
  some (v5 != (92 : Int)) else some false).bind fun v6 =>
  (if v6 = true then (byteAt a0 (IntKind.i64.wrap (a1 + (1 : Int)))).bind fun v7 =>
  some (v7 != (10 : Int)) else some false).bind fun v8 =>
  if v8 = true then (
  (byteAt a0 (IntKind.i64.wrap (a1 + (1 : Int)))).bind fun v9 =>
  some ((IntKind.i64.wrap (v9)), 3, ()))
  else (
  cutB ((if (decide ((IntKind.i64.wrap (a1 + (3 : Int))) < (a0.size : Int))) = true then (byteAt a0 (IntKind.i64.wrap (a1 + (1 : Int)))).bind fun v11 =>
  some (v11 == (92 : Int)) else some false).bind fun v12 =>
  (if v12 = true then (byteAt a0 (IntKind.i64.wrap (a1 + (3 : Int)))).bind fun v13 =>
  some (v13 == (39 : Int)) else some false).bind fun v14 =>
  if v14 = true then (
  (byteAt a0 (IntKind.i64.wrap (a1 + (2 : Int)))).bind fun v15 =>
  if (v15 == (110 : Int)) = true then (
  some (.inr ((10, 4, ()))))
  else (
  if (v15 == (116 : Int)) = true then (
  some (.inr ((9, 4, ()))))
  else (
  if (v15 == (48 : Int)) = true then (
  some (.inr ((0, 4, ()))))
  else (
  if (v15 == (92 : Int)) = true then (
  some (.inr ((92, 4, ()))))
  else (
  if (v15 == (39 : Int)) = true then (
  some (.inr ((39, 4, ()))))
  else (
  some (.inl (()))))))))
  else (
  some (.inl (())))) fun p10 =>
  some (0, 0, ()))
@[reducible] def ref01_char_S (q : Nat) : Summary := sumK [.cell (.str), .cell (.int .i64)] [.leaf (.cell (.int .i64)), .leaf (.cell (.int .i64))] fun a => ref01_char q a.1 a.2.1
@[reducible] def ref01_char_T (q : Nat) : Alt [.leaf (.cell (.int .i64)), .leaf (.cell (.int .i64))] := ⟨[.cell (.str), .cell (.int .i64)], fun a => ref01_char q a.1 a.2.1⟩
def ref01_char_C (q : Nat) : Nat → Option Summary := orcL []
theorem ref01_char_orc {G : World} (hG : GOk G) (q : Nat) : OrcSound Tryd.prog G (ref01_char_C q) := orc_nil
def ref01_char_A (q : Nat) : Ann (RPay [.leaf (.cell (.int .i64)), .leaf (.cell (.int .i64))]) :=
  .seq (.d) (.seq (.d) (.cut [] (.d) (.d)))
theorem ref01_char_ok (q : Nat) : Ok Tryd.prog Tryd.f26.ntmps (ref01_char_C q) q (ref01_char_A q) (codeOf Tryd.f26) (fun _ => fnK Tryd.prog Tryd.f26 (List.map Rk.spec [.leaf (.cell (.int .i64)), .leaf (.cell (.int .i64))]) (decR [.leaf (.cell (.int .i64)), .leaf (.cell (.int .i64))])) := by
  have h : (Ok Tryd.prog Tryd.f26.ntmps (ref01_char_C q) q (ref01_char_A q) (codeOf Tryd.f26) (fun _ => fnK Tryd.prog Tryd.f26 (List.map Rk.spec [.leaf (.cell (.int .i64)), .leaf (.cell (.int .i64))]) (decR [.leaf (.cell (.int .i64)), .leaf (.cell (.int .i64))]))) = ((True) ∧ ((True) ∧ ((True) ∧ (True)))) := by kernel_rfl
  exact h.mpr (⟨trivial, ⟨trivial, ⟨trivial, trivial⟩⟩⟩)
theorem ref01_char_eq (q : Nat) (a : APay [.cell (.str), .cell (.int .i64)]) : evFn Tryd.prog (ref01_char_C q) q Tryd.f26 (List.map Rk.spec [.leaf (.cell (.int .i64)), .leaf (.cell (.int .i64))]) (RPay [.leaf (.cell (.int .i64)), .leaf (.cell (.int .i64))]) (ref01_char_A q) (encA [.cell (.str), .cell (.int .i64)] a) (decR [.leaf (.cell (.int .i64)), .leaf (.cell (.int .i64))]) = ref01_char q a.1 a.2.1 := by kernel_rfl
theorem ref01_char_sum {G : World} (hG : GOk G) (q : Nat) : SumSound Tryd.prog G 26 (ref01_char_S q) :=
  sumK_sound (ref01_char_orc hG q) hmix (code := codeOf Tryd.f26) Tryd.func26 (by kernel_rfl) (by kernel_rfl) (by kernel_rfl) (by kernel_rfl) (ref01_char_ok q) (ref01_char_eq q)

/-! spinneret/spinneretref01.quoted -/
def ref01_quoted_l0 (q : Nat) : Nat → (ByteArray) → (Int) → (Int) → Option ((Unit) ⊕ (Int × Unit))
  | 0, _, _, _ => none
  | k + 1, x0, x1, x2 =>
    if (decide (x2 < (x0.size : Int))) = true then (
    cutB ((byteAt x0 x2).bind fun v3 =>
    if (v3 == (34 : Int)) = true then (
    some (.inr ((.inr (((IntKind.i64.wrap ((IntKind.i64.wrap (x2 + (1 : Int))) - x1)), ()))))))
    else (
    (byteAt x0 x2).bind fun v4 =>
    if (v4 == (10 : Int)) = true then (
    some (.inr ((.inr ((0, ()))))))
    else (
    (byteAt x0 x2).bind fun v5 =>
    if (v5 == (92 : Int)) = true then (
    (if (decide ((IntKind.i64.wrap (x2 + (1 : Int))) < (x0.size : Int))) = true then (byteAt x0 (IntKind.i64.wrap (x2 + (1 : Int)))).bind fun v6 =>
    some (v6 == (10 : Int)) else some false).bind fun v7 =>
    if v7 = true then (
    some (.inr ((.inr ((0, ()))))))
    else (
    some (.inl (x0, x1, (IntKind.i64.wrap (x2 + (1 : Int))), ()))))
    else (
    some (.inl (x0, x1, x2, ())))))) fun p2 =>
    ref01_quoted_l0 q k p2.1 p2.2.1 (IntKind.i64.wrap (p2.2.2.1 + (1 : Int))))
    else (
    some (.inl (())))
def ref01_quoted (q : Nat) (a0 : ByteArray) (a1 : Int) : Option (Int × Unit) :=
  cutB (ref01_quoted_l0 q q a0 a1 (IntKind.i64.wrap (a1 + (1 : Int)))) fun p1 =>
  some (0, ())
@[reducible] def ref01_quoted_S (q : Nat) : Summary := sumK [.cell (.str), .cell (.int .i64)] [.leaf (.cell (.int .i64))] fun a => ref01_quoted q a.1 a.2.1
@[reducible] def ref01_quoted_T (q : Nat) : Alt [.leaf (.cell (.int .i64))] := ⟨[.cell (.str), .cell (.int .i64)], fun a => ref01_quoted q a.1 a.2.1⟩
def ref01_quoted_C (q : Nat) : Nat → Option Summary := orcL []
theorem ref01_quoted_orc {G : World} (hG : GOk G) (q : Nat) : OrcSound Tryd.prog G (ref01_quoted_C q) := orc_nil
def ref01_quoted_A (q : Nat) : Ann (RPay [.leaf (.cell (.int .i64))]) :=
  .seq (.d) (.cut [] (.seq (.d) (.block (.loop [.tmp 0 (.str), .tmp 1 (.int .i64), .tmp 5 (.int .i64)] (fun k p => ref01_quoted_l0 q k p.1 p.2.1 p.2.2.1) (.seq (.d) (.cut [.tmp 0 (.str), .tmp 1 (.int .i64), .tmp 5 (.int .i64)] (.d) (.d)))))) (.d))
theorem ref01_quoted_ok (q : Nat) : Ok Tryd.prog Tryd.f27.ntmps (ref01_quoted_C q) q (ref01_quoted_A q) (codeOf Tryd.f27) (fun _ => fnK Tryd.prog Tryd.f27 (List.map Rk.spec [.leaf (.cell (.int .i64))]) (decR [.leaf (.cell (.int .i64))])) := by
  have h : (Ok Tryd.prog Tryd.f27.ntmps (ref01_quoted_C q) q (ref01_quoted_A q) (codeOf Tryd.f27) (fun _ => fnK Tryd.prog Tryd.f27 (List.map Rk.spec [.leaf (.cell (.int .i64))]) (decR [.leaf (.cell (.int .i64))]))) = ((True) ∧ (((True) ∧ ((∀ p : ByteArray × Int × Int × Unit, ref01_quoted_l0 q 0 p.1 p.2.1 p.2.2.1 = none) ∧ ∀ n : Nat, (∀ p : ByteArray × Int × Int × Unit, ref01_quoted_l0 q (n + 1) p.1 p.2.1 p.2.2.1 = ref01_quoted_l0 q (n + 1) p.1 p.2.1 p.2.2.1) ∧ ((True) ∧ ((True) ∧ (True))))) ∧ (True))) := by kernel_rfl
  exact h.mpr (⟨trivial, ⟨⟨trivial, ⟨fun _ => rfl, fun _ => ⟨fun _ => rfl, ⟨trivial, ⟨trivial, trivial⟩⟩⟩⟩⟩, trivial⟩⟩)
theorem ref01_quoted_eq (q : Nat) (a : APay [.cell (.str), .cell (.int .i64)]) : evFn Tryd.prog (ref01_quoted_C q) q Tryd.f27 (List.map Rk.spec [.leaf (.cell (.int .i64))]) (RPay [.leaf (.cell (.int .i64))]) (ref01_quoted_A q) (encA [.cell (.str), .cell (.int .i64)] a) (decR [.leaf (.cell (.int .i64))]) = ref01_quoted q a.1 a.2.1 := by kernel_rfl
theorem ref01_quoted_sum {G : World} (hG : GOk G) (q : Nat) : SumSound Tryd.prog G 27 (ref01_quoted_S q) :=
  sumK_sound (ref01_quoted_orc hG q) hmix (code := codeOf Tryd.f27) Tryd.func27 (by kernel_rfl) (by kernel_rfl) (by kernel_rfl) (by kernel_rfl) (ref01_quoted_ok q) (ref01_quoted_eq q)

/-! spinneret/spinneretref01.Marks -/
def ref01_Marks (q : Nat) : Option (List T × Unit) :=
  some (([T.str (ByteArray.mk #[33, 33]), T.str (ByteArray.mk #[63, 63]), T.str (ByteArray.mk #[45, 62]), T.str (ByteArray.mk #[58, 58]), T.str (ByteArray.mk #[43, 43]), T.str (ByteArray.mk #[45, 45]), T.str (ByteArray.mk #[60, 60]), T.str (ByteArray.mk #[62, 62]), T.str (ByteArray.mk #[60, 61]), T.str (ByteArray.mk #[62, 61]), T.str (ByteArray.mk #[61, 61]), T.str (ByteArray.mk #[33, 61]), T.str (ByteArray.mk #[38, 38]), T.str (ByteArray.mk #[124, 124]), T.str (ByteArray.mk #[46, 46]), T.str (ByteArray.mk #[33]), T.str (ByteArray.mk #[63]), T.str (ByteArray.mk #[60]), T.str (ByteArray.mk #[62]), T.str (ByteArray.mk #[61]), T.str (ByteArray.mk #[43]), T.str (ByteArray.mk #[45]), T.str (ByteArray.mk #[42]), T.str (ByteArray.mk #[47]), T.str (ByteArray.mk #[37]), T.str (ByteArray.mk #[38]), T.str (ByteArray.mk #[124]), T.str (ByteArray.mk #[94]), T.str (ByteArray.mk #[126]), T.str (ByteArray.mk #[40]), T.str (ByteArray.mk #[41]), T.str (ByteArray.mk #[91]), T.str (ByteArray.mk #[93]), T.str (ByteArray.mk #[123]), T.str (ByteArray.mk #[125]), T.str (ByteArray.mk #[44]), T.str (ByteArray.mk #[59]), T.str (ByteArray.mk #[58]), T.str (ByteArray.mk #[46]), T.str (ByteArray.mk #[64]), T.str (ByteArray.mk #[35])]), ())
@[reducible] def ref01_Marks_S (q : Nat) : Summary := sumK [] [.leaf (.own 1)] fun a => ref01_Marks q 
@[reducible] def ref01_Marks_T (q : Nat) : Alt [.leaf (.own 1)] := ⟨[], fun a => ref01_Marks q ⟩
def ref01_Marks_C (q : Nat) : Nat → Option Summary := orcL []
theorem ref01_Marks_orc {G : World} (hG : GOk G) (q : Nat) : OrcSound Tryd.prog G (ref01_Marks_C q) := orc_nil
def ref01_Marks_A (q : Nat) : Ann (RPay [.leaf (.own 1)]) :=
  .d
theorem ref01_Marks_ok (q : Nat) : Ok Tryd.prog Tryd.f28.ntmps (ref01_Marks_C q) q (ref01_Marks_A q) (codeOf Tryd.f28) (fun _ => fnK Tryd.prog Tryd.f28 (List.map Rk.spec [.leaf (.own 1)]) (decR [.leaf (.own 1)])) := by
  have h : (Ok Tryd.prog Tryd.f28.ntmps (ref01_Marks_C q) q (ref01_Marks_A q) (codeOf Tryd.f28) (fun _ => fnK Tryd.prog Tryd.f28 (List.map Rk.spec [.leaf (.own 1)]) (decR [.leaf (.own 1)]))) = (True) := by kernel_rfl
  exact h.mpr (trivial)
theorem ref01_Marks_eq (q : Nat) (a : APay []) : evFn Tryd.prog (ref01_Marks_C q) q Tryd.f28 (List.map Rk.spec [.leaf (.own 1)]) (RPay [.leaf (.own 1)]) (ref01_Marks_A q) (encA [] a) (decR [.leaf (.own 1)]) = ref01_Marks q  := by kernel_rfl
theorem ref01_Marks_sum {G : World} (hG : GOk G) (q : Nat) : SumSound Tryd.prog G 28 (ref01_Marks_S q) :=
  sumK_sound (ref01_Marks_orc hG q) hmix (code := codeOf Tryd.f28) Tryd.func28 (by kernel_rfl) (by kernel_rfl) (by kernel_rfl) (by kernel_rfl) (ref01_Marks_ok q) (ref01_Marks_eq q)

/-! spinneret/spinneretref01.Next -/
def ref01_Next_l0 (q : Nat) : Nat → (ByteArray) → (Int) → (Int) → ((Int × Int × Int × ByteArray × Int × Unit)) → Option ((ByteArray × Int × Unit × Int × (Int × Int × Int × ByteArray × Int × Unit) × Unit) ⊕ ((ByteArray × Int × Unit × (Int × Int × Int × ByteArray × Int × Unit) × Unit) ⊕ ((Int × Int × Int × ByteArray × Int × Unit) × Int × Int × Unit)))
  | 0, _, _, _, _ => none
  | k + 1, x0, x1, x3, x4 =>
    (if (decide ((IntKind.i64.wrap (x1 + x3)) < (x0.size : Int))) = true then (byteAt x0 (IntKind.i64.wrap (x1 + x3))).bind fun v6 =>
    (ref01_Letter q v6).bind fun v7 =>
    (if v7.1 = true then some true else (byteAt x0 (IntKind.i64.wrap (x1 + x3))).bind fun v8 =>
    (ref01_Digit q v8).bind fun v9 =>
    some v9.1).bind fun v10 =>
    some v10 else some false).bind fun v11 =>
    if v11 = true then (
    ref01_Next_l0 q k x0 x1 (IntKind.i64.wrap (x3 + (1 : Int))) (x4.1, x4.2.1, x4.2.2.1, x4.2.2.2.1, x4.2.2.2.2.1, ()))
    else (
    some (.inl (x0, x1, (), x3, (x4.1, x4.2.1, x4.2.2.1, x4.2.2.2.1, x4.2.2.2.2.1, ()), ())))
def ref01_Next_l1 (q : Nat) : Nat → (ByteArray) → (Int) → (Int) → (Int) → ((Int × Int × Int × ByteArray × Int × Unit)) → Option ((ByteArray × Int × Unit × Int × Int × (Int × Int × Int × ByteArray × Int × Unit) × Unit) ⊕ ((ByteArray × Int × Unit × (Int × Int × Int × ByteArray × Int × Unit) × Unit) ⊕ ((Int × Int × Int × ByteArray × Int × Unit) × Int × Int × Unit)))
  | 0, _, _, _, _, _ => none
  | k + 1, x0, x1, x3, x4, x5 =>
    (if (decide ((IntKind.i64.wrap (x1 + x3)) < (x0.size : Int))) = true then (byteAt x0 (IntKind.i64.wrap (x1 + x3))).bind fun v14 =>
    (ref01_Digit q v14).bind fun v15 =>
    some v15.1 else some false).bind fun v16 =>
    if v16 = true then (
    (byteAt x0 (IntKind.i64.wrap (x1 + x3))).bind fun v17 =>
    ref01_Next_l1 q k x0 x1 (IntKind.i64.wrap (x3 + (1 : Int))) (if (1099511627776 : Int) < (IntKind.i64.wrap ((IntKind.i64.wrap ((10 : Int) * x4)) + (IntKind.i64.wrap (IntKind.u8.wrap (v17 - (48 : Int)))))) then (1099511627776 : Int) else (IntKind.i64.wrap ((IntKind.i64.wrap ((10 : Int) * x4)) + (IntKind.i64.wrap (IntKind.u8.wrap (v17 - (48 : Int))))))) (x5.1, x5.2.1, x5.2.2.1, x5.2.2.2.1, x5.2.2.2.2.1, ()))
    else (
    some (.inl (x0, x1, (), x3, x4, (x5.1, x5.2.1, x5.2.2.1, x5.2.2.2.1, x5.2.2.2.2.1, ()), ())))
def ref01_Next_l2 (q : Nat) : Nat → (ByteArray) → (Int) → (Int) → (List T) → ((Int × Int × Int × ByteArray × Int × Unit)) → Option ((Unit × (Int × Int × Int × ByteArray × Int × Unit) × Unit) ⊕ ((Int × Int × Int × ByteArray × Int × Unit) × Int × Int × Unit))
  | 0, _, _, _, _, _ => none
  | k + 1, x0, x1, x4, x5, x6 =>
    if (decide (x4 < (x5.length : Int))) = true then (
    if 0 ≤ x4 ∧ x4 < x5.length then
    (x5[(Int.toNat x4)]?).bind fun v25 =>
    (T.asStr (T.leaf v25 0)).bind fun v26 =>
    (ref01_begins q x0 x1 v26).bind fun v27 =>
    if v27.1 = true then (
    if 0 ≤ x4 ∧ x4 < x5.length then
    (x5[(Int.toNat x4)]?).bind fun v28 =>
    (T.asStr (T.leaf v28 0)).bind fun v29 =>
    if 0 ≤ x4 ∧ x4 < x5.length then
    (x5[(Int.toNat x4)]?).bind fun v30 =>
    (T.asStr (T.leaf v30 0)).bind fun v31 =>
    some (.inr (((4, x1, 0, v29, 0, ()), (v31.size : Int), 0, ())))
    else none
    else none)
    else (
    ref01_Next_l2 q k x0 x1 (IntKind.i64.wrap (x4 + (1 : Int))) x5 (x6.1, x6.2.1, x6.2.2.1, x6.2.2.2.1, x6.2.2.2.2.1, ()))
    else none)
    else (
    some (.inl ((), (x6.1, x6.2.1, x6.2.2.1, x6.2.2.2.1, x6.2.2.2.2.1, ()), ())))
def ref01_Next (q : Nat) (a0 : ByteArray) (a1 : Int) : Option ((Int × Int × Int × ByteArray × Int × Unit) × Int × Int × Unit) :=
  (byteAt a0 a1).bind fun v1 =>
  (ref01_Letter q v1).bind fun v2 =>
  (ref01_Digit q v1).bind fun v3 =>
  cutB (if v2.1 = true then (
  cutB (ref01_Next_l0 q q a0 a1 0 (0, 0, 0, emp, 0, ())) fun p5 =>
  if (decide (p5.2.2.2.1 > (32 : Int))) = true then (
  some (.inr (((0, 0, 0, emp, 0, ()), 0, 5, ()))))
  else (
  (substr p5.1 p5.2.1 (IntKind.i64.wrap (p5.2.1 + p5.2.2.2.1))).bind fun v12 =>
  some (.inr (((1, p5.2.1, 0, v12, 0, ()), p5.2.2.2.1, 0, ())))))
  else (
  if v3.1 = true then (
  cutB (ref01_Next_l1 q q a0 a1 0 0 (0, 0, 0, emp, 0, ())) fun p13 =>
  if (decide (p13.2.2.2.2.1 > (2147483647 : Int))) = true then (
  some (.inr (((0, 0, 0, emp, 0, ()), 0, 4, ()))))
  else (
  (substr p13.1 p13.2.1 (IntKind.i64.wrap (p13.2.1 + p13.2.2.2.1))).bind fun v18 =>
  some (.inr (((2, p13.2.1, 0, v18, p13.2.2.2.2.1, ()), p13.2.2.2.1, 0, ())))))
  else (
  if (v1 == (39 : Int)) = true then (
  (ref01_char q a0 a1).bind fun v19 =>
  if (v19.2.1 == (0 : Int)) = true then (
  some (.inr (((0, 0, 0, emp, 0, ()), 0, 3, ()))))
  else (
  (substr a0 a1 (IntKind.i64.wrap (a1 + v19.2.1))).bind fun v20 =>
  some (.inr (((2, a1, 0, v20, v19.1, ()), v19.2.1, 0, ())))))
  else (
  if (v1 == (34 : Int)) = true then (
  (ref01_quoted q a0 a1).bind fun v21 =>
  if (v21.1 == (0 : Int)) = true then (
  some (.inr (((0, 0, 0, emp, 0, ()), 0, 3, ()))))
  else (
  if (decide ((IntKind.i64.wrap (v21.1 - (2 : Int))) > (200 : Int))) = true then (
  some (.inr (((0, 0, 0, emp, 0, ()), 0, 5, ()))))
  else (
  (substr a0 (IntKind.i64.wrap (a1 + (1 : Int))) (IntKind.i64.wrap ((IntKind.i64.wrap (a1 + v21.1)) - (1 : Int)))).bind fun v22 =>
  some (.inr (((3, a1, 0, v22, 0, ()), v21.1, 0, ()))))))
  else (
  some (.inl (a0, a1, (), (0, 0, 0, emp, 0, ()), ()))))))) fun p4 =>
  (ref01_Marks q).bind fun v23 =>
  cutB (ref01_Next_l2 q q p4.1 p4.2.1 0 v23.1 (p4.2.2.2.1.1, p4.2.2.2.1.2.1, p4.2.2.2.1.2.2.1, p4.2.2.2.1.2.2.2.1, p4.2.2.2.1.2.2.2.2.1, ())) fun p24 =>
  some ((0, 0, 0, emp, 0, ()), 0, 2, ())
@[reducible] def ref01_Next_S (q : Nat) : Summary := sumK [.cell (.str), .cell (.int .i64)] [.agg [.cell (.int .i64), .cell (.int .i64), .cell (.int .i64), .cell (.str), .cell (.int .i64)], .leaf (.cell (.int .i64)), .leaf (.cell (.int .i64))] fun a => ref01_Next q a.1 a.2.1
@[reducible] def ref01_Next_T (q : Nat) : Alt [.agg [.cell (.int .i64), .cell (.int .i64), .cell (.int .i64), .cell (.str), .cell (.int .i64)], .leaf (.cell (.int .i64)), .leaf (.cell (.int .i64))] := ⟨[.cell (.str), .cell (.int .i64)], fun a => ref01_Next q a.1 a.2.1⟩
def ref01_Next_C (q : Nat) : Nat → Option Summary := orcL [(24, ref01_Letter_S q), (25, ref01_Digit_S q), (26, ref01_char_S q), (27, ref01_quoted_S q), (28, ref01_Marks_S q), (13, ref01_begins_S q)]
theorem ref01_Next_orc {G : World} (hG : GOk G) (q : Nat) : OrcSound Tryd.prog G (ref01_Next_C q) := (orc_cons (ref01_Letter_sum hG q) (orc_cons (ref01_Digit_sum hG q) (orc_cons (ref01_char_sum hG q) (orc_cons (ref01_quoted_sum hG q) (orc_cons (ref01_Marks_sum hG q) (orc_cons (ref01_begins_sum hG q) orc_nil))))))
def ref01_Next_A (q : Nat) : Ann (RPay [.agg [.cell (.int .i64), .cell (.int .i64), .cell (.int .i64), .cell (.str), .cell (.int .i64)], .leaf (.cell (.int .i64)), .leaf (.cell (.int .i64))]) :=
  .seq (.d) (.seq (.d) (.seq (.d) (.seq (.d) (.seq (.d) (.cut [.tmp 0 (.str), .tmp 1 (.int .i64), .tmp 4 (.bp 4 0), .box 4 [.int .i64, .int .i64, .int .i64, .str, .int .i64]] (.block (.seq (.d) (.cond (.cut [.tmp 0 (.str), .tmp 1 (.int .i64), .tmp 4 (.bp 4 0), .tmp 8 (.int .i64), .box 4 [.int .i64, .int .i64, .int .i64, .str, .int .i64]] (.block (.loop [.tmp 0 (.str), .tmp 1 (.int .i64), .tmp 4 (.bp 4 0), .tmp 8 (.int .i64), .box 4 [.int .i64, .int .i64, .int .i64, .str, .int .i64]] (fun k p => ref01_Next_l0 q k p.1 p.2.1 p.2.2.2.1 p.2.2.2.2.1) (.d))) (.d)) (.seq (.d) (.cond (.seq (.d) (.cut [.tmp 0 (.str), .tmp 1 (.int .i64), .tmp 4 (.bp 4 0), .tmp 8 (.int .i64), .tmp 11 (.int .i64), .box 4 [.int .i64, .int .i64, .int .i64, .str, .int .i64]] (.block (.loop [.tmp 0 (.str), .tmp 1 (.int .i64), .tmp 4 (.bp 4 0), .tmp 8 (.int .i64), .tmp 11 (.int .i64), .box 4 [.int .i64, .int .i64, .int .i64, .str, .int .i64]] (fun k p => ref01_Next_l1 q k p.1 p.2.1 p.2.2.2.1 p.2.2.2.2.1 p.2.2.2.2.2.1) (.d))) (.d))) (.d)))))) (.seq (.d) (.cut [.tmp 4 (.bp 4 0), .box 4 [.int .i64, .int .i64, .int .i64, .str, .int .i64]] (.seq (.d) (.block (.loop [.tmp 0 (.str), .tmp 1 (.int .i64), .tmp 4 (.bp 4 0), .tmp 14 (.full 327), .tmp 15 (.int .i64), .row none 327 1, .box 4 [.int .i64, .int .i64, .int .i64, .str, .int .i64]] (fun k p => ref01_Next_l2 q k p.1 p.2.1 p.2.2.2.2.1 p.2.2.2.2.2.1 p.2.2.2.2.2.2.1) (.d)))) (.d))))))))
theorem ref01_Next_ok (q : Nat) : Ok Tryd.prog Tryd.f12.ntmps (ref01_Next_C q) q (ref01_Next_A q) (codeOf Tryd.f12) (fun _ => fnK Tryd.prog Tryd.f12 (List.map Rk.spec [.agg [.cell (.int .i64), .cell (.int .i64), .cell (.int .i64), .cell (.str), .cell (.int .i64)], .leaf (.cell (.int .i64)), .leaf (.cell (.int .i64))]) (decR [.agg [.cell (.int .i64), .cell (.int .i64), .cell (.int .i64), .cell (.str), .cell (.int .i64)], .leaf (.cell (.int .i64)), .leaf (.cell (.int .i64))])) := by
  have h : (Ok Tryd.prog Tryd.f12.ntmps (ref01_Next_C q) q (ref01_Next_A q) (codeOf Tryd.f12) (fun _ => fnK Tryd.prog Tryd.f12 (List.map Rk.spec [.agg [.cell (.int .i64), .cell (.int .i64), .cell (.int .i64), .cell (.str), .cell (.int .i64)], .leaf (.cell (.int .i64)), .leaf (.cell (.int .i64))]) (decR [.agg [.cell (.int .i64), .cell (.int .i64), .cell (.int .i64), .cell (.str), .cell (.int .i64)], .leaf (.cell (.int .i64)), .leaf (.cell (.int .i64))]))) = ((True) ∧ ((True) ∧ ((True) ∧ ((True) ∧ ((True) ∧ (((True) ∧ ((((∀ p : ByteArray × Int × Unit × Int × (Int × Int × Int × ByteArray × Int × Unit) × Unit, ref01_Next_l0 q 0 p.1 p.2.1 p.2.2.2.1 p.2.2.2.2.1 = none) ∧ ∀ n : Nat, (∀ p : ByteArray × Int × Unit × Int × (Int × Int × Int × ByteArray × Int × Unit) × Unit, ref01_Next_l0 q (n + 1) p.1 p.2.1 p.2.2.2.1 p.2.2.2.2.1 = ref01_Next_l0 q (n + 1) p.1 p.2.1 p.2.2.2.1 p.2.2.2.2.1) ∧ (True)) ∧ (True)) ∧ ((True) ∧ (((True) ∧ (((∀ p : ByteArray × Int × Unit × Int × Int × (Int × Int × Int × ByteArray × Int × Unit) × Unit, ref01_Next_l1 q 0 p.1 p.2.1 p.2.2.2.1 p.2.2.2.2.1 p.2.2.2.2.2.1 = none) ∧ ∀ n : Nat, (∀ p : ByteArray × Int × Unit × Int × Int × (Int × Int × Int × ByteArray × Int × Unit) × Unit, ref01_Next_l1 q (n + 1) p.1 p.2.1 p.2.2.2.1 p.2.2.2.2.1 p.2.2.2.2.2.1 = ref01_Next_l1 q (n + 1) p.1 p.2.1 p.2.2.2.1 p.2.2.2.2.1 p.2.2.2.2.2.1) ∧ (True)) ∧ (True))) ∧ (True))))) ∧ ((True) ∧ (((True) ∧ ((∀ p : ByteArray × Int × Unit × Unit × Int × List T × (Int × Int × Int × ByteArray × Int × Unit) × Unit, ref01_Next_l2 q 0 p.1 p.2.1 p.2.2.2.2.1 p.2.2.2.2.2.1 p.2.2.2.2.2.2.1 = none) ∧ ∀ n : Nat, (∀ p : ByteArray × Int × Unit × Unit × Int × List T × (Int × Int × Int × ByteArray × Int × Unit) × Unit, ref01_Next_l2 q (n + 1) p.1 p.2.1 p.2.2.2.2.1 p.2.2.2.2.2.1 p.2.2.2.2.2.2.1 = ref01_Next_l2 q (n + 1) p.1 p.2.1 p.2.2.2.2.1 p.2.2.2.2.2.1 p.2.2.2.2.2.2.1) ∧ (True))) ∧ (True))))))))) := by kernel_rfl
  exact h.mpr (⟨trivial, ⟨trivial, ⟨trivial, ⟨trivial, ⟨trivial, ⟨⟨trivial, ⟨⟨⟨fun _ => rfl, fun _ => ⟨fun _ => rfl, trivial⟩⟩, trivial⟩, ⟨trivial, ⟨⟨trivial, ⟨⟨fun _ => rfl, fun _ => ⟨fun _ => rfl, trivial⟩⟩, trivial⟩⟩, trivial⟩⟩⟩⟩, ⟨trivial, ⟨⟨trivial, ⟨fun _ => rfl, fun _ => ⟨fun _ => rfl, trivial⟩⟩⟩, trivial⟩⟩⟩⟩⟩⟩⟩⟩)
theorem ref01_Next_eq (q : Nat) (a : APay [.cell (.str), .cell (.int .i64)]) : evFn Tryd.prog (ref01_Next_C q) q Tryd.f12 (List.map Rk.spec [.agg [.cell (.int .i64), .cell (.int .i64), .cell (.int .i64), .cell (.str), .cell (.int .i64)], .leaf (.cell (.int .i64)), .leaf (.cell (.int .i64))]) (RPay [.agg [.cell (.int .i64), .cell (.int .i64), .cell (.int .i64), .cell (.str), .cell (.int .i64)], .leaf (.cell (.int .i64)), .leaf (.cell (.int .i64))]) (ref01_Next_A q) (encA [.cell (.str), .cell (.int .i64)] a) (decR [.agg [.cell (.int .i64), .cell (.int .i64), .cell (.int .i64), .cell (.str), .cell (.int .i64)], .leaf (.cell (.int .i64)), .leaf (.cell (.int .i64))]) = ref01_Next q a.1 a.2.1 := by kernel_rfl
theorem ref01_Next_sum {G : World} (hG : GOk G) (q : Nat) : SumSound Tryd.prog G 12 (ref01_Next_S q) :=
  sumK_sound (ref01_Next_orc hG q) hmix (code := codeOf Tryd.f12) Tryd.func12 (by kernel_rfl) (by kernel_rfl) (by kernel_rfl) (by kernel_rfl) (ref01_Next_ok q) (ref01_Next_eq q)

/-! spinneret/spinneretref01.Tokens -/
def ref01_Tokens_l0 (q : Nat) : Nat → (ByteArray) → (Int) → (Int) → (List T) → Option ((Unit × Int × Int × List T × Unit) ⊕ (List T × Int × Int × Unit))
  | 0, _, _, _, _ => none
  | k + 1, x0, x2, x3, x4 =>
    if (decide (x3 < (x0.size : Int))) = true then (
    (ref01_Blank q x0 x3).bind fun v2 =>
    if (!v2.2.2.1) = true then (
    some (.inr (([], 3, x3, ()))))
    else (
    if (decide (v2.1 > (0 : Int))) = true then (
    ref01_Tokens_l0 q k x0 (IntKind.i64.wrap (x2 + v2.2.1)) (IntKind.i64.wrap (x3 + v2.1)) x4)
    else (
    (ref01_Next q x0 x3).bind fun v3 =>
    if (v3.2.2.1 != (0 : Int)) = true then (
    some (.inr (([], v3.2.2.1, x3, ()))))
    else (
    if ((x4.length : Int) == (8191 : Int)) = true then (
    some (.inr (([], 8, x3, ()))))
    else (
    if fitsB (x4.length + ([T.agg [T.int .i64 v3.1.1, T.int .i64 v3.1.2.1, T.int .i64 x2, T.str v3.1.2.2.2.1, T.int .i64 v3.1.2.2.2.2.1]]).length) 48 = true then
    ref01_Tokens_l0 q k x0 x2 (IntKind.i64.wrap (x3 + v3.2.1)) (x4 ++ [T.agg [T.int .i64 v3.1.1, T.int .i64 v3.1.2.1, T.int .i64 x2, T.str v3.1.2.2.2.1, T.int .i64 v3.1.2.2.2.2.1]])
    else none)))))
    else (
    some (.inl ((), x2, x3, x4, ())))
def ref01_Tokens (q : Nat) (a0 : ByteArray) : Option (List T × Int × Int × Unit) :=
  if (decide ((a0.size : Int) > (65535 : Int))) = true then (
  some ([], 1, 65535, ()))
  else (
  cutB (ref01_Tokens_l0 q q a0 1 0 []) fun p1 =>
  if fitsB (p1.2.2.2.1.length + ([T.agg [T.int .i64 (0 : Int), T.int .i64 p1.2.2.1, T.int .i64 p1.2.1, T.str emp, T.int .i64 (0 : Int)]]).length) 48 = true then
  some ((p1.2.2.2.1 ++ [T.agg [T.int .i64 (0 : Int), T.int .i64 p1.2.2.1, T.int .i64 p1.2.1, T.str emp, T.int .i64 (0 : Int)]]), 0, 0, ())
  else none)
@[reducible] def ref01_Tokens_S (q : Nat) : Summary := sumK [.cell (.str)] [.leaf (.own 5), .leaf (.cell (.int .i64)), .leaf (.cell (.int .i64))] fun a => ref01_Tokens q a.1
@[reducible] def ref01_Tokens_T (q : Nat) : Alt [.leaf (.own 5), .leaf (.cell (.int .i64)), .leaf (.cell (.int .i64))] := ⟨[.cell (.str)], fun a => ref01_Tokens q a.1⟩
def ref01_Tokens_C (q : Nat) : Nat → Option Summary := orcL [(7, ref01_Blank_S q), (12, ref01_Next_S q)]
theorem ref01_Tokens_orc {G : World} (hG : GOk G) (q : Nat) : OrcSound Tryd.prog G (ref01_Tokens_C q) := (orc_cons (ref01_Blank_sum hG q) (orc_cons (ref01_Next_sum hG q) orc_nil))
def ref01_Tokens_A (q : Nat) : Ann (RPay [.leaf (.own 5), .leaf (.cell (.int .i64)), .leaf (.cell (.int .i64))]) :=
  .seq (.d) (.seq (.d) (.seq (.d) (.seq (.d) (.seq (.d) (.cut [.tmp 5 (.full 1000005), .tmp 6 (.int .i64), .tmp 7 (.int .i64), .row none 1000005 5] (.block (.loop [.tmp 0 (.str), .tmp 5 (.full 1000005), .tmp 6 (.int .i64), .tmp 7 (.int .i64), .row (some 5) 1000005 5] (fun k p => ref01_Tokens_l0 q k p.1 p.2.2.1 p.2.2.2.1 p.2.2.2.2.1) (.d))) (.d))))))
theorem ref01_Tokens_ok (q : Nat) : Ok Tryd.prog Tryd.f6.ntmps (ref01_Tokens_C q) q (ref01_Tokens_A q) (codeOf Tryd.f6) (fun _ => fnK Tryd.prog Tryd.f6 (List.map Rk.spec [.leaf (.own 5), .leaf (.cell (.int .i64)), .leaf (.cell (.int .i64))]) (decR [.leaf (.own 5), .leaf (.cell (.int .i64)), .leaf (.cell (.int .i64))])) := by
  have h : (Ok Tryd.prog Tryd.f6.ntmps (ref01_Tokens_C q) q (ref01_Tokens_A q) (codeOf Tryd.f6) (fun _ => fnK Tryd.prog Tryd.f6 (List.map Rk.spec [.leaf (.own 5), .leaf (.cell (.int .i64)), .leaf (.cell (.int .i64))]) (decR [.leaf (.own 5), .leaf (.cell (.int .i64)), .leaf (.cell (.int .i64))]))) = ((True) ∧ ((True) ∧ ((True) ∧ ((True) ∧ ((True) ∧ (((∀ p : ByteArray × Unit × Int × Int × List T × Unit, ref01_Tokens_l0 q 0 p.1 p.2.2.1 p.2.2.2.1 p.2.2.2.2.1 = none) ∧ ∀ n : Nat, (∀ p : ByteArray × Unit × Int × Int × List T × Unit, ref01_Tokens_l0 q (n + 1) p.1 p.2.2.1 p.2.2.2.1 p.2.2.2.2.1 = ref01_Tokens_l0 q (n + 1) p.1 p.2.2.1 p.2.2.2.1 p.2.2.2.2.1) ∧ (True)) ∧ (True))))))) := by kernel_rfl
  exact h.mpr (⟨trivial, ⟨trivial, ⟨trivial, ⟨trivial, ⟨trivial, ⟨⟨fun _ => rfl, fun _ => ⟨fun _ => rfl, trivial⟩⟩, trivial⟩⟩⟩⟩⟩⟩)
theorem ref01_Tokens_eq (q : Nat) (a : APay [.cell (.str)]) : evFn Tryd.prog (ref01_Tokens_C q) q Tryd.f6 (List.map Rk.spec [.leaf (.own 5), .leaf (.cell (.int .i64)), .leaf (.cell (.int .i64))]) (RPay [.leaf (.own 5), .leaf (.cell (.int .i64)), .leaf (.cell (.int .i64))]) (ref01_Tokens_A q) (encA [.cell (.str)] a) (decR [.leaf (.own 5), .leaf (.cell (.int .i64)), .leaf (.cell (.int .i64))]) = ref01_Tokens q a.1 := by kernel_rfl
theorem ref01_Tokens_sum {G : World} (hG : GOk G) (q : Nat) : SumSound Tryd.prog G 6 (ref01_Tokens_S q) :=
  sumK_sound (ref01_Tokens_orc hG q) hmix (code := codeOf Tryd.f6) Tryd.func6 (by kernel_rfl) (by kernel_rfl) (by kernel_rfl) (by kernel_rfl) (ref01_Tokens_ok q) (ref01_Tokens_eq q)

/-! spinneret/spinneretlaw01.LexFirst -/
def law01_LexFirst (q : Nat) (a0 : ByteArray) (a1 : ByteArray) : Option (Bool × Unit) :=
  (lex_Tokens q a0).bind fun v1 =>
  (ref01_Tokens q a0).bind fun v2 =>
  (if (v1.2.1 != (2 : Int)) = true then some true else some (decide ((a0.size : Int) > (60000 : Int)))).bind fun v3 =>
  (if v3 = true then some true else some (decide ((a1.size : Int) > (5000 : Int)))).bind fun v4 =>
  if v4 = true then (
  (if (v1.2.1 == v2.2.1) = true then some (v1.2.2.1 == v2.2.2.1) else some false).bind fun v5 =>
  some (v5, ()))
  else (
  (if (decide (v1.2.2.1 < (0 : Int))) = true then some true else some (decide (v1.2.2.1 ≥ (a0.size : Int)))).bind fun v6 =>
  if v6 = true then (
  some (false, ()))
  else (
  (substr a0 (0 : Int) (IntKind.i64.wrap (v1.2.2.1 + (1 : Int)))).bind fun v7 =>
  if v7.size + (ByteArray.mk #[32]).size ≤ 9223372036854775807 then
  if (v7 ++ (ByteArray.mk #[32])).size + a1.size ≤ 9223372036854775807 then
  (lex_Tokens q ((v7 ++ (ByteArray.mk #[32])) ++ a1)).bind fun v8 =>
  (if (v8.2.1 == (2 : Int)) = true then some (v8.2.2.1 == v1.2.2.1) else some false).bind fun v9 =>
  some (v9, ())
  else none
  else none))
@[reducible] def law01_LexFirst_S (q : Nat) : Summary := sumK [.cell (.str), .cell (.str)] [.leaf (.cell (.bool))] fun a => law01_LexFirst q a.1 a.2.1
@[reducible] def law01_LexFirst_T (q : Nat) : Alt [.leaf (.cell (.bool))] := ⟨[.cell (.str), .cell (.str)], fun a => law01_LexFirst q a.1 a.2.1⟩
def law01_LexFirst_C (q : Nat) : Nat → Option Summary := orcL [(5, lex_Tokens_S q), (6, ref01_Tokens_S q)]
theorem law01_LexFirst_orc {G : World} (hG : GOk G) (q : Nat) : OrcSound Tryd.prog G (law01_LexFirst_C q) := (orc_cons (lex_Tokens_sum hG q) (orc_cons (ref01_Tokens_sum hG q) orc_nil))
def law01_LexFirst_A (q : Nat) : Ann (RPay [.leaf (.cell (.bool))]) :=
  .d
theorem law01_LexFirst_ok (q : Nat) : Ok Tryd.prog Tryd.f4.ntmps (law01_LexFirst_C q) q (law01_LexFirst_A q) (codeOf Tryd.f4) (fun _ => fnK Tryd.prog Tryd.f4 (List.map Rk.spec [.leaf (.cell (.bool))]) (decR [.leaf (.cell (.bool))])) := by
  have h : (Ok Tryd.prog Tryd.f4.ntmps (law01_LexFirst_C q) q (law01_LexFirst_A q) (codeOf Tryd.f4) (fun _ => fnK Tryd.prog Tryd.f4 (List.map Rk.spec [.leaf (.cell (.bool))]) (decR [.leaf (.cell (.bool))]))) = (True) := by kernel_rfl
  exact h.mpr (trivial)
theorem law01_LexFirst_eq (q : Nat) (a : APay [.cell (.str), .cell (.str)]) : evFn Tryd.prog (law01_LexFirst_C q) q Tryd.f4 (List.map Rk.spec [.leaf (.cell (.bool))]) (RPay [.leaf (.cell (.bool))]) (law01_LexFirst_A q) (encA [.cell (.str), .cell (.str)] a) (decR [.leaf (.cell (.bool))]) = law01_LexFirst q a.1 a.2.1 := by kernel_rfl
theorem law01_LexFirst_sum {G : World} (hG : GOk G) (q : Nat) : SumSound Tryd.prog G 4 (law01_LexFirst_S q) :=
  sumK_sound (law01_LexFirst_orc hG q) hmix (code := codeOf Tryd.f4) Tryd.func4 (by kernel_rfl) (by kernel_rfl) (by kernel_rfl) (by kernel_rfl) (law01_LexFirst_ok q) (law01_LexFirst_eq q)

end Go.Ax
