/- Layer 23: TrailTexts: the plain law. -/
import Derived.Test.YtcpcbmebpmokbaaDoorTrailTextsTrJ
import Derived.Test.YtcpcbmebpmokbaaDoorTrailTextsTrK
set_option linter.unusedVariables false
set_option linter.unusedSimpArgs false
namespace Go.Ax
open Go
theorem pure_TrailTexts (x0 : MFound) (x1 : ByteArray) (o0 : x0.ok ksmall) (o1 : okS ksmall x1) : ∃ q, law23_TrailTexts q x0.enc x1 = some (true, ()) := by
  refine ⟨2097200, ?_⟩
  have hs : x1.size ≤ 1048576 := o1.2
  unfold law23_TrailTexts
  rw [law23_shown_is _ (by decide)]
  simp only [MMove.enc_width, MMove.part, MMove.l0, MMove.l1, MMove.l2, MMove.l3, MMove.l4, MMove.l5, MMove.l6, MFound.enc_width, MFound.part, MFound.l0, MFound.l1, MFound.l2, MFound.l3, MFound.l4, MFound.l5, MFound.l6, MFound.l7, asInt_mk, asBool_mk, asStr_mk, asLst_mk, bind_mk, if_true, leaf_int, leaf_bool, leaf_str, leaf_lst]
  rw [trail_Print_is _ x0 o0 (by decide), ref23_Print_is _ x0 o0 (by decide), trail_Parse_is _ x1 hs (by decide), ref23_Parse_is _ x1 hs (by decide)]
  simp only [bind_mk]
  have hsame : ref20_SameFound 2097200 (encT (encP (parseS x1)).1) (encT (encP (parseS x1)).1) = some (true, ()) := by
    cases hp : parseS x1 with
    | error a => exact SameFound_refl _ ⟨0, 0, 0, 0, [], 0, 0, 0⟩ (by decide) (by decide)
    | ok f =>
      have := parseS_trail hp
      exact SameFound_refl _ f (by omega) (by omega)
  unfold encT at hsame
  rw [hsame]
  have hstr : ∀ a : ByteArray, strEq a a = true := fun a => by rw [strEq_is]; exact decide_eq_true rfl
  rw [hstr]
  simp only [if_true, bind_mk, beq_self_eq_true]
end Go.Ax
