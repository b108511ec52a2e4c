/- Layer 23: a found is the same as itself; the document's examples. -/
import Derived.Test.YtcpcbmebpmokbaaDoorTrailBackTrE
set_option linter.unusedVariables false
set_option linter.unusedSimpArgs false
namespace Go.Ax
open Go
theorem ints_move (m : MMove) : T.ints [.i64, .i64, .i64, .i64, .i64, .i64, .i64] m.enc = some m.nums := by
  cases m; rfl
theorem SameMoves_refl (q : Nat) (l : List MMove) (h : l.length ≤ 4611686018427387904) (hq : l.length < q) : ref20_SameMoves q (l.map MMove.enc) (l.map MMove.enc) = some (true, ()) := by
  unfold ref20_SameMoves
  rw [if_neg (by simp)]
  have := loop_all l (fun k i => ref20_SameMoves_l0 q k (l.map MMove.enc) (l.map MMove.enc) i) (fun _ => true) (.inl ()) (.inr (false, ()))
    (fun k i hi => by
      simp only [ref20_SameMoves_l0]
      rw [if_pos (by simp; omega), rd_map MMove.enc_width hi]
      simp only [MMove.enc_width, MMove.part, MMove.l0, MMove.l1, MMove.l2, MMove.l3, MMove.l4, MMove.l5, MMove.l6, MFound.enc_width, MFound.part, MFound.l0, MFound.l1, MFound.l2, MFound.l3, MFound.l4, MFound.l5, MFound.l6, MFound.l7, asInt_mk, asBool_mk, asStr_mk, asLst_mk, bind_mk, if_true, leaf_int, leaf_bool, leaf_str, leaf_lst, ints_move, beq_self_eq_true, Bool.not_true, Bool.false_eq_true, if_false, wrap_succ hi h])
    (fun k => by simp only [ref20_SameMoves_l0]; rw [if_neg (by simp)]) q hq
  rw [this]
  simp [cutB_inl]
theorem SameFound_refl (q : Nat) (f : MFound) (h : f.Trail.length ≤ 4611686018427387904) (hq : f.Trail.length < q) : ref20_SameFound q f.enc f.enc = some (true, ()) := by
  unfold ref20_SameFound
  simp only [MMove.enc_width, MMove.part, MMove.l0, MMove.l1, MMove.l2, MMove.l3, MMove.l4, MMove.l5, MMove.l6, MFound.enc_width, MFound.part, MFound.l0, MFound.l1, MFound.l2, MFound.l3, MFound.l4, MFound.l5, MFound.l6, MFound.l7, asInt_mk, asBool_mk, asStr_mk, asLst_mk, bind_mk, if_true, leaf_int, leaf_bool, leaf_str, leaf_lst, SameMoves_refl q f.Trail h hq, beq_self_eq_true]
def encT (x : Int × Int × Int × Int × List T × Int × Int × Int × Unit) : T :=
  T.agg [T.int .i64 x.1, T.int .i64 x.2.1, T.int .i64 x.2.2.1, T.int .i64 x.2.2.2.1, T.lst x.2.2.2.2.1, T.int .i64 x.2.2.2.2.2.1, T.int .i64 x.2.2.2.2.2.2.1, T.int .i64 x.2.2.2.2.2.2.2.1]
theorem encT_F (f : MFound) : encT (encF f) = f.enc := rfl
def okF : MFound := ⟨1, 0, 0, 0, [], -1, 9, 12⟩
theorem okF_ok : okF.ok ksmall := by
  refine ⟨⟨by decide, by decide⟩, ⟨by decide, by decide⟩, ⟨by decide, by decide⟩, ⟨by decide, by decide⟩, ⟨⟨by decide, by unfold ksmall; decide⟩, fun y hy => by cases hy⟩, ⟨by decide, by decide⟩, ⟨by decide, by decide⟩, ⟨by decide, by decide⟩⟩
def okText : List UInt8 := [102, 111, 117, 110, 100, 32, 49, 32, 48, 32, 48, 32, 48, 32, 57, 32, 49, 50]
theorem itoa_digit {n : Nat} (h : n < 10) : Lib.itoa (n : Int) = [UInt8.ofNat (48 + n)] := by rw [Lib.itoa_nonneg, decDigits_small h]
theorem okPrint : printS okF = okText ++ [10] := by
  have h0 : Lib.itoa 0 = [48] := itoa_digit (n := 0) (by decide)
  have h1 : Lib.itoa 1 = [49] := itoa_digit (n := 1) (by decide)
  have h9 : Lib.itoa 9 = [57] := itoa_digit (n := 9) (by decide)
  have h12 : Lib.itoa 12 = [49, 50] := by
    rw [show (12 : Int) = ((12 : Nat) : Int) from rfl, Lib.itoa_nonneg, Lib.decDigits_two (by decide) (by decide)]; rfl
  unfold printS okF MFound.nums lineS numsL
  simp only [List.flatMap_cons, List.flatMap_nil, h0, h1, h9, h12, movesS, wFound]
  rfl
theorem okNums : numbersS (bl okText) (bl wFound) 6 = some [1, 0, 0, 0, 9, 12] := by
  have hc : cutAt 32 [] (bl okText).data.toList = [wFound, [49], [48], [48], [48], [57], [49, 50]] := by decide
  have n1 (n : Int) (l : List UInt8) (h : l = Lib.itoa n) (ho : okI n) : numS (bl l) = some n := numS_iff.2 ⟨ho, by rw [h]; rfl⟩
  have h0 := n1 0 [48] (itoa_digit (n := 0) (by decide)).symm ⟨by decide, by decide⟩
  have h1 := n1 1 [49] (itoa_digit (n := 1) (by decide)).symm ⟨by decide, by decide⟩
  have h9 := n1 9 [57] (itoa_digit (n := 9) (by decide)).symm ⟨by decide, by decide⟩
  have h12 := n1 12 [49, 50] (by
    rw [show (12 : Int) = ((12 : Nat) : Int) from rfl, Lib.itoa_nonneg, Lib.decDigits_two (by decide) (by decide)]; rfl) ⟨by decide, by decide⟩
  unfold numbersS
  rw [hc]
  unfold numbersL
  simp only
  rw [if_pos (by decide)]
  simp only [numsS, h0, h1, h9, h12, bind_mk]
theorem okParse : parseS (bl (okText ++ [10])) = .ok okF := by
  unfold parseS
  rw [bl_list, parseP_line okText [] 0 [] true false zFound (by decide)]
  simp only [List.nil_append, stepP, if_true, okNums, bind_mk]
  rfl
theorem parse_emp : parseS emp = .error 0 := rfl
theorem parse_cut : parseS (bl okText) = .error 0 := by
  unfold parseS
  rw [bl_list, parseP_none okText 0 [] true false zFound (by decide), if_neg (by decide)]
theorem law23_shown_is (q : Nat) (hq : 300000100 ≤ q) : law23_shown q = some (true, ()) := by
  unfold law23_shown
  have hp := trail_Print_is q okF okF_ok (by omega)
  rw [show printOk okF = true by decide, okPrint] at hp
  have e1 : T.agg [T.int .i64 (1 : Int), T.int .i64 (0 : Int), T.int .i64 (0 : Int), T.int .i64 (0 : Int), T.lst ([]), T.int .i64 (-1 : Int), T.int .i64 (9 : Int), T.int .i64 (12 : Int)] = okF.enc := rfl
  rw [e1, hp]
  simp only [if_true, bind_mk]
  have h2 := trail_Parse_is q (bl (okText ++ [10])) (by decide) hq
  have h3 := trail_Parse_is q emp (by decide) hq
  have h4 := trail_Parse_is q (bl okText) (by decide) hq
  rw [okParse] at h2
  rw [parse_emp] at h3
  rw [parse_cut] at h4
  rw [show (ByteArray.mk #[102, 111, 117, 110, 100, 32, 49, 32, 48, 32, 48, 32, 48, 32, 57, 32, 49, 50]) = bl okText from rfl, h2, h3, h4]
  simp only [bind_mk, encP]
  have hS := SameFound_refl q okF (by decide) (by show 0 < q; omega)
  rw [← encT_F] at hS
  unfold encT at hS
  rw [← encT_F]
  unfold encT
  rw [hS]
  have hstr : strEq (bl (okText ++ [10])) (ByteArray.mk #[102, 111, 117, 110, 100, 32, 49, 32, 48, 32, 48, 32, 48, 32, 57, 32, 49, 50, 10]) = true := by
    rw [strEq_is]; exact decide_eq_true rfl
  rw [hstr]
  rfl
end Go.Ax
