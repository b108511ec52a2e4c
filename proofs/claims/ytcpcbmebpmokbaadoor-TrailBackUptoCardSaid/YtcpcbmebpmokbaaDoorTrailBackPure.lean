/- Layer 23: TrailBack: the plain law. -/
import Derived.Test.YtcpcbmebpmokbaaDoorTrailBackTrF
import Derived.Test.YtcpcbmebpmokbaaDoorTrailBackTrK
import Derived.Test.YtcpcbmebpmokbaaDoorTrailBackTrL
set_option linter.unusedVariables false
set_option linter.unusedSimpArgs false
namespace Go.Ax
open Go
theorem seen_ok {pre : List UInt8} {g : MFound} (h : Seen pre false g) (hl : g.Trail.length ≤ 1048576) : g.ok ksmall ∧ printOk g = true := by
  have hn := h.nums
  have hc := h.cyc
  have hk := h.kind
  have hd : g.Cycle ≠ (g.Trail.length : Int) := fun e => by have := h.due.2 e; cases this
  refine ⟨⟨hn _ (by simp [MFound.nums]), hn _ (by simp [MFound.nums]), hn _ (by simp [MFound.nums]), hn _ (by simp [MFound.nums]), ⟨⟨by omega, hl⟩, h.trail⟩, ⟨by omega, by omega⟩, hn _ (by simp [MFound.nums]), hn _ (by simp [MFound.nums])⟩, ?_⟩
  unfold printOk
  simp only [Bool.not_eq_true', Bool.or_eq_false_iff, decide_eq_false_iff_not]
  exact ⟨⟨⟨by omega, by omega⟩, by omega⟩, by omega⟩
theorem pure_TrailBack (x0 : MFound) (x1 : ByteArray) (o0 : x0.ok ksmall) (o1 : okS ksmall x1) : ∃ q, law23_TrailBack q x0.enc x1 = some (true, ()) := by
  refine ⟨300000200, ?_⟩
  have hs : x1.size ≤ 1048576 := o1.2
  -- the second half
  have half : ((trail_Parse 300000200 x1).bind fun v9 => if (v9.2.1 == (0 : Int)) = true then (
      (trail_Print 300000200 (encT v9.1)).bind fun v10 =>
      (if true = true then some (v10.2.1 == (0 : Int)) else some false).bind fun v11 =>
      (if v11 = true then some (strEq v10.1 x1) else some false).bind fun v12 =>
      some (v12, ())) else some (true, ())) = some (true, ()) := by
    rw [trail_Parse_is _ x1 (by omega) (by decide)]
    simp only [bind_mk]
    cases hp : parseS x1 with
    | error a => rfl
    | ok g =>
      have hl := parseS_trail hp
      obtain ⟨e, hseen⟩ := print_parse x1.data.toList 0 [] [] true false zFound g (.inl ⟨rfl, rfl, rfl, rfl⟩) hp
      obtain ⟨hok, hpo⟩ := seen_ok hseen (by omega)
      have e0 : ((encP (.ok g)).2.1 == (0 : Int)) = true := rfl
      rw [if_pos e0]
      have e1 : encT (encP (.ok g)).1 = g.enc := rfl
      rw [e1, trail_Print_is _ g hok (by decide), if_pos hpo]
      simp only [bind_mk, if_true]
      have e2 : bl (printS g) = x1 := by rw [e]; rfl
      rw [e2]
      have e3 : strEq x1 x1 = true := by rw [strEq_is]; exact decide_eq_true rfl
      rw [e3]
      rfl
  unfold encT at half
  unfold law23_TrailBack
  rw [law23_shown_is _ (by decide)]
  simp only [MMove.enc_width, MMove.part, MMove.l0, MMove.l1, MMove.l2, MMove.l3, MMove.l4, MMove.l5, MMove.l6, MFound.enc_width, MFound.part, MFound.l0, MFound.l1, MFound.l2, MFound.l3, MFound.l4, MFound.l5, MFound.l6, MFound.l7, asInt_mk, asBool_mk, asStr_mk, asLst_mk, bind_mk, if_true, leaf_int, leaf_bool, leaf_str, leaf_lst]
  rw [trail_Print_is _ x0 o0 (by decide)]
  simp only [bind_mk]
  cases hp : printOk x0 with
  | false =>
    simp only [Bool.false_eq_true, if_false]
    have e0 : ((42 : Int) == 0) = false := rfl
    rw [e0]
    simp only [Bool.false_eq_true, if_false, cutB_inl]
    exact half
  | true =>
    simp only [if_true]
    have e0 : ((0 : Int) == 0) = true := rfl
    rw [e0]
    simp only [if_true]
    obtain ⟨p0, p1, p2, p3, ⟨⟨pl, pk⟩, pT⟩, p5, p6, p7⟩ := id o0
    have pk : x0.Trail.length ≤ 1048576 := pk
    have hM := movesS_len (c := x0.Cycle) (i := 0) pT
    have hfl := numsL_len (MFound.nums_ok o0)
    have h6 : x0.nums.length = 6 := rfl
    have hsz : (bl (printS x0)).size ≤ 300000000 := by
      rw [bl_size]
      unfold printS lineS
      simp only [List.length_append, wFound, List.length_cons, List.length_nil]
      omega
    rw [trail_Parse_is _ (bl (printS x0)) hsz (by decide), parse_print o0 hp]
    simp only [bind_mk]
    have hS := SameFound_refl 300000200 x0 (by omega) (by omega)
    have e1 : (T.agg [T.int .i64 (encP (.ok x0)).1.1, T.int .i64 (encP (.ok x0)).1.2.1, T.int .i64 (encP (.ok x0)).1.2.2.1, T.int .i64 (encP (.ok x0)).1.2.2.2.1, T.lst (encP (.ok x0)).1.2.2.2.2.1, T.int .i64 (encP (.ok x0)).1.2.2.2.2.2.1, T.int .i64 (encP (.ok x0)).1.2.2.2.2.2.2.1, T.int .i64 (encP (.ok x0)).1.2.2.2.2.2.2.2.1]) = x0.enc := rfl
    rw [e1, hS]
    have e2 : ((encP (.ok x0)).2.1 != (0 : Int)) = false := rfl
    rw [e2]
    simp only [bind_mk, Bool.false_eq_true, if_false, Bool.not_true, cutB_inl]
    exact half
end Go.Ax
