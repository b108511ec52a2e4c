/- TrailBack: for every input the law's function returns true, and each argument reads behind the call as it read before. No condition. -/
import Derived.Test.YtcpcbmebpmokbaaDoorRows
import Derived.Test.YtcpcbmebpmokbaaDoorTie
import Derived.Test.YtcpcbmebpmokbaaDoorCards
import Derived.Deep.DeepHandedRow
import Derived.Deep.DeepWitnessRowRef
import Derived.LaidMore
import Derived.LaidHandle
import Derived.MakeChecks
import Derived.Stop.LaidErr
import Derived.Shelf.Vars
import Derived.Lib.LaidTab
import Derived.SevenTiedAt
import Derived.Test.YtcpcbmebpmokbaaDoorTrailBackGen0
import Derived.Test.YtcpcbmebpmokbaaDoorTrailBackTy
import Derived.Test.YtcpcbmebpmokbaaDoorTrailBackPure
import Derived.ProofKit
import Derived.SizedLaws
import Derived.Deep.CondSized
import Derived.Lay
set_option linter.unusedVariables false
set_option maxRecDepth 1000000
namespace Go.Ax
open Go Go.Proofs
theorem MMove.of {K : Nat → Prop} {n : Nat} {ls : List T} (h : Typed Tryd.prog K n 47 ls) : ∃ x : MMove, ls = x.ls ∧ x.ok K := by
  obtain ⟨m, h⟩ := typed_struct Tryd.underlying47 h
  obtain ⟨_, _, rfl, h0, ⟨_, _, rfl, h1, ⟨_, _, rfl, h2, ⟨_, _, rfl, h3, ⟨_, _, rfl, h4, ⟨_, _, rfl, h5, ⟨_, _, rfl, h6, rfl⟩⟩⟩⟩⟩⟩⟩ := h
  obtain ⟨v0, rfl, o0⟩ := typed_int Tryd.underlying3 h0
  obtain ⟨v1, rfl, o1⟩ := typed_int Tryd.underlying3 h1
  obtain ⟨v2, rfl, o2⟩ := typed_int Tryd.underlying3 h2
  obtain ⟨v3, rfl, o3⟩ := typed_int Tryd.underlying3 h3
  obtain ⟨v4, rfl, o4⟩ := typed_int Tryd.underlying3 h4
  obtain ⟨v5, rfl, o5⟩ := typed_int Tryd.underlying3 h5
  obtain ⟨v6, rfl, o6⟩ := typed_int Tryd.underlying3 h6
  exact ⟨⟨v0, v1, v2, v3, v4, v5, v6⟩, rfl, o0, o1, o2, o3, o4, o5, o6⟩
theorem MMove.elem {K : Nat → Prop} (n : Nat) (ls : List T) (h : Typed Tryd.prog K n 47 ls) : ∃ y, wrapT (isAggT Tryd.prog 47) ls = MMove.enc y ∧ MMove.ok K y := by
  obtain ⟨x, rfl, hx⟩ := MMove.of h
  exact ⟨x, by unfold isAggT wrapT; rw [Tryd.underlying47]; rfl, hx⟩
theorem MFound.of {K : Nat → Prop} {n : Nat} {ls : List T} (h : Typed Tryd.prog K n 25 ls) : ∃ x : MFound, ls = x.ls ∧ x.ok K := by
  obtain ⟨m, h⟩ := typed_struct Tryd.underlying25 h
  obtain ⟨_, _, rfl, h0, ⟨_, _, rfl, h1, ⟨_, _, rfl, h2, ⟨_, _, rfl, h3, ⟨_, _, rfl, h4, ⟨_, _, rfl, h5, ⟨_, _, rfl, h6, ⟨_, _, rfl, h7, rfl⟩⟩⟩⟩⟩⟩⟩⟩ := h
  obtain ⟨v0, rfl, o0⟩ := typed_int Tryd.underlying3 h0
  obtain ⟨v1, rfl, o1⟩ := typed_int Tryd.underlying3 h1
  obtain ⟨v2, rfl, o2⟩ := typed_int Tryd.underlying22 h2
  obtain ⟨v3, rfl, o3⟩ := typed_int Tryd.underlying3 h3
  obtain ⟨v4, rfl, o4⟩ := typed_slice (enc := MMove.enc) (ok := (MMove.ok K)) (b := 56) Tryd.underlying23 (by kernel_rfl) h4 MMove.elem
  obtain ⟨v5, rfl, o5⟩ := typed_int Tryd.underlying3 h5
  obtain ⟨v6, rfl, o6⟩ := typed_int Tryd.underlying3 h6
  obtain ⟨v7, rfl, o7⟩ := typed_int Tryd.underlying3 h7
  exact ⟨⟨v0, v1, v2, v3, v4, v5, v6, v7⟩, rfl, o0, o1, o2, o3, o4, o5, o6, o7⟩
theorem MFound.elem {K : Nat → Prop} (n : Nat) (ls : List T) (h : Typed Tryd.prog K n 25 ls) : ∃ y, wrapT (isAggT Tryd.prog 25) ls = MFound.enc y ∧ MFound.ok K y := by
  obtain ⟨x, rfl, hx⟩ := MFound.of h
  exact ⟨x, by unfold isAggT wrapT; rw [Tryd.underlying25]; rfl, hx⟩
end Go.Ax
namespace Go.Proofs.YtcpcbmebpmokbaaDoor
open Go Go.Ax Go.ChangeShapes Go.WideShapes Go.ChangeAt Go.RowKit
mutual
theorem lens_bulk {H : Type} : ∀ (d : DataW H), ∀ k ∈ lensD d, k ≤ Rows.uptoBulk d
  | .lit (.string bytes), k, h => by simp only [lensD, List.mem_singleton] at h; subst h; simp [Rows.uptoBulk]
  | .lit (.bool _), k, h => by simp [lensD] at h
  | .lit (.int _ _), k, h => by simp [lensD] at h
  | .lit (.float _ _), k, h => by simp [lensD] at h
  | .nil, k, h => by simp [lensD] at h
  | .ptr _, k, h => by simp [lensD] at h
  | .slice elems spare, k, h => by
    simp only [lensD, List.mem_cons] at h
    simp only [Rows.uptoBulk]
    rcases h with rfl | h
    · have := bulk_length elems; omega
    · have := lens_bulks elems k h; omega
  | .agg parts, k, h => by
    simp only [lensD] at h
    simp only [Rows.uptoBulk]
    have := lens_bulks parts k h; omega
  | .iface _ _, k, h => by simp [lensD] at h
  | .map _, k, h => by simp [lensD] at h
  | .held _, k, h => by simp [lensD] at h
theorem lens_bulks {H : Type} : ∀ (ds : List (DataW H)), ∀ k ∈ lensAll ds, k ≤ Rows.uptoBulkAll ds
  | [], k, h => by simp [lensAll] at h
  | d :: ds, k, h => by
    simp only [lensAll, List.mem_append] at h
    simp only [Rows.uptoBulkAll]
    rcases h with h | h
    · have := lens_bulk d k h; omega
    · have := lens_bulks ds k h; omega
theorem bulk_one {H : Type} : ∀ (d : DataW H), 1 ≤ Rows.uptoBulk d
  | .lit l => by cases l <;> simp [Rows.uptoBulk]
  | .nil => by simp [Rows.uptoBulk]
  | .ptr _ => by simp [Rows.uptoBulk]
  | .slice _ _ => by simp [Rows.uptoBulk]
  | .agg _ => by simp [Rows.uptoBulk]
  | .iface _ _ => by simp [Rows.uptoBulk]
  | .map _ => by simp [Rows.uptoBulk]
  | .held _ => by simp [Rows.uptoBulk]
theorem bulk_length {H : Type} : ∀ (ds : List (DataW H)), ds.length ≤ Rows.uptoBulkAll ds
  | [] => by simp [Rows.uptoBulkAll]
  | d :: ds => by
    have h1 := bulk_one d
    have h2 := bulk_length ds
    simp only [Rows.uptoBulkAll, List.length_cons]
    omega
end
theorem bulk_append {H : Type} (l r : List (DataW H)) : Rows.uptoBulkAll (l ++ r) = Rows.uptoBulkAll l + Rows.uptoBulkAll r := by
  induction l with
  | nil => simp [Rows.uptoBulkAll]
  | cons x l ih => simp only [List.cons_append, Rows.uptoBulkAll, ih]; omega
theorem own_knob : ownKnob Tryd.prog.godebug = none := by kernel_rfl
theorem laid_out : laidOutB Tryd.prog = true := by kernel_rfl
theorem ok_ty : Tryd.f4.params.toList.all (okTy Tryd.prog 30) = true := by kernel_rfl
theorem ok_rd : Tryd.f4.params.toList.all (fun t => Tryd.prog.readableRec t && decide (t < Tryd.prog.types.size)) = true := by kernel_rfl
theorem ok_rt : Tryd.f4.resultTypes = #[4] := by kernel_rfl
theorem law_calls {W : World} (hG : GOk W) (xs : List T) (h : TypedArgs Tryd.prog ksmall 30 Tryd.f4.params.toList xs) : ∃ ap, CallSound Tryd.prog W 4 xs ap [.l (.t (.bool true))] := by
  have h : TypedArgs Tryd.prog ksmall 30 [25, 9] xs := by rw [Tryd.params4] at h; exact h
  obtain ⟨l0, xs, rfl, h0, h⟩ := typedArgs_cons h
  obtain ⟨l1, xs, rfl, h1, h⟩ := typedArgs_cons h
  obtain rfl := typedArgs_nil h
  obtain ⟨x0, e0, o0⟩ := MFound.elem _ _ h0
  rw [e0]
  obtain ⟨x1, e1, o1⟩ := (elem_str Tryd.underlying9) _ _ h1
  rw [e1]
  obtain ⟨q, hq⟩ := pure_TrailBack x0 x1 o0 o1
  exact sumK_law (law23_TrailBack_sum hG q) rfl hq
theorem door_met (os : Os) (args : Array Value) : laidMetH Tryd.prog Rows.trailBackUptoRow.laid ((World.laidAll Tryd.prog os Rows.trailBackUptoRow.laid).forCall (fun _ _ => 0) ⟨#[], args, []⟩).memory :=
  (MakeChecks.laidMetH_plain _ _ _ (by kernel_rfl)) ▸ laidMet_laidAll _ (by kernel_rfl) (by kernel_rfl)
theorem err_row (u : TypeId) (h : Tryd.prog.typeName? 3 u = some "*errors.errorString") : u = 100 :=
  have star : "*" ++ "errors.errorString" = "*errors.errorString" := by decide
  typeName_ptr_named (nm := "errors.errorString") (by rw [star]; kernel_rfl) (by kernel_rfl) (by decide) u (by rw [star]; exact h)
theorem ground {W : World} (hL : laidMetH Tryd.prog Rows.trailBackUptoRow.laid W) (hsh : W.ShapedOpen Tryd.prog) : GOk W := by
  rw [MakeChecks.laidMetH_plain _ _ _ (by kernel_rfl)] at hL
  have t2 : laidMet Tryd.prog (("internal/strconv.uint64pow10", Lib.tabData .u64 Lib.pow10Tab) :: [("unicode/utf8.acceptRanges", Rows.laid_unicode_utf8_acceptRanges), ("strconv.ErrRange", Rows.laid_strconv_ErrRange), ("strconv.ErrSyntax", Rows.laid_strconv_ErrSyntax), ("unicode/utf8.first", Rows.laid_unicode_utf8_first)]) W := laidMet.tail (laidMet.tail (hL))
  have t5 : laidMet Tryd.prog (("strconv.ErrSyntax", Rows.laid_strconv_ErrSyntax) :: [("unicode/utf8.first", Rows.laid_unicode_utf8_first)]) W := laidMet.tail (laidMet.tail (laidMet.tail (laidMet.tail (laidMet.tail (hL)))))
  have g1 : Tryd.prog.globalNamed "strconv.ErrSyntax" = some 1 := by kernel_rfl
  obtain ⟨a1, _, v1, _, _, _⟩ := laid_sentinel t5 g1 (by kernel_rfl) Tryd.underlying42 err_row Tryd.underlying100 Tryd.underlying102 rfl rfl Tryd.underlying9 (by kernel_rfl) (by kernel_rfl)
  have c1 : W.cell? ⟨1, 0, none⟩ = some (.iface 100 (.pointer (some a1))) := by simpa using World.var?_cell g1 v1 0
  have t4 : laidMet Tryd.prog (("strconv.ErrRange", Rows.laid_strconv_ErrRange) :: [("strconv.ErrSyntax", Rows.laid_strconv_ErrSyntax), ("unicode/utf8.first", Rows.laid_unicode_utf8_first)]) W := laidMet.tail (laidMet.tail (laidMet.tail (laidMet.tail (hL))))
  have g2 : Tryd.prog.globalNamed "strconv.ErrRange" = some 2 := by kernel_rfl
  obtain ⟨a2, _, v2, _, _, _⟩ := laid_sentinel t4 g2 (by kernel_rfl) Tryd.underlying42 err_row Tryd.underlying100 Tryd.underlying102 rfl rfl Tryd.underlying9 (by kernel_rfl) (by kernel_rfl)
  have c2 : W.cell? ⟨2, 0, none⟩ = some (.iface 100 (.pointer (some a2))) := by simpa using World.var?_cell g2 v2 0
  exact ⟨Tryd.laysM146.s1_3 W hsh, Lib.tabIs_of_head (g := 3) (by kernel_rfl) (by kernel_rfl) Tryd.underlying95 Tryd.underlying72 (by kernel_rfl) (by kernel_rfl) t2, ⟨_, c1, .inr ⟨_, _, rfl⟩⟩, ⟨_, c2, .inr ⟨_, _, rfl⟩⟩, trivial⟩
theorem witness_row (os : Os) {H : Type} (enc : TypeId × Value → H) : (Rows.OpenSpec.upto Rows.trailBackSpec).preRow enc Tryd.prog Tryd.f4 Rows.trailBackUptoRow.domain false Rows.trailBackUptoRow.laid ((World.laidAll Tryd.prog os Rows.trailBackUptoRow.laid).forCall (fun _ _ => 0) ⟨#[], #[.agg #[.int .i64 0, .int .i64 0, .int .i64 0, .int .i64 0, .slice none 0 0, .int .i64 0, .int .i64 0, .int .i64 0], .string ByteArray.empty], []⟩).memory #[.agg #[.int .i64 0, .int .i64 0, .int .i64 0, .int .i64 0, .slice none 0 0, .int .i64 0, .int .i64 0, .int .i64 0], .string ByteArray.empty] := by
  have hw : (DataW.whole enc Tryd.prog ((World.laidAll Tryd.prog os Rows.trailBackUptoRow.laid).forCall (fun _ _ => 0) ⟨#[], #[.agg #[.int .i64 0, .int .i64 0, .int .i64 0, .int .i64 0, .slice none 0 0, .int .i64 0, .int .i64 0, .int .i64 0], .string ByteArray.empty], []⟩).memory Tryd.f4.params.toList (Rows.OpenSpec.upto Rows.trailBackSpec).vars false #[.agg #[.int .i64 0, .int .i64 0, .int .i64 0, .int .i64 0, .slice none 0 0, .int .i64 0, .int .i64 0, .int .i64 0], .string ByteArray.empty].toList 8).map (fun x => (x.1, x.2.1)) = some ([.agg [.lit (.int .i64 0), .lit (.int .i64 0), .lit (.int .i64 0), .lit (.int .i64 0), .nil, .lit (.int .i64 0), .lit (.int .i64 0), .lit (.int .i64 0)], .lit (.string [])], []) := by kernel_rfl
  obtain ⟨⟨x1, x2, x3⟩, hx, hx1⟩ := Option.map_eq_some_iff.1 hw
  simp only [Prod.mk.injEq] at hx1
  obtain ⟨rfl, rfl⟩ := hx1
  exact OpenSpec.preRow_of_cond 8 hx (by kernel_rfl) (fun k hk => by cases hk; kernel_rfl) (by kernel_rfl) (door_met os _)
theorem trailBack_lifted (os : Os) (started : os.Started) (H : Type) (enc : TypeId × Value → H) (F : Stop.Interp) :
    ReturnsInHanded {} Tryd.checked os 4 .any ((Rows.OpenSpec.upto Rows.trailBackSpec).preRow enc Tryd.prog Tryd.f4 Rows.trailBackUptoRow.domain false Rows.trailBackUptoRow.laid) (((Rows.OpenSpec.upto Rows.trailBackSpec).at F).post enc Tryd.prog Tryd.f4 false true false false) := by
  refine returnsInHanded_of_row (C := Tryd.checked) (s := (Rows.OpenSpec.upto Rows.trailBackSpec)) own_knob started (by kernel_rfl) Tryd.func4
    (witness_row_atRef (enc := enc) (C := Tryd.checked) false (World.laidAll Tryd.prog os Rows.trailBackUptoRow.laid) #[.agg #[.int .i64 0, .int .i64 0, .int .i64 0, .int .i64 0, .slice none 0 0, .int .i64 0, .int .i64 0, .int .i64 0], .string ByteArray.empty] (World.laidAll_os _ _ _) (by kernel_rfl) (by kernel_rfl) (by kernel_rfl) (witness_row os enc)) ?_
  intro W base args ds gs before hval0 hW0 _ hk0 hwt0 hL hsh _
  have hval : ∀ (j : Nat) t v, Tryd.f4.params[j]? = some t → args[j]? = some v → Value.okWide Tryd.prog W .any base t v := hval0
  have hW : DataW.Whole enc Tryd.prog Tryd.f4.params.toList Rows.trailBackSpec.vars false W args.toList ds gs before := hW0
  have hwt : (DataW.weightsEach Tryd.prog (Tryd.f4.params.toList ++ Rows.trailBackSpec.plain.varTypes Tryd.prog) (ds ++ gs)).all (· ≤ reachBytes) = true := hwt0
  have hk : ∀ k ∈ lensAll ds, ksmall k := fun k hk => by
    have h1 := lens_bulks ds k hk
    have h2 : Rows.uptoBulkAll (ds ++ gs) ≤ 1048576 := of_decide_eq_true (hk0 _ rfl)
    rw [bulk_append] at h2
    show k ≤ 1048576
    omega
  have hG : GOk W := ground hL hsh
  have hlaw := law_contract (P := Tryd.prog) (K := ksmall) (Nat.zero_le _) (f := 4) (fn := Tryd.f4) (s := Rows.trailBackSpec) (n := 30) (tb := 4) laid_out ok_ty ok_rd ok_rt Tryd.underlying4 rfl (fun ds h => match ds, h with | [_, _], _ => rfl) (base := base) (law_calls hG) hval hwt hk hW
  exact hlaw
theorem trailBackUpto_row : Rows.TrailBackUptoSaid :=
  OpenClaim.holds_of_cond 4 Tryd.f4 rfl rfl rfl rfl rfl rfl rfl ⟨rfl, rfl, rfl, rfl, rfl⟩ rfl rfl rfl rfl rfl (by kernel_rfl) Tryd.func4 (by kernel_rfl)
    (of_decide_eq_true (by kernel_rfl)) (by unfold Func.isWrapper; first | (rw [if_pos (by decide +kernel)]; kernel_rfl) | (rw [if_neg (by decide +kernel)]; exact ⟨rfl, rfl⟩))
    (fun os started H enc _ F => by rw [OpenClaim.pre_eq_preRow]; exact trailBack_lifted os started H enc F)
theorem trailBackUptoCard_holds : Rows.TrailBackUptoCardSaid :=
  Claim7.holds_tied_plain_at .later [] [.data, .data, .data, .data, .sentinel, .sentinel, .pinned] true (true, "162c9baf6255c39a9293e3545665d1a4121a478fba45047914b03c7d6ee48a34") true
    trailBackUpto_row (fun _ h => by cases h) (by kernel_rfl) (fun _ h => by cases h) trailBackUpto_row_tie rfl ⟨rfl, rfl⟩ (by kernel_rfl) rfl
    (fun f fn hf hfn => by
      obtain rfl : f = 4 := Option.some.inj ((show Tryd.prog.funcNamed Rows.trailBackUptoRow.func = some 4 by kernel_rfl).symm.trans hf) |>.symm
      obtain rfl : fn = Tryd.f4 := (Option.some.inj (Tryd.func4.symm.trans hfn)).symm
      exact ⟨by kernel_rfl, fun j t ht => by
        rw [Tryd.params4] at ht
        have hm : t ∈ [25, 9] := by simpa using Array.mem_of_getElem? ht
        have hall : ([25, 9].all fun u => !Tryd.prog.wantsStandIn u) = true := by kernel_rfl
        exact (show Tryd.prog.wantsStandIn t = false by simpa using List.all_eq_true.1 hall t hm)⟩)
    (by kernel_rfl)
end Go.Proofs.YtcpcbmebpmokbaaDoor
