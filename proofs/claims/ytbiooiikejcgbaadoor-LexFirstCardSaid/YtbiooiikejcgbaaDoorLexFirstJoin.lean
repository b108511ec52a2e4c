/- LexFirst: for every input the law's function returns true, and each argument reads behind the call as it read before. No condition. -/
import Derived.Test.YtbiooiikejcgbaaDoorRows
import Derived.Test.YtbiooiikejcgbaaDoorTie
import Derived.Test.YtbiooiikejcgbaaDoorCards
import Derived.Deep.DeepHandedRow
import Derived.Deep.DeepWitnessRowRef
import Derived.LaidMore
import Derived.LaidHandle
import Derived.MakeChecks
import Derived.Stop.LaidErr
import Derived.Shelf.Vars
import Derived.Lib.LaidTab
import Derived.SevenTiedAt
import Derived.Test.YtbiooiikejcgbaaDoorLexFirstGen0
import Derived.Test.YtbiooiikejcgbaaDoorLexFirstTy
import Derived.Test.YtbiooiikejcgbaaDoorLexFirstPure
import Derived.ProofKit
import Derived.SizedLaws
set_option linter.unusedVariables false
set_option maxRecDepth 1000000
namespace Go.Ax
open Go Go.Proofs

end Go.Ax
namespace Go.Proofs.YtbiooiikejcgbaaDoor
open Go Go.Ax Go.ChangeShapes Go.WideShapes Go.ChangeAt Go.RowKit
theorem own_knob : ownKnob Tryd.prog.godebug = none := by kernel_rfl
theorem laid_out : laidOutB Tryd.prog = true := by kernel_rfl
theorem ok_ty : Tryd.f4.params.toList.all (okTy Tryd.prog 30) = true := by kernel_rfl
theorem ok_rd : Tryd.f4.params.toList.all (fun t => Tryd.prog.readableRec t && decide (t < Tryd.prog.types.size)) = true := by kernel_rfl
theorem ok_rt : Tryd.f4.resultTypes = #[4] := by kernel_rfl
theorem law_calls {W : World} (hG : GOk W) (xs : List T) (h : TypedArgs Tryd.prog ktrue 30 Tryd.f4.params.toList xs) : ∃ ap, CallSound Tryd.prog W 4 xs ap [.l (.t (.bool true))] := by
  have h : TypedArgs Tryd.prog ktrue 30 [9, 9] xs := by rw [Tryd.params4] at h; exact h
  obtain ⟨l0, xs, rfl, h0, h⟩ := typedArgs_cons h
  obtain ⟨l1, xs, rfl, h1, h⟩ := typedArgs_cons h
  obtain rfl := typedArgs_nil h
  obtain ⟨x0, e0, o0⟩ := (elem_str Tryd.underlying9) _ _ h0
  rw [e0]
  obtain ⟨x1, e1, o1⟩ := (elem_str Tryd.underlying9) _ _ h1
  rw [e1]
  obtain ⟨q, hq⟩ := pure_LexFirst x0 x1 o0 o1
  exact sumK_law (law01_LexFirst_sum hG q) rfl hq
theorem door_met (os : Os) (args : Array Value) : laidMetH Tryd.prog Rows.lexFirstRow.laid ((World.doorLaid Tryd.prog 33 os).forCall (fun _ _ => 0) ⟨#[], args, []⟩).memory :=
  laidMetH_of_parts3 (fuel := 8) (laidMet_of_run' 8 (by kernel_rfl) (by kernel_rfl)) (by kernel_rfl) (by kernel_rfl)
theorem ground {W : World} (hL : laidMetH Tryd.prog Rows.lexFirstRow.laid W) (hsh : W.ShapedOpen Tryd.prog) : GOk W := by
  rw [MakeChecks.laidMetH_plain _ _ _ (by kernel_rfl)] at hL
  have t1 : laidMet Tryd.prog (("strings.asciiSpace", Lib.tabData .u8 Lib.asciiSpaceTab) :: []) W := laidMet.tail (hL)
  exact ⟨Tryd.laysM143.s1_3 W hsh, Lib.tabIs_of_head (g := 0) (by kernel_rfl) (by kernel_rfl) Tryd.underlying41 Tryd.underlying5 (by kernel_rfl) (by kernel_rfl) t1, trivial⟩
theorem witness_row (os : Os) {H : Type} (enc : TypeId × Value → H) : (OpenSpec.ofChange Rows.lexFirstSpec).preRow enc Tryd.prog Tryd.f4 Rows.lexFirstRow.domain false Rows.lexFirstRow.laid ((World.doorLaid Tryd.prog 33 os).forCall (fun _ _ => 0) ⟨#[], #[.string ByteArray.empty, .string ByteArray.empty], []⟩).memory #[.string ByteArray.empty, .string ByteArray.empty] := by
  have hw : (DataW.whole enc Tryd.prog ((World.doorLaid Tryd.prog 33 os).forCall (fun _ _ => 0) ⟨#[], #[.string ByteArray.empty, .string ByteArray.empty], []⟩).memory Tryd.f4.params.toList (OpenSpec.ofChange Rows.lexFirstSpec).vars false #[.string ByteArray.empty, .string ByteArray.empty].toList 8).map (fun x => (x.1, x.2.1)) = some ([.lit (.string []), .lit (.string [])], []) := by kernel_rfl
  obtain ⟨⟨x1, x2, x3⟩, hx, hx1⟩ := Option.map_eq_some_iff.1 hw
  simp only [Prod.mk.injEq] at hx1
  obtain ⟨rfl, rfl⟩ := hx1
  exact OpenSpec.preRow_of_cond 8 hx (by kernel_rfl) (fun k hk => by cases hk) (by kernel_rfl) (door_met os _)
theorem lexFirst_lifted (os : Os) (started : os.Started) (H : Type) (enc : TypeId × Value → H) (F : Stop.Interp) :
    ReturnsInHanded {} Tryd.checked os 4 .any ((OpenSpec.ofChange Rows.lexFirstSpec).preRow enc Tryd.prog Tryd.f4 Rows.lexFirstRow.domain false Rows.lexFirstRow.laid) (((OpenSpec.ofChange Rows.lexFirstSpec).at F).post enc Tryd.prog Tryd.f4 false true false false) := by
  refine returnsInHanded_of_row (C := Tryd.checked) (s := (OpenSpec.ofChange Rows.lexFirstSpec)) own_knob started (by kernel_rfl) Tryd.func4
    (witness_row_atRef (enc := enc) (C := Tryd.checked) false (World.doorLaid Tryd.prog 33 os) #[.string ByteArray.empty, .string ByteArray.empty] rfl (by kernel_rfl) (by kernel_rfl) (by kernel_rfl) (witness_row os enc)) ?_
  intro W base args ds gs before hval0 hW0 _ hk0 hwt0 hL hsh _
  have hval : ∀ (j : Nat) t v, Tryd.f4.params[j]? = some t → args[j]? = some v → Value.okWide Tryd.prog W .any base t v := hval0
  have hW : DataW.Whole enc Tryd.prog Tryd.f4.params.toList Rows.lexFirstSpec.vars false W args.toList ds gs before := hW0
  have hwt : (DataW.weightsEach Tryd.prog (Tryd.f4.params.toList ++ Rows.lexFirstSpec.plain.varTypes Tryd.prog) (ds ++ gs)).all (· ≤ reachBytes) = true := hwt0
  have hk : ∀ k ∈ lensAll ds, ktrue k := fun _ _ => trivial
  have hG : GOk W := ground hL hsh
  have hlaw := law_contract (P := Tryd.prog) (K := ktrue) trivial (f := 4) (fn := Tryd.f4) (s := Rows.lexFirstSpec) (n := 30) (tb := 4) laid_out ok_ty ok_rd ok_rt Tryd.underlying4 rfl (fun ds h => match ds, h with | [_, _], _ => rfl) (base := base) (law_calls hG) hval hwt hk hW
  exact hlaw
theorem lexFirst_row : Rows.LexFirstSaid :=
  OpenClaim.holds_of_cond 4 Tryd.f4 rfl rfl rfl rfl rfl rfl rfl ⟨rfl, rfl, rfl, rfl, rfl⟩ rfl rfl rfl rfl rfl (by kernel_rfl) Tryd.func4 (by kernel_rfl)
    (of_decide_eq_true (by kernel_rfl)) (by unfold Func.isWrapper; first | (rw [if_pos (by decide +kernel)]; kernel_rfl) | (rw [if_neg (by decide +kernel)]; exact ⟨rfl, rfl⟩))
    (fun os started H enc _ F => by rw [OpenClaim.pre_eq_preRow]; exact lexFirst_lifted os started H enc F)
theorem lexFirstCard_holds : Rows.LexFirstCardSaid :=
  Claim7.holds_tied_plain_at .later [] [.listed, .data] true (true, "b655fef92f26aa3abce4d76c293103551ededc491f494aaf908f3fd372bc989d") false
    lexFirst_row (fun _ h => by cases h) (by kernel_rfl) (fun _ h => by cases h) lexFirst_row_tie rfl ⟨rfl, rfl⟩ (by kernel_rfl) rfl
    (fun f fn hf hfn => by
      obtain rfl : f = 4 := Option.some.inj ((show Tryd.prog.funcNamed Rows.lexFirstRow.func = some 4 by kernel_rfl).symm.trans hf) |>.symm
      obtain rfl : fn = Tryd.f4 := (Option.some.inj (Tryd.func4.symm.trans hfn)).symm
      exact ⟨by kernel_rfl, fun j t ht => by
        rw [Tryd.params4] at ht
        have hm : t ∈ [9, 9] := by simpa using Array.mem_of_getElem? ht
        have hall : ([9, 9].all fun u => !Tryd.prog.wantsStandIn u) = true := by kernel_rfl
        exact (show Tryd.prog.wantsStandIn t = false by simpa using List.all_eq_true.1 hall t hm)⟩)
    (by kernel_rfl)
end Go.Proofs.YtbiooiikejcgbaaDoor
