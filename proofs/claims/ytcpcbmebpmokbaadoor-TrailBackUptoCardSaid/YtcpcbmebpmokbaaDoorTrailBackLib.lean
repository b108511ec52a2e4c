/- The library's functions that the law reaches: what each computes, and that it does, over the kit's contracts. -/
import Derived.Test.YtcpcbmebpmokbaaDoorAxBld
import Derived.Test.YtcpcbmebpmokbaaDoorTrailBackShelf
import Derived.KernelRfl
import Derived.Lib.AppendIntMem
import Derived.Lib.AtoiErrMem
import Derived.Lib.SplitLaws
set_option linter.unusedVariables false
set_option maxRecDepth 1000000
namespace Go.Ax
open Go Go.Proofs Go.RowKit
/-- what is asked of the world in which the law is called -/
def GOk (G : World) : Prop := (∃ m, G.cell? ⟨0, 0, none⟩ = some (.int .i64 m)) ∧ Lib.TabIs Tryd.prog G "internal/strconv.uint64pow10" .u64 Lib.pow10Tab ∧ (∃ ev, G.cell? ⟨1, 0, none⟩ = some ev ∧ (ev = .nilIface ∨ ∃ te pe, ev = .iface te pe)) ∧ (∃ ev, G.cell? ⟨2, 0, none⟩ = some ev ∧ (ev = .nilIface ∨ ∃ te pe, ev = .iface te pe)) ∧ True
theorem gok_max {G w : World} (hG : GOk G) (hb : Below G.heap.size G w) : ∃ m, w.cell? ⟨0, 0, none⟩ = some (.int .i64 m) := by
  obtain ⟨m, hm⟩ := hG.1
  exact ⟨m, (hb.cell (World.block_lt_of_cell? _ _ hm)).trans hm⟩
theorem gok_tab0 {G w : World} (hG : GOk G) (hb : Below G.heap.size G w) : Lib.TabIs Tryd.prog w "internal/strconv.uint64pow10" .u64 Lib.pow10Tab := by
  have h : G.var? Tryd.prog "internal/strconv.uint64pow10" = some _ := hG.2.1
  show w.var? Tryd.prog "internal/strconv.uint64pow10" = some _
  unfold World.var? at h ⊢
  obtain ⟨g, hg, h⟩ := Option.bind_eq_some_iff.1 h
  rw [hg]
  show (match w.heap[g]? with | some (.cells cs _ _) => some cs | _ => none) = _
  have hlt : g < G.heap.size := by
    rcases Nat.lt_or_ge g G.heap.size with h' | h'
    · exact h'
    · rw [Array.getElem?_eq_none h'] at h; cases h
  rw [hb.block g hlt]
  exact h
theorem gok_err0 {G w : World} (hG : GOk G) (hb : Below G.heap.size G w) : ∃ ev, w.cell? ⟨1, 0, none⟩ = some ev ∧ (ev = .nilIface ∨ ∃ te pe, ev = .iface te pe) := by
  obtain ⟨m, hm, h⟩ := hG.2.2.1
  exact ⟨m, (hb.cell (World.block_lt_of_cell? _ _ hm)).trans hm, h⟩
theorem gok_err1 {G w : World} (hG : GOk G) (hb : Below G.heap.size G w) : ∃ ev, w.cell? ⟨2, 0, none⟩ = some ev ∧ (ev = .nilIface ∨ ∃ te pe, ev = .iface te pe) := by
  obtain ⟨m, hm, h⟩ := hG.2.2.2.1
  exact ⟨m, (hb.cell (World.block_lt_of_cell? _ _ hm)).trans hm, h⟩
/-! strconv.Itoa -/
def lib_strconv_Itoa (q : Nat) (n : Int) : Option (ByteArray × Unit) := if -9223372036854775808 ≤ n ∧ n ≤ 9223372036854775807 then some (⟨(Lib.itoa n).toArray⟩, ()) else none
@[reducible] def lib_strconv_Itoa_S (q : Nat) : Summary := sumK [.cell (.int .i64)] [.leaf (.cell (.str))] fun a => lib_strconv_Itoa q a.1
@[reducible] def lib_strconv_Itoa_T (q : Nat) : Alt [.leaf (.cell (.str))] := ⟨[.cell (.int .i64)], fun a => lib_strconv_Itoa q a.1⟩
theorem lib_strconv_Itoa_sum {G : World} (hG : GOk G) (q : Nat) : SumSound Tryd.prog G 20 (lib_strconv_Itoa_S q) := by
  refine lib_flat ⟨Tryd.f20, Tryd.func20, by kernel_rfl, by kernel_rfl⟩ rfl rfl fun a b hb w hw => ?_
  replace hb : lib_strconv_Itoa q a.1 = some b := hb
  unfold lib_strconv_Itoa at hb
  split at hb
  rotate_left
  · cases hb
  rename_i hs
  cases hb
  refine (Tryd.strconv_Itoa a.1 hs.1 hs.2 w (gok_tab0 hG hw)).mono fun e w' h => ⟨h.1, ?_⟩
  obtain ⟨k, os, hk⟩ := h.2
  rw [hk]
  exact Lib.below_grow _ w (Nat.le_refl _) k os
/-! strings.IndexByte -/
def lib_strings_IndexByte (q : Nat) (s : ByteArray) (c : Int) : Option (Int × Unit) := some (Lib.indexByte s.data.toList c.toNat.toUInt8, ())
@[reducible] def lib_strings_IndexByte_S (q : Nat) : Summary := sumK [.cell (.str), .cell (.int .u8)] [.leaf (.cell (.int .i64))] fun a => lib_strings_IndexByte q a.1 a.2.1
@[reducible] def lib_strings_IndexByte_T (q : Nat) : Alt [.leaf (.cell (.int .i64))] := ⟨[.cell (.str), .cell (.int .u8)], fun a => lib_strings_IndexByte q a.1 a.2.1⟩
theorem lib_strings_IndexByte_sum {G : World} (hG : GOk G) (q : Nat) : SumSound Tryd.prog G 15 (lib_strings_IndexByte_S q) := by
  refine lib_flat ⟨Tryd.f15, Tryd.func15, by kernel_rfl, by kernel_rfl⟩ rfl rfl fun a b hb w hw => ?_
  cases hb
  exact (Tryd.strings_IndexByte a.1 a.2.1 w).mono fun e w' h => ⟨h.1, h.2 ▸ Below.refl _ _⟩
/-! strings.Split -/
def lib_strings_Split (q : Nat) (s t : ByteArray) : Option (List T × Unit) := if s.size < 4294967281 ∧ 1 ≤ t.size then some ((Lib.splitB t 0 (Lib.countB s t) s).map T.str, ()) else none
@[reducible] def lib_strings_Split_S (q : Nat) : Summary := sumK [.cell (.str), .cell (.str)] [.leaf (.cell (.lst))] fun a => lib_strings_Split q a.1 a.2.1
@[reducible] def lib_strings_Split_T (q : Nat) : Alt [.leaf (.cell (.lst))] := ⟨[.cell (.str), .cell (.str)], fun a => lib_strings_Split q a.1 a.2.1⟩
theorem lib_strings_Split_sum {G : World} (hG : GOk G) (q : Nat) : SumSound Tryd.prog G 23 (lib_strings_Split_S q) := by
  refine lib_lst (ty := 9) ⟨Tryd.f23, Tryd.func23, by kernel_rfl, by kernel_rfl⟩ rfl fun a b hb w hw => ?_
  replace hb : lib_strings_Split q a.1 a.2.1 = some b := hb
  unfold lib_strings_Split at hb
  split at hb
  rotate_left
  · cases hb
  rename_i hs
  cases hb
  obtain ⟨m, hm⟩ := gok_max hG hw
  refine ⟨Lib.splitB a.2.1 0 (Lib.countB a.1 a.2.1) a.1, rfl, ?_⟩
  refine (Tryd.strings_Split a.1 a.2.1 m w hs.1 hm hs.2).mono fun e w' h => ⟨?_, h.2⟩
  rw [h.1, Lib.splitB_all a.2.1 hs.2 0 _ a.1 rfl]
/-! strconv.ParseInt -/
def lib_strconv_ParseInt (q : Nat) (s : ByteArray) (b z : Int) : Option (Int × Bool × Unit) := if b = 10 ∧ z = 64 ∧ s.size ≤ 281474976710656 then (match Lib.parseIntB 64 s.data.toList with | .ok v => some (v, false, ()) | .range => some (Lib.intSat 64 s.data.toList, true, ()) | _ => some (0, true, ())) else none
@[reducible] def lib_strconv_ParseInt_S (q : Nat) : Summary := sumK [.cell (.str), .cell (.int .i64), .cell (.int .i64)] [.leaf (.cell (.int .i64)), .leaf (.cell (.err))] fun a => lib_strconv_ParseInt q a.1 a.2.1 a.2.2.1
@[reducible] def lib_strconv_ParseInt_T (q : Nat) : Alt [.leaf (.cell (.int .i64)), .leaf (.cell (.err))] := ⟨[.cell (.str), .cell (.int .i64), .cell (.int .i64)], fun a => lib_strconv_ParseInt q a.1 a.2.1 a.2.2.1⟩
theorem lib_strconv_ParseInt_sum {G : World} (hG : GOk G) (q : Nat) : SumSound Tryd.prog G 24 (lib_strconv_ParseInt_S q) := by
  refine lib_cells ⟨Tryd.f24, Tryd.func24, by kernel_rfl, by kernel_rfl⟩ rfl fun a b hb w hw => ?_
  replace hb : lib_strconv_ParseInt q a.1 a.2.1 a.2.2.1 = some b := hb
  unfold lib_strconv_ParseInt at hb
  split at hb
  rotate_left
  · cases hb
  rename_i hs
  have e10 : argVals [.cell (.str), .cell (.int .i64), .cell (.int .i64)] a = #[.string a.1, .int .i64 10, .int .i64 64] := by rw [← hs.1, ← hs.2.1]; rfl
  rw [e10]
  split at hb <;> cases hb
  · rename_i v hv
    refine ⟨[.int .i64 v, .er false], rfl, (Tryd.strconv_ParseInt_10_at64_ok a.1 (by have := hs.2.2; omega) v hv w).mono fun e w' h => ⟨?_, [.int .i64 v, .nilIface], h.1, fun w cold => ⟨[], [], rfl, ⟨.int _ _, rfl⟩, [], [], rfl, ⟨.erf, rfl⟩, rfl⟩⟩⟩
    rcases h.2 with h | ⟨t, h⟩ <;> rw [h]
    · exact Below.refl _ _
    · exact Lib.bytesWorld_below _ _ _
  · rename_i hv
    obtain ⟨ev, hev, hev2⟩ := gok_err1 hG hw
    refine ⟨[.int .i64 (Lib.intSat 64 a.1.data.toList), .er true], rfl, (Tryd.strconv_ParseInt_10_at64_range a.1 hs.2.2 hv ev w hev hev2).mono fun e w' h => ?_⟩
    obtain ⟨N, h1, _, _, h4⟩ := h
    exact ⟨h4, [.int .i64 (Lib.intSat 64 a.1.data.toList), .iface 76 (.pointer (some ⟨N, 0, none⟩))], h1, fun w cold => ⟨[], [], rfl, ⟨.int _ _, rfl⟩, [], [], rfl, ⟨.ert _ _, rfl⟩, rfl⟩⟩
  · rename_i hv1 hv2
    obtain ⟨ev, hev, hev2⟩ := gok_err0 hG hw
    refine ⟨[.int .i64 (0), .er true], rfl, (Any.strconv_ParseInt_10_at64_syntax Tryd.laysC174 a.1 hs.2.2 (by cases hh : Lib.parseIntB 64 a.1.data.toList with | ok v => exact absurd hh (hv1 v) | range => exact absurd hh hv2 | _ => rfl) ev w hev hev2).mono fun e w' h => ?_⟩
    obtain ⟨N, h1, _, _, h4⟩ := h
    exact ⟨h4, [.int .i64 (0), .iface 76 (.pointer (some ⟨N, 0, none⟩))], h1, fun w cold => ⟨[], [], rfl, ⟨.int _ _, rfl⟩, [], [], rfl, ⟨.ert _ _, rfl⟩, rfl⟩⟩
/-! strconv.FormatInt -/
def lib_strconv_FormatInt (q : Nat) (n b : Int) : Option (ByteArray × Unit) := if b = 10 ∧ -9223372036854775808 ≤ n ∧ n ≤ 9223372036854775807 then some (⟨(Lib.itoa n).toArray⟩, ()) else none
@[reducible] def lib_strconv_FormatInt_S (q : Nat) : Summary := sumK [.cell (.int .i64), .cell (.int .i64)] [.leaf (.cell (.str))] fun a => lib_strconv_FormatInt q a.1 a.2.1
@[reducible] def lib_strconv_FormatInt_T (q : Nat) : Alt [.leaf (.cell (.str))] := ⟨[.cell (.int .i64), .cell (.int .i64)], fun a => lib_strconv_FormatInt q a.1 a.2.1⟩
theorem lib_strconv_FormatInt_sum {G : World} (hG : GOk G) (q : Nat) : SumSound Tryd.prog G 25 (lib_strconv_FormatInt_S q) := by
  refine lib_flat ⟨Tryd.f25, Tryd.func25, by kernel_rfl, by kernel_rfl⟩ rfl rfl fun a b hb w hw => ?_
  replace hb : lib_strconv_FormatInt q a.1 a.2.1 = some b := hb
  unfold lib_strconv_FormatInt at hb
  split at hb
  rotate_left
  · cases hb
  rename_i hs
  cases hb
  have e10 : argVals [.cell (.int .i64), .cell (.int .i64)] a = #[.int .i64 a.1, .int .i64 10] := by rw [← hs.1]; rfl
  rw [e10]
  refine (Tryd.strconv_FormatInt_10 a.1 hs.2.1 hs.2.2 w (gok_tab0 hG hw)).mono fun e w' h => ⟨h.1, ?_⟩
  obtain ⟨k, os, hk⟩ := h.2
  rw [hk]
  exact Lib.below_grow _ w (Nat.le_refl _) k os
/-! (*strings.Builder).String -/
def hand13_S : Summary := sumM (bldStringM 40 5)
theorem hand13_sum {G : World} (hG : GOk G) : SumSound Tryd.prog G 13 hand13_S := sumM_sound ⟨Tryd.f13, Tryd.func13, by kernel_rfl, by kernel_rfl⟩ (bldString_sound Tryd.lays169 Tryd.Builder_Extra_169 (by kernel_rfl) (by kernel_rfl) (by kernel_rfl))
/-! (*strings.Builder).copyCheck -/
def hand19_S : Summary := sumM (copyCheckM 40)
set_option maxHeartbeats 1000000 in
theorem hand19_used (b : Nat) (w : World) (h0 : w.cell? ⟨b, 0, none⟩ = some (.pointer (some ⟨b, 0, none⟩))) :
    Calls Tryd.prog 19 #[.pointer (some ⟨b, 0, none⟩)] w fun e w' => e = .returned (.tuple #[]) ∧ w' = w := by
  obtain ⟨j, hj, _⟩ := Option.map_eq_some_iff.1 (by kernel_rfl : (Tryd.prog.info? 40).map (·.size) = some 2)
  go_enter Tryd.func19, Tryd.ntmps19
  go_wp2
  rw [Lib.run_neq_ptr_same w _ Tryd.underlying37 hj]
  go_wp2
  go_end0
  exact ⟨rfl, rfl⟩
set_option maxHeartbeats 1000000 in
theorem hand19_fresh (b : Nat) (w : World) (h0 : w.cell? ⟨b, 0, none⟩ = some (.pointer none)) (hsh : w.shape? b = some (40, 2)) (hfz : w.frozen? ⟨b, 0, none⟩ = false) :
    Calls Tryd.prog 19 #[.pointer (some ⟨b, 0, none⟩)] w fun e w' => e = .returned (.tuple #[]) ∧ w' = w.setCell ⟨b, 0, none⟩ (.pointer (some ⟨b, 0, none⟩)) := by
  obtain ⟨j, hj, hjs⟩ := Option.map_eq_some_iff.1 (by kernel_rfl : (Tryd.prog.info? 40).map (·.size) = some 2)
  go_enter Tryd.func19, Tryd.ntmps19
  go_wp2
  rw [Lib.run_to_unsafe w ⟨b, 0, none⟩ Tryd.underlying37 Tryd.underlying65 hj (by rw [hjs]; decide) hsh (Nat.zero_lt_succ 1)]
  simp only [Result.andThen]
  rw [Oper.upon_value]
  go_wp2
  rw [run_callFunc_extern Tryd.func27 (by kernel_rfl) (by kernel_rfl) (by kernel_rfl) (e := Extern.AbiNoEscape.same) (by kernel_rfl)]
  rw [Lib.run_noEscape]
  simp only [Result.andThen]
  rw [Oper.upon_value]
  go_wp2
  rw [Lib.run_from_unsafe w ⟨b, 0, none⟩ Tryd.underlying65 Tryd.underlying37 hj hsh (by kernel_rfl)]
  simp only [Result.andThen]
  rw [Oper.upon_value]
  go_wp2
  go_end0
  exact ⟨rfl, rfl⟩
theorem hand19_sum {G : World} (hG : GOk G) : SumSound Tryd.prog G 19 hand19_S := sumM_sound ⟨Tryd.f19, Tryd.func19, by kernel_rfl, by kernel_rfl⟩ (copyCheck_sound hand19_used hand19_fresh)
end Go.Ax
