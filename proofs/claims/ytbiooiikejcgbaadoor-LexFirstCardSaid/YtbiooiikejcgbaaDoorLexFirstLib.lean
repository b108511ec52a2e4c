/- The library's functions that the law reaches: what each computes, and that it does, over the kit's contracts. -/
import Derived.Test.YtbiooiikejcgbaaDoorAxZ
import Derived.Test.YtbiooiikejcgbaaDoorLexFirstShelf
import Derived.KernelRfl
set_option linter.unusedVariables false
set_option maxRecDepth 1000000
namespace Go.Ax
open Go Go.Proofs Go.RowKit
/-- what is asked of the world in which the law is called -/
def GOk (G : World) : Prop := (∃ m, G.cell? ⟨2, 0, none⟩ = some (.int .i64 m)) ∧ Lib.TabIs Tryd.prog G "strings.asciiSpace" .u8 Lib.asciiSpaceTab ∧ True
theorem gok_max {G w : World} (hG : GOk G) (hb : Below G.heap.size G w) : ∃ m, w.cell? ⟨2, 0, none⟩ = some (.int .i64 m) := by
  obtain ⟨m, hm⟩ := hG.1
  exact ⟨m, (hb.cell (World.block_lt_of_cell? _ _ hm)).trans hm⟩
theorem gok_tab0 {G w : World} (hG : GOk G) (hb : Below G.heap.size G w) : Lib.TabIs Tryd.prog w "strings.asciiSpace" .u8 Lib.asciiSpaceTab := by
  have h : G.var? Tryd.prog "strings.asciiSpace" = some _ := hG.2.1
  show w.var? Tryd.prog "strings.asciiSpace" = some _
  unfold World.var? at h ⊢
  obtain ⟨g, hg, h⟩ := Option.bind_eq_some_iff.1 h
  rw [hg]
  show (match w.heap[g]? with | some (.cells cs _ _) => some cs | _ => none) = _
  have hlt : g < G.heap.size := by
    rcases Nat.lt_or_ge g G.heap.size with h' | h'
    · exact h'
    · rw [Array.getElem?_eq_none h'] at h; cases h
  rw [hb.block g hlt]
  exact h
/-! strings.Fields -/
def lib_strings_Fields (q : Nat) (s : ByteArray) : Option (List T × Unit) := if s.size < 4294967281 ∧ s.data.toList.all (fun b => decide (b.toNat < 128)) = true then some ((Lib.fields s.data.toList).map fun l => T.str ⟨l.toArray⟩, ()) else none
@[reducible] def lib_strings_Fields_S (q : Nat) : Summary := sumK [.cell (.str)] [.leaf (.own 1)] fun a => lib_strings_Fields q a.1
@[reducible] def lib_strings_Fields_T (q : Nat) : Alt [.leaf (.own 1)] := ⟨[.cell (.str)], fun a => lib_strings_Fields q a.1⟩
theorem lib_strings_Fields_sum {G : World} (hG : GOk G) (q : Nat) : SumSound Tryd.prog G 8 (lib_strings_Fields_S q) := by
  refine lib_strs (ty := 9) ⟨Tryd.f8, Tryd.func8, by kernel_rfl, by kernel_rfl⟩ rfl fun a b hb w hw => ?_
  replace hb : lib_strings_Fields q a.1 = some b := hb
  unfold lib_strings_Fields at hb
  split at hb
  rotate_left
  · cases hb
  rename_i hs
  cases hb
  refine ⟨(Lib.fields a.1.data.toList).map fun l => ⟨l.toArray⟩, by rw [List.map_map]; rfl, ?_⟩
  refine (Tryd.strings_Fields a.1 w hs.1 (fun j b hj => of_decide_eq_true (List.all_eq_true.1 hs.2 b (List.mem_of_getElem? hj))) (gok_tab0 hG hw)).mono fun e w' h => ⟨?_, ?_⟩
  · rw [h.1]; simp
  · rw [h.2, List.map_map]; rfl
/-! strings.IndexByte -/
def lib_strings_IndexByte (q : Nat) (s : ByteArray) (c : Int) : Option (Int × Unit) := some (Lib.indexByte s.data.toList c.toNat.toUInt8, ())
@[reducible] def lib_strings_IndexByte_S (q : Nat) : Summary := sumK [.cell (.str), .cell (.int .u8)] [.leaf (.cell (.int .i64))] fun a => lib_strings_IndexByte q a.1 a.2.1
@[reducible] def lib_strings_IndexByte_T (q : Nat) : Alt [.leaf (.cell (.int .i64))] := ⟨[.cell (.str), .cell (.int .u8)], fun a => lib_strings_IndexByte q a.1 a.2.1⟩
theorem lib_strings_IndexByte_sum {G : World} (hG : GOk G) (q : Nat) : SumSound Tryd.prog G 16 (lib_strings_IndexByte_S q) := by
  refine lib_flat ⟨Tryd.f16, Tryd.func16, by kernel_rfl, by kernel_rfl⟩ rfl rfl fun a b hb w hw => ?_
  cases hb
  exact (Tryd.strings_IndexByte a.1 a.2.1 w).mono fun e w' h => ⟨h.1, h.2 ▸ Below.refl _ _⟩
/-! strings.Index -/
def lib_strings_Index (q : Nat) (s t : ByteArray) : Option (Int × Unit) := if s.size < 4294967281 then some (Lib.index s.data.toList t.data.toList, ()) else none
@[reducible] def lib_strings_Index_S (q : Nat) : Summary := sumK [.cell (.str), .cell (.str)] [.leaf (.cell (.int .i64))] fun a => lib_strings_Index q a.1 a.2.1
@[reducible] def lib_strings_Index_T (q : Nat) : Alt [.leaf (.cell (.int .i64))] := ⟨[.cell (.str), .cell (.str)], fun a => lib_strings_Index q a.1 a.2.1⟩
theorem lib_strings_Index_sum {G : World} (hG : GOk G) (q : Nat) : SumSound Tryd.prog G 18 (lib_strings_Index_S q) := by
  refine lib_flat ⟨Tryd.f18, Tryd.func18, by kernel_rfl, by kernel_rfl⟩ rfl rfl fun a b hb w hw => ?_
  replace hb : lib_strings_Index q a.1 a.2.1 = some b := hb
  unfold lib_strings_Index at hb
  split at hb
  rotate_left
  · cases hb
  rename_i hs
  cases hb
  obtain ⟨m, hm⟩ := gok_max hG hw
  exact (Tryd.strings_Index a.1 a.2.1 m w hs hm).mono fun e w' h => ⟨h.1, h.2 ▸ Below.refl _ _⟩
/-! strings.Cut -/
def lib_strings_Cut (q : Nat) (s t : ByteArray) : Option (ByteArray × ByteArray × Bool × Unit) := if s.size < 4294967281 then some (⟨(Lib.cut s.data.toList t.data.toList).1.toArray⟩, ⟨(Lib.cut s.data.toList t.data.toList).2.1.toArray⟩, (Lib.cut s.data.toList t.data.toList).2.2, ()) else none
@[reducible] def lib_strings_Cut_S (q : Nat) : Summary := sumK [.cell (.str), .cell (.str)] [.leaf (.cell (.str)), .leaf (.cell (.str)), .leaf (.cell (.bool))] fun a => lib_strings_Cut q a.1 a.2.1
@[reducible] def lib_strings_Cut_T (q : Nat) : Alt [.leaf (.cell (.str)), .leaf (.cell (.str)), .leaf (.cell (.bool))] := ⟨[.cell (.str), .cell (.str)], fun a => lib_strings_Cut q a.1 a.2.1⟩
theorem lib_strings_Cut_sum {G : World} (hG : GOk G) (q : Nat) : SumSound Tryd.prog G 33 (lib_strings_Cut_S q) := by
  refine lib_flat ⟨Tryd.f33, Tryd.func33, by kernel_rfl, by kernel_rfl⟩ rfl rfl fun a b hb w hw => ?_
  replace hb : lib_strings_Cut q a.1 a.2.1 = some b := hb
  unfold lib_strings_Cut at hb
  split at hb
  rotate_left
  · cases hb
  rename_i hs
  cases hb
  obtain ⟨m, hm⟩ := gok_max hG hw
  refine (Tryd.strings_Cut a.1 a.2.1 m w hs hm).mono fun e w' h => ⟨h.1, ?_⟩
  obtain ⟨n, hn⟩ := h.2
  rw [hn]
  exact ⟨rfl, rfl, rfl, Nat.le_refl _, fun _ _ => rfl⟩
/-! internal/stringslite.Clone -/
def lib_internal_stringslite_Clone (q : Nat) (s : ByteArray) : Option (ByteArray × Unit) := if s.size ≤ 281474976710656 then some (s, ()) else none
@[reducible] def lib_internal_stringslite_Clone_S (q : Nat) : Summary := sumK [.cell (.str)] [.leaf (.cell (.str))] fun a => lib_internal_stringslite_Clone q a.1
@[reducible] def lib_internal_stringslite_Clone_T (q : Nat) : Alt [.leaf (.cell (.str))] := ⟨[.cell (.str)], fun a => lib_internal_stringslite_Clone q a.1⟩
theorem lib_internal_stringslite_Clone_sum {G : World} (hG : GOk G) (q : Nat) : SumSound Tryd.prog G 23 (lib_internal_stringslite_Clone_S q) := by
  refine lib_flat ⟨Tryd.f23, Tryd.func23, by kernel_rfl, by kernel_rfl⟩ rfl rfl fun a b hb w hw => ?_
  replace hb : lib_internal_stringslite_Clone q a.1 = some b := hb
  unfold lib_internal_stringslite_Clone at hb
  split at hb
  rotate_left
  · cases hb
  rename_i hs
  cases hb
  exact (Tryd.stringslite_Clone a.1 w hs).mono fun e w' h => h
end Go.Ax
