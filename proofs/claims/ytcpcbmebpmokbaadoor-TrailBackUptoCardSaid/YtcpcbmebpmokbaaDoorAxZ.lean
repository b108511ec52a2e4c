/- Ax, part Z: summaries of functions that are proved by themselves: arguments and results that lead to no memory. -/
import Derived.Test.YtcpcbmebpmokbaaDoorAxY
set_option linter.unusedVariables false
set_option linter.unusedSimpArgs false
namespace Go.Ax
open Go Go.RowKit

def T.val1 : T → Value
  | .int k n => .int k n
  | .bool b => .bool b
  | .str s => .string s
  | .np => .pointer none
  | .nf => .nilFunc
  | .ni => .nilIface
  | _ => undef
def RL.val1 : RL → Value
  | .t x => x.val1
  | .own _ _ => undef
def T.flat0 : T → Bool
  | .er _ => false
  | x => x.flat1
theorem val1_eq {w : World} {cold : Nat → Prop} {x : T} {v : Value} (h : TRep w cold x v) (hf : x.flat0 = true) : v = x.val1 := by
  cases h <;> first | rfl | (simp [T.flat0, T.flat1] at hf)
theorem val1_rep {w : World} {cold : Nat → Prop} {x : T} (hf : x.flat0 = true) : TRep w cold x x.val1 := by
  cases x <;> first | (simp [T.flat0, T.flat1] at hf; done) | constructor
def Ck.flat0 : Ck → Bool
  | .err => false
  | c => c.flat
def Ak.flat : Ak → Bool
  | .cell c => c.flat0
  | .fn _ _ => false
theorem Ck.flat1_enc {c : Ck} (h : c.flat0 = true) (p : c.Pay) : (c.enc p).flat0 = true := by
  cases c <;> first | rfl | cases h
theorem Ak.flat1_enc {a : Ak} (h : a.flat = true) (p : a.Pay) : (a.enc p).flat0 = true := by
  cases a with
  | cell c => exact Ck.flat1_enc h p
  | fn _ _ => cases h
theorem flat1_encA : ∀ {as : List Ak} (h : as.all Ak.flat = true) (p : APay as), ∀ x ∈ encA as p, x.flat0 = true
  | [], _, _, x, hx => by cases hx
  | a :: as, h, p, x, hx => by
    simp only [List.all_cons, Bool.and_eq_true] at h
    rcases List.mem_cons.1 hx with rfl | hx
    · exact Ak.flat1_enc h.1 _
    · exact flat1_encA h.2 p.2 x hx
def Rk.leafFlat : Rk → Bool
  | .leaf (.cell c) => c.flat0
  | _ => false
theorem leafFlat_enc : ∀ {rs : List Rk} (h : rs.all Rk.leafFlat = true) (p : RPay rs), ∃ xs : List T, encR rs p = xs.map (fun x => .l (.t x)) ∧ ∀ x ∈ xs, x.flat0 = true
  | [], _, _ => ⟨[], rfl, by simp⟩
  | r :: rs, h, p => by
    simp only [List.all_cons, Bool.and_eq_true] at h
    obtain ⟨xs, h1, h2⟩ := leafFlat_enc h.2 p.2
    cases r with
    | leaf l =>
      cases l with
      | cell c =>
        refine ⟨c.enc p.1 :: xs, ?_, fun x hx => ?_⟩
        · show _ :: encR rs p.2 = _
          rw [h1]; rfl
        · rcases List.mem_cons.1 hx with rfl | hx
          · exact Ck.flat1_enc h.1 _
          · exact h2 x hx
      | own _ => cases h.1
    | agg _ => cases h.1
theorem flatRV_leaves : ∀ (xs : List T), flatRV (xs.map fun x => .l (.t x)) = xs.map .t
  | [] => rfl
  | x :: xs => by show [RL.t x] ++ flatRV _ = _; rw [flatRV_leaves xs]; rfl
theorem asmV_leaves : ∀ (xs : List T) (us : List Value), us.length = xs.length → asmV (xs.map fun x => .l (.t x)) us = us
  | [], us, h => by have := List.length_eq_zero_iff.1 h; subst this; rfl
  | x :: xs, u :: us, h => by show u :: asmV _ us = _; rw [asmV_leaves xs us (by simpa using h)]
  | _ :: _, [], h => by simp at h
theorem aggsOk_leaves : ∀ (xs : List T) (us : List Value), aggsOk (xs.map fun x => .l (.t x)) us
  | [], _ => trivial
  | _ :: xs, us => aggsOk_leaves xs us.tail
theorem rlReps_leaves {w : World} {cold : Nat → Prop} : ∀ (xs : List T), (∀ x ∈ xs, x.flat0 = true) → rlReps w cold (xs.map .t) (xs.map T.val1) []
  | [], _ => rfl
  | x :: xs, h => ⟨[], [], rfl, ⟨val1_rep (h x (by simp)), rfl⟩, rlReps_leaves xs fun y hy => h y (List.mem_cons_of_mem _ hy)⟩
/-- the values of flat arguments, of flat results -/
def argVals (as : List Ak) (a : APay as) : Array Value := ((encA as a).map T.val1).toArray
def resVal (rs : List Rk) (b : RPay rs) : Value := valOf ((flatRV (encR rs b)).map RL.val1)
theorem args_eq {w : World} {cold : Nat → Prop} {as : List Ak} (ha : as.all Ak.flat = true) {a : APay as} {args : Array Value} (hsz : args.size = (encA as a).length)
    (hr : ∀ (j : Nat) (t : T) (v : Value), (encA as a)[j]? = some t → args[j]? = some v → TRep w cold t v) : args = argVals as a := by
  apply Array.ext
  · simp [argVals, hsz]
  · intro i h1 h2
    have h3 : i < (encA as a).length := by omega
    have hv : args[i]? = some args[i] := by simp [h1]
    have ht : (encA as a)[i]? = some (encA as a)[i] := by simp [h3]
    have := val1_eq (hr i _ _ ht hv) (flat1_encA ha a _ (List.getElem_mem h3))
    rw [this]
    simp [argVals]
/-- A FUNCTION OF FLAT ARGUMENTS AND FLAT RESULTS, proved by itself. -/
theorem lib_flat {P : Program} {G : World} {f : FuncId} {as : List Ak} {rs : List Rk} {F : APay as → Option (RPay rs)} (he : Entered P f) (ha : as.all Ak.flat = true) (hrs : rs.all Rk.leafFlat = true)
    (h : ∀ a b, F a = some b → ∀ w, Below G.heap.size G w → Calls P f (argVals as a) w fun e w' => e = .returned (resVal rs b) ∧ Below w.heap.size w w') : SumSound P G f (sumK as rs F) := by
  refine ⟨he, fun ts a b hts hb w cold args hG hclt hsz hrep => ?_, fun M hM => by cases hM⟩
  have := decA_some hts
  subst this
  rw [args_eq ha hsz hrep]
  refine (h a b hb w hG).mono ?_
  rintro e w' ⟨rfl, hbel⟩
  obtain ⟨xs, h1, h2⟩ := leafFlat_enc hrs b
  refine ⟨xs.map T.val1, [], ?_, hbel, List.nodup_nil, by simp, xs.map T.val1, ?_, ?_, ?_⟩
  · show Ending.returned (valOf ((flatRV (encR rs b)).map RL.val1)) = _
    rw [h1, flatRV_leaves, List.map_map]; rfl
  · show rlReps _ _ (flatRV (encR rs b)) _ _
    rw [h1, flatRV_leaves]
    exact rlReps_leaves xs h2
  · show _ = asmV (encR rs b) _
    rw [h1, asmV_leaves _ _ (by simp)]
  · show aggsOk (encR rs b) _
    rw [h1]; exact aggsOk_leaves _ _
/-- A FUNCTION OF FLAT ARGUMENTS WHOSE RESULTS ARE CELLS that stand for what it says, whatever the memory. -/
theorem lib_cells {P : Program} {G : World} {f : FuncId} {as : List Ak} {rs : List Rk} {F : APay as → Option (RPay rs)} (he : Entered P f) (ha : as.all Ak.flat = true)
    (h : ∀ a b, F a = some b → ∀ w, Below G.heap.size G w → ∃ xs : List T, encR rs b = xs.map (fun x => .l (.t x)) ∧ Calls P f (argVals as a) w fun e w' => Below w.heap.size w w' ∧ ∃ us : List Value, e = .returned (valOf us) ∧ ∀ w cold, rlReps w cold (xs.map .t) us []) : SumSound P G f (sumK as rs F) := by
  refine ⟨he, fun ts a b hts hb w cold args hG hclt hsz hrep => ?_, fun M hM => by cases hM⟩
  have := decA_some hts
  subst this
  rw [args_eq ha hsz hrep]
  obtain ⟨xs, h1, hc⟩ := h a b hb w hG
  refine hc.mono ?_
  rintro e w' ⟨hbel, us, rfl, hus⟩
  have hl := rlReps_len (hus w' cold)
  refine ⟨us, [], rfl, hbel, List.nodup_nil, by simp, us, ?_, ?_, ?_⟩
  · show rlReps _ _ (flatRV (encR rs b)) _ _
    rw [h1, flatRV_leaves]
    exact hus _ _
  · show _ = asmV (encR rs b) _
    rw [h1, asmV_leaves _ _ (by simpa using hl)]
  · show aggsOk (encR rs b) _
    rw [h1]; exact aggsOk_leaves _ _
/-- A FUNCTION OF FLAT ARGUMENTS THAT HANDS BACK A NEW SLICE OF STRINGS. -/
theorem lib_strs {P : Program} {G : World} {f : FuncId} {as : List Ak} {F : APay as → Option (RPay [.leaf (.own 1)])} {ty : TypeId} (he : Entered P f) (ha : as.all Ak.flat = true)
    (h : ∀ a b, F a = some b → ∀ w, Below G.heap.size G w → ∃ ss : List ByteArray, b = (ss.map T.str, ()) ∧
      Calls P f (argVals as a) w fun e w' => e = .returned (.slice (some ⟨w.heap.size, 0, none⟩) ss.length ss.length) ∧ w' = w.alloc (.cells (ss.map Value.string).toArray ty)) : SumSound P G f (sumK as [.leaf (.own 1)] F) := by
  refine ⟨he, fun ts a b hts hb w cold args hG hclt hsz hrep => ?_, fun M hM => by cases hM⟩
  have := decA_some hts
  subst this
  rw [args_eq ha hsz hrep]
  obtain ⟨ss, rfl, hc⟩ := h a b hb w hG
  refine hc.mono ?_
  rintro e w' ⟨rfl, rfl⟩
  refine ⟨[.slice (some ⟨w.heap.size, 0, none⟩) ss.length ss.length], [w.heap.size], rfl, (Below.refl _ _).alloc (Nat.le_refl _) _, by simp, by simp, [.slice (some ⟨w.heap.size, 0, none⟩) ss.length ss.length], ?_, rfl, trivial⟩
  refine ⟨[w.heap.size], [], rfl, .inr ⟨w.heap.size, ss.length, (ss.map Value.string).toArray, ty, rfl, by simp, by simp, heap_alloc_new w _, by simp, ?_⟩, rfl⟩
  refine ⟨by simp, fun x hx => ?_, fun i j x y hx hj hy => ?_⟩
  · obtain ⟨s, _, rfl⟩ := List.mem_map.1 hx
    rfl
  · have : j = 0 := by omega
    subst this
    simp only [Nat.mul_one, Nat.add_zero, List.getElem?_map, Option.map_eq_some_iff, List.getElem?_toArray] at hx hy
    obtain ⟨s, hs, rfl⟩ := hx
    obtain ⟨s', hs', rfl⟩ := hy
    rw [hs] at hs'
    simp only [Option.some.injEq] at hs'
    subst hs'
    exact ⟨.str _, rfl⟩
/-- the same, the slice cold -/
theorem lib_lst {P : Program} {G : World} {f : FuncId} {as : List Ak} {F : APay as → Option (RPay [.leaf (.cell .lst)])} {ty : TypeId} (he : Entered P f) (ha : as.all Ak.flat = true)
    (h : ∀ a b, F a = some b → ∀ w, Below G.heap.size G w → ∃ ss : List ByteArray, b = (ss.map T.str, ()) ∧
      Calls P f (argVals as a) w fun e w' => e = .returned (.slice (some ⟨w.heap.size, 0, none⟩) ss.length ss.length) ∧ w' = w.alloc (.cells (ss.map Value.string).toArray ty)) : SumSound P G f (sumK as [.leaf (.cell .lst)] F) := by
  refine ⟨he, fun ts a b hts hb w cold args hG hclt hsz hrep => ?_, fun M hM => by cases hM⟩
  have := decA_some hts
  subst this
  rw [args_eq ha hsz hrep]
  obtain ⟨ss, rfl, hc⟩ := h a b hb w hG
  refine hc.mono ?_
  rintro e w' ⟨rfl, rfl⟩
  refine ⟨[.slice (some ⟨w.heap.size, 0, none⟩) ss.length ss.length], [], rfl, (Below.refl _ _).alloc (Nat.le_refl _) _, List.nodup_nil, by simp, [.slice (some ⟨w.heap.size, 0, none⟩) ss.length ss.length], ⟨[], [], rfl, ⟨?_, rfl⟩, rfl⟩, rfl, trivial⟩
  have hr := TRep.lst (w := w.alloc (.cells (ss.map Value.string).toArray ty)) (cold := fun b => (cold b ∧ (sumK as [.leaf (.cell .lst)] F).apart = false) ∨ (w.heap.size ≤ b ∧ b < (w.alloc (.cells (ss.map Value.string).toArray ty)).heap.size ∧ b ∉ ([] : List Nat)))
    (ss.map T.str) w.heap.size 0 ss.length 1 (fun i _ => .string (ss.getD i emp)) (by simp) (.inr ⟨Nat.le_refl _, by simp, by simp⟩) (fun x hx => by
      obtain ⟨s, _, rfl⟩ := List.mem_map.1 hx
      rfl) (fun i j hi hj => by
      have : j = 0 := by omega
      subst this
      simp only [List.length_map] at hi
      simp only [World.cell?, heap_alloc_new, Nat.zero_add, Nat.mul_one, Nat.add_zero, List.getElem?_toArray, List.getElem?_map]
      rw [List.getElem?_eq_getElem hi, List.getD_eq_getElem?_getD, List.getElem?_eq_getElem hi]; rfl) (fun i j hi hj => rfl) (fun i x j hx hj => by
      have : j = 0 := by omega
      subst this
      simp only [List.getElem?_map, Option.map_eq_some_iff] at hx
      obtain ⟨s, hs, rfl⟩ := hx
      rw [List.getD_eq_getElem?_getD, hs]
      exact .str _)
  rw [List.length_map] at hr
  exact hr
end Go.Ax
