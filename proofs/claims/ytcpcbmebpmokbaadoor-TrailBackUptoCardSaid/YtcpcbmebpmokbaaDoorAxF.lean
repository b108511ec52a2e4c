/- Ax, part F: operations that only look: each gives a value that stands for what the executor says. -/
import Derived.Test.YtcpcbmebpmokbaaDoorAxE
import Derived.Laws.Cells
import Derived.Laws.Entries
set_option linter.unusedVariables false
set_option linter.unusedSimpArgs false
namespace Go.Ax
open Go Go.RowKit

/-- where an operation leads from the world v on; if it is held to make memory alone (ro), what there was is as it was -/
def Post (w0 : Base) (cold0 : Nat → Prop) (N : Nat) {R : Type} (k : St → Option R) (r : R) (v : World) (ro : Bool) (a : Act) (w : World) : Prop :=
  ∃ s c, c.w = w ∧ Rel w0 cold0 N s a c ∧ k s = some r ∧ (ro = true → Below v.heap.size v w)

section
variable {P : Program} {w0 : Base} {cold0 : Nat → Prop} {N : Nat} {s : St} {a : Act} {c : Cx} {R : Type} {r : R} {o : Oper} {Q : Exit → Act → World → Prop} {ro : Bool}

theorem wp_val {k : St → Option R} {s' : St} {v : V} {x : Value} (hrun : (execOp a.eval o).run P c.w = .ok (.value x) c.w)
    (h : Rel w0 cold0 N s' a c) (hd : okDst N o = true) (hv : c.v3 v x) (hk : k (s'.put o.dst v) = some r) :
    o.wp P a c.w (Post w0 cold0 N k r c.w ro) Q := by
  unfold Oper.wp
  rw [hrun]
  exact ⟨_, c, rfl, h.put o.dst (okDst_lt hd) hv, hk, fun _ => Below.refl _ _⟩
theorem wp_skip' {k : St → Option R} {s' : St} {c' : Cx} (hrun : (execOp a.eval o).run P c.w = .ok .skip c'.w)
    (h : Rel w0 cold0 N s' a c') (hd : okDst N o = true) (hk : k (s'.put o.dst (.tup [])) = some r) (hro : ro ≠ true) :
    o.wp P a c.w (Post w0 cold0 N k r c.w ro) Q := by
  unfold Oper.wp
  rw [hrun]
  exact ⟨_, c', rfl, h.put o.dst (okDst_lt hd) (v := .tup []) (x := undef) ⟨#[], rfl, rfl, fun j l x hl hx => by simp at hl⟩, hk, fun h => absurd h hro⟩

/-! ### cells -/
theorem T.leaf_lt {e : T} {o : Nat} (h : e.leaf o ≠ .junk) : o < e.width := by
  cases e with
  | agg ls =>
    show o < ls.length
    rcases Nat.lt_or_ge o ls.length with h' | h'
    · exact h'
    · exact absurd (by simp [T.leaf, List.getElem?_eq_none h']) h
  | _ =>
    cases o with
    | zero => exact Nat.zero_lt_one
    | succ n => exact absurd rfl h
theorem asInt_eq {x : T} {q : IntKind} {n : Int} (h : x.asInt q = some n) : x = .int q n := by
  unfold T.asInt at h
  split at h
  · split at h
    · simp only [Option.some.injEq] at h; subst h; rename_i hk; rw [hk]
    · cases h
  · cases h
theorem asBool_eq {x : T} {b : Bool} (h : x.asBool = some b) : x = .bool b := by
  unfold T.asBool at h; split at h <;> simp_all
theorem asStr_eq {x : T} {b : ByteArray} (h : x.asStr = some b) : x = .str b := by
  unfold T.asStr at h; split at h <;> simp_all
theorem asLst_eq {x : T} {b : List T} (h : x.asLst = some b) : x = .lst b := by
  unfold T.asLst at h; split at h <;> simp_all
theorem asRaw_eq {x y : T} (h : x.asRaw = some y) : y = x ∧ x ≠ .junk := by
  unfold T.asRaw at h; split at h <;> first | (simp only [Option.some.injEq] at h; subst h; exact ⟨rfl, by simp⟩) | cases h

def leafD : TypeDesc → Prop
  | .struct _ => False
  | .array _ _ => False
  | _ => True
theorem ldLeaf_some {t : TypeId} {x : T} {k : V → Option R} (h : ldLeaf P t x k = some r) : x ≠ .junk ∧ k (.t x) = some r ∧ (∃ d, P.underlying t = some d ∧ leafD d) := by
  unfold ldLeaf at h
  split at h
  · rename_i q hu
    obtain ⟨n, hn, hk⟩ := Option.bind_eq_some_iff.1 h
    rw [asInt_eq hn]; exact ⟨by simp, hk, _, hu, trivial⟩
  · rename_i hu
    obtain ⟨n, hn, hk⟩ := Option.bind_eq_some_iff.1 h
    rw [asBool_eq hn]; exact ⟨by simp, hk, _, hu, trivial⟩
  · rename_i hu
    obtain ⟨n, hn, hk⟩ := Option.bind_eq_some_iff.1 h
    rw [asStr_eq hn]; exact ⟨by simp, hk, _, hu, trivial⟩
  · rename_i hu
    obtain ⟨n, hn, hk⟩ := Option.bind_eq_some_iff.1 h
    rw [asLst_eq hn]; exact ⟨by simp, hk, _, hu, trivial⟩
  · rename_i hu
    obtain ⟨n, hn, hk⟩ := Option.bind_eq_some_iff.1 h
    obtain ⟨rfl, hj⟩ := asRaw_eq hn; exact ⟨hj, hk, _, hu, trivial⟩
  · rename_i hu
    obtain ⟨n, hn, hk⟩ := Option.bind_eq_some_iff.1 h
    obtain ⟨rfl, hj⟩ := asRaw_eq hn; exact ⟨hj, hk, _, hu, trivial⟩
  · rename_i hu
    obtain ⟨n, hn, hk⟩ := Option.bind_eq_some_iff.1 h
    obtain ⟨rfl, hj⟩ := asRaw_eq hn; exact ⟨hj, hk, _, hu, trivial⟩
  · cases h
theorem isLeafT_iff {t : TypeId} (h : isLeafT P t = true) : ∃ d, P.underlying t = some d ∧ leafD d := by
  unfold isLeafT at h
  split at h
  · cases h
  · cases h
  · rename_i d hs ha hu
    refine ⟨d, hu, ?_⟩
    cases d <;> first | exact trivial | exact absurd rfl (hs _) | exact absurd rfl (ha _ _)
  · cases h
theorem run_isAgg_true {t : TypeId} (h : isAggT P t = true) (w : World) : (isAgg t).run P w = .ok true w := by
  unfold isAggT at h
  split at h
  · rename_i hu; simp [isAgg, run_underlying hu]
  · rename_i hu; simp [isAgg, run_underlying hu]
  · cases h
theorem run_isAgg_false {t : TypeId} {d : TypeDesc} (hu : P.underlying t = some d) (hd : leafD d) (w : World) :
    (isAgg t).run P w = .ok false w := by
  cases d <;> first | exact hd.elim | simp [isAgg, run_underlying hu]
theorem run_sizeOf' {t : TypeId} {n : Nat} (h : szOf P t = some n) (w : World) : (sizeOf t).run P w = .ok n w := by
  unfold szOf at h
  obtain ⟨i, hi, rfl⟩ := Option.map_eq_some_iff.1 h
  simp [sizeOf, typeInfo, hi]
theorem run_loadVar_leaf {t : TypeId} {d : TypeDesc} (hu : P.underlying t = some d) (hd : leafD d) {w : World} {p : Addr} {v : Value} (hc : w.cell? p = some v) :
    (loadVar t p).run P w = .ok v w := by
  unfold loadVar
  simp [run_isAgg_false hu hd, hc]
theorem run_loadVar_agg {t : TypeId} (ht : isAggT P t = true) {n : Nat} (hn : szOf P t = some n) {w : World} {p : Addr} (f : Nat → Value) (hc : ∀ j, j < n → w.cell? (p.add j) = some (f j)) :
    (loadVar t p).run P w = .ok (.agg ((List.range n).map f).toArray) w := by
  unfold loadVar
  simp [run_isAgg_true ht, run_sizeOf' hn, run_loadCells _ p n f hc]
theorem add_lit (b o n : Nat) : Addr.add ⟨b, o, none⟩ n = ⟨b, o + n, none⟩ := Addr.add_lit b o n

/-- loading at a place in cells that stand for the leaves of e -/
theorem ldT_run {t : TypeId} {e : T} {o' : Nat} {k : V → Option R} (h : ldT P t e o' k = some r) (b off : Nat) (cv : Nat → Value)
    (hcell : ∀ j, j < e.width → c.w.cell? ⟨b, off + j, none⟩ = some (cv j)) (h1 : ∀ j, j < e.width → (cv j).oneCell' = true)
    (hr : ∀ j, j < e.width → TRep c.w c.cold (e.leaf j) (cv j)) :
    ∃ x v, (loadVar t ⟨b, off + o', none⟩).run P c.w = .ok x c.w ∧ c.v3 v x ∧ k v = some r := by
  unfold ldT at h
  split at h
  · rename_i ht
    split at h
    · rename_i n hn
      obtain ⟨x, hx, hk⟩ := Option.bind_eq_some_iff.1 h
      unfold T.part at hx
      split at hx
      · rename_i ls
        split at hx
        · rename_i hle
          simp only [T.width] at hcell h1 hr
          have hload := run_loadVar_agg (P := P) ht hn (w := c.w) (p := ⟨b, off + o', none⟩) (fun j => cv (o' + j)) (fun j hj => by
            rw [add_lit, Nat.add_assoc]; exact hcell _ (by omega))
          refine ⟨_, .t x, hload, ?_, hk⟩
          have hrep : TRep c.w c.cold (.agg ((ls.drop o').take n)) (.agg ((List.range n).map fun j => cv (o' + j)).toArray) := by
            refine .agg _ _ (by simp; omega) (fun j u hu => ?_) (fun j l u hl hu => ?_)
            · simp only [List.getElem?_toArray, List.getElem?_map] at hu
              obtain ⟨i, hi, rfl⟩ := Option.map_eq_some_iff.1 hu
              obtain ⟨hlt, rfl⟩ := List.getElem?_eq_some_iff.1 hi
              simp at hlt
              simp only [List.getElem_range]
              exact h1 _ (by omega)
            · simp only [List.getElem?_toArray, List.getElem?_map] at hu
              obtain ⟨i, hi, rfl⟩ := Option.map_eq_some_iff.1 hu
              obtain ⟨hlt, rfl⟩ := List.getElem?_eq_some_iff.1 hi
              simp at hlt
              simp only [List.getElem_range]
              rw [List.getElem?_take_of_lt hlt, List.getElem?_drop] at hl
              have := hr (o' + j) (by omega)
              simp only [T.leaf, List.getD_eq_getElem?_getD, hl, Option.getD_some] at this
              exact this
          simp only [Option.some.injEq] at hx
          split at hx
          · rename_i hnl
            subst hx
            have h0 : o' = 0 := by omega
            subst h0
            subst hnl
            rw [List.drop_zero, List.take_length] at hrep
            exact hrep
          · subst hx; exact hrep
        · cases hx
      · cases hx
    · cases h
  · obtain ⟨hj, hk, d, hu, hd⟩ := ldLeaf_some h
    have hlt := T.leaf_lt hj
    exact ⟨_, .t (e.leaf o'), run_loadVar_leaf hu hd (hcell o' hlt), hr o' hlt, hk⟩
theorem T.leaf_width {e : T} (h : e.width = 1) (hne : ∀ l, e ≠ .agg l) : e.leaf 0 = e := by
  cases e <;> first | rfl | exact absurd rfl (hne _)
theorem cell_block {w : World} {b : Nat} {cs : Array Value} {E : TypeId} (h : w.heap[b]? = some (.cells cs E (0, 0))) (j : Nat) : w.cell? ⟨b, j, none⟩ = cs[j]? := by
  simp [World.cell?, h]
/-- loading out of a box -/
theorem ldV_run {t : TypeId} {n : Nat} {u : V} {o' : Nat} {k : V → Option R} (h : ldV P t u o' k = some r) {b : Nat} {cs : Array Value} {E : TypeId}
    (hh : c.w.heap[b]? = some (.cells cs E (0, 0))) (hsz : cs.size = n) (h1 : ∀ (j : Nat) (x : Value), cs[j]? = some x → x.oneCell' = true) (hb : c.bx n u cs) :
    ∃ x v, (loadVar t ⟨b, o', none⟩).run P c.w = .ok x c.w ∧ c.v3 v x ∧ k v = some r := by
  have cellAt : ∀ j, j < n → ∃ y, cs[j]? = some y ∧ c.w.cell? ⟨b, j, none⟩ = some y := fun j hj =>
    ⟨cs[j]'(by omega), by simp [hsz, hj], by rw [cell_block hh]; simp [hsz, hj]⟩
  unfold ldV at h
  split at h
  · rename_i e
    obtain ⟨hw, hr⟩ := hb
    have := ldT_run (c := c) (o' := o') h b 0 (fun j => cs.getD j undef) (fun j hj => by
        obtain ⟨y, hy, hc⟩ := cellAt j (by omega)
        rw [Nat.zero_add, hc, Array.getD_eq_getD_getElem?, hy]; rfl)
      (fun j hj => by
        obtain ⟨y, hy, hc⟩ := cellAt j (by omega)
        rw [Array.getD_eq_getD_getElem?, hy]; exact h1 j y hy)
      (fun j hj => by
        obtain ⟨y, hy, hc⟩ := cellAt j (by omega)
        rw [Array.getD_eq_getD_getElem?, hy]; exact hr j y hy)
    rwa [Nat.zero_add] at this
  · rename_i ls
    obtain ⟨hl, hr⟩ := hb
    split at h
    · rename_i ht
      split at h
      · rename_i m hm
        split at h
        · rename_i hle
          have hload := run_loadVar_agg (P := P) ht hm (w := c.w) (p := ⟨b, o', none⟩) (fun j => cs.getD (o' + j) undef) (fun j hj => by
            obtain ⟨y, hy, hc⟩ := cellAt (o' + j) (by omega)
            rw [add_lit, hc, Array.getD_eq_getD_getElem?, hy]; rfl)
          have hrep : c.v2 (.agg ((ls.drop o').take m)) (.agg ((List.range m).map fun j => cs.getD (o' + j) undef).toArray) := by
            refine ⟨_, rfl, by simp; omega, fun j u hu => ?_, fun j l u hl' hu => ?_⟩
            · simp only [List.getElem?_toArray, List.getElem?_map] at hu
              obtain ⟨i, hi, rfl⟩ := Option.map_eq_some_iff.1 hu
              obtain ⟨hlt, rfl⟩ := List.getElem?_eq_some_iff.1 hi
              simp at hlt
              simp only [List.getElem_range]
              obtain ⟨y, hy, hc⟩ := cellAt (o' + j) (by omega)
              rw [Array.getD_eq_getD_getElem?, hy]
              exact h1 _ y hy
            · simp only [List.getElem?_toArray, List.getElem?_map] at hu
              obtain ⟨i, hi, rfl⟩ := Option.map_eq_some_iff.1 hu
              obtain ⟨hlt, rfl⟩ := List.getElem?_eq_some_iff.1 hi
              simp at hlt
              simp only [List.getElem_range]
              rw [List.getElem?_take_of_lt hlt, List.getElem?_drop] at hl'
              obtain ⟨y, hy, hc⟩ := cellAt (o' + j) (by omega)
              rw [Array.getD_eq_getD_getElem?, hy]
              exact hr _ l y hl' hy
          refine ⟨_, _, hload, Cx.v3_of_v2 ?_, h⟩
          split
          · rename_i hml
            have h0 : o' = 0 := by omega
            subst h0
            subst hml
            rw [List.drop_zero, List.take_length] at hrep
            exact hrep
          · exact hrep
        · cases h
      · cases h
    · split at h
      · rename_i x hx
        obtain ⟨hj, hk, d, hu, hd⟩ := ldLeaf_some h
        obtain ⟨hlt, hx'⟩ := List.getElem?_eq_some_iff.1 hx
        obtain ⟨y, hy, hc⟩ := cellAt o' (by omega)
        exact ⟨y, .t x, run_loadVar_leaf hu hd hc, hr o' _ y hx hy, hk⟩
      · rename_i v hv hx
        split at h
        · rename_i hlf
          obtain ⟨hlt, hx'⟩ := List.getElem?_eq_some_iff.1 hx
          obtain ⟨y, hy, hc⟩ := cellAt o' (by omega)
          obtain ⟨d, hu, hd⟩ := isLeafT_iff hlf
          exact ⟨y, v, run_loadVar_leaf hu hd hc, Cx.v3_of_v1 (hr o' _ y hx hy), h⟩
        · cases h
      · cases h
  · rename_i ht ha
    split at h
    · rename_i hlf
      split at h
      · rename_i h0
        subst h0
        obtain ⟨hn, hv⟩ : n = 1 ∧ ∀ x, cs[0]? = some x → c.v2 u x := by
          cases u <;> first | exact hb | exact absurd rfl (ht _) | exact absurd rfl (ha _)
        obtain ⟨y, hy, hc⟩ := cellAt 0 (by omega)
        obtain ⟨d, hu, hd⟩ := isLeafT_iff hlf
        exact ⟨y, u, run_loadVar_leaf hu hd hc, Cx.v3_of_v2 (hv y hy), h⟩
      · cases h
    · cases h

theorem sureAddr_run (p : Addr) (w : World) : (Instr.sureAddr (.pointer (some p))).run P w = .ok p w := rfl
theorem ld_run (hR : Rel w0 cold0 N s a c) {t : TypeId} {u : V} {y : Value} (hv : c.v3 u y) {k : V → Option R} (h : ld P t s.objs u k = some r) :
    ∃ x v, (Instr.loadAt t y).run P c.w = .ok x c.w ∧ c.v3 v x ∧ k v = some r := by
  unfold ld at h
  split at h
  · rename_i d o'
    split at h
    · rename_i n u' ho
      obtain ⟨m, u2, b, ho2, he, rfl⟩ := hv
      have hob := hR.ob d
      rw [ho] at hob
      obtain ⟨b', cs, E, he', hh, hsz, h1, hbx⟩ := hob
      rw [he] at he'
      simp only [Option.some.injEq] at he'
      subst he'
      obtain ⟨x, v, hx⟩ := ldV_run h hh hsz h1 hbx
      exact ⟨x, v, by simp only [Instr.loadAt, Sem.run_bind, sureAddr_run, Result.andThen_ok]; exact hx.1, hx.2⟩
    · cases h
  · rename_i d i o'
    split at h
    · rename_i sz xs ho
      obtain ⟨e, hx, h⟩ := Option.bind_eq_some_iff.1 h
      obtain ⟨sz2, xs2, b, ho2, hi, he, rfl⟩ := hv
      rw [hR.objs, ho] at ho2
      simp only [Ob.row.injEq] at ho2
      obtain ⟨rfl, rfl⟩ := ho2
      have hob := hR.ob d
      rw [ho] at hob
      rcases hob with ⟨hn, _⟩ | ⟨b', cs, E, he', hh, hle, hw, hrep⟩
      · rw [he] at hn; cases hn
      rw [he] at he'
      simp only [Option.some.injEq] at he'
      subst he'
      have hew : e.width = sz := hw e (List.mem_of_getElem? hx)
      have hin : ∀ j, j < e.width → i * sz + j < cs.size := fun j hj => by
        have : (i + 1) * sz ≤ xs.length * sz := Nat.mul_le_mul_right sz hi
        rw [Nat.add_mul, Nat.one_mul] at this
        omega
      obtain ⟨x, v, hl⟩ := ldT_run (c := c) h b (i * sz) (fun j => cs.getD (i * sz + j) undef)
        (fun j hj => by rw [cell_block hh, Array.getD_eq_getD_getElem?]; simp [hin j hj])
        (fun j hj => by
          have hg : cs[i * sz + j]? = some (cs[i * sz + j]'(hin j hj)) := by simp [hin j hj]
          rw [Array.getD_eq_getD_getElem?, hg]
          exact (hrep i j e _ hx (by omega) hg).2)
        (fun j hj => by
          have hg : cs[i * sz + j]? = some (cs[i * sz + j]'(hin j hj)) := by simp [hin j hj]
          rw [Array.getD_eq_getD_getElem?, hg]
          exact (hrep i j e _ hx (by omega) hg).1)
      exact ⟨x, v, by simp only [Instr.loadAt, Sem.run_bind, sureAddr_run, Result.andThen_ok]; exact hl.1, hl.2⟩
    · cases h
  · rename_i e o'
    cases hv with
    | cp _ _ b off cv hc hcell h1 hr =>
      obtain ⟨x, v, hl⟩ := ldT_run (c := c) h b off cv hcell h1 hr
      exact ⟨x, v, by simp only [Instr.loadAt, Sem.run_bind, sureAddr_run, Result.andThen_ok]; exact hl.1, hl.2⟩
  · cases h
end
end Go.Ax
