/- Ax, part L: the operations, one by one: boxes, rows that are made, stores. -/
import Derived.Test.YtcpcbmebpmokbaaDoorAxK
set_option linter.unusedVariables false
set_option linter.unusedSimpArgs false
namespace Go.Ax
open Go Go.RowKit

section
variable {P : Program} {w0 : Base} {cold0 : Nat → Prop} {N : Nat} {s : St} {a : Act} {c : Cx} {R : Type} {r : R} {o : Oper} {Q : Exit → Act → World → Prop} {k : St → Option R} {ro : Bool}

theorem v2_one {v : V} {y : Value} (h : c.v3 v y) (h1 : (v.one || v.fnB) = true) : c.v2 v y ∧ y.oneCell' = true ∧ v ≠ .junk := by
  cases v with
  | fn g cs => have h' := h; obtain ⟨_, rfl, _⟩ := h'; exact ⟨h, rfl, by simp⟩
  | junk => simp [V.one, V.fnB] at h1
  | _ =>
    simp only [V.fnB, Bool.or_false] at h1
    exact ⟨Cx.v2_of_v1 (one_v1 h h1).1, (one_v1 h h1).2, by simp⟩
theorem cells_one {y : Value} (h : y.oneCell' = true) : y.cells = #[y] := by cases y <;> first | rfl | simp [Value.oneCell'] at h
/-- what may be a box's content: its cells -/
theorem boxable_rep {n : Nat} {v u : V} {y : Value} (hb : boxable n v = some u) (h : c.v3 v y) :
    u = v ∧ y.cells.size = n ∧ (∀ (j : Nat) (x : Value), y.cells[j]? = some x → x.oneCell' = true) ∧ c.bx n v y.cells := by
  have single : ∀ {v : V}, c.v3 v y → (v.one || v.fnB) = true → n = 1 → y.cells.size = n ∧ (∀ (j : Nat) (x : Value), y.cells[j]? = some x → x.oneCell' = true) ∧ n = 1 ∧ ∀ x, y.cells[0]? = some x → c.v2 v x := by
    intro v hv h1 hn
    obtain ⟨h2, ho, _⟩ := v2_one hv h1
    rw [cells_one ho]
    refine ⟨by simp [hn], fun j x hx => ?_, hn, fun x hx => ?_⟩
    · cases j <;> simp at hx; subst hx; exact ho
    · simp at hx; subst hx; exact h2
  unfold boxable at hb
  split at hb
  · rename_i e
    split at hb
    · rename_i hw
      simp only [Option.some.injEq] at hb
      refine ⟨hb.symm, ?_⟩
      have h' : TRep c.w c.cold e y := h
      by_cases hagg : ∃ ls, e = .agg ls
      · obtain ⟨ls, rfl⟩ := hagg
        cases h' with
        | agg _ cs hn h1 hr =>
          refine ⟨by show cs.size = n; rw [hn]; exact hw, h1, hw, fun j x hx => ?_⟩
          have hx : cs[j]? = some x := hx
          have hj : j < ls.length := by rw [← hn]; exact (Array.getElem?_eq_some_iff.1 hx).1
          have hl : ls[j]? = some ls[j] := by simp [hj]
          have := hr j _ x hl hx
          simpa [T.leaf, List.getD_eq_getElem?_getD, hl] using this
      · have hna : ∀ ls, e ≠ .agg ls := fun ls he => hagg ⟨ls, he⟩
        have h1 : e.width = 1 := by cases e <;> first | rfl | exact absurd rfl (hna _)
        have ho : y.oneCell' = true := by cases h' <;> first | rfl | assumption | exact absurd rfl (hna _)
        rw [cells_one ho]
        refine ⟨by simp; omega, fun j x hx => ?_, hw, fun j x hx => ?_⟩
        · cases j <;> simp at hx; subst hx; exact ho
        · cases j with
          | zero => simp at hx; subst hx; rw [T.leaf_width h1 hna]; exact h'
          | succ j => simp at hx
    · cases hb
  · rename_i ls
    split at hb
    · rename_i hn
      simp only [Option.some.injEq] at hb
      obtain ⟨cs, rfl, h0, h1, h2⟩ := h
      exact ⟨hb.symm, by show cs.size = n; omega, h1, hn, h2⟩
    · cases hb
  all_goals
    first
    | (split at hb
       · rename_i hn
         simp only [Option.some.injEq] at hb
         obtain ⟨q1, q2, q3, q4⟩ := single h rfl hn
         exact ⟨hb.symm, q1, q2, q3, q4⟩
       · cases hb)
    | cases hb
/-- a new box -/
theorem newBox (h : Rel w0 cold0 N s a c) {d n : Nat} {t : TypeId} (hd : d < N) (hfree : s.objs d = .none) {v u : V} {y : Value} (hb : boxable n v = some u) (hv : c.v3 v y) :
    ∃ c', c'.w = c.w.alloc (.cells y.cells t) ∧ Rel w0 cold0 N ((s.setOb d (.box n u)).putN d (.bp d 0)) (a.put (some d) (.pointer (some ⟨c.w.heap.size, 0, none⟩))) c' := by
  obtain ⟨rfl, hn, h1, hbx⟩ := boxable_rep hb hv
  have hbel : Below c.w.heap.size c.w (c.w.alloc (.cells y.cells t)) := (Below.refl _ _).alloc (Nat.le_refl _) _
  obtain ⟨hR1, sim⟩ := h.grow _ hbel (fun _ => False) (fun b hb => hb.elim)
  have hnew : (c.w.alloc (.cells y.cells t)).heap[c.w.heap.size]? = some (.cells y.cells t (0, 0)) := by
    show (c.w.heap.push (.cells y.cells t))[c.w.heap.size]? = _
    simp
  have hR2 := hR1.addOb d hfree (some c.w.heap.size) (.box n u) (fun b hb => by
    simp only [Option.some.injEq] at hb
    subst hb
    refine ⟨fun hc => ?_, h.below.new (Nat.le_refl _), by simp, fun e he hee => ?_⟩
    · rcases hc with hc | hc
      · have := h.clt _ hc; omega
      · exact hc
    · have := (h.hot e _ he hee).2.2; omega)
    ⟨c.w.heap.size, y.cells, t, Cx.add_eta .., hnew, hn, h1, (Cx.Sim.add _ d (by show c.objs d = _; rw [h.objs]; exact hfree) _ _).bx (sim.bx hbx)⟩
    (fun n' u' _ => by
      cases hp : w0.pin d with
      | none => rfl
      | some b => have := w0.pinN d b hp; have := h.nle; omega)
  exact ⟨_, rfl, hR2.put (some d) (fun e he => by simp only [Option.some.injEq] at he; omega) (v := .bp d 0) ⟨n, u, c.w.heap.size, Cx.add_objs .., Cx.add_eta .., rfl⟩⟩
/-- a new builder -/
theorem newBld (h : Rel w0 cold0 N s a c) {d : Nat} {t : TypeId} (hd : d < N) (hfree : s.objs d = .none) :
    ∃ c', c'.w = c.w.alloc (.cells #[.pointer none, .slice none 0 0] t) ∧ Rel w0 cold0 N ((s.setOb d (.box 2 (.agg [.sp d t, .nilv]))).putN d (.bp d 0)) (a.put (some d) (.pointer (some ⟨c.w.heap.size, 0, none⟩))) c' := by
  have hbel : Below c.w.heap.size c.w (c.w.alloc (.cells #[.pointer none, .slice none 0 0] t)) := (Below.refl _ _).alloc (Nat.le_refl _) _
  obtain ⟨hR1, sim⟩ := h.grow _ hbel (fun _ => False) (fun b hb => hb.elim)
  have hnew : (c.w.alloc (.cells #[.pointer none, .slice none 0 0] t)).heap[c.w.heap.size]? = some (.cells #[.pointer none, .slice none 0 0] t (0, 0)) := by
    show (c.w.heap.push (.cells #[.pointer none, .slice none 0 0] t))[c.w.heap.size]? = _
    simp
  have hR2 := hR1.addOb d hfree (some c.w.heap.size) (.box 2 (.agg [.sp d t, .nilv])) (fun b hb => by
    simp only [Option.some.injEq] at hb
    subst hb
    refine ⟨fun hc => ?_, h.below.new (Nat.le_refl _), by simp, fun e he hee => ?_⟩
    · rcases hc with hc | hc
      · have := h.clt _ hc; omega
      · exact hc
    · have := (h.hot e _ he hee).2.2; omega)
    ⟨c.w.heap.size, #[.pointer none, .slice none 0 0], t, Cx.add_eta .., hnew, rfl, fun j x hx => by
      match j, hx with
      | 0, hx => simp at hx; subst hx; rfl
      | 1, hx => simp at hx; subst hx; rfl
      | j + 2, hx => simp at hx, rfl, fun j l x hl hx => by
      match j, hl, hx with
      | 0, hl, hx => simp at hl hx; subst hl; subst hx; exact ⟨2, _, c.w.heap.size, _, Cx.add_objs .., Cx.add_eta .., hnew, .inl rfl⟩
      | 1, hl, hx => simp at hl hx; subst hl; subst hx; exact rfl
      | j + 2, hl, hx => simp at hl⟩
    (fun n' u' _ => by
      cases hp : w0.pin d with
      | none => rfl
      | some b => have := w0.pinN d b hp; have := h.nle; omega)
  exact ⟨_, rfl, hR2.put (some d) (fun e he => by simp only [Option.some.injEq] at he; omega) (v := .bp d 0) ⟨2, _, c.w.heap.size, Cx.add_objs .., Cx.add_eta .., rfl⟩⟩
theorem isBld_some {t : TypeId} (h : isBld P t = true) : ∃ i cs, P.info? t = some i ∧ i.zero = some (.agg cs) ∧ cs = #[.pointer none, .slice none 0 0] := by
  unfold isBld at h
  split at h
  · rename_i cs hz
    obtain ⟨i, hi, hz⟩ := Option.bind_eq_some_iff.1 hz
    simp only [Bool.and_eq_true] at h
    obtain ⟨h1, h2⟩ := h
    have h1 := Nat.eq_of_beq_eq_true h1
    split at h2
    · rename_i a0 a1 _
      refine ⟨i, cs, hi, hz, ?_⟩
      apply Array.ext_getElem?
      intro j
      match j with
      | 0 => rw [a0]; rfl
      | 1 => rw [a1]; rfl
      | j + 2 => rw [Array.getElem?_eq_none (by omega)]; rfl
    · cases h2
  · cases h
theorem roomRo_get {ro : Bool} {d : Nat} {k : St → Option R} (h : roomRo ro s d k = some r) (hR : Rel w0 cold0 N s a c) :
    ∃ s' c', k s' = some r ∧ Rel w0 cold0 N s' a c' ∧ s'.objs d = .none ∧ c'.w = c.w ∧ c'.cold = c.cold := by
  obtain ⟨s', c', h1, h2, h3, h4, h5, _⟩ := roomRo_some h hR
  exact ⟨s', c', h1, h2, h3, h4, h5⟩
theorem wp_value {y : Value} {w' : World} (hrun : (execOp a.eval o).run P c.w = .ok (.value y) w') (hp : Post w0 cold0 N k r c.w ro (a.put o.dst y) w') : o.wp P a c.w (Post w0 cold0 N k r c.w ro) Q := by
  unfold Oper.wp
  rw [hrun]
  exact hp
theorem zeroV_some {t : TypeId} {v : V} (h : zeroV P t = some v) : ∃ i z, P.info? t = some i ∧ i.zero = some z ∧ v = ofConst z := by
  unfold zeroV at h
  obtain ⟨z, hz, rfl⟩ := Option.map_eq_some_iff.1 h
  obtain ⟨i, hi, hz⟩ := Option.bind_eq_some_iff.1 hz
  exact ⟨i, z, hi, hz, rfl⟩
theorem run_zeroValue {t : TypeId} {i : TypeInfo} {z : Value} (hi : P.info? t = some i) (hz : i.zero = some z) (w : World) : (zeroValue t).run P w = .ok z w := by
  simp [zeroValue, typeInfo, hi, hz]
theorem op_alloc (h : Rel w0 cold0 N s a c) (hd : okDst N o = true) {t : TypeId} (ho : o.op = .alloc t)
    (hk : (match o.dst, szOf P t, zeroV P t with
    | some d, some n, some v => bif isBld P t then roomRo ro s d fun s => k ((s.setOb d (.box 2 (.agg [.sp d t, .nilv]))).putN d (.bp d 0))
      else roomRo ro s d fun s => (boxable n v).bind fun v => k ((s.setOb d (.box n v)).putN d (.bp d 0))
    | _, _, _ => none) = some r) : o.wp P a c.w (Post w0 cold0 N k r c.w ro) Q := by
  split at hk
  · rename_i d n v hdst hn hzv
    cases hbld : isBld P t with
    | true =>
      rw [hbld] at hk
      simp only [cond_true] at hk
      obtain ⟨i, cs, hi, hz, rfl⟩ := isBld_some hbld
      obtain ⟨s', c', hk, hR, hfree, hw, _⟩ := roomRo_get hk h
      obtain ⟨c2, hw2, hR2⟩ := newBld (t := t) hR (okDst_lt hd d hdst) hfree
      refine wp_value (y := .pointer (some ⟨c.w.heap.size, 0, none⟩)) (w' := c.w.alloc (.cells #[.pointer none, .slice none 0 0] t)) ?_ ?_
      · simp [execOp, ho, Instr.alloc, run_zeroValue hi hz, newVar, newRow, Value.cells]
      · rw [hw] at hR2 hw2; rw [hdst]; exact ⟨_, c2, hw2, hR2, hk, fun _ => (Below.refl _ _).alloc (Nat.le_refl _) _⟩
    | false =>
    rw [hbld] at hk
    simp only [cond_false] at hk
    obtain ⟨i, z, hi, hz, rfl⟩ := zeroV_some hzv
    obtain ⟨s', c', hk, hR, hfree, hw, _⟩ := roomRo_get hk h
    obtain ⟨u, hu, hk⟩ := Option.bind_eq_some_iff.1 hk
    obtain ⟨c2, hw2, hR2⟩ := newBox (t := t) hR (okDst_lt hd d hdst) hfree hu (ofConst_rep c' z)
    refine wp_value (y := .pointer (some ⟨c.w.heap.size, 0, none⟩)) (w' := c.w.alloc (.cells z.cells t)) ?_ ?_
    · simp [execOp, ho, Instr.alloc, run_zeroValue hi hz, newVar, newRow]
    · rw [hw] at hR2 hw2; rw [hdst]; exact ⟨_, c2, hw2, hR2, hk, fun _ => (Below.refl _ _).alloc (Nat.le_refl _) _⟩
  · cases hk
theorem op_box (h : Rel w0 cold0 N s a c) (hd : okDst N o = true) {t : TypeId} {x : Operand} (ho : o.op = .box t x)
    (hk : (match o.dst, szOf P t with
    | some d, some n => roomRo ro s d fun s => (boxable n (s.val x)).bind fun v => k ((s.setOb d (.box n v)).putN d (.bp d 0))
    | _, _ => none) = some r) : o.wp P a c.w (Post w0 cold0 N k r c.w ro) Q := by
  split at hk
  · rename_i d n hdst hn
    obtain ⟨s', c', hk, hR, hfree, hw, _⟩ := roomRo_get hk h
    obtain ⟨u, hu, hk⟩ := Option.bind_eq_some_iff.1 hk
    obtain ⟨c2, hw2, hR2⟩ := newBox (t := t) hR (okDst_lt hd d hdst) hfree hu (hR.val x)
    refine wp_value (y := .pointer (some ⟨c.w.heap.size, 0, none⟩)) (w' := c.w.alloc (.cells (a.eval x).cells t)) ?_ ?_
    · simp [execOp, ho, Instr.box, newVar, newRow]
    · rw [hw] at hR2 hw2; rw [hdst]; exact ⟨_, c2, hw2, hR2, hk, fun _ => (Below.refl _ _).alloc (Nat.le_refl _) _⟩
  · cases hk

/-! ### structs as values -/
theorem foldl_set (vs : List Value) (off : Nat) (cs : Array Value) : ∀ (m : Nat) (acc : Array Value), acc.size = cs.size → (vs.zipIdx m).foldl (fun cs (p : Value × Nat) => cs.setIfInBounds (off + p.2) p.1) acc =
    (vs.zipIdx m).foldl (fun cs (p : Value × Nat) => cs.setIfInBounds (off + p.2) p.1) acc := fun _ _ _ => rfl
theorem foldl_get (off : Nat) : ∀ (vs : List Value) (m : Nat) (acc : Array Value), ((vs.zipIdx m).foldl (fun cs (p : Value × Nat) => cs.setIfInBounds (off + p.2) p.1) acc).size = acc.size ∧
    ∀ j, off + m + vs.length ≤ acc.size → ((vs.zipIdx m).foldl (fun cs (p : Value × Nat) => cs.setIfInBounds (off + p.2) p.1) acc)[j]? = if off + m ≤ j ∧ j < off + m + vs.length then vs[j - (off + m)]? else acc[j]?
  | [], m, acc => ⟨rfl, fun j hj => by rw [if_neg (by simp <;> omega)]; rfl⟩
  | v :: vs, m, acc => by
    simp only [List.zipIdx_cons, List.foldl_cons]
    obtain ⟨h1, h2⟩ := foldl_get off vs (m + 1) (acc.setIfInBounds (off + m) v)
    refine ⟨by rw [h1]; simp, fun j hj => ?_⟩
    simp only [List.length_cons] at hj
    rw [h2 j (by simp <;> omega)]
    by_cases hj1 : off + (m + 1) ≤ j ∧ j < off + (m + 1) + vs.length
    · rw [if_pos hj1, if_pos (by simp <;> omega), show j - (off + m) = (j - (off + (m + 1))) + 1 by omega, List.getElem?_cons_succ]
    · rw [if_neg hj1]
      by_cases hj2 : j = off + m
      · subst hj2
        rw [if_pos (by simp <;> omega), Nat.sub_self, List.getElem?_cons_zero, Array.getElem?_setIfInBounds_self_of_lt (by omega)]
      · rw [if_neg (by simp <;> omega), Array.getElem?_setIfInBounds_ne (by omega)]
theorem foldlA_get (vs : Array Value) (off : Nat) (acc : Array Value) (h : off + vs.size ≤ acc.size) :
    (vs.zipIdx.foldl (fun cs (p : Value × Nat) => cs.setIfInBounds (off + p.2) p.1) acc).size = acc.size ∧
    ∀ j, (vs.zipIdx.foldl (fun cs (p : Value × Nat) => cs.setIfInBounds (off + p.2) p.1) acc)[j]? = if off ≤ j ∧ j < off + vs.size then vs[j - off]? else acc[j]? := by
  rw [← Array.foldl_toList, Array.toList_zipIdx]
  obtain ⟨h1, h2⟩ := foldl_get off vs.toList 0 acc
  refine ⟨h1, fun j => ?_⟩
  rw [h2 j (by simpa using h)]
  simp
theorem lset_get (ls vs : List V) (o : Nat) (h : o + vs.length ≤ ls.length) : (lset ls o vs).length = ls.length ∧ ∀ j, (lset ls o vs)[j]? = if o ≤ j ∧ j < o + vs.length then vs[j - o]? else ls[j]? := by
  unfold lset
  refine ⟨by simp; omega, fun j => ?_⟩
  rw [List.append_assoc, List.getElem?_append]
  have hl : (ls.take o).length = o := by simp; omega
  rw [hl]
  split
  · rename_i hj
    rw [if_neg (by omega), List.getElem?_take_of_lt hj]
  · rename_i hj
    rw [List.getElem?_append]
    split
    · rename_i hj2
      rw [if_pos (by omega)]
    · rename_i hj2
      rw [if_neg (by omega), List.getElem?_drop]
      congr 1
      omega
theorem repL_lset {ls vs : List V} {cs ws : Array Value} (h : c.repL ls cs) (hv : c.repL vs ws) (o : Nat) (hle : o + vs.length ≤ ls.length) :
    c.repL (lset ls o vs) (ws.zipIdx.foldl (fun cs (p : Value × Nat) => cs.setIfInBounds (o + p.2) p.1) cs) := by
  obtain ⟨l1, l2⟩ := lset_get ls vs o hle
  obtain ⟨f1, f2⟩ := foldlA_get ws o cs (by rw [hv.1, h.1]; exact hle)
  refine ⟨by rw [f1, l1, h.1], fun j x hx => ?_, fun j l x hl hx => ?_⟩
  · rw [f2] at hx
    split at hx
    · exact hv.2.1 _ _ hx
    · exact h.2.1 _ _ hx
  · rw [f2] at hx
    rw [l2] at hl
    rw [hv.1] at hx
    split at hx
    · rename_i hc; rw [if_pos hc] at hl; exact hv.2.2 _ _ _ hl hx
    · rename_i hc; rw [if_neg hc] at hl; exact h.2.2 _ _ _ hl hx
theorem repL_one {v : V} {y : Value} (h : c.v3 v y) (h1 : v.one = true) : c.repL [v] #[y] := by
  obtain ⟨hv, ho⟩ := one_v1 h h1
  refine ⟨rfl, fun j x hx => ?_, fun j l x hl hx => ?_⟩
  · cases j <;> simp at hx; subst hx; exact ho
  · cases j <;> simp at hx hl; subst hx; subst hl; exact hv
theorem lset_one (ls : List V) (o : Nat) (v : V) (h : o < ls.length) : lset ls o [v] = ls.set o v := by
  unfold lset
  rw [List.set_eq_take_append_cons_drop, if_pos h]
  simp
theorem bldStruct_run {fs : Array Field} (places : Array (Nat × Nat)) (hpl : ∀ i : Nat, ∀ fd n, fs[i]? = some fd → szOf P fd.type = some n → places[i]? = some (fd.offset, n)) :
    ∀ (ps : List (Nat × V)) (qs : List (Nat × Value)) (ls ls' : List V) (cs : Array Value), bldStruct P fs ps ls = some ls' → c.repL ls cs → ps.length = qs.length →
    (∀ (j : Nat) (p : Nat × V) (q : Nat × Value), ps[j]? = some p → qs[j]? = some q → p.1 = q.1 ∧ c.v3 p.2 q.2) →
    ∃ cs', Instr.fill (places[·]?) cs qs = some cs' ∧ c.repL ls' cs'
  | [], [], ls, ls', cs, h, hr, _, _ => by simp only [bldStruct, Option.some.injEq] at h; subst h; exact ⟨cs, rfl, hr⟩
  | p :: ps, q :: qs, ls, ls', cs, h, hr, hl, hq => by
    obtain ⟨hi, hv⟩ := hq 0 p q rfl rfl
    obtain ⟨i, v⟩ := p
    obtain ⟨i', y⟩ := q
    simp only at hi hv
    subst hi
    have step : ∀ (fd : Field) (n : Nat) (vs : List V), fs[i]? = some fd → szOf P fd.type = some n → c.repL vs y.cells → vs.length = n → fd.offset + n ≤ ls.length → bldStruct P fs ps (lset ls fd.offset vs) = some ls' →
        ∃ cs', Instr.fill (places[·]?) cs ((i, y) :: qs) = some cs' ∧ c.repL ls' cs' := by
      intro fd n vs hf hn hvs hvl hle hk
      have hrep := repL_lset hr hvs fd.offset (by omega)
      obtain ⟨cs', hfill, hrep'⟩ := bldStruct_run places hpl ps qs _ ls' _ hk hrep (by simpa using hl) (fun j p q hp hq' => hq (j + 1) p q hp hq')
      refine ⟨cs', ?_, hrep'⟩
      simp only [Instr.fill, hpl i fd n hf hn]
      have h1 : y.cells.size = n := by rw [hvs.1, hvl]
      rw [if_neg (by simp only [ne_eq, Bool.or_eq_true, decide_eq_true_eq, not_or]; exact ⟨fun hc => hc h1, by have := hr.1; omega⟩)]
      exact hfill
    simp only [bldStruct] at h
    split at h
    · rename_i fd hf
      split at h
      · rename_i n hn
        split at h
        · obtain ⟨vs, hvs, h⟩ := Option.bind_eq_some_iff.1 h
          split at h
          · rename_i hle
            obtain ⟨ws, rfl, hws, hrepv⟩ := leaves_rep hv hvs
            exact step fd n vs hf hn hrepv (by rw [← hrepv.1]; exact hws) hle h
          · cases h
        · split at h
          · rename_i h1
            obtain ⟨rfl, hone⟩ := h1
            split at h
            · rename_i hlt
              have hrep1 := repL_one hv hone
              have ho := (one_v1 hv hone).2
              rw [← cells_one ho] at hrep1
              exact step fd 1 [v] hf hn hrep1 rfl (by omega) (by rw [lset_one _ _ _ hlt]; exact h)
            · cases h
          · cases h
      · cases h
    · cases h
  | [], _ :: _, _, _, _, _, _, hl, _ => by simp at hl
  | _ :: _, [], _, _, _, _, _, hl, _ => by simp at hl
theorem run_places (w : World) : ∀ (l : List Field), l.all (fun f => (szOf P f.type).isSome) = true →
    (l.mapM (fun f => do pure (f.offset, ← sizeOf f.type) : Field → Sem (Nat × Nat))).run P w = .ok (l.map fun f => (f.offset, (szOf P f.type).getD 0)) w
  | [], _ => by simp
  | f :: l, h => by
    simp only [List.all_cons, Bool.and_eq_true] at h
    obtain ⟨n, hn⟩ := Option.isSome_iff_exists.1 h.1
    simp only [List.mapM_cons, Sem.run_bind, run_sizeOf' hn, Result.andThen_ok, Sem.run_pure, run_places w l h.2, List.map_cons, hn, Option.getD_some]
theorem agg_v3 {ls : List V} {y : Value} (h : c.v3 (.agg ls) y) : ∃ cs, y = .agg cs ∧ c.repL ls cs := by
  obtain ⟨cs, h0, h1, h2, h3⟩ := h
  exact ⟨cs, h0, h1, h2, h3⟩
theorem bldArr_run {n : Nat} : ∀ (ps : List (Nat × V)) (qs : List (Nat × Value)) (ls ls' : List V) (cs : Array Value), bldArr n ps ls = some ls' → c.repL ls cs → ps.length = qs.length →
    (∀ (j : Nat) (p : Nat × V) (q : Nat × Value), ps[j]? = some p → qs[j]? = some q → p.1 = q.1 ∧ c.v3 p.2 q.2) →
    ∃ cs', Instr.fill (fun i => some (i * 1, 1)) cs qs = some cs' ∧ c.repL ls' cs'
  | [], [], ls, ls', cs, h, hr, _, _ => by simp only [bldArr, Option.some.injEq] at h; subst h; exact ⟨cs, rfl, hr⟩
  | p :: ps, q :: qs, ls, ls', cs, h, hr, hl, hq => by
    obtain ⟨hi, hv⟩ := hq 0 p q rfl rfl
    obtain ⟨i, v⟩ := p
    obtain ⟨i', y⟩ := q
    simp only at hi hv
    subst hi
    simp only [bldArr] at h
    split at h
    · rename_i hc
      obtain ⟨hone, hlt⟩ := hc
      have hrep1 := repL_one hv hone
      have ho := (one_v1 hv hone).2
      rw [← cells_one ho] at hrep1
      rw [← lset_one _ _ _ hlt] at h
      have hrep := repL_lset hr hrep1 i (by simp; omega)
      obtain ⟨cs', hfill, hrep'⟩ := bldArr_run ps qs _ ls' _ h hrep (by simpa using hl) (fun j p q hp hq' => hq (j + 1) p q hp hq')
      refine ⟨cs', ?_, hrep'⟩
      simp only [Instr.fill, Nat.mul_one]
      have h1 : y.cells.size = 1 := by rw [cells_one ho]; rfl
      rw [if_neg (by simp only [ne_eq, Bool.or_eq_true, decide_eq_true_eq, not_or]; exact ⟨fun hc => hc h1, by have := hr.1; omega⟩)]
      simpa using hfill
    · cases h
  | [], _ :: _, _, _, _, _, _, hl, _ => by simp at hl
  | _ :: _, [], _, _, _, _, _, hl, _ => by simp at hl
theorem parts_rel (h : Rel w0 cold0 N s a c) (parts : Array (Nat × Operand)) : (parts.toList.map fun p => (p.1, s.val p.2)).length = (parts.map fun (i, x) => (i, a.eval x)).toList.length ∧
    ∀ (j : Nat) (p : Nat × V) (q : Nat × Value), (parts.toList.map fun p => (p.1, s.val p.2))[j]? = some p → (parts.map fun (i, x) => (i, a.eval x)).toList[j]? = some q → p.1 = q.1 ∧ c.v3 p.2 q.2 := by
  refine ⟨by simp, fun j p q hp hq => ?_⟩
  rw [Array.toList_map] at hq
  simp only [List.getElem?_map] at hp hq
  obtain ⟨z, hz, rfl⟩ := Option.map_eq_some_iff.1 hp
  rw [hz] at hq
  simp only [Option.map_some, Option.some.injEq] at hq
  subst hq
  exact ⟨rfl, h.val z.2⟩
theorem op_build (h : Rel w0 cold0 N s a c) (hd : okDst N o = true) {t : TypeId} {parts : Array (Nat × Operand)} (ho : o.op = .build t parts)
    (hk : (match P.underlying t, zeroV P t with
    | some (.struct fs), some (.agg z) => if fs.toList.all (fun f => (szOf P f.type).isSome) = true then
      (bldStruct P fs (parts.toList.map fun p => (p.1, s.val p.2)) z).bind fun ls => k (s.put o.dst (.agg ls)) else none
    | some (.array n E), some (.agg z) =>
      (match szOf P E with
       | some 1 => (bldArr n (parts.toList.map fun p => (p.1, s.val p.2)) z).bind fun ls => k (s.put o.dst (.agg ls))
       | _ => none)
    | _, _ => none) = some r) : o.wp P a c.w (Post w0 cold0 N k r c.w ro) Q := by
  obtain ⟨hl, hpq⟩ := parts_rel h parts
  split at hk
  · rename_i fs z hu hz
    split at hk
    · rename_i hall
      obtain ⟨ls, hls, hk⟩ := Option.bind_eq_some_iff.1 hk
      obtain ⟨i, zv, hi, hzv, hze⟩ := zeroV_some hz
      have hzr := ofConst_rep c zv
      rw [← hze] at hzr
      obtain ⟨cs, rfl, hrep⟩ := agg_v3 hzr
      have hplaces : ∀ w, (fs.mapM (fun f => do pure (f.offset, ← sizeOf f.type) : Field → Sem (Nat × Nat))).run P w = .ok (fs.map fun f => (f.offset, (szOf P f.type).getD 0)) w := fun w => by
        rw [Array.mapM_eq_mapM_toList, Sem.run_map, run_places w fs.toList hall]
        simp only [Result.andThen_ok]
        congr 1
        apply Array.ext'
        simp
      obtain ⟨cs', hfill, hrep'⟩ := bldStruct_run (P := P) (c := c) (fs := fs) (fs.map fun f => (f.offset, (szOf P f.type).getD 0)) (fun i fd n hf hn => by simp [hf, hn])
        _ (parts.map fun (i, x) => (i, a.eval x)).toList z ls cs hls hrep hl hpq
      refine wp_val (v := .agg ls) (x := .agg cs') ?_ h hd (Cx.v3_of_v2 (Cx.repL_v2 hrep')) hk
      simp only [execOp, ho, Instr.build, Sem.run_bind, run_zeroValue hi hzv, Result.andThen_ok, run_underlying hu, hplaces, Value.cells]
      rw [hfill]
      rfl
    · cases hk
  · rename_i n E z hu hz
    split at hk
    · rename_i h1
      obtain ⟨ls, hls, hk⟩ := Option.bind_eq_some_iff.1 hk
      obtain ⟨i, zv, hi, hzv, hze⟩ := zeroV_some hz
      have hzr := ofConst_rep c zv
      rw [← hze] at hzr
      obtain ⟨cs, rfl, hrep⟩ := agg_v3 hzr
      obtain ⟨cs', hfill, hrep'⟩ := bldArr_run (c := c) (n := n) _ (parts.map fun (i, x) => (i, a.eval x)).toList z ls cs hls hrep hl hpq
      refine wp_val (v := .agg ls) (x := .agg cs') ?_ h hd (Cx.v3_of_v2 (Cx.repL_v2 hrep')) hk
      simp only [execOp, ho, Instr.build, Sem.run_bind, run_zeroValue hi hzv, Result.andThen_ok, run_underlying hu, run_sizeOf' h1, Value.cells]
      rw [hfill]
      rfl
    · cases hk
  · cases hk

/-! ### rows -/
theorem frzL_some : ∀ (vs : List V) (ks : List Nat) (s : St) (c : Cx) (p : List T × St), frzL ks vs s = some p → Rel w0 cold0 N s a c → ∀ cs : List Value,
    (∀ (j : Nat) (v : V) (x : Value), vs[j]? = some v → cs[j]? = some x → c.v1 (killL ks v) x ∧ x.oneCell' = true) →
    ∃ c', c'.w = c.w ∧ Rel w0 cold0 N p.2 a c' ∧ (∀ b, c.cold b → c'.cold b) ∧ (∀ e, s.objs e = .none → p.2.objs e = .none) ∧ p.1.length = vs.length ∧
      ∀ (j : Nat) (t : T) (v : V) (x : Value), p.1[j]? = some t → vs[j]? = some v → cs[j]? = some x → TRep c'.w c'.cold t x
  | [], ks, s, c, p, hf, h, cs, hv => by
    simp only [frzL, Option.some.injEq] at hf
    subst hf
    exact ⟨c, rfl, h, fun _ h => h, fun _ h => h, rfl, fun j t v x ht => by simp at ht⟩
  | u :: vs, ks, s, c, p, hf, h, cs, hv => by
    have cold : (bif (killL ks u).hot1 then none else ((killL ks u).outJ s.objs).bind fun x => (frzL ks vs s).bind fun q => some (x :: q.1, q.2)) = some p →
        ∃ c', c'.w = c.w ∧ Rel w0 cold0 N p.2 a c' ∧ (∀ b, c.cold b → c'.cold b) ∧ (∀ e, s.objs e = .none → p.2.objs e = .none) ∧ p.1.length = (u :: vs).length ∧
          ∀ (j : Nat) (t : T) (v : V) (x : Value), p.1[j]? = some t → (u :: vs)[j]? = some v → cs[j]? = some x → TRep c'.w c'.cold t x := fun hf => by
      cases hh : (killL ks u).hot1 with
      | true => rw [hh] at hf; cases hf
      | false =>
        rw [hh] at hf
        simp only [cond_false] at hf
        obtain ⟨x0, hx0, hf⟩ := Option.bind_eq_some_iff.1 hf
        obtain ⟨q, hq, hf⟩ := Option.bind_eq_some_iff.1 hf
        simp only [Option.some.injEq] at hf
        subst hf
        obtain ⟨c', hw, hR, hc, hn, hl, hr⟩ := frzL_some vs ks s c q hq h cs.tail (fun j v x h1 h2 => hv (j + 1) v x (by simpa using h1) (by
          cases cs with
          | nil => simp at h2
          | cons y ys => simpa using h2))
        refine ⟨c', hw, hR, hc, hn, by simp [hl], fun j t v x ht hvv hx => ?_⟩
        cases j with
        | zero =>
          simp at ht hvv
          subst ht; subst hvv
          obtain ⟨h1, h2⟩ := hv 0 _ x rfl hx
          exact (out1_cold h1 hh (fun _ => h2) hx0).mono (fun b _ => by rw [hw]) hc
        | succ j =>
          refine hr j t v x (by simpa using ht) (by simpa using hvv) ?_
          cases cs with
          | nil => simp at hx
          | cons y ys => simpa using hx
    unfold frzL at hf
    split at hf
    · rename_i d hd
      split at hf
      · rename_i sz xs hob
        obtain ⟨q, hq, hf⟩ := Option.bind_eq_some_iff.1 hf
        simp only [Option.some.injEq] at hf
        subst hf
        have hlive : s.objs d ≠ .none := by rw [hob]; simp
        have hkn : ∀ e, s.objs e = .none → (s.kill d).objs e = .none := fun e he => by
          show (bif Nat.beq e d then Ob.none else (s.objs e).kill d) = .none
          cases Nat.beq e d
          · simp [he, Ob.kill]
          · rfl
        -- the rest, in whatever memory is colder
        have rest : ∀ c1 : Cx, c1.w = c.w → Rel w0 cold0 N (s.kill d) a c1 → (∀ b, c.cold b → c1.cold b) → (∀ u x, (c.killed d).v1 u x → c1.v1 u x) → (∀ x, cs[0]? = some x → TRep c1.w c1.cold (.lst xs) x) →
            ∃ c', c'.w = c.w ∧ Rel w0 cold0 N q.2 a c' ∧ (∀ b, c.cold b → c'.cold b) ∧ (∀ e, s.objs e = .none → q.2.objs e = .none) ∧ (.lst xs :: q.1).length = (u :: vs).length ∧
              ∀ (j : Nat) (t : T) (v : V) (x : Value), (T.lst xs :: q.1)[j]? = some t → (u :: vs)[j]? = some v → cs[j]? = some x → TRep c'.w c'.cold t x := fun c1 hw1 hR1 hc1 hv1 hx1 => by
          obtain ⟨c', hw, hR, hc, hn, hl, hr⟩ := frzL_some vs (d :: ks) (s.kill d) c1 q hq hR1 cs.tail (fun j v x h1 h2 => by
            obtain ⟨h3, h4⟩ := hv (j + 1) v x (by simpa using h1) (by
              cases cs with
              | nil => simp at h2
              | cons y ys => simpa using h2)
            exact ⟨hv1 _ _ (Cx.v1_kill d h3), h4⟩)
          refine ⟨c', by rw [hw, hw1], hR, fun b hb => hc b (hc1 b hb), fun e he => hn e (hkn e he), by simp [hl], fun j t v x ht hvv hx => ?_⟩
          cases j with
          | zero =>
            simp at ht
            subst ht
            exact (hx1 x hx).mono (fun b _ => by rw [hw]) hc
          | succ j =>
            refine hr j t v x (by simpa using ht) (by simpa using hvv) ?_
            cases cs with
            | nil => simp at hx
            | cons y ys => simpa using hx
        cases hcs : cs with
        | nil =>
          subst hcs
          exact rest (c.killed d) rfl (h.kill d) (fun _ h => h) (fun _ _ h => h) (fun x hx => by simp at hx)
        | cons y ys =>
          rw [← hcs]
          have hy : cs[0]? = some y := by rw [hcs]; rfl
          have h0 := (hv 0 u y rfl hy).1
          rw [hd] at h0
          obtain ⟨sz2, xs2, ho2, hr⟩ := h0
          rw [h.objs, hob] at ho2
          simp only [Ob.row.injEq] at ho2
          obtain ⟨rfl, rfl⟩ := ho2
          rcases hr with ⟨_, rfl, rfl⟩ | ⟨b, cap, cs', E, he, rfl, hcap, hh, hsz⟩
          · exact rest (c.killed d) rfl (h.kill d) (fun _ h => h) (fun _ _ h => h) (fun x hx => by rw [hy] at hx; cases hx; exact .lst0 none 0)
          · have hR := h.kill_cold d b hlive he
            have hrow := row_rep h hob he 0 xs.length cap (by omega) hcap (cold := fun k => c.cold k ∨ k = b) (fun k hk => .inl hk) (.inr rfl)
            refine rest { c.killed d with cold := fun k => c.cold k ∨ k = b } rfl hR (fun b hb => .inl hb) (fun u x hu => ?_) (fun x hx => by
              rw [hy] at hx; cases hx
              show TRep c.w (fun k => c.cold k ∨ k = b) _ _
              simpa using hrow)
            have sim : (c.killed d).Sim { c.killed d with cold := fun k => c.cold k ∨ k = b } :=
              ⟨fun _ _ => rfl, fun _ h => .inl h, fun _ _ => rfl, fun _ _ xs h => ⟨xs, h, rfl⟩, fun _ _ u h => ⟨u, h⟩, fun _ _ cs E _ _ h => ⟨cs, h, rfl⟩⟩
            exact sim.v1 hu
      · cases hf
    · exact cold hf
/-- what a value holds becomes cold -/
theorem frz_some {ro : Bool} {v : V} {p : T × St} (hf : frz ro v s = some p) (h : Rel w0 cold0 N s a c) {y : Value} (hv : c.v3 v y) :
    ∃ c', c'.w = c.w ∧ Rel w0 cold0 N p.2 a c' ∧ TRep c'.w c'.cold p.1 y ∧ (∀ b, c.cold b → c'.cold b) ∧ (∀ e, s.objs e = .none → p.2.objs e = .none) := by
  have nonhot : (bif v.hot then none else (v.out s.objs).bind fun x => some (x, s)) = some p → ∃ c', c'.w = c.w ∧ Rel w0 cold0 N p.2 a c' ∧ TRep c'.w c'.cold p.1 y ∧ (∀ b, c.cold b → c'.cold b) ∧ (∀ e, s.objs e = .none → p.2.objs e = .none) := by
    intro hf
    cases hh : v.hot with
    | true => simp [hh] at hf
    | false =>
      simp only [hh, cond_false] at hf
      obtain ⟨x, hx, hf⟩ := Option.bind_eq_some_iff.1 hf
      simp only [Option.some.injEq] at hf
      subst hf
      exact ⟨c, rfl, h, out_cold hv hh hx, fun _ h => h, fun _ h => h⟩
  unfold frz at hf
  split at hf
  · rename_i d
    split at hf
    · cases hf
    · split at hf
      · rename_i sz xs hob
        simp only [Option.some.injEq] at hf
        subst hf
        have hlive : s.objs d ≠ .none := by rw [hob]; simp
        have hkn : ∀ e, s.objs e = .none → (s.kill d).objs e = .none := fun e he => by
          show (bif Nat.beq e d then Ob.none else (s.objs e).kill d) = .none
          cases Nat.beq e d
          · simp [he, Ob.kill]
          · rfl
        obtain ⟨sz2, xs2, ho2, hr⟩ := hv
        rw [h.objs, hob] at ho2
        simp only [Ob.row.injEq] at ho2
        obtain ⟨rfl, rfl⟩ := ho2
        rcases hr with ⟨_, rfl, rfl⟩ | ⟨b, cap, cs, E, he, rfl, hcap, hh, hsz⟩
        · exact ⟨c.killed d, rfl, h.kill d, .lst0 none 0, fun _ h => h, hkn⟩
        · have hR := h.kill_cold d b hlive he
          refine ⟨{ c.killed d with cold := fun k => c.cold k ∨ k = b }, rfl, hR, ?_, fun b hb => .inl hb, hkn⟩
          have := row_rep h hob he 0 xs.length cap (by omega) hcap (cold := fun k => c.cold k ∨ k = b) (fun k hk => .inl hk) (.inr rfl)
          show TRep c.w (fun k => c.cold k ∨ k = b) _ _
          simpa using this
      · cases hf
  · rename_i ls
    split at hf
    · exact nonhot hf
    · obtain ⟨q, hq, hf⟩ := Option.bind_eq_some_iff.1 hf
      simp only [Option.some.injEq] at hf
      subst hf
      obtain ⟨cs, rfl, hn, h1, hr⟩ := hv
      obtain ⟨c', hw, hR, hc, hnn, hl, hr'⟩ := frzL_some ls [] s c q hq h cs.toList (fun j v x hj hx => ⟨hr j v x hj (by simpa using hx), h1 j x (by simpa using hx)⟩)
      refine ⟨c', hw, hR, .agg q.1 cs (by omega) h1 fun j l x hj hx => ?_, hc, hnn⟩
      have hj' : j < ls.length := by have := (List.getElem?_eq_some_iff.1 hj).1; omega
      exact hr' j l _ x hj (List.getElem?_eq_getElem hj') (by simpa using hx)
  · exact nonhot hf
theorem frzOps_some {ro : Bool} : ∀ (xs : List Operand) (s : St) (c : Cx) (p : List T × St), frzOps ro xs s = some p → Rel w0 cold0 N s a c →
    ∃ c', c'.w = c.w ∧ Rel w0 cold0 N p.2 a c' ∧ (∀ b, c.cold b → c'.cold b) ∧ p.1.length = xs.length ∧
      ∀ (j : Nat) (x : T) (o : Operand), p.1[j]? = some x → xs[j]? = some o → TRep c'.w c'.cold x (a.eval o)
  | [], s, c, p, hf, h => by simp only [frzOps, Option.some.injEq] at hf; subst hf; exact ⟨c, rfl, h, fun _ h => h, rfl, fun j x o hx => by simp at hx⟩
  | o :: os, s, c, p, hf, h => by
    simp only [frzOps] at hf
    obtain ⟨p1, hp1, hf⟩ := Option.bind_eq_some_iff.1 hf
    obtain ⟨q, hq, hf⟩ := Option.bind_eq_some_iff.1 hf
    simp only [Option.some.injEq] at hf
    subst hf
    obtain ⟨c1, hw1, hR1, ht1, hc1, _⟩ := frz_some hp1 h (h.val o)
    obtain ⟨c2, hw2, hR2, hc2, hl, hr⟩ := frzOps_some os p1.2 c1 q hq hR1
    refine ⟨c2, by rw [hw2, hw1], hR2, fun b hb => hc2 b (hc1 b hb), by simp [hl], fun j x o' hx ho => ?_⟩
    cases j with
    | zero =>
      simp at hx ho
      subst hx; subst ho
      exact ht1.mono (fun b _ => by rw [hw2]) hc2
    | succ j => simp at hx ho; exact hr j x o' hx ho
/-- cells of a row's elements -/
def rowCells' (c : Cx) (sz : Nat) (xs : List T) (cs : Array Value) : Prop := cs.size = xs.length * sz ∧ c.rowCells sz xs cs
theorem TRep.cells {w : World} {cold : Nat → Prop} {x : T} {y : Value} (h : TRep w cold x y) :
    y.cells.size = x.width ∧ (∀ (j : Nat) (u : Value), y.cells[j]? = some u → u.oneCell' = true) ∧ ∀ (j : Nat) (u : Value), y.cells[j]? = some u → TRep w cold (x.leaf j) u := by
  by_cases hagg : ∃ ls, x = .agg ls
  · obtain ⟨ls, rfl⟩ := hagg
    cases h with
    | agg _ cs hn h1 hr =>
      refine ⟨hn, h1, fun j u hu => ?_⟩
      have hu : cs[j]? = some u := hu
      have hj : j < ls.length := by rw [← hn]; exact (Array.getElem?_eq_some_iff.1 hu).1
      have hl : ls[j]? = some ls[j] := by simp [hj]
      have := hr j _ u hl hu
      simpa [T.leaf, List.getD_eq_getElem?_getD, hl] using this
  · have hna : ∀ ls, x ≠ .agg ls := fun ls he => hagg ⟨ls, he⟩
    have h1 : x.width = 1 := by cases x <;> first | rfl | exact absurd rfl (hna _)
    have ho : y.oneCell' = true := by cases h <;> first | rfl | assumption | exact absurd rfl (hna _)
    rw [cells_one ho]
    refine ⟨by simp [h1], fun j u hu => ?_, fun j u hu => ?_⟩
    · cases j <;> simp at hu; subst hu; exact ho
    · cases j with
      | zero => simp at hu; subst hu; rw [T.leaf_width h1 hna]; exact h
      | succ j => simp at hu
theorem div_lt_of {i j n sz : Nat} (hi : i < n) (hj : j < sz) : i * sz + j < n * sz := by
  have : (i + 1) * sz ≤ n * sz := Nat.mul_le_mul_right sz hi
  rw [Nat.add_mul, Nat.one_mul] at this
  omega
theorem idx_inj {i j i' j' sz : Nat} (hj : j < sz) (hj' : j' < sz) (h : i * sz + j = i' * sz + j') : i = i' ∧ j = j' := by
  have h0 : 0 < sz := by omega
  have e1 : (i * sz + j) / sz = i := by rw [Nat.mul_comm, Nat.mul_add_div h0, Nat.div_eq_of_lt hj, Nat.add_zero]
  have e2 : (i' * sz + j') / sz = i' := by rw [Nat.mul_comm, Nat.mul_add_div h0, Nat.div_eq_of_lt hj', Nat.add_zero]
  have : i = i' := by rw [← e1, ← e2, h]
  subst this
  exact ⟨rfl, by omega⟩
/-- an element is written -/
theorem rowCells_set {sz : Nat} {xs : List T} {cs : Array Value} (h : c.rowCells sz xs cs) {i : Nat} (hi : i < xs.length) {x : T} {ys : Array Value} (hsz : ys.size = sz) (hw : x.width = sz)
    (h1 : ∀ (j : Nat) (u : Value), ys[j]? = some u → u.oneCell' = true) (hr : ∀ (j : Nat) (u : Value), ys[j]? = some u → TRep c.w c.cold (x.leaf j) u) {cs' : Array Value} (hcs : cs'.size = cs.size)
    (hget : ∀ j, cs'[j]? = if i * sz ≤ j ∧ j < i * sz + sz then ys[j - i * sz]? else cs[j]?) : c.rowCells sz (xs.set i x) cs' := by
  refine ⟨by rw [hcs, List.length_set]; exact h.1, fun z hz => ?_, fun k j z y hz hj hy => ?_⟩
  · rcases List.mem_or_eq_of_mem_set hz with hz | hz
    · exact h.2.1 z hz
    · rw [hz]; exact hw
  · rw [hget] at hy
    rw [List.getElem?_set] at hz
    by_cases hik : i = k
    · subst hik
      rw [if_pos rfl, if_pos hi] at hz
      simp only [Option.some.injEq] at hz
      subst hz
      rw [if_pos (by omega), show i * sz + j - i * sz = j by omega] at hy
      exact ⟨hr j y hy, h1 j y hy⟩
    · rw [if_neg hik] at hz
      rw [if_neg (fun hc => by
        obtain ⟨j', hj'⟩ : ∃ j', k * sz + j = i * sz + j' := ⟨k * sz + j - i * sz, by omega⟩
        exact hik (idx_inj (by omega) hj (by omega : i * sz + j' = k * sz + j)).1)] at hy
      exact h.2.2 k j z y hz hj hy
theorem setAll_rep {sz len : Nat} : ∀ (ps : List (Nat × T)) (qs : List (Nat × Value)) (xs : List T) (cs : Array Value), rowCells' c sz xs cs → xs.length = len → ps.length = qs.length →
    (∀ (j : Nat) (p : Nat × T) (q : Nat × Value), ps[j]? = some p → qs[j]? = some q → p.1 = q.1 ∧ p.1 < len ∧ p.2.width = sz ∧ TRep c.w c.cold p.2 q.2) →
    ∃ cs', Instr.fill (fun i => some (i * sz, sz)) cs qs = some cs' ∧ rowCells' c sz (setAll ps xs) cs' ∧ (setAll ps xs).length = len
  | [], [], xs, cs, h, hl, _, _ => ⟨cs, rfl, h, hl⟩
  | p :: ps, q :: qs, xs, cs, h, hlen, hl, hq => by
    obtain ⟨hi, hlt, hw, ht⟩ := hq 0 p q rfl rfl
    obtain ⟨i, x⟩ := p
    obtain ⟨i', y⟩ := q
    simp only at hi hlt hw ht
    subst hi
    obtain ⟨t1, t2, t3⟩ := ht.cells
    rw [hw] at t1
    have hle : i * sz + sz ≤ cs.size := by
      rw [h.1, hlen]
      have : (i + 1) * sz ≤ len * sz := Nat.mul_le_mul_right sz hlt
      rw [Nat.add_mul, Nat.one_mul] at this
      exact this
    obtain ⟨f1, f2⟩ := foldlA_get y.cells (i * sz) cs (by omega)
    have hrow := rowCells_set h.2 (i := i) (by omega) t1 hw t2 t3 f1 (fun j => by rw [f2, t1])
    obtain ⟨cs', hfill, hrep, hln⟩ := setAll_rep ps qs (xs.set i x) _ ⟨by rw [f1, h.1]; simp, hrow⟩ (by simpa using hlen) (by simpa using hl) (fun j p q hp hq' => hq (j + 1) p q hp hq')
    refine ⟨cs', ?_, hrep, hln⟩
    simp only [Instr.fill]
    rw [if_neg (by simp only [ne_eq, Bool.or_eq_true, decide_eq_true_eq, not_or]; exact ⟨fun hc => hc t1, by omega⟩)]
    exact hfill
  | [], _ :: _, _, _, _, _, hl, _ => by simp at hl
  | _ :: _, [], _, _, _, _, hl, _ => by simp at hl
end
end Go.Ax
