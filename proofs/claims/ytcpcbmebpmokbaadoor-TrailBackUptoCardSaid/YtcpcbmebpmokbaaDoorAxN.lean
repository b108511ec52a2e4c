/- Ax, part N: the operations, one by one: stores, append; all of them. -/
import Derived.Test.YtcpcbmebpmokbaaDoorAxM
set_option linter.unusedVariables false
set_option linter.unusedSimpArgs false
namespace Go.Ax
open Go Go.RowKit

section
variable {P : Program} {w0 : Base} {cold0 : Nat → Prop} {N : Nat} {s : St} {a : Act} {c : Cx} {R : Type} {r : R} {o : Oper} {Q : Exit → Act → World → Prop} {k : St → Option R} {ro : Bool}

theorem repL_set {ls : List V} {cs : Array Value} (h : c.repL ls cs) {o' : Nat} (ho : o' < ls.length) {v : V} {y : Value} (hv : c.v1 v y) (h1 : y.oneCell' = true) {cs' : Array Value} (hcs : cs'.size = cs.size)
    (hget : ∀ j, cs'[j]? = if o' ≤ j ∧ j < o' + 1 then #[y][j - o']? else cs[j]?) : c.repL (ls.set o' v) cs' := by
  refine ⟨by rw [hcs, List.length_set]; exact h.1, fun j x hx => ?_, fun j l x hl hx => ?_⟩
  · rw [hget] at hx
    split at hx
    · rename_i hj; rw [show j - o' = 0 by omega] at hx; simp at hx; subst hx; exact h1
    · exact h.2.1 j x hx
  · rw [hget] at hx
    rw [List.getElem?_set] at hl
    split at hx
    · rename_i hj
      rw [if_pos (by omega), if_pos ho] at hl
      rw [show j - o' = 0 by omega] at hx
      simp at hl hx
      subst hl; subst hx
      exact hv
    · rename_i hj
      rw [if_neg (by omega)] at hl
      exact h.2.2 j l x hl hx
theorem stLeaf_rep {m o' : Nat} {w v u : V} {y : Value} {cs cs' : Array Value} (hs : stLeaf m w o' v = some u) (hb : c.bx m w cs) (hsz : cs.size = m) (h1 : ∀ (j : Nat) (x : Value), cs[j]? = some x → x.oneCell' = true)
    (hv : c.v3 v y) (hcs : cs'.size = cs.size) (hget : ∀ j, cs'[j]? = if o' ≤ j ∧ j < o' + 1 then #[y][j - o']? else cs[j]?) :
    y.oneCell' = true ∧ o' < m ∧ c.bx m u cs' := by
  have single : ∀ {v : V}, c.v3 v y → (v.one || v.fnB) = true → m = 1 → o' = 0 → y.oneCell' = true ∧ o' < m ∧ c.bx m v cs' := by
    intro v hv hone hm ho
    obtain ⟨h2, ho1, _⟩ := v2_one hv hone
    subst hm; subst ho
    refine ⟨ho1, by omega, ?_⟩
    have h0 : ∀ x, cs'[0]? = some x → x = y := fun x hx => by
      rw [hget, if_pos (by omega)] at hx
      simpa using hx.symm
    cases v with
    | t e =>
      have hv1 : TRep c.w c.cold e y := hv
      have hna : ∀ ls, e ≠ .agg ls := fun ls he => by
        have := agg_notOne hv1 ls he
        rw [this] at ho1
        cases ho1
      have hw : e.width = 1 := by cases e <;> first | rfl | exact absurd rfl (hna _)
      refine ⟨hw, fun j x hx => ?_⟩
      have hj : j = 0 := by have := (Array.getElem?_eq_some_iff.1 hx).1; omega
      subst hj
      rw [h0 x hx, T.leaf_width hw hna]
      exact hv1
    | agg ls => simp [V.one, V.fnB] at hone
    | tup ls => exact h2.elim
    | junk => simp [V.one, V.fnB] at hone
    | full d => exact ⟨rfl, fun x hx => by rw [h0 x hx]; exact h2⟩
    | rv d p q => exact ⟨rfl, fun x hx => by rw [h0 x hx]; exact h2⟩
    | bp d p => exact ⟨rfl, fun x hx => by rw [h0 x hx]; exact h2⟩
    | rp d p q => exact ⟨rfl, fun x hx => by rw [h0 x hx]; exact h2⟩
    | sp d p => simp [V.one, V.fnB] at hone
    | fb d p => exact ⟨rfl, fun x hx => by rw [h0 x hx]; exact h2⟩
    | fn g q => exact ⟨rfl, fun x hx => by rw [h0 x hx]; exact h2⟩
    | nilv => exact ⟨rfl, fun x hx => by rw [h0 x hx]; exact h2⟩
  unfold stLeaf at hs
  split at hs
  · rename_i ls
    split at hs
    · rename_i hc
      simp only [Option.some.injEq] at hs
      subst hs
      obtain ⟨hv1, ho1⟩ := one_v1 hv hc.1
      have hrep : c.repL ls cs := ⟨by rw [hsz]; exact hb.1.symm, h1, hb.2⟩
      exact ⟨ho1, by have := hb.1; omega, bx_of_repL (repL_set hrep hc.2 hv1 ho1 hcs hget) (by rw [List.length_set]; exact hb.1)⟩
    · cases hs
  · rename_i e
    split at hs
    · rename_i hm
      split at hs
      · cases hs
      · split at hs
        · rename_i hc
          simp only [Option.some.injEq] at hs
          subst hs
          exact single hv hc.2 hm hc.1
        · cases hs
    · obtain ⟨ls, hls, hs⟩ := Option.bind_eq_some_iff.1 hs
      split at hs
      · rename_i hc
        simp only [Option.some.injEq] at hs
        subst hs
        obtain ⟨hv1, ho1⟩ := one_v1 hv hc.1
        have hrep := bx_repL hb hsz h1 hls
        have hll : ls.length = m := by rw [← hrep.1]; exact hsz
        exact ⟨ho1, hc.2, bx_of_repL (repL_set hrep (by omega) hv1 ho1 hcs hget) (by rw [List.length_set]; exact hll)⟩
      · cases hs
  · cases hs
  · cases hs
  all_goals
    split at hs
    · rename_i hc
      simp only [Option.some.injEq] at hs
      subst hs
      exact single hv hc.2.2 hc.1 hc.2.1
    · cases hs
theorem stLeaf_lt {m o' : Nat} {w v u : V} {cs : Array Value} (hs : stLeaf m w o' v = some u) (hb : c.bx m w cs) : o' < m := by
  unfold stLeaf at hs
  split at hs
  · split at hs
    · rename_i hc; have := hb.1; omega
    · cases hs
  · split at hs
    · rename_i hm
      split at hs
      · cases hs
      · split at hs
        · rename_i hc; omega
        · cases hs
    · obtain ⟨ls, _, hs⟩ := Option.bind_eq_some_iff.1 hs
      split at hs
      · rename_i hc; exact hc.2
      · cases hs
  · cases hs
  · cases hs
  all_goals
    split at hs
    · rename_i hc; omega
    · cases hs
theorem T.setLeaf_get {e : T} {o' : Nat} {x : T} {sz : Nat} (hw : e.width = sz) (ho : o' < sz) (hx : x.one = true) : (e.setLeaf o' x).width = sz ∧ ∀ j, j < sz → (e.setLeaf o' x).leaf j = if j = o' then x else e.leaf j := by
  have hx1 : x.width = 1 := by cases x <;> first | rfl | simp [T.one] at hx
  by_cases hagg : ∃ ls, e = .agg ls
  · obtain ⟨ls, rfl⟩ := hagg
    have hw : ls.length = sz := hw
    refine ⟨by show (ls.set o' x).length = sz; simpa using hw, fun j hj => ?_⟩
    show (ls.set o' x).getD j .junk = if j = o' then x else ls.getD j .junk
    simp only [List.getD_eq_getElem?_getD, List.getElem?_set]
    by_cases hjo : j = o'
    · subst hjo; rw [if_pos rfl, if_pos rfl, if_pos (by omega)]; rfl
    · rw [if_neg (fun e => hjo e.symm), if_neg hjo]
  · have hna : ∀ ls, e ≠ .agg ls := fun ls he => hagg ⟨ls, he⟩
    have hs1 : sz = 1 := by rw [← hw]; cases e <;> first | rfl | exact absurd rfl (hna _)
    have he : e.setLeaf o' x = x := by cases e <;> first | rfl | exact absurd rfl (hna _)
    have hxa : ∀ ls, x ≠ .agg ls := fun ls hx' => by rw [hx'] at hx; simp [T.one] at hx
    rw [he]
    refine ⟨by omega, fun j hj => ?_⟩
    rw [if_pos (by omega), show j = 0 by omega, T.leaf_width hx1 hxa]
theorem op_store (h : Rel w0 cold0 N s a c) (hd : okDst N o = true) {t : TypeId} {x y : Operand} (ho : o.op = .store t x y)
    (hk : (if ro = true then none else stTo P t s (s.val x) (s.val y) fun s => k (s.put o.dst (.tup []))) = some r) : o.wp P a c.w (Post w0 cold0 N k r c.w ro) Q := by
  split at hk
  · cases hk
  rename_i hro
  have hx := h.val x
  have hy := h.val y
  have fin : ∀ {s' : St} {c' : Cx}, (Instr.storeAt t (a.eval x) (a.eval y)).run P c.w = .ok () c'.w → Rel w0 cold0 N s' a c' → k (s'.put o.dst (.tup [])) = some r → o.wp P a c.w (Post w0 cold0 N k r c.w ro) Q :=
    fun hrun hR hk => wp_skip' (by simp [execOp, ho, hrun]) hR hd hk hro
  unfold stTo at hk
  simp only [boxK_eq, leavesK_eq, stLeafK_eq] at hk
  split at hk
  · cases hk
  · rename_i n hn
    split at hk
    · rename_i d o' hq
      rw [hq] at hx
      split at hk
      · rename_i m w hob
        obtain ⟨m2, w2, b, ho2, he, hxv⟩ := hx
        have hobj := h.ob d
        rw [hob] at hobj
        obtain ⟨b', cs, E, he', hh, hsz, h1, hbx⟩ := hobj
        rw [he] at he'
        simp only [Option.some.injEq] at he'
        subst he'
        rw [hxv] at fin
        have close : ∀ (u : V), (a.eval y).cells.size = n → (∀ (j : Nat) (z : Value), (a.eval y).cells[j]? = some z → z.oneCell' = true) → o' + n ≤ m →
            (∀ c' : Cx, c.Sim c' → c'.bx m u (cs.toList.take o' ++ (a.eval y).cells.toList ++ cs.toList.drop (o' + n)).toArray) →
            (∀ (j : Nat) (z : Value), ((cs.toList.take o' ++ (a.eval y).cells.toList ++ cs.toList.drop (o' + n)).toArray)[j]? = some z → z.oneCell' = true) →
            k ((s.setOb d (.box m u)).put o.dst (.tup [])) = some r → o.wp P a c.w (Post w0 cold0 N k r c.w ro) Q := by
          intro u hys hyo hle hbx' hone hk
          obtain ⟨p1, p2⟩ := splice_get cs (a.eval y).cells o' n hys (by omega)
          have hl : (s.objs d).like (.box m u) := by rw [hob]; rfl
          have sim := h.updSim d b he cs _ E hh p1 (.box m u) hl
          obtain ⟨hR, _⟩ := h.upd d b he cs _ E hh p1 (.box m u) hl ⟨b, _, E, he, setRow_heap c.w b cs _ E (0, 0) hh, by rw [p1]; exact hsz, hone, hbx' _ sim⟩
          exact fin (run_storeVar hn hys hyo hh (by omega)) hR hk
        have hall : ∀ {ls : List V}, (∀ (j : Nat) (z : Value), (a.eval y).cells[j]? = some z → z.oneCell' = true) → (a.eval y).cells.size = n → o' + n ≤ m →
            ∀ (j : Nat) (z : Value), ((cs.toList.take o' ++ (a.eval y).cells.toList ++ cs.toList.drop (o' + n)).toArray)[j]? = some z → z.oneCell' = true := by
          intro ls hyo hys hle j z hz
          obtain ⟨p1, p2⟩ := splice_get cs (a.eval y).cells o' n hys (by omega)
          rw [p2] at hz
          split at hz
          · exact hyo _ z hz
          · exact h1 j z hz
        split at hk
        · rename_i hagg
          split at hk
          · rename_i hc
            obtain ⟨h0, hnm⟩ := hc
            subst hnm
            obtain ⟨u, hu, hk⟩ := Option.bind_eq_some_iff.1 hk
            obtain ⟨rfl, q1, q2, q3⟩ := boxable_rep hu hy
            have hwhole : (cs.toList.take o' ++ (a.eval y).cells.toList ++ cs.toList.drop (o' + n)).toArray = (a.eval y).cells := by
              rw [h0, List.take_zero, List.nil_append, List.drop_of_length_le (by simp; omega), List.append_nil]
            refine close _ q1 q2 (by omega) (fun c' sim => ?_) (fun j z hz => ?_) hk
            · rw [hwhole]; exact sim.bx q3
            · rw [hwhole] at hz; exact q2 j z hz
          · obtain ⟨ls, hls, hk⟩ := Option.bind_eq_some_iff.1 hk
            obtain ⟨vs, hvs, hk⟩ := Option.bind_eq_some_iff.1 hk
            split at hk
            · rename_i hle
              obtain ⟨ys, hyv, hyn, hrepv⟩ := leaves_rep hy hvs
              have hrepl := bx_repL hbx hsz h1 hls
              have hll : ls.length = m := by rw [← hrepl.1]; exact hsz
              have hvl : vs.length = n := by rw [← hrepv.1]; exact hyn
              have hcells : (a.eval y).cells = ys := by rw [hyv]; rfl
              refine close _ (by rw [hcells]; exact hyn) (by rw [hcells]; exact hrepv.2.1) hle (fun c' sim => ?_) (hall (ls := ls) (by rw [hcells]; exact hrepv.2.1) (by rw [hcells]; exact hyn) hle) hk
              obtain ⟨l1, l2⟩ := lset_get ls vs o' (by omega)
              obtain ⟨p1, p2⟩ := splice_get cs (a.eval y).cells o' n (by rw [hcells]; exact hyn) (by omega)
              refine bx_of_repL ⟨by rw [p1, l1]; exact hrepl.1, fun j z hz => ?_, fun j l z hl hz => ?_⟩ (by rw [l1]; exact hll)
              · rw [p2] at hz
                split at hz
                · rw [hcells] at hz; exact hrepv.2.1 _ z hz
                · exact h1 j z hz
              · rw [p2] at hz
                rw [l2, hvl] at hl
                split at hz
                · rename_i hj; rw [if_pos hj] at hl; rw [hcells] at hz; exact sim.v1 (hrepv.2.2 _ l z hl hz)
                · rename_i hj; rw [if_neg hj] at hl; exact sim.v1 (hrepl.2.2 j l z hl hz)
            · cases hk
        · split at hk
          · rename_i hn1
            subst hn1
            obtain ⟨u, hu, hk⟩ := Option.bind_eq_some_iff.1 hk
            have hltm := stLeaf_lt hu hbx
            have hone1 : (a.eval y).oneCell' = true ∧ o' < m := by
              have := stLeaf_rep (c := c) (cs := cs) (cs' := cs.setIfInBounds o' (a.eval y)) hu hbx hsz h1 hy (by simp) (fun j => by
                rw [Array.getElem?_setIfInBounds]
                by_cases hj : o' = j
                · subst hj
                  have hc1 : o' < cs.size := by omega
                  have hc2 : o' ≤ o' ∧ o' < o' + 1 := by omega
                  rw [if_pos rfl, if_pos hc1, if_pos hc2, Nat.sub_self]
                  rfl
                · have hc2 : ¬ (o' ≤ j ∧ j < o' + 1) := by omega
                  rw [if_neg hj, if_neg hc2])
              exact ⟨this.1, this.2.1⟩
            obtain ⟨hyo, hlt⟩ := hone1
            have hcells : (a.eval y).cells = #[a.eval y] := cells_one hyo
            have hyall : ∀ (j : Nat) (z : Value), (a.eval y).cells[j]? = some z → z.oneCell' = true := fun j z hz => by
              rw [hcells] at hz
              cases j <;> simp at hz
              subst hz; exact hyo
            refine close u (by rw [hcells]; rfl) hyall (by omega) (fun c' sim => ?_) (hall (ls := []) hyall (by rw [hcells]; rfl) (by omega)) hk
            obtain ⟨p1, p2⟩ := splice_get cs (a.eval y).cells o' 1 (by rw [hcells]; rfl) (by omega)
            exact (stLeaf_rep (c := c') hu (sim.bx hbx) hsz h1 (sim.v3 hy) p1 (fun j => by rw [p2, hcells])).2.2
          · cases hk
      · cases hk
    · rename_i d i o' hq
      rw [hq] at hx
      split at hk
      · rename_i sz xs hob
        obtain ⟨p, hp, hk⟩ := Option.bind_eq_some_iff.1 hk
        obtain ⟨e, hei, hk⟩ := Option.bind_eq_some_iff.1 hk
        obtain ⟨sz2, xs2, b, ho2, hi, he, hxv⟩ := hx
        rw [h.objs, hob] at ho2
        simp only [Ob.row.injEq] at ho2
        obtain ⟨rfl, rfl⟩ := ho2
        have hobj := h.ob d
        rw [hob] at hobj
        rcases hobj with ⟨hnn, _⟩ | ⟨b', cs, E, he', hh, hrow⟩
        · rw [he] at hnn; cases hnn
        rw [he] at he'
        simp only [Option.some.injEq] at he'
        subst he'
        rw [hxv] at fin
        -- with ro the value is as it is
        obtain ⟨hpt, hpd⟩ : p.2 = s ∧ TRep c.w c.cold p.1 (a.eval y) := by
          have plain : ∀ v : V, v = s.val y → (bif v.hot then none else (v.out s.objs).bind fun x => some (x, s)) = some p → p.2 = s ∧ TRep c.w c.cold p.1 (a.eval y) := fun v hv hp => by
            subst hv
            cases hh' : (s.val y).hot with
            | true => simp [hh'] at hp
            | false =>
              simp only [hh', cond_false] at hp
              obtain ⟨z, hz, hp⟩ := Option.bind_eq_some_iff.1 hp
              simp only [Option.some.injEq] at hp
              subst hp
              exact ⟨rfl, out_cold hy hh' hz⟩
          unfold frz at hp
          split at hp
          · simp at hp
          · rename_i ls hv
            exact plain _ hv.symm (by simpa using hp)
          · exact plain _ rfl hp
        have hew : e.width = sz := hrow.2.1 e (List.mem_of_getElem? hei)
        have hfit : i * sz + sz ≤ cs.size := by
          have : (i + 1) * sz ≤ xs.length * sz := Nat.mul_le_mul_right sz hi
          rw [Nat.add_mul, Nat.one_mul] at this
          have := hrow.1
          omega
        obtain ⟨t1, t2, t3⟩ := hpd.cells
        have close : ∀ (z : T), (a.eval y).cells.size = n → i * sz + o' + n ≤ cs.size →
            c.rowCells sz (xs.set i z) (cs.toList.take (i * sz + o') ++ (a.eval y).cells.toList ++ cs.toList.drop (i * sz + o' + n)).toArray →
            k ((s.setOb d (.row sz (xs.set i z))).put o.dst (.tup [])) = some r → o.wp P a c.w (Post w0 cold0 N k r c.w ro) Q := by
          intro z hys hle hrow' hk
          obtain ⟨p1, p2⟩ := splice_get cs (a.eval y).cells (i * sz + o') n hys hle
          have hl : (s.objs d).like (.row sz (xs.set i z)) := by rw [hob]; exact ⟨rfl, by simp⟩
          have sim := h.updSim d b he cs _ E hh p1 (.row sz (xs.set i z)) hl
          obtain ⟨hR, _⟩ := h.upd d b he cs _ E hh p1 (.row sz (xs.set i z)) hl (.inr ⟨b, _, E, he, setRow_heap c.w b cs _ E (0, 0) hh, sim.rowCells hrow'⟩)
          exact fin (run_storeVar hn hys t2 hh hle) hR hk
        split at hk
        · split at hk
          · rename_i hc
            obtain ⟨h0, hnsz⟩ := hc
            split at hk
            · rename_i hpw
              obtain ⟨p1, p2⟩ := splice_get cs (a.eval y).cells (i * sz + o') n (by omega) (by omega)
              refine close p.1 (by omega) (by omega) (rowCells_set hrow hi (by omega) hpw t2 t3 p1 (fun j => by rw [p2, h0, hnsz, Nat.add_zero])) hk
            · cases hk
          · cases hk
        · split at hk
          · rename_i hc
            obtain ⟨hn1, hone, hos⟩ := hc
            have hp1w : p.1.width = 1 := by cases hpp : p.1 <;> first | rfl | (rw [hpp] at hone; simp [T.one] at hone)
            have hyo : (a.eval y).oneCell' = true := by
              cases hyy : (a.eval y).oneCell' with
              | true => rfl
              | false =>
                exfalso
                have : ∀ z : T, z.one = true → ∀ u, TRep c.w c.cold z u → u.oneCell' = true := fun z hz u hu => by
                  cases hu <;> first | rfl | assumption | simp [T.one] at hz
                rw [this p.1 hone _ hpd] at hyy
                cases hyy
            have hcells : (a.eval y).cells = #[a.eval y] := cells_one hyo
            obtain ⟨e1, e2⟩ := T.setLeaf_get hew hos hone
            obtain ⟨p1, p2⟩ := splice_get cs (a.eval y).cells (i * sz + o') n (by omega) (by omega)
            have hxa : ∀ ls, p.1 ≠ .agg ls := fun ls hx' => by rw [hx'] at hone; simp [T.one] at hone
            refine close (e.setLeaf o' p.1) (by omega) (by omega) ?_ hk
            -- the element's cells, anew
            refine rowCells_set hrow hi (x := e.setLeaf o' p.1) (ys := (Array.range sz).map fun j => if j = o' then a.eval y else cs.getD (i * sz + j) undef) (by simp) e1 (fun j u hu => ?_) (fun j u hu => ?_) p1 (fun j => ?_)
            · rw [Array.getElem?_map] at hu
              obtain ⟨q, hq', rfl⟩ := Option.map_eq_some_iff.1 hu
              have hqj : q = j ∧ j < sz := by
                rw [Array.getElem?_range] at hq'
                split at hq' <;> simp_all
              obtain ⟨rfl, hj⟩ := hqj
              split
              · exact hyo
              · have hg : cs[i * sz + q]? = some (cs[i * sz + q]'(by omega)) := Array.getElem?_eq_getElem (by omega)
                rw [Array.getD_eq_getD_getElem?, hg]
                exact (hrow.2.2 i q e _ hei hj hg).2
            · rw [Array.getElem?_map] at hu
              obtain ⟨q, hq', rfl⟩ := Option.map_eq_some_iff.1 hu
              have hqj : q = j ∧ j < sz := by
                rw [Array.getElem?_range] at hq'
                split at hq' <;> simp_all
              obtain ⟨rfl, hj⟩ := hqj
              rw [e2 q hj]
              split
              · exact hpd
              · have hg : cs[i * sz + q]? = some (cs[i * sz + q]'(by omega)) := Array.getElem?_eq_getElem (by omega)
                rw [Array.getD_eq_getD_getElem?, hg]
                exact (hrow.2.2 i q e _ hei hj hg).1
            · rw [p2, hcells, hn1]
              by_cases hin : i * sz ≤ j ∧ j < i * sz + sz
              · have hj' : j - i * sz < sz := by omega
                rw [if_pos hin, Array.getElem?_map, Array.getElem?_range, if_pos hj', Option.map_some]
                by_cases hjo : i * sz + o' ≤ j ∧ j < i * sz + o' + 1
                · have h5 : j - i * sz = o' := by omega
                  rw [if_pos hjo, if_pos h5, show j - (i * sz + o') = 0 by omega]
                  rfl
                · have h5 : ¬ j - i * sz = o' := by omega
                  have h6 : j < cs.size := by omega
                  rw [if_neg hjo, if_neg h5, show i * sz + (j - i * sz) = j by omega, Array.getD_eq_getD_getElem?, Array.getElem?_eq_getElem h6]
                  rfl
              · have h7 : ¬ (i * sz + o' ≤ j ∧ j < i * sz + o' + 1) := by omega
                rw [if_neg hin, if_neg h7]
          · cases hk
      · cases hk
    · cases hk
end
end Go.Ax
