/- Ax, part O: append; then all operations. -/
import Derived.Test.YtcpcbmebpmokbaaDoorAxN
set_option linter.unusedVariables false
set_option linter.unusedSimpArgs false
namespace Go.Ax
open Go Go.RowKit

section
variable {P : Program} {w0 : Base} {cold0 : Nat → Prop} {N : Nat} {s : St} {a : Act} {c : Cx} {R : Type} {r : R} {o : Oper} {Q : Exit → Act → World → Prop} {k : St → Option R} {ro : Bool}

/-- a cold list's elements, out of its cells -/
theorem lst_cells {w : World} {cold : Nat → Prop} {ys : List T} {y : Value} (h : TRep w cold (.lst ys) y) {sz : Nat} (hw : ∀ x, x ∈ ys → x.width = sz) :
    ∃ cells : Array Value, (Builtin.lenOf y).run P w = .ok ys.length w ∧ (∀ w' : World, w'.heap = w.heap → (Builtin.firstCells sz ys.length y).run P w' = .ok cells w') ∧ rowCells' ⟨w, cold, fun _ => none, fun _ => .none⟩ sz ys cells := by
  cases h with
  | lst0 ad cap =>
    refine ⟨#[], rfl, fun w' _ => ?_, by simp, by simp, by simp, fun i j x y hx => by simp at hx⟩
    cases ad with
    | none => rfl
    | some p => simp [Builtin.firstCells, loadCells, loadCellsFrom]
  | lst _ b off cap sz' cv hcap hc hws hcell h1 hr =>
    by_cases hz : ys.length = 0
    · have : ys = [] := List.length_eq_zero_iff.1 hz
      subst this
      exact ⟨#[], rfl, fun w' _ => by simp [Builtin.firstCells, loadCells, loadCellsFrom], by simp, by simp, by simp, fun i j x y hx => by simp at hx⟩
    have hss : sz' = sz := by
      have hm : ys[0]'(by omega) ∈ ys := List.getElem_mem _
      rw [← hws _ hm, hw _ hm]
    subst hss
    have hcl : ∀ j, j < ys.length * sz' → ∃ i q, j = i * sz' + q ∧ i < ys.length ∧ q < sz' := fun j hj => by
      have h0 : 0 < sz' := by
        rcases Nat.eq_zero_or_pos sz' with h | h
        · subst h; simp at hj
        · exact h
      refine ⟨j / sz', j % sz', by rw [Nat.mul_comm, Nat.div_add_mod], ?_, Nat.mod_lt _ h0⟩
      exact (Nat.div_lt_iff_lt_mul h0).2 hj
    have hload : ∀ w' : World, w'.heap = w.heap → _ := fun w' hw' => run_loadCells (P := P) w' ⟨b, off, none⟩ (ys.length * sz') (fun j => cv (j / sz') (j % sz')) (fun j hj => by
      obtain ⟨i, q, hjq, hi, hq⟩ := hcl j hj
      have h0 : 0 < sz' := by omega
      have e1 : j / sz' = i := by rw [hjq, Nat.mul_comm, Nat.mul_add_div h0, Nat.div_eq_of_lt hq, Nat.add_zero]
      have e2 : j % sz' = q := by rw [hjq, Nat.mul_comm, Nat.mul_add_mod, Nat.mod_eq_of_lt hq]
      rw [add_lit, World.cell?_of_block (w := w) (by rw [hw'])]
      show _ = some (cv (j / sz') (j % sz'))
      rw [e1, e2, hjq, ← Nat.add_assoc]
      exact hcell i q hi hq)
    refine ⟨_, rfl, hload, by simp, by simp, hws, fun i j x y hx hj hy => ?_⟩
    have hi : i < ys.length := (List.getElem?_eq_some_iff.1 hx).1
    have h0 : 0 < sz' := by omega
    have e1 : (i * sz' + j) / sz' = i := by rw [Nat.mul_comm, Nat.mul_add_div h0, Nat.div_eq_of_lt hj, Nat.add_zero]
    have e2 : (i * sz' + j) % sz' = j := by rw [Nat.mul_comm, Nat.mul_add_mod, Nat.mod_eq_of_lt hj]
    simp only [List.getElem?_toArray, List.getElem?_map] at hy
    obtain ⟨q, hq, rfl⟩ := Option.map_eq_some_iff.1 hy
    obtain ⟨hql, rfl⟩ := List.getElem?_eq_some_iff.1 hq
    simp only [List.getElem_range, e1, e2]
    exact ⟨hr i x j hx hj, h1 i j hi hj⟩
theorem srcOf_run (h : Rel w0 cold0 N s a c) {u : V} {y : Value} (hv : c.v3 u y) {ys : List T} (hs : srcOf s.objs u = some ys) {sz : Nat} (hw : ∀ x, x ∈ ys → x.width = sz) :
    ∃ cells : Array Value, (Builtin.lenOf y).run P c.w = .ok ys.length c.w ∧ (∀ w' : World, w'.heap = c.w.heap → (Builtin.firstCells sz ys.length y).run P w' = .ok cells w') ∧ rowCells' c sz ys cells := by
  have row : ∀ {d : Nat} {z : Nat} {xs : List T} {b : Nat} (off len cap : Nat), s.objs d = .row z xs → c.eta d = some b → off + len ≤ xs.length → ys = (xs.drop off).take len → y = .slice (some ⟨b, off * z, none⟩) len cap →
      ∃ cells : Array Value, (Builtin.lenOf y).run P c.w = .ok ys.length c.w ∧ (∀ w' : World, w'.heap = c.w.heap → (Builtin.firstCells sz ys.length y).run P w' = .ok cells w') ∧ rowCells' c sz ys cells := by
    intro d z xs b off len cap hob he hle hys hy
    have hobj := h.ob d
    rw [hob] at hobj
    rcases hobj with ⟨hnn, _⟩ | ⟨b', cs, E, he', hh, hrow⟩
    · rw [he] at hnn; cases hnn
    rw [he] at he'
    simp only [Option.some.injEq] at he'
    subst he'
    have hlen : ys.length = len := by rw [hys, List.length_take, List.length_drop]; omega
    by_cases hz : len = 0
    · subst hz
      have : ys = [] := List.length_eq_zero_iff.1 hlen
      subst this
      subst hy
      exact ⟨#[], rfl, fun w' _ => by simp [Builtin.firstCells, loadCells, loadCellsFrom], by simp, by simp, by simp, fun i j x y hx => by simp at hx⟩
    have hget : ∀ i, i < len → ys[i]? = xs[off + i]? := fun i hi => by rw [hys, List.getElem?_take_of_lt hi, List.getElem?_drop]
    have hss : z = sz := by
      have h0 : ys[0]? = some (ys[0]'(by omega)) := List.getElem?_eq_getElem (by omega)
      have hm := List.mem_of_getElem? h0
      rw [hget 0 (by omega)] at h0
      rw [← hrow.2.1 _ (List.mem_of_getElem? h0), hw _ hm]
    subst hss
    subst hy
    have hin : ∀ i j, i < len → j < z → (off + i) * z + j < cs.size := fun i j hi hj => by
      have := div_lt_of (i := off + i) (j := j) (n := xs.length) (sz := z) (by omega) hj
      have := hrow.1
      omega
    have hload : ∀ w' : World, w'.heap = c.w.heap → _ := fun w' hw' => run_loadCells (P := P) w' ⟨b, off * z, none⟩ (len * z) (fun j => cs.getD (off * z + j) undef) (fun j hj => by
      rw [add_lit, World.cell?_of_block (w := c.w) (by rw [hw']), cell_block hh, Array.getD_eq_getD_getElem?]
      have h0 : 0 < z := by
        rcases Nat.eq_zero_or_pos z with h | h
        · subst h; simp at hj
        · exact h
      have : off * z + j < cs.size := by
        have h1 := hin (j / z) (j % z) ((Nat.div_lt_iff_lt_mul h0).2 hj) (Nat.mod_lt _ h0)
        have h2 : z * (j / z) + j % z = j := Nat.div_add_mod j z
        rw [Nat.add_mul, Nat.mul_comm (j / z) z] at h1
        omega
      simp [this])
    refine ⟨_, by rw [hlen]; rfl, by rw [hlen]; exact hload, by simp [hlen], by simp [hlen], fun x hx => hrow.2.1 x (by rw [hys] at hx; exact List.mem_of_mem_drop (List.mem_of_mem_take hx)), fun i j x u hx hj hu => ?_⟩
    have hi : i < len := by have := (List.getElem?_eq_some_iff.1 hx).1; omega
    rw [hget i hi] at hx
    simp only [List.getElem?_toArray, List.getElem?_map] at hu
    obtain ⟨q, hq, rfl⟩ := Option.map_eq_some_iff.1 hu
    obtain ⟨hql, rfl⟩ := List.getElem?_eq_some_iff.1 hq
    simp only [List.getElem_range]
    have h1 := hin i j hi hj
    have e : off * z + (i * z + j) = (off + i) * z + j := by rw [Nat.add_mul]; omega
    rw [e]
    have hg : cs[(off + i) * z + j]? = some (cs[(off + i) * z + j]'h1) := Array.getElem?_eq_getElem h1
    rw [Array.getD_eq_getD_getElem?, hg]
    exact hrow.2.2 (off + i) j x _ hx hj hg
  have nil : ∀ (ad : Option Addr) (cap : Nat), ys = [] → y = .slice ad 0 cap → ∃ cells : Array Value, (Builtin.lenOf y).run P c.w = .ok ys.length c.w ∧ (∀ w' : World, w'.heap = c.w.heap → (Builtin.firstCells sz ys.length y).run P w' = .ok cells w') ∧ rowCells' c sz ys cells := by
    intro ad cap hys hy
    subst hys; subst hy
    refine ⟨#[], rfl, fun w' _ => ?_, by simp, by simp, by simp, fun i j x y hx => by simp at hx⟩
    cases ad with
    | none => rfl
    | some p => simp [Builtin.firstCells, loadCells, loadCellsFrom]
  unfold srcOf at hs
  split at hs
  · simp only [Option.some.injEq] at hs
    subst hs
    obtain ⟨cells, q1, q2, q3, q4⟩ := lst_cells (P := P) hv hw
    exact ⟨cells, q1, q2, q3, q4⟩
  · rename_i b
    simp only [Option.some.injEq] at hs
    have hp := v3_str hv rfl
    subst hp
    have hlen : ys.length = b.size := by rw [← hs]; simp
    refine ⟨(b.extract 0 ys.length).data.map fun u => .int .u8 u.toNat, by rw [hlen]; rfl, fun _ _ => rfl, ?_⟩
    have hext : (b.extract 0 ys.length).data = b.data := by rw [hlen]; simp
    rw [hext]
    by_cases hz : ys.length = 0
    · have h0 : ys = [] := List.length_eq_zero_iff.1 hz
      have hb : b.data = #[] := Array.eq_empty_of_size_eq_zero (by have : b.data.size = b.size := rfl; omega)
      rw [hb, h0]
      exact ⟨by simp, by simp, by simp, fun i j x y hx => by simp at hx⟩
    · have hsz : sz = 1 := by
        have hm : ys[0]'(by omega) ∈ ys := List.getElem_mem _
        have := hw _ hm
        have h2 : (ys[0]'(by omega)).width = 1 := by
          subst hs
          simp [T.width]
        omega
      subst hsz
      have hbs : b.data.size = b.size := rfl
      refine ⟨by simp [hlen, hbs], by simp [hlen, hbs], hw, fun i j x u hx hj hu => ?_⟩
      have hj0 : j = 0 := by omega
      subst hj0
      simp only [Nat.mul_one, Nat.add_zero, Array.getElem?_map] at hu
      obtain ⟨q, hq, rfl⟩ := Option.map_eq_some_iff.1 hu
      rw [← hs, List.getElem?_map, Array.getElem?_toList, hq, Option.map_some, Option.some.injEq] at hx
      subst hx
      exact ⟨.int _ _, rfl⟩
  · simp only [Option.some.injEq] at hs
    exact nil none 0 hs.symm hv
  · rename_i d
    split at hs
    · rename_i z xs hob
      simp only [Option.some.injEq] at hs
      subst hs
      obtain ⟨sz2, xs2, ho2, hr⟩ := hv
      rw [h.objs, hob] at ho2
      simp only [Ob.row.injEq] at ho2
      obtain ⟨rfl, rfl⟩ := ho2
      rcases hr with ⟨_, hxs, hy⟩ | ⟨b, cap, cs, F, he, hy, hcap, hh, hszc⟩
      · exact nil none 0 hxs hy
      · exact row 0 xs.length cap hob he (by omega) (by simp) (by simpa using hy)
    · cases hs
  · rename_i d off len
    split at hs
    · rename_i z xs hob
      simp only [Option.some.injEq] at hs
      obtain ⟨sz2, xs2, ho2, hle, hr⟩ := hv
      rw [h.objs, hob] at ho2
      simp only [Ob.row.injEq] at ho2
      obtain ⟨rfl, rfl⟩ := ho2
      rcases hr with ⟨hl, ad, cap, hy⟩ | ⟨b, cap, he, hy, hcap⟩
      · exact nil ad cap (by rw [← hs, hl, List.take_zero]) (by rw [hy])
      · exact row off len cap hob he hle hs.symm hy
    · cases hs
  · cases hs

theorem rowCells_append {sz : Nat} {xs ys : List T} {cs ds es : Array Value} (h : c.rowCells sz xs cs) (h2 : rowCells' c sz ys ds) (hes : (xs.length + ys.length) * sz ≤ es.size)
    (g1 : ∀ j, j < xs.length * sz → es[j]? = cs[j]?) (g2 : ∀ j, j < ys.length * sz → es[xs.length * sz + j]? = ds[j]?) : c.rowCells sz (xs ++ ys) es := by
  refine ⟨by simpa using hes, fun x hx => ?_, fun i j x y hx hj hy => ?_⟩
  · rcases List.mem_append.1 hx with hx | hx
    · exact h.2.1 x hx
    · exact h2.2.2.1 x hx
  · rw [List.getElem?_append] at hx
    split at hx
    · rename_i hi
      rw [g1 _ (div_lt_of hi hj)] at hy
      exact h.2.2 i j x y hx hj hy
    · rename_i hi
      have hi2 : i - xs.length < ys.length := (List.getElem?_eq_some_iff.1 hx).1
      have e : i * sz + j = xs.length * sz + ((i - xs.length) * sz + j) := by
        have : i = xs.length + (i - xs.length) := by omega
        rw [this, Nat.add_mul, Nat.add_sub_cancel_left]
        omega
      rw [e, g2 _ (div_lt_of hi2 hj)] at hy
      exact h2.2.2.2 (i - xs.length) j x y hx hj hy
theorem zeroCells_size (z : Array Value) (n : Nat) : (Builtin.zeroCells z n).size = n * z.size := by simp [Builtin.zeroCells]

/-- append, as it runs -/
theorem growBy_le (need : Nat) : ∀ (r c : Nat), c ≤ need → Builtin.growBy need r c ≤ need + (need + 768) / 4
  | 0, c, h => by unfold Builtin.growBy; omega
  | r + 1, c, h => by
    unfold Builtin.growBy
    split
    · omega
    · by_cases hc : c + (c + 768) / 4 ≤ need
      · exact growBy_le need r _ hc
      · -- one round more: it is enough
        have : ∀ r, Builtin.growBy need r (c + (c + 768) / 4) = c + (c + 768) / 4 := fun r => by
          cases r with
          | zero => rfl
          | succ r => unfold Builtin.growBy; rw [if_pos (by omega)]
        rw [this]
        omega
theorem fitsB_grown {need old b : Nat} (h : old < need) (hf : fitsB need b = true) : Builtin.nextslicecap need old * b ≤ 281474976710656 := by
  unfold fitsB at hf
  simp only [Bool.or_eq_true, Bool.and_eq_true, Nat.ble_eq] at hf
  rcases hf with hf | ⟨hb, hf⟩
  · have := growslice_fits (need := need) (old := old) (bytes := b) h hf
    simpa using this
  · have hn : Builtin.nextslicecap need old ≤ need + need / 4 + 512 := by
      unfold Builtin.nextslicecap
      split
      · omega
      · split
        · omega
        · have := growBy_le need 4 old (by omega)
          omega
    have h1 : Builtin.nextslicecap need old * b ≤ (need + need / 4 + 512) * b := Nat.mul_le_mul_right _ hn
    have h2 : (need + need / 4 + 512) * b = need * b + (need / 4) * b + 512 * b := by rw [Nat.add_mul, Nat.add_mul]
    have h3 : (need / 4) * b * 4 ≤ need * b := by
      rw [Nat.mul_right_comm]
      exact Nat.mul_le_mul_right _ (Nat.div_mul_le_self need 4)
    omega
theorem run_append_any {argTypes : Array TypeId} {sT xT E ty : TypeId} {i : TypeInfo} {z : Value} (ha : argTypes[0]? = some sT) (hb : argTypes[1]? = some xT) (hu : P.underlying sT = some (.slice E)) (hi : P.info? E = some i) (hz : i.zero = some z)
    (hx : ∃ d, P.underlying xT = some d ∧ ∀ q, d ≠ .int q) (hby : i.bytes ≠ 0) {base : Option Addr} {sLen sCap : Nat} {y : Value} {w : World} {n : Nat} {news olds : Array Value}
    (hlen : (Builtin.lenOf y).run P w = .ok n w) (hnew : ∀ w' : World, w'.heap = w.heap → (Builtin.firstCells i.size n y).run P w' = .ok news w') (hold : ∀ w' : World, w'.heap = w.heap → (Builtin.firstCells i.size sLen (.slice base sLen sCap)).run P w' = .ok olds w')
    (hfit : fitsB (sLen + n) i.bytes = true) :
    (Builtin.append_ argTypes ty #[.slice base sLen sCap, y]).run P w = if sLen + n ≤ sCap then
      ((match base with | some a => storeCells (a.add (sLen * i.size)) news.toList | none => pure ()).run P w).andThen fun _ w => .ok (.slice base (sLen + n) sCap) w
      else .ok (.slice (some ⟨w.heap.size, 0, none⟩) (sLen + n) (grownCap w (sLen + n) sCap E))
        (w.drew.alloc (.cells (olds ++ news ++ Builtin.zeroCells z.cells (grownCap w (sLen + n) sCap E - (sLen + n))) E)) := by
  obtain ⟨d, hd, hdi⟩ := hx
  have hsz : szOf P E = some i.size := by simp [szOf, hi]
  unfold Builtin.append_
  simp only [ha, hb, Array.getElem?_eq_getElem, List.size_toArray, List.length_cons, List.length_nil, Nat.zero_add, Nat.reduceAdd, Nat.zero_lt_succ, Nat.one_lt_succ_succ, List.getElem_toArray, List.getElem_cons_zero, List.getElem_cons_succ]
  rw [Sem.run_bind, run_underlying hu, Result.andThen_ok]
  simp only
  rw [Sem.run_bind, run_sizeOf' hsz, Result.andThen_ok]
  rw [Sem.run_bind, run_underlying hd, Result.andThen_ok]
  simp only
  rw [Sem.run_bind, Sem.run_pure, Result.andThen_ok]
  simp only [Result.andThen_ok, Bool.false_eq_true, if_false, Bool.not_false, if_true]
  rw [Sem.run_bind, hlen, Result.andThen_ok]
  by_cases hc : sLen + n ≤ sCap
  · rw [if_pos hc, if_pos hc]
    rw [Sem.run_bind, hnew w rfl, Result.andThen_ok]
    cases base with
    | none => rfl
    | some p => simp only [Sem.run_bind]; rfl
  · rw [if_neg hc, if_neg hc]
    have h1 : ¬ (((sLen + n : Nat) : Int) > IntKind.i64.max ∧ (false = true ∨ i.bytes = 0)) := fun h => by
      rcases h.2 with h | h
      · cases h
      · exact hby h
    have h2 : ¬ (Builtin.nextslicecap (sLen + n) sCap * i.bytes > 2 ^ 48) := by
      have := fitsB_grown (need := sLen + n) (old := sCap) (b := i.bytes) (by omega) hfit
      simp
      omega
    rw [Sem.run_bind, run_typeInfo' hi, Result.andThen_ok]
    try simp only
    rw [if_neg (by simpa using h1)]
    rw [Sem.run_bind, run_typeInfo' hi, Result.andThen_ok]
    try simp only
    rw [if_neg h2]
    have hch : ∀ (w : World), (choose (.appendCap (sLen + n) sCap E)).run P w = .ok (grownCap w (sLen + n) sCap E) w.drew := fun w => by
      rw [run_choose]
      rfl
    have hold' : (Builtin.firstCells i.size sLen (.slice base sLen sCap)).run P w.drew = .ok olds w.drew := hold _ rfl
    have hnew' : (Builtin.firstCells i.size n y).run P w.drew = .ok news w.drew := hnew _ rfl
    rw [Sem.run_bind, hch, Result.andThen_ok, Sem.run_bind, run_typeInfo' hi, Result.andThen_ok]
    rw [Sem.run_bind, run_askRoom, Result.andThen_ok, Sem.run_bind, hold', Result.andThen_ok, Sem.run_bind, hnew', Result.andThen_ok, Sem.run_bind, run_zeroValue hi hz, Result.andThen_ok]
    simp [newRow]
    rfl
/-- a row over a block that nobody holds, which was written, or is new -/
theorem rowOver (h : Rel w0 cold0 N s a c) {d sz b : Nat} {xs : List T} {E : TypeId} {cs : Array Value} {cap : Nat} (hd : d < N) (hfree : s.objs d = .none)
    (hb : ¬ c.cold b ∧ ¬ w0.F b ∧ b < c.w.heap.size ∧ ∀ e, s.objs e ≠ .none → c.eta e ≠ some b) (hh : c.w.heap[b]? = some (.cells cs E (0, 0)))
    (hcap : xs.length ≤ cap) (hcs : cap * sz ≤ cs.size) (hrow : c.rowCells sz xs cs) :
    ∃ c', c'.w = c.w ∧ Rel w0 cold0 N ((s.setOb d (.row sz xs)).putN d (.full d)) (a.put (some d) (.slice (some ⟨b, 0, none⟩) xs.length cap)) c' := by
  have hR2 := h.addOb d hfree (some b) (.row sz xs) (fun b' hb' => by
    simp only [Option.some.injEq] at hb'
    subst hb'
    exact hb)
    (.inr ⟨b, cs, E, Cx.add_eta .., hh, (Cx.Sim.add _ d (by rw [h.objs]; exact hfree) _ _).rowCells hrow⟩) (fun n u h => by cases h)
  exact ⟨c.add d (some b) (.row sz xs), rfl, hR2.put (some d) (fun e he => by simp only [Option.some.injEq] at he; omega) (v := .full d)
    ⟨sz, xs, Cx.add_objs .., .inr ⟨b, cap, cs, E, Cx.add_eta .., rfl, hcap, hh, hcs⟩⟩⟩
/-- an empty row without a block -/
theorem rowNil (h : Rel w0 cold0 N s a c) {d sz : Nat} (hd : d < N) (hfree : s.objs d = .none) :
    ∃ c', c'.w = c.w ∧ Rel w0 cold0 N ((s.setOb d (.row sz [])).putN d (.full d)) (a.put (some d) (.slice none 0 0)) c' := by
  have hR2 := h.addOb d hfree none (.row sz []) (fun b' hb' => by cases hb') (.inl ⟨Cx.add_eta .., rfl⟩) (fun n u h => by cases h)
  exact ⟨c.add d none (.row sz []), rfl, hR2.put (some d) (fun e he => by simp only [Option.some.injEq] at he; omega) (v := .full d) ⟨sz, [], Cx.add_objs .., .inl ⟨Cx.add_eta .., rfl, rfl⟩⟩⟩
/-- a row over a block that nobody holds, which was written, or is new -/
theorem rowOverB (h : Rel w0 cold0 N s a c) {d sz b : Nat} {xs : List T} {E : TypeId} {cs : Array Value} {cap : Nat} (hd : d < N) (hfree : s.objs d = .none)
    (hb : ¬ c.cold b ∧ ¬ w0.F b ∧ b < c.w.heap.size ∧ ∀ e, s.objs e ≠ .none → c.eta e ≠ some b) (hh : c.w.heap[b]? = some (.cells cs E (0, 0)))
    (hcap : xs.length ≤ cap) (hcs : cap * sz ≤ cs.size) (hrow : c.rowCells sz xs cs) :
    ∃ c', c'.w = c.w ∧ Rel w0 cold0 N ((s.setOb d (.row sz xs)).putN d (.fb d E)) (a.put (some d) (.slice (some ⟨b, 0, none⟩) xs.length cap)) c' := by
  have hR2 := h.addOb d hfree (some b) (.row sz xs) (fun b' hb' => by
    simp only [Option.some.injEq] at hb'
    subst hb'
    exact hb)
    (.inr ⟨b, cs, E, Cx.add_eta .., hh, (Cx.Sim.add _ d (by rw [h.objs]; exact hfree) _ _).rowCells hrow⟩) (fun n u h => by cases h)
  exact ⟨c.add d (some b) (.row sz xs), rfl, hR2.put (some d) (fun e he => by simp only [Option.some.injEq] at he; omega) (v := .fb d E)
    ⟨sz, xs, Cx.add_objs .., .inr ⟨b, cap, cs, Cx.add_eta .., rfl, hcap, hh, hcs⟩⟩⟩
/-- an empty row without a block -/
theorem rowNilB (h : Rel w0 cold0 N s a c) {d sz : Nat} {E : TypeId} (hd : d < N) (hfree : s.objs d = .none) :
    ∃ c', c'.w = c.w ∧ Rel w0 cold0 N ((s.setOb d (.row sz [])).putN d (.fb d E)) (a.put (some d) (.slice none 0 0)) c' := by
  have hR2 := h.addOb d hfree none (.row sz []) (fun b' hb' => by cases hb') (.inl ⟨Cx.add_eta .., rfl⟩) (fun n u h => by cases h)
  exact ⟨c.add d none (.row sz []), rfl, hR2.put (some d) (fun e he => by simp only [Option.some.injEq] at he; omega) (v := .fb d E) ⟨sz, [], Cx.add_objs .., .inl ⟨Cx.add_eta .., rfl, rfl⟩⟩⟩
theorem append3_get {A B C : Array Value} (j : Nat) : (A ++ B ++ C)[j]? = if j < A.size then A[j]? else if j < A.size + B.size then B[j - A.size]? else C[j - (A.size + B.size)]? := by
  rw [Array.getElem?_append, Array.getElem?_append]
  simp only [Array.size_append]
  by_cases h1 : j < A.size
  · rw [if_pos (by omega), if_pos h1, if_pos h1]
  · by_cases h2 : j < A.size + B.size
    · rw [if_pos h2, if_neg h1, if_neg h1, if_pos h2]
    · rw [if_neg h2, if_neg h1, if_neg h2]
theorem callB_two {cl : Call} {x y : Operand} (h : cl.args.toList = [x, y]) : cl.args = #[x, y] := by
  rcases hca : cl.args with ⟨l⟩
  rw [hca] at h
  simp at h
  rw [h]
theorem op_append (h : Rel w0 cold0 N s a c) (hd : okDst N o = true) {cl : Call} (ho : o.op = .call cl) (hb : cl.callee = .builtin .append)
    (hk : (match o.dst, cl.args.toList with
      | some d, [u, x] => evAppend P ro cl.argTypes d s (s.val u) (s.val x) k
      | _, _ => none) = some r) : o.wp P a c.w (Post w0 cold0 N k r c.w ro) Q := by
  split at hk
  · rename_i d u x hdst hargs
    have hargs := callB_two hargs
    have hdN := okDst_lt hd d hdst
    have hu3 := h.val u
    have hx3 := h.val x
    unfold evAppend at hk
    split at hk
    · rename_i sT xT hsT hxT
      split at hk
      · rename_i E hu
        split at hk
        · rename_i i hi
          split at hk
          · cases hk
          rename_i hxint
          split at hk
          · cases hk
          rename_i hsz0
          split at hk
          · cases hk
          rename_i hzn
          split at hk
          · cases hk
          rename_i hby
          obtain ⟨ys, hys, hk⟩ := Option.bind_eq_some_iff.1 hk
          obtain ⟨ys', hys', hk⟩ := Option.bind_eq_some_iff.1 hk
          obtain ⟨z, hz, hzs⟩ : ∃ z, i.zero = some z ∧ z.cells.size = i.size := by
            unfold zeroOk at hzn
            split at hzn
            · rename_i z hz
              refine ⟨z, hz, ?_⟩
              cases hq : Nat.beq z.cells.size i.size with
              | true => exact Nat.eq_of_beq_eq_true hq
              | false => rw [hq] at hzn; exact absurd rfl hzn
            · exact absurd rfl hzn
          have hxd : ∃ d, P.underlying xT = some d ∧ ∀ q, d ≠ .int q := by
            unfold notIntT at hxint
            split at hxint
            · exact absurd rfl hxint
            · exact absurd rfl hxint
            · rename_i h1 h2
              cases hxu : P.underlying xT with
              | none => exact absurd hxu h2
              | some d => exact ⟨d, rfl, fun q e => h1 q (by rw [hxu, e])⟩
          unfold chk at hys'
          split at hys'
          · rename_i hwid
            simp only [Option.some.injEq] at hys'
            subst hys'
            have hw : ∀ y, y ∈ ys → y.width = i.size := fun y hy => by simpa using List.all_eq_true.1 hwid y hy
            obtain ⟨news, hl, hnew, hrn⟩ := srcOf_run (P := P) h hx3 hys hw
            obtain ⟨cs0, hrunB⟩ := callB_run (P := P) (a := a) ho hb c.w
            rw [hargs] at hrunB
            have exec : ∀ {v : Value} {w' : World}, (Builtin.append_ cl.argTypes o.type #[a.eval u, a.eval x]).run P c.w = .ok v w' → (execOp a.eval o).run P c.w = .ok (.value v) w' := fun hq => by
              rw [hrunB]
              simp [builtin, hq]
            obtain ⟨p1, p2⟩ := hrn
            have nilCase : ∀ {s2 : St} {c2 : Cx}, k ((s2.setOb d (.row i.size ys)).putN d (.full d)) = some r → Rel w0 cold0 N s2 a c2 → s2.objs d = .none → c2.w = c.w → c2.cold = c.cold → a.eval u = .slice none 0 0 →
                fitsB ys.length i.bytes = true → o.wp P a c.w (Post w0 cold0 N k r c.w ro) Q := by
              intro s2 c2 hkf hR2 hfree hw2 hc2 hun hfit
              rw [hun] at exec
              have hrun := run_append_any (P := P) (ty := o.type) (base := none) (sLen := 0) (sCap := 0) (w := c.w) (olds := #[]) hsT hxT hu hi hz hxd hby hl hnew (fun _ _ => rfl) (by simpa using hfit)
              by_cases hz0 : ys.length = 0
              · have hnil : ys = [] := List.length_eq_zero_iff.1 hz0
                rw [hz0, if_pos (by omega)] at hrun
                obtain ⟨c3, hw3, hR3⟩ := rowNil (sz := i.size) hR2 hdN hfree
                rw [hnil] at hkf
                refine wp_value (exec hrun) ?_
                rw [hdst]
                exact ⟨_, c3, by rw [hw3, hw2], hR3, hkf, fun _ => Below.refl _ _⟩
              · rw [if_neg (by omega)] at hrun
                simp only [Nat.zero_add] at hrun
                have hge := grownCap_ge c.w ys.length 0 E
                generalize grownCap c.w ys.length 0 E = g at hrun hge
                have hrow : c2.rowCells i.size ys (#[] ++ news ++ Builtin.zeroCells z.cells (g - ys.length)) := by
                  have := rowCells_append (c := c) (xs := []) (cs := #[]) (es := #[] ++ news ++ Builtin.zeroCells z.cells (g - ys.length)) ⟨by simp, by simp, fun i j x y hx => by simp at hx⟩ ⟨p1, p2⟩
                    (by simp [p1]) (fun j hj => by simp at hj) (fun j hj => by
                      simp only [List.length_nil, Nat.zero_mul, Nat.zero_add]
                      rw [append3_get, if_neg (by simp), if_pos (by simp [p1]; exact hj)]
                      simp)
                  simp only [List.nil_append] at this
                  refine ⟨this.1, this.2.1, fun i j x y q1 q2 q3 => ?_⟩
                  have := this.2.2 i j x y q1 q2 q3
                  rw [hw2, hc2]
                  exact this
                have hbel : Below c2.w.heap.size c2.w (c2.w.drew.alloc (.cells (#[] ++ news ++ Builtin.zeroCells z.cells (g - ys.length)) E)) := (Below.refl _ _).drew.alloc (Nat.le_refl _) _
                obtain ⟨c3, hw3, hR3⟩ := newRow' (sz := i.size) (xs := ys) (E := E) (cs := #[] ++ news ++ Builtin.zeroCells z.cells (g - ys.length)) (cap := g) hR2 hdN hfree hbel (by simp)
                  (by show (c2.w.heap.push _)[c2.w.heap.size]? = _; simp) hge (by
                    have e : g * i.size = ys.length * i.size + (g - ys.length) * i.size := by rw [← Nat.add_mul]; congr 1; omega
                    simp only [Array.size_append, zeroCells_size, p1, hzs, e]
                    simp) hrow
                rw [hw2] at hR3 hw3
                refine wp_value (exec hrun) ?_
                rw [hdst]
                exact ⟨_, c3, hw3, hR3, hkf, fun _ => (Below.refl _ _).drew.alloc (Nat.le_refl _) _⟩
            have nilCaseB : ∀ {s2 : St} {c2 : Cx}, k ((s2.setOb d (.row i.size ys)).putN d (.fb d E)) = some r → Rel w0 cold0 N s2 a c2 → s2.objs d = .none → c2.w = c.w → c2.cold = c.cold → a.eval u = .slice none 0 0 →
                fitsB ys.length i.bytes = true → o.wp P a c.w (Post w0 cold0 N k r c.w ro) Q := by
              intro s2 c2 hkf hR2 hfree hw2 hc2 hun hfit
              rw [hun] at exec
              have hrun := run_append_any (P := P) (ty := o.type) (base := none) (sLen := 0) (sCap := 0) (w := c.w) (olds := #[]) hsT hxT hu hi hz hxd hby hl hnew (fun _ _ => rfl) (by simpa using hfit)
              by_cases hz0 : ys.length = 0
              · have hnil : ys = [] := List.length_eq_zero_iff.1 hz0
                rw [hz0, if_pos (by omega)] at hrun
                obtain ⟨c3, hw3, hR3⟩ := rowNilB (E := E) (sz := i.size) hR2 hdN hfree
                rw [hnil] at hkf
                refine wp_value (exec hrun) ?_
                rw [hdst]
                exact ⟨_, c3, by rw [hw3, hw2], hR3, hkf, fun _ => Below.refl _ _⟩
              · rw [if_neg (by omega)] at hrun
                simp only [Nat.zero_add] at hrun
                have hge := grownCap_ge c.w ys.length 0 E
                generalize grownCap c.w ys.length 0 E = g at hrun hge
                have hrow : c2.rowCells i.size ys (#[] ++ news ++ Builtin.zeroCells z.cells (g - ys.length)) := by
                  have := rowCells_append (c := c) (xs := []) (cs := #[]) (es := #[] ++ news ++ Builtin.zeroCells z.cells (g - ys.length)) ⟨by simp, by simp, fun i j x y hx => by simp at hx⟩ ⟨p1, p2⟩
                    (by simp [p1]) (fun j hj => by simp at hj) (fun j hj => by
                      simp only [List.length_nil, Nat.zero_mul, Nat.zero_add]
                      rw [append3_get, if_neg (by simp), if_pos (by simp [p1]; exact hj)]
                      simp)
                  simp only [List.nil_append] at this
                  refine ⟨this.1, this.2.1, fun i j x y q1 q2 q3 => ?_⟩
                  have := this.2.2 i j x y q1 q2 q3
                  rw [hw2, hc2]
                  exact this
                have hbel : Below c2.w.heap.size c2.w (c2.w.drew.alloc (.cells (#[] ++ news ++ Builtin.zeroCells z.cells (g - ys.length)) E)) := (Below.refl _ _).drew.alloc (Nat.le_refl _) _
                obtain ⟨c3, hw3, hR3⟩ := newRowB (sz := i.size) (xs := ys) (E := E) (cs := #[] ++ news ++ Builtin.zeroCells z.cells (g - ys.length)) (cap := g) hR2 hdN hfree hbel (by simp)
                  (by show (c2.w.heap.push _)[c2.w.heap.size]? = _; simp) hge (by
                    have e : g * i.size = ys.length * i.size + (g - ys.length) * i.size := by rw [← Nat.add_mul]; congr 1; omega
                    simp only [Array.size_append, zeroCells_size, p1, hzs, e]
                    simp) hrow
                rw [hw2] at hR3 hw3
                refine wp_value (exec hrun) ?_
                rw [hdst]
                exact ⟨_, c3, hw3, hR3, hkf, fun _ => (Below.refl _ _).drew.alloc (Nat.le_refl _) _⟩
            split at hk
            · rename_i hq
              rw [hq] at hu3
              split at hk
              · rename_i hfit
                obtain ⟨s2, c2, hkf, hR2, hfree, hw2, hc2⟩ := roomRo_get hk h
                exact nilCase hkf hR2 hfree hw2 hc2 hu3 hfit
              · cases hk
            · rename_i e hq
              split at hk
              · cases hk
              · rename_i hnro
                split at hk
                · rename_i sz xs hob
                  split at hk
                  · rename_i hss
                    split at hk
                    · rename_i hfit
                      have hR1 := h.kill e
                      obtain ⟨s2, c2, hkf, hR2, hfree, hw2, hc2, he2, hn2, _⟩ := roomRo_some hk hR1
                      have hw2 : c2.w = c.w := hw2
                      have hc2 : c2.cold = c.cold := hc2
                      have he2 : c2.eta = c.eta := he2
                      have hue : c.v3 (.full e) (a.eval u) := by rw [← hq]; exact hu3
                      obtain ⟨sz2, xs2, ho2, hr⟩ := hue
                      rw [h.objs, hob] at ho2
                      simp only [Ob.row.injEq] at ho2
                      obtain ⟨e1, e2⟩ := ho2
                      subst e1; subst e2
                      have hobj := h.ob e
                      rw [hob] at hobj
                      rcases hr with ⟨hn, hxs, hun⟩ | ⟨b, cap, cs, F, hb, hun, hcap, hh, hszc⟩
                      · rw [hxs, List.nil_append] at hkf
                        rw [hxs] at hfit
                        exact nilCase hkf hR2 hfree hw2 hc2 hun (by simpa using hfit)
                      · rcases hobj with ⟨hnn, _⟩ | ⟨b', cs', F', hb', hh', hrow⟩
                        · rw [hb] at hnn; cases hnn
                        rw [hb] at hb'
                        simp only [Option.some.injEq] at hb'
                        subst hb'
                        rw [hh] at hh'
                        simp only [Option.some.injEq, Obj.cells.injEq, and_true] at hh'
                        obtain ⟨e3, e4⟩ := hh'
                        subst e3; subst e4
                        obtain ⟨hc1, hc3, hc4⟩ := h.hot e b (by rw [hob]; simp) hb
                        have hfreeb : ∀ x, s2.objs x ≠ .none → c2.eta x ≠ some b := fun x hx hxb => by
                          rw [he2] at hxb
                          have hx1 : (s.kill e).objs x ≠ .none := fun hq' => hx (hn2 x hq')
                          have hxe : x ≠ e ∧ s.objs x ≠ .none := by
                            refine ⟨fun he' => hx1 ?_, fun hs => hx1 ?_⟩
                            · subst he'; show (bif Nat.beq x x then Ob.none else _) = .none; simp
                            · show (bif Nat.beq x e then Ob.none else (s.objs x).kill e) = .none
                              cases Nat.beq x e
                              · simp [hs, Ob.kill]
                              · rfl
                          exact hxe.1 (h.inj x e b hxe.2 (by rw [hob]; simp) hxb hb)
                        have hww : ∀ y, y ∈ xs → y.width = i.size := fun y hy => by rw [← hss]; exact hrow.2.1 y hy
                        obtain ⟨olds, _, hold, hro⟩ := srcOf_run (P := P) h (u := .full e) (y := a.eval u) (ys := xs) (by rw [← hq]; exact hu3) (by simp only [srcOf, hob]) hww
                        rw [hun] at exec hold
                        have hrun := run_append_any (P := P) (ty := o.type) (base := some ⟨b, 0, none⟩) (sLen := xs.length) (sCap := cap) (w := c.w) (olds := olds) hsT hxT hu hi hz hxd hby hl hnew hold hfit
                        have one : ∀ v, v ∈ news.toList → v.oneCell' = true := fun v hv => by
                          obtain ⟨j, hj⟩ := List.getElem?_of_mem hv
                          rw [Array.getElem?_toList] at hj
                          have hjlt : j < ys.length * i.size := by rw [← p1]; exact (Array.getElem?_eq_some_iff.1 hj).1
                          have h0 : 0 < i.size := by omega
                          have hq1 : j / i.size < ys.length := (Nat.div_lt_iff_lt_mul h0).2 hjlt
                          have hq2 : j / i.size * i.size + j % i.size = j := by rw [Nat.mul_comm]; exact Nat.div_add_mod j i.size
                          rw [← hq2] at hj
                          exact (p2.2.2 (j / i.size) (j % i.size) _ v (List.getElem?_eq_getElem hq1) (Nat.mod_lt _ h0) hj).2
                        subst hss
                        by_cases hfc : xs.length + ys.length ≤ cap
                        · rw [if_pos hfc] at hrun
                          have hle : xs.length * i.size + ys.length * i.size ≤ cs.size := by
                            have : (xs.length + ys.length) * i.size ≤ cap * i.size := Nat.mul_le_mul_right _ hfc
                            rw [Nat.add_mul] at this
                            omega
                          have hst := run_storeCells_at (P := P) b (xs.length * i.size) F news.toList 0 cs c.w hh (by simp [p1]; omega) one
                          simp only [Nat.add_zero, Array.length_toList, p1] at hst
                          simp only [add_lit, Nat.zero_add, hst, Result.andThen_ok] at hrun
                          obtain ⟨g1, g2⟩ := splice_get cs news (xs.length * i.size) (ys.length * i.size) p1 hle
                          generalize hcs' : (cs.toList.take (xs.length * i.size) ++ news.toList ++ cs.toList.drop (xs.length * i.size + ys.length * i.size)).toArray = cs' at hrun g1 g2
                          obtain ⟨hR3, sim3⟩ := hR2.setFree b cs cs' F (by rw [hw2]; exact hh) hc3 (by rw [hc2]; exact hc1) hfreeb
                          have hrow' : c.rowCells i.size (xs ++ ys) cs' := rowCells_append hrow ⟨p1, p2⟩ (by rw [g1, Nat.add_mul]; exact hle)
                            (fun j hj => by rw [g2, if_neg (by omega)]) (fun j hj => by rw [g2, if_pos (by omega), Nat.add_sub_cancel_left])
                          have hrow3 : Cx.rowCells { c2 with w := c2.w.setRow b cs' } i.size (xs ++ ys) cs' := by
                            have : c2.rowCells i.size (xs ++ ys) cs' := by
                              refine ⟨hrow'.1, hrow'.2.1, fun i j x y q1 q2 q3 => ?_⟩
                              have := hrow'.2.2 i j x y q1 q2 q3
                              rw [hw2, hc2]
                              exact this
                            exact sim3.rowCells this
                          obtain ⟨c4, hw4, hR4⟩ := rowOver (sz := i.size) (cap := cap) (xs := xs ++ ys) (E := F) (cs := cs') hR3 hdN hfree
                            ⟨by show ¬ c2.cold b; rw [hc2]; exact hc1, hc3, by simp [hw2]; exact hc4, hfreeb⟩
                            (by show (c2.w.setRow b cs').heap[b]? = _; rw [hw2]; exact setRow_heap c.w b cs cs' F (0, 0) hh) (by simpa using hfc) (by rw [g1]; exact hszc) hrow3
                          refine wp_value (exec hrun) ?_
                          rw [hdst]
                          refine ⟨_, c4, ?_, ?_, hkf, fun hq => absurd hq hnro⟩
                          · rw [hw4]; show c2.w.setRow b cs' = _; rw [hw2]
                          · simpa using hR4
                        · rw [if_neg hfc] at hrun
                          have hge := grownCap_ge c.w (xs.length + ys.length) cap E
                          generalize grownCap c.w (xs.length + ys.length) cap E = g at hrun hge
                          obtain ⟨o1, o2⟩ := hro
                          have hrow' : c.rowCells i.size (xs ++ ys) (olds ++ news ++ Builtin.zeroCells z.cells (g - (xs.length + ys.length))) :=
                            rowCells_append o2 ⟨p1, p2⟩ (by simp [o1, p1, Nat.add_mul])
                              (fun j hj => by rw [append3_get, if_pos (by rw [o1]; exact hj)])
                              (fun j hj => by rw [append3_get, if_neg (by rw [o1]; omega), if_pos (by rw [o1, p1]; omega), o1, Nat.add_sub_cancel_left])
                          have hrow2 : c2.rowCells i.size (xs ++ ys) (olds ++ news ++ Builtin.zeroCells z.cells (g - (xs.length + ys.length))) := by
                            refine ⟨hrow'.1, hrow'.2.1, fun i j x y q1 q2 q3 => ?_⟩
                            have := hrow'.2.2 i j x y q1 q2 q3
                            rw [hw2, hc2]
                            exact this
                          have hbel : Below c2.w.heap.size c2.w (c2.w.drew.alloc (.cells (olds ++ news ++ Builtin.zeroCells z.cells (g - (xs.length + ys.length))) E)) := (Below.refl _ _).drew.alloc (Nat.le_refl _) _
                          obtain ⟨c3, hw3, hR3⟩ := newRow' (sz := i.size) (xs := xs ++ ys) (E := E) (cs := olds ++ news ++ Builtin.zeroCells z.cells (g - (xs.length + ys.length))) (cap := g) hR2 hdN hfree hbel (by simp)
                            (by show (c2.w.heap.push _)[c2.w.heap.size]? = _; simp) (by simpa using hge) (by
                              have e : g * i.size = xs.length * i.size + ys.length * i.size + (g - (xs.length + ys.length)) * i.size := by rw [← Nat.add_mul, ← Nat.add_mul]; congr 1; omega
                              simp only [Array.size_append, zeroCells_size, p1, o1, hzs, e]
                              exact Nat.le_refl _) hrow2
                          rw [hw2] at hR3 hw3
                          rw [List.length_append] at hR3
                          refine wp_value (exec hrun) ?_
                          rw [hdst]
                          exact ⟨_, c3, hw3, hR3, hkf, fun hq => absurd hq hnro⟩
                    · cases hk
                  · cases hk
                · cases hk
            · rename_i e ty hq
              split at hk
              · cases hk
              · rename_i hnro
                split at hk
                · rename_i sz xs hob
                  split at hk
                  · rename_i hss0
                    obtain ⟨hss, hty⟩ := hss0
                    subst hty
                    split at hk
                    · rename_i hfit
                      have hR1 := h.kill e
                      obtain ⟨s2, c2, hkf, hR2, hfree, hw2, hc2, he2, hn2, _⟩ := roomRo_some hk hR1
                      have hw2 : c2.w = c.w := hw2
                      have hc2 : c2.cold = c.cold := hc2
                      have he2 : c2.eta = c.eta := he2
                      have hue : c.v3 (.fb e ty) (a.eval u) := by rw [← hq]; exact hu3
                      obtain ⟨sz2, xs2, ho2, hr⟩ := hue
                      rw [h.objs, hob] at ho2
                      simp only [Ob.row.injEq] at ho2
                      obtain ⟨e1, e2⟩ := ho2
                      subst e1; subst e2
                      have hobj := h.ob e
                      rw [hob] at hobj
                      rcases hr with ⟨hn, hxs, hun⟩ | ⟨b, cap, cs, hb, hun, hcap, hh, hszc⟩
                      · rw [hxs, List.nil_append] at hkf
                        rw [hxs] at hfit
                        exact nilCaseB hkf hR2 hfree hw2 hc2 hun (by simpa using hfit)
                      · rcases hobj with ⟨hnn, _⟩ | ⟨b', cs', ty', hb', hh', hrow⟩
                        · rw [hb] at hnn; cases hnn
                        rw [hb] at hb'
                        simp only [Option.some.injEq] at hb'
                        subst hb'
                        rw [hh] at hh'
                        simp only [Option.some.injEq, Obj.cells.injEq, and_true] at hh'
                        obtain ⟨e3, e4⟩ := hh'
                        subst e3
                        obtain ⟨hc1, hc3, hc4⟩ := h.hot e b (by rw [hob]; simp) hb
                        have hfreeb : ∀ x, s2.objs x ≠ .none → c2.eta x ≠ some b := fun x hx hxb => by
                          rw [he2] at hxb
                          have hx1 : (s.kill e).objs x ≠ .none := fun hq' => hx (hn2 x hq')
                          have hxe : x ≠ e ∧ s.objs x ≠ .none := by
                            refine ⟨fun he' => hx1 ?_, fun hs => hx1 ?_⟩
                            · subst he'; show (bif Nat.beq x x then Ob.none else _) = .none; simp
                            · show (bif Nat.beq x e then Ob.none else (s.objs x).kill e) = .none
                              cases Nat.beq x e
                              · simp [hs, Ob.kill]
                              · rfl
                          exact hxe.1 (h.inj x e b hxe.2 (by rw [hob]; simp) hxb hb)
                        have hww : ∀ y, y ∈ xs → y.width = i.size := fun y hy => by rw [← hss]; exact hrow.2.1 y hy
                        obtain ⟨olds, _, hold, hro⟩ := srcOf_run (P := P) h (u := .full e) (y := a.eval u) (ys := xs) ⟨_, xs, by rw [h.objs]; exact hob, .inr ⟨b, cap, cs, _, hb, hun, hcap, hh, hszc⟩⟩ (by simp only [srcOf, hob]) hww
                        rw [hun] at exec hold
                        have hrun := run_append_any (P := P) (ty := o.type) (base := some ⟨b, 0, none⟩) (sLen := xs.length) (sCap := cap) (w := c.w) (olds := olds) hsT hxT hu hi hz hxd hby hl hnew hold hfit
                        have one : ∀ v, v ∈ news.toList → v.oneCell' = true := fun v hv => by
                          obtain ⟨j, hj⟩ := List.getElem?_of_mem hv
                          rw [Array.getElem?_toList] at hj
                          have hjlt : j < ys.length * i.size := by rw [← p1]; exact (Array.getElem?_eq_some_iff.1 hj).1
                          have h0 : 0 < i.size := by omega
                          have hq1 : j / i.size < ys.length := (Nat.div_lt_iff_lt_mul h0).2 hjlt
                          have hq2 : j / i.size * i.size + j % i.size = j := by rw [Nat.mul_comm]; exact Nat.div_add_mod j i.size
                          rw [← hq2] at hj
                          exact (p2.2.2 (j / i.size) (j % i.size) _ v (List.getElem?_eq_getElem hq1) (Nat.mod_lt _ h0) hj).2
                        subst hss
                        by_cases hfc : xs.length + ys.length ≤ cap
                        · rw [if_pos hfc] at hrun
                          have hle : xs.length * i.size + ys.length * i.size ≤ cs.size := by
                            have : (xs.length + ys.length) * i.size ≤ cap * i.size := Nat.mul_le_mul_right _ hfc
                            rw [Nat.add_mul] at this
                            omega
                          have hst := run_storeCells_at (P := P) b (xs.length * i.size) ty news.toList 0 cs c.w hh (by simp [p1]; omega) one
                          simp only [Nat.add_zero, Array.length_toList, p1] at hst
                          simp only [add_lit, Nat.zero_add, hst, Result.andThen_ok] at hrun
                          obtain ⟨g1, g2⟩ := splice_get cs news (xs.length * i.size) (ys.length * i.size) p1 hle
                          generalize hcs' : (cs.toList.take (xs.length * i.size) ++ news.toList ++ cs.toList.drop (xs.length * i.size + ys.length * i.size)).toArray = cs' at hrun g1 g2
                          obtain ⟨hR3, sim3⟩ := hR2.setFree b cs cs' ty (by rw [hw2]; exact hh) hc3 (by rw [hc2]; exact hc1) hfreeb
                          have hrow' : c.rowCells i.size (xs ++ ys) cs' := rowCells_append hrow ⟨p1, p2⟩ (by rw [g1, Nat.add_mul]; exact hle)
                            (fun j hj => by rw [g2, if_neg (by omega)]) (fun j hj => by rw [g2, if_pos (by omega), Nat.add_sub_cancel_left])
                          have hrow3 : Cx.rowCells { c2 with w := c2.w.setRow b cs' } i.size (xs ++ ys) cs' := by
                            have : c2.rowCells i.size (xs ++ ys) cs' := by
                              refine ⟨hrow'.1, hrow'.2.1, fun i j x y q1 q2 q3 => ?_⟩
                              have := hrow'.2.2 i j x y q1 q2 q3
                              rw [hw2, hc2]
                              exact this
                            exact sim3.rowCells this
                          obtain ⟨c4, hw4, hR4⟩ := rowOverB (sz := i.size) (cap := cap) (xs := xs ++ ys) (E := ty) (cs := cs') hR3 hdN hfree
                            ⟨by show ¬ c2.cold b; rw [hc2]; exact hc1, hc3, by simp [hw2]; exact hc4, hfreeb⟩
                            (by show (c2.w.setRow b cs').heap[b]? = _; rw [hw2]; exact setRow_heap c.w b cs cs' ty (0, 0) hh) (by simpa using hfc) (by rw [g1]; exact hszc) hrow3
                          refine wp_value (exec hrun) ?_
                          rw [hdst]
                          refine ⟨_, c4, ?_, ?_, hkf, fun hq => absurd hq hnro⟩
                          · rw [hw4]; show c2.w.setRow b cs' = _; rw [hw2]
                          · simpa using hR4
                        · rw [if_neg hfc] at hrun
                          have hge := grownCap_ge c.w (xs.length + ys.length) cap ty
                          generalize grownCap c.w (xs.length + ys.length) cap ty = g at hrun hge
                          obtain ⟨o1, o2⟩ := hro
                          have hrow' : c.rowCells i.size (xs ++ ys) (olds ++ news ++ Builtin.zeroCells z.cells (g - (xs.length + ys.length))) :=
                            rowCells_append o2 ⟨p1, p2⟩ (by simp [o1, p1, Nat.add_mul])
                              (fun j hj => by rw [append3_get, if_pos (by rw [o1]; exact hj)])
                              (fun j hj => by rw [append3_get, if_neg (by rw [o1]; omega), if_pos (by rw [o1, p1]; omega), o1, Nat.add_sub_cancel_left])
                          have hrow2 : c2.rowCells i.size (xs ++ ys) (olds ++ news ++ Builtin.zeroCells z.cells (g - (xs.length + ys.length))) := by
                            refine ⟨hrow'.1, hrow'.2.1, fun i j x y q1 q2 q3 => ?_⟩
                            have := hrow'.2.2 i j x y q1 q2 q3
                            rw [hw2, hc2]
                            exact this
                          have hbel : Below c2.w.heap.size c2.w (c2.w.drew.alloc (.cells (olds ++ news ++ Builtin.zeroCells z.cells (g - (xs.length + ys.length))) ty)) := (Below.refl _ _).drew.alloc (Nat.le_refl _) _
                          obtain ⟨c3, hw3, hR3⟩ := newRowB (sz := i.size) (xs := xs ++ ys) (E := ty) (cs := olds ++ news ++ Builtin.zeroCells z.cells (g - (xs.length + ys.length))) (cap := g) hR2 hdN hfree hbel (by simp)
                            (by show (c2.w.heap.push _)[c2.w.heap.size]? = _; simp) (by simpa using hge) (by
                              have e : g * i.size = xs.length * i.size + ys.length * i.size + (g - (xs.length + ys.length)) * i.size := by rw [← Nat.add_mul, ← Nat.add_mul]; congr 1; omega
                              simp only [Array.size_append, zeroCells_size, p1, o1, hzs, e]
                              exact Nat.le_refl _) hrow2
                          rw [hw2] at hR3 hw3
                          rw [List.length_append] at hR3
                          refine wp_value (exec hrun) ?_
                          rw [hdst]
                          exact ⟨_, c3, hw3, hR3, hkf, fun hq => absurd hq hnro⟩
                    · cases hk
                  · cases hk
                · cases hk
            · cases hk
          · cases hys'
        · cases hk
      · cases hk
    · cases hk
  · cases hk
end
end Go.Ax
