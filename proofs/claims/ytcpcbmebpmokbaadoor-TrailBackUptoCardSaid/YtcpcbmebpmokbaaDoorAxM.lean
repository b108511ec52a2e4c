/- Ax, part M: the operations, one by one: rows that are made and appended to, stores. -/
import Derived.Test.YtcpcbmebpmokbaaDoorAxL
import Derived.Laws.Append
import Derived.Laws.AppendOwn
set_option linter.unusedVariables false
set_option linter.unusedSimpArgs false
namespace Go.Ax
open Go Go.RowKit

section
variable {P : Program} {w0 : Base} {cold0 : Nat → Prop} {N : Nat} {s : St} {a : Act} {c : Cx} {R : Type} {r : R} {o : Oper} {Q : Exit → Act → World → Prop} {k : St → Option R} {ro : Bool}

/-- a new row over a block that the world has got -/
theorem newRow' (h : Rel w0 cold0 N s a c) {d sz : Nat} {xs : List T} {E : TypeId} {cs : Array Value} {w' : World} {cap : Nat} (hd : d < N) (hfree : s.objs d = .none)
    (hbel : Below c.w.heap.size c.w w') (hsz : w'.heap.size = c.w.heap.size + 1) (hnew : w'.heap[c.w.heap.size]? = some (.cells cs E (0, 0)))
    (hcap : xs.length ≤ cap) (hcs : cap * sz ≤ cs.size) (hrow : c.rowCells sz xs cs) :
    ∃ c', c'.w = w' ∧ Rel w0 cold0 N ((s.setOb d (.row sz xs)).putN d (.full d)) (a.put (some d) (.slice (some ⟨c.w.heap.size, 0, none⟩) xs.length cap)) c' := by
  obtain ⟨hR1, sim⟩ := h.grow w' hbel (fun _ => False) (fun b hb => hb.elim)
  have hR2 := hR1.addOb d hfree (some c.w.heap.size) (.row sz xs) (fun b hb => by
    simp only [Option.some.injEq] at hb
    subst hb
    refine ⟨fun hc => ?_, h.below.new (Nat.le_refl _), by show _ < w'.heap.size; omega, fun e he hee => ?_⟩
    · rcases hc with hc | hc
      · have := h.clt _ hc; omega
      · exact hc
    · have := (h.hot e _ he hee).2.2; omega)
    (.inr ⟨c.w.heap.size, cs, E, Cx.add_eta .., hnew, (Cx.Sim.add _ d (by show c.objs d = _; rw [h.objs]; exact hfree) _ _).rowCells (sim.rowCells hrow)⟩) (fun n u h => by cases h)
  exact ⟨_, rfl, hR2.put (some d) (fun e he => by simp only [Option.some.injEq] at he; omega) (v := .full d)
    ⟨sz, xs, Cx.add_objs .., .inr ⟨c.w.heap.size, cap, cs, E, Cx.add_eta .., rfl, hcap, hnew, hcs⟩⟩⟩

/-- a new row over a block that the world has got -/
theorem newRowB (h : Rel w0 cold0 N s a c) {d sz : Nat} {xs : List T} {E : TypeId} {cs : Array Value} {w' : World} {cap : Nat} (hd : d < N) (hfree : s.objs d = .none)
    (hbel : Below c.w.heap.size c.w w') (hsz : w'.heap.size = c.w.heap.size + 1) (hnew : w'.heap[c.w.heap.size]? = some (.cells cs E (0, 0)))
    (hcap : xs.length ≤ cap) (hcs : cap * sz ≤ cs.size) (hrow : c.rowCells sz xs cs) :
    ∃ c', c'.w = w' ∧ Rel w0 cold0 N ((s.setOb d (.row sz xs)).putN d (.fb d E)) (a.put (some d) (.slice (some ⟨c.w.heap.size, 0, none⟩) xs.length cap)) c' := by
  obtain ⟨hR1, sim⟩ := h.grow w' hbel (fun _ => False) (fun b hb => hb.elim)
  have hR2 := hR1.addOb d hfree (some c.w.heap.size) (.row sz xs) (fun b hb => by
    simp only [Option.some.injEq] at hb
    subst hb
    refine ⟨fun hc => ?_, h.below.new (Nat.le_refl _), by show _ < w'.heap.size; omega, fun e he hee => ?_⟩
    · rcases hc with hc | hc
      · have := h.clt _ hc; omega
      · exact hc
    · have := (h.hot e _ he hee).2.2; omega)
    (.inr ⟨c.w.heap.size, cs, E, Cx.add_eta .., hnew, (Cx.Sim.add _ d (by show c.objs d = _; rw [h.objs]; exact hfree) _ _).rowCells (sim.rowCells hrow)⟩) (fun n u h => by cases h)
  exact ⟨_, rfl, hR2.put (some d) (fun e he => by simp only [Option.some.injEq] at he; omega) (v := .fb d E)
    ⟨sz, xs, Cx.add_objs .., .inr ⟨c.w.heap.size, cap, cs, Cx.add_eta .., rfl, hcap, hnew, hcs⟩⟩⟩

theorem rangeMod_get (zero : Array Value) (n j : Nat) : ((Array.range n).map (fun i => zero[i % zero.size]!))[j]? = if j < n then some (zero[j % zero.size]!) else none := by
  rw [Array.getElem?_map, Array.getElem?_range]
  split <;> simp
/-- so many zero elements -/
theorem zero_rows {z : T} {y : Value} (h : TRep c.w c.cold z y) (m : Nat) {sz : Nat} (hw : z.width = sz) (hsz : sz ≠ 0) (n : Nat) (hn : n = m * sz) :
    rowCells' c sz (List.replicate m z) ((Array.range n).map fun i => y.cells[i % y.cells.size]!) := by
  obtain ⟨t1, t2, t3⟩ := h.cells
  rw [hw] at t1
  have hget : ∀ i j, i < m → j < sz → ((Array.range n).map fun i => y.cells[i % y.cells.size]!)[i * sz + j]? = some (y.cells[j]!) := fun i j hi hj => by
    rw [rangeMod_get, if_pos (by rw [hn]; exact div_lt_of hi hj), t1, Nat.mul_comm, Nat.mul_add_mod, Nat.mod_eq_of_lt hj]
  refine ⟨by simp [hn], by simp [hn], fun x hx => ?_, fun i j x u hx hj hu => ?_⟩
  · rw [List.mem_replicate] at hx; rw [hx.2]; exact hw
  · have hi : i < m := by have := (List.getElem?_eq_some_iff.1 hx).1; simpa using this
    rw [hget i j hi hj] at hu
    simp only [Option.some.injEq] at hu
    have hxz : x = z := by
      rw [List.getElem?_replicate, if_pos hi] at hx
      simpa using hx.symm
    subst hxz
    have hyj : y.cells[j]? = some u := by
      have : j < y.cells.size := by omega
      rw [← hu]
      simp [this]
    exact ⟨t3 j u hyj, t2 j u hyj⟩

theorem op_buildSlice (h : Rel w0 cold0 N s a c) (hd : okDst N o = true) {t : TypeId} {len : Nat} {parts : Array (Nat × Operand)} (ho : o.op = .buildSlice t len parts)
    (hk : (match o.dst, P.underlying t with
    | some d, some (.slice E) => match szOf P E, zeroV P E with
      | some sz, some z => if sz = 0 ∨ 16777216 < len * sz then none else
        (z.out (fun _ => .none)).bind fun z => if z.width = sz then
          (frzOps ro (parts.toList.map (·.2)) s).bind fun q => (chk q.1 sz).bind fun ys =>
            if (parts.toList.map (·.1)).all (fun i => Nat.blt i len) = true then
              roomRo ro q.2 d fun s => k ((s.setOb d (.row sz (setAll ((parts.toList.map (·.1)).zip ys) (List.replicate len z)))).putN d (.full d))
            else none
          else none
      | _, _ => none
    | _, _ => none) = some r) : o.wp P a c.w (Post w0 cold0 N k r c.w ro) Q := by
  split at hk
  · rename_i d E hdst hu
    split at hk
    · rename_i sz zv hsz hzv
      split at hk
      · cases hk
      · rename_i hlim
        obtain ⟨z, hz, hk⟩ := Option.bind_eq_some_iff.1 hk
        split at hk
        · rename_i hzw
          obtain ⟨q, hq, hk⟩ := Option.bind_eq_some_iff.1 hk
          obtain ⟨ys, hys, hk⟩ := Option.bind_eq_some_iff.1 hk
          split at hk
          · rename_i hall
            obtain ⟨c1, hw1, hR1, hc1, hl1, hr1⟩ := frzOps_some _ s c q hq h
            obtain ⟨s2, c2, hk, hR2, hfree, hw2, hc2⟩ := roomRo_get hk hR1
            obtain ⟨i, zval, hi, hzval, rfl⟩ := zeroV_some hzv
            unfold chk at hys
            split at hys
            · rename_i hwid
              simp only [Option.some.injEq] at hys
              subst hys
              have hzrep : TRep c2.w c2.cold z zval := by
                cases hh : (ofConst zval).hot with
                | true =>
                  -- constants are not hot
                  exfalso
                  revert hh hz
                  unfold ofConst
                  split
                  · split
                    · intro _ hh
                      simp only [V.hot, List.any_map] at hh
                      obtain ⟨x, _, hx⟩ := List.any_eq_true.1 hh
                      revert hx
                      simp only [Function.comp]
                      unfold leafConst
                      split <;> simp [V.hot1]
                    · intro hz; simp [V.out, V.out3, V.out2, V.out1] at hz
                  · split
                    · intro hz; simp [V.out, V.out3, V.out2, V.out1] at hz
                    · intro hz; simp [V.out, V.out3, V.out2, V.out1] at hz
                  · intro _ hh
                    revert hh
                    unfold leafConst
                    split <;> simp [V.hot, V.hot1]
                | false => exact out_cold (ofConst_rep c2 zval) hh hz
              have hlim1 : sz ≠ 0 := fun e => hlim (.inl e)
              have hlim2 : ¬ (16777216 < len * sz) := fun e => hlim (.inr e)
              obtain ⟨t1, _, _⟩ := hzrep.cells
              have hzr := zero_rows hzrep len hzw hlim1 (len * sz) rfl
              obtain ⟨cs', hfill, hrep, hlen⟩ := setAll_rep (c := c2) (sz := sz) (len := len) ((parts.toList.map (·.1)).zip q.1) (parts.map fun (i, x) => (i, a.eval x)).toList (List.replicate len z) _ hzr (by simp)
                (by simp [hl1]) (fun j p q' hp hq' => by
                  rw [Array.toList_map, List.getElem?_map] at hq'
                  obtain ⟨pr, hpr, rfl⟩ := Option.map_eq_some_iff.1 hq'
                  rw [List.getElem?_zip_eq_some] at hp
                  obtain ⟨hp1, hp2⟩ := hp
                  rw [List.getElem?_map, hpr, Option.map_some, Option.some.injEq] at hp1
                  refine ⟨hp1.symm, ?_, ?_, ?_⟩
                  · have := List.all_eq_true.1 hall p.1 (by rw [← hp1]; exact List.mem_map.2 ⟨pr, List.mem_of_getElem? hpr, rfl⟩)
                    exact Nat.le_of_ble_eq_true this
                  · have := List.all_eq_true.1 hwid p.2 (List.mem_of_getElem? hp2)
                    simpa using this
                  · have := hr1 j p.2 pr.2 hp2 (by rw [List.getElem?_map, hpr]; rfl)
                    rw [hw2, hc2]
                    exact this)
              have hbel : Below c2.w.heap.size c2.w (c2.w.alloc (.cells cs' E)) := (Below.refl _ _).alloc (Nat.le_refl _) _
              obtain ⟨c3, hw3, hR3⟩ := newRow' (sz := sz) (xs := setAll ((parts.toList.map (·.1)).zip q.1) (List.replicate len z)) (E := E) (cs := cs') (cap := len) hR2 (okDst_lt hd d hdst) hfree hbel (by simp)
                (by show (c2.w.heap.push _)[c2.w.heap.size]? = _; simp) (by omega) (by rw [hrep.1, hlen]; exact Nat.le_refl _) hrep.2
              have hww : c2.w = c.w := by rw [hw2, hw1]
              rw [hlen] at hR3
              refine wp_value (y := .slice (some ⟨c.w.heap.size, 0, none⟩) len len) (w' := c.w.alloc (.cells cs' E)) ?_ ?_
              · simp only [execOp, ho, Instr.buildSlice, Sem.run_bind, run_underlying hu, Result.andThen_ok, run_sizeOf' hsz]
                have hns : ¬ (len * sz > 2 ^ 24) := by simp; omega
                rw [if_neg hns]
                simp only [Sem.run_bind, Sem.run_pure, Result.andThen_ok]
                by_cases h0 : len * sz = 0
                · simp only [h0, if_true, Sem.run_bind, Sem.run_pure, Result.andThen_ok]
                  rw [h0] at hfill
                  have e0 : (Array.map (fun x => (#[] : Array Value)[x % (#[] : Array Value).size]!) (Array.range 0)) = (Array.range 0).map (fun i => zval.cells[i % zval.cells.size]!) := by simp [Array.range_zero']
                  rw [e0, hfill]
                  simp [newRow]
                · simp only [h0, if_false, Sem.run_bind, run_zeroValue hi hzval, Result.andThen_ok, Sem.run_pure]
                  rw [hfill]
                  simp [newRow]
              · rw [hww] at hR3 hw3
                rw [hdst]
                exact ⟨_, c3, hw3, hR3, hk, fun _ => (Below.refl _ _).alloc (Nat.le_refl _) _⟩
            · cases hys
          · cases hk
        · cases hk
    · cases hk
  · cases hk
theorem const_rep (c : Cx) {zval : Value} {z : T} (hz : (ofConst zval).out (fun _ => .none) = some z) : TRep c.w c.cold z zval := by
  cases hh : (ofConst zval).hot with
  | true =>
    exfalso
    revert hh hz
    unfold ofConst
    split
    · split
      · intro _ hh
        simp only [V.hot, List.any_map] at hh
        obtain ⟨x, _, hx⟩ := List.any_eq_true.1 hh
        revert hx
        simp only [Function.comp]
        unfold leafConst
        split <;> simp [V.hot1]
      · intro hz; simp [V.out, V.out3, V.out2, V.out1] at hz
    · split
      · intro hz; simp [V.out, V.out3, V.out2, V.out1] at hz
      · intro hz; simp [V.out, V.out3, V.out2, V.out1] at hz
    · intro _ hh
      revert hh
      unfold leafConst
      split <;> simp [V.hot, V.hot1]
  | false => exact out_cold (ofConst_rep c zval) hh hz
theorem lst_of_row {b sz cap : Nat} {xs : List T} {cs : Array Value} {E : TypeId} (hh : c.w.heap[b]? = some (.cells cs E (0, 0))) (hb : c.cold b) (hrow : c.rowCells sz xs cs) (hcap : xs.length ≤ cap) :
    TRep c.w c.cold (.lst xs) (.slice (some ⟨b, 0, none⟩) xs.length cap) := by
  obtain ⟨hsz, hw, hrep⟩ := hrow
  have hin : ∀ i j, i < xs.length → j < sz → i * sz + j < cs.size := fun i j hi hj => by
    have : (i + 1) * sz ≤ xs.length * sz := Nat.mul_le_mul_right sz (by omega)
    rw [Nat.add_mul i, Nat.one_mul] at this
    omega
  exact TRep.lst (w := c.w) (cold := c.cold) xs b 0 cap sz (fun i j => cs.getD (i * sz + j) undef) hcap hb hw
    (fun i j hi hj => by
      rw [cell_block hh, show 0 + i * sz + j = i * sz + j by omega, Array.getD_eq_getD_getElem?]
      have := hin i j hi hj
      simp [this])
    (fun i j hi hj => by
      have hg : cs[i * sz + j]? = some (cs[i * sz + j]'(hin i j hi hj)) := by simp [hin i j hi hj]
      rw [Array.getD_eq_getD_getElem?, hg]
      have hx : xs[i]? = some xs[i] := List.getElem?_eq_getElem hi
      exact (hrep i j _ _ hx hj hg).2)
    (fun i x j hx hj => by
      have hi : i < xs.length := (List.getElem?_eq_some_iff.1 hx).1
      have hg : cs[i * sz + j]? = some (cs[i * sz + j]'(hin i j hi hj)) := by simp [hin i j hi hj]
      show TRep c.w c.cold (x.leaf j) (cs.getD (i * sz + j) undef)
      rw [Array.getD_eq_getD_getElem?, hg]
      exact (hrep i j x _ hx hj hg).1)
theorem outsC_some (h : Rel w0 cold0 N s a c) : ∀ {os : List Operand} {xs : List T}, outsC (os.map s.val) = some xs → xs.length = os.length ∧ ∀ (j : Nat) (x : T) (o : Operand), xs[j]? = some x → os[j]? = some o → TRep c.w c.cold x (a.eval o)
  | [], xs, hx => by simp only [outsC, List.map_nil, Option.some.injEq] at hx; subst hx; exact ⟨rfl, fun j x o hx => by simp at hx⟩
  | o :: os, xs, hx => by
    simp only [outsC, List.map_cons] at hx
    cases hh : (s.val o).hot with
    | true => rw [hh] at hx; cases hx
    | false =>
    rw [hh] at hx
    simp only [cond_false] at hx
    obtain ⟨x, h1, hx⟩ := Option.bind_eq_some_iff.1 hx
    obtain ⟨ys, h2, hx⟩ := Option.bind_eq_some_iff.1 hx
    simp only [Option.some.injEq] at hx
    subst hx
    obtain ⟨i1, i2⟩ := outsC_some h h2
    refine ⟨by simp [i1], fun j y o' hy ho => ?_⟩
    cases j with
    | zero => simp at hy ho; subst hy; subst ho; exact out_cold (h.val o) hh h1
    | succ j => exact i2 j y o' (by simpa using hy) (by simpa using ho)
/-- the same, quietly: a cold list -/
theorem op_buildSliceQ (h : Rel w0 cold0 N s a c) (hd : okDst N o = true) {t : TypeId} {len : Nat} {parts : Array (Nat × Operand)} (ho : o.op = .buildSlice t len parts)
    (hk : (match P.underlying t with
    | some (.slice E) => match szOf P E, zeroV P E with
      | some sz, some z => if sz = 0 ∨ 16777216 < len * sz then none else
        (z.out (fun _ => .none)).bind fun z => if z.width = sz then
          (outsC (parts.toList.map fun p => s.val p.2)).bind fun xs => (chk xs sz).bind fun ys =>
            if (parts.toList.map (·.1)).all (fun i => Nat.blt i len) = true then
              k (s.put o.dst (.t (.lst (setAll ((parts.toList.map (·.1)).zip ys) (List.replicate len z)))))
            else none
          else none
      | _, _ => none
    | _ => none) = some r) : o.wp P a c.w (Post w0 cold0 N k r c.w ro) Q := by
  split at hk
  · rename_i E hu
    split at hk
    · rename_i sz zv hsz hzv
      split at hk
      · cases hk
      · rename_i hlim
        obtain ⟨z, hz, hk⟩ := Option.bind_eq_some_iff.1 hk
        split at hk
        · rename_i hzw
          obtain ⟨q, hq, hk⟩ := Option.bind_eq_some_iff.1 hk
          obtain ⟨ys, hys, hk⟩ := Option.bind_eq_some_iff.1 hk
          split at hk
          · rename_i hall
            have hq : outsC ((parts.toList.map (·.2)).map s.val) = some q := by rw [List.map_map]; exact hq
            obtain ⟨hl1, hr1⟩ := outsC_some h hq
            obtain ⟨i, zval, hi, hzval, rfl⟩ := zeroV_some hzv
            unfold chk at hys
            split at hys
            · rename_i hwid
              simp only [Option.some.injEq] at hys
              subst hys
              have hzrep : TRep c.w c.cold z zval := const_rep c hz
              have hlim1 : sz ≠ 0 := fun e => hlim (.inl e)
              have hlim2 : ¬ (16777216 < len * sz) := fun e => hlim (.inr e)
              have hzr := zero_rows hzrep len hzw hlim1 (len * sz) rfl
              obtain ⟨cs', hfill, hrep, hlen⟩ := setAll_rep (c := c) (sz := sz) (len := len) ((parts.toList.map (·.1)).zip q) (parts.map fun (i, x) => (i, a.eval x)).toList (List.replicate len z) _ hzr (by simp)
                (by simp [hl1]) (fun j p q' hp hq' => by
                  rw [Array.toList_map, List.getElem?_map] at hq'
                  obtain ⟨pr, hpr, rfl⟩ := Option.map_eq_some_iff.1 hq'
                  rw [List.getElem?_zip_eq_some] at hp
                  obtain ⟨hp1, hp2⟩ := hp
                  rw [List.getElem?_map, hpr, Option.map_some, Option.some.injEq] at hp1
                  refine ⟨hp1.symm, ?_, ?_, ?_⟩
                  · have := List.all_eq_true.1 hall p.1 (by rw [← hp1]; exact List.mem_map.2 ⟨pr, List.mem_of_getElem? hpr, rfl⟩)
                    exact Nat.le_of_ble_eq_true this
                  · have := List.all_eq_true.1 hwid p.2 (List.mem_of_getElem? hp2)
                    simpa using this
                  · exact hr1 j p.2 pr.2 hp2 (by rw [List.getElem?_map, hpr]; rfl))
              have hbel : Below c.w.heap.size c.w (c.w.alloc (.cells cs' E)) := (Below.refl _ _).alloc (Nat.le_refl _) _
              obtain ⟨hR, sim⟩ := h.grow (c.w.alloc (.cells cs' E)) hbel (fun b => b = c.w.heap.size) (fun b hb => by subst hb; exact ⟨Nat.le_refl _, by simp⟩)
              have hval := lst_of_row (c := { c with w := c.w.alloc (.cells cs' E), cold := fun b => c.cold b ∨ b = c.w.heap.size }) (b := c.w.heap.size) (cap := len) (E := E)
                (by show (c.w.heap.push _)[c.w.heap.size]? = _; simp) (.inr rfl) (sim.rowCells hrep.2) (by omega)
              rw [hlen] at hval
              refine wp_value (y := .slice (some ⟨c.w.heap.size, 0, none⟩) len len) (w' := c.w.alloc (.cells cs' E)) ?_ ?_
              · simp only [execOp, ho, Instr.buildSlice, Sem.run_bind, run_underlying hu, Result.andThen_ok, run_sizeOf' hsz]
                have hns : ¬ (len * sz > 2 ^ 24) := by simp; omega
                rw [if_neg hns]
                simp only [Sem.run_bind, Sem.run_pure, Result.andThen_ok]
                by_cases h0 : len * sz = 0
                · simp only [h0, if_true, Sem.run_bind, Sem.run_pure, Result.andThen_ok]
                  rw [h0] at hfill
                  have e0 : (Array.map (fun x => (#[] : Array Value)[x % (#[] : Array Value).size]!) (Array.range 0)) = (Array.range 0).map (fun i => zval.cells[i % zval.cells.size]!) := by simp [Array.range_zero']
                  rw [e0, hfill]
                  simp [newRow]
                · simp only [h0, if_false, Sem.run_bind, run_zeroValue hi hzval, Result.andThen_ok, Sem.run_pure]
                  rw [hfill]
                  simp [newRow]
              · exact ⟨_, _, rfl, hR.put o.dst (okDst_lt hd) (v := .t (.lst _)) hval, hk, fun _ => hbel⟩
            · cases hys
          · cases hk
        · cases hk
    · cases hk
  · cases hk
theorem run_typeInfo' {t : TypeId} {i : TypeInfo} (h : P.info? t = some i) (w : World) : (typeInfo t).run P w = .ok i w := by simp [typeInfo, h]
theorem wrap_i64 {n : Int} (h0 : -9223372036854775808 ≤ n) (h1 : n ≤ 9223372036854775807) : IntKind.i64.wrap n = n := by
  simp only [IntKind.wrap, IntKind.bits, IntKind.signed, Bool.true_and, decide_eq_true_eq, show ((2 : Int) ^ 64) = 18446744073709551616 from by decide, show ((2 : Int) ^ (64 - 1)) = 9223372036854775808 from by decide, ge_iff_le]
  split <;> omega
theorem op_makeSlice (h : Rel w0 cold0 N s a c) (hd : okDst N o = true) {t : TypeId} {l cp : Operand} (ho : o.op = .makeSlice t l cp)
    (hk : (match o.dst, P.underlying t with
    | some d, some (.slice E) => match P.info? E, zeroV P E with
      | some i, some z => if i.size = 0 then none else
        (z.out (fun _ => .none)).bind fun z => (s.val l).asInt.bind fun n => (s.val cp).asInt.bind fun m =>
          if z.width = i.size ∧ 0 ≤ n ∧ n ≤ m ∧ m * i.bytes ≤ 140737488355328 ∧ m ≤ 9223372036854775807 then
            roomRo ro s d fun s => k ((s.setOb d (.row i.size (List.replicate n.toNat z))).putN d (.full d))
          else none
      | _, _ => none
    | _, _ => none) = some r) : o.wp P a c.w (Post w0 cold0 N k r c.w ro) Q := by
  split at hk
  · rename_i d E hdst hu
    split at hk
    · rename_i i zv hi hzv
      split at hk
      · cases hk
      · rename_i hsz0
        obtain ⟨z, hz, hk⟩ := Option.bind_eq_some_iff.1 hk
        obtain ⟨n, hn, hk⟩ := Option.bind_eq_some_iff.1 hk
        obtain ⟨m, hm, hk⟩ := Option.bind_eq_some_iff.1 hk
        split at hk
        · rename_i hc
          obtain ⟨hzw, h0, h1, h2, h3⟩ := hc
          obtain ⟨qn, hn⟩ := asInt_some hn
          obtain ⟨qm, hm⟩ := asInt_some hm
          have hln := v3_int (h.val l) hn
          have hlm := v3_int (h.val cp) hm
          obtain ⟨s2, c2, hkf, hR2, hfree, hw2, hc2⟩ := roomRo_get hk h
          obtain ⟨i', zval, hi', hzval, rfl⟩ := zeroV_some hzv
          rw [hi] at hi'
          simp only [Option.some.injEq] at hi'
          subst hi'
          have hsz : szOf P E = some i.size := by simp [szOf, hi]
          have hzrep : TRep c2.w c2.cold z zval := const_rep c2 hz
          obtain ⟨t1, _, _⟩ := hzrep.cells
          have hzr := zero_rows hzrep m.toNat hzw hsz0 (m.toNat * i.size) rfl
          -- the first n of them
          have hrow : c2.rowCells i.size (List.replicate n.toNat z) ((Array.range (m.toNat * i.size)).map fun j => zval.cells[j % zval.cells.size]!) := by
            obtain ⟨q1, q2, q3, q4⟩ := hzr
            refine ⟨?_, fun x hx => ?_, fun p j x y hx hj hy => ?_⟩
            · rw [q1]; simp only [List.length_replicate]; exact Nat.mul_le_mul_right _ (by omega)
            · rw [List.mem_replicate] at hx; rw [hx.2]; exact hzw
            · have hp : p < n.toNat := by have := (List.getElem?_eq_some_iff.1 hx).1; simpa using this
              have : (List.replicate m.toNat z)[p]? = some x := by
                rw [List.getElem?_replicate, if_pos (by omega)]
                rw [List.getElem?_replicate, if_pos hp] at hx
                exact hx
              exact q4 p j x y this hj hy
          have hbel : Below c2.w.heap.size c2.w (c2.w.alloc (.cells ((Array.range (m.toNat * i.size)).map fun j => zval.cells[j % zval.cells.size]!) E)) := (Below.refl _ _).alloc (Nat.le_refl _) _
          obtain ⟨c3, hw3, hR3⟩ := newRow' (sz := i.size) (xs := List.replicate n.toNat z) (E := E) (cs := (Array.range (m.toNat * i.size)).map fun j => zval.cells[j % zval.cells.size]!) (cap := m.toNat) hR2 (okDst_lt hd d hdst) hfree hbel (by simp)
            (by show (c2.w.heap.push _)[c2.w.heap.size]? = _; simp) (by simp; omega) (by simp) hrow
          rw [List.length_replicate] at hR3
          have hwn : IntKind.i64.wrap n = n := wrap_i64 (by omega) (by omega)
          have hwm : IntKind.i64.wrap m = m := wrap_i64 (by omega) (by omega)
          refine wp_value (y := .slice (some ⟨c.w.heap.size, 0, none⟩) n.toNat m.toNat) (w' := c.w.alloc (.cells ((Array.range (m.toNat * i.size)).map fun j => zval.cells[j % zval.cells.size]!) E)) ?_ ?_
          · have hbig : ¬ ((i.bytes : Int) * m > 2 ^ 48) := by
              have e : (i.bytes : Int) * m = m * i.bytes := Int.mul_comm _ _
              rw [e]; simp; omega
            simp only [execOp, ho, Instr.makeSlice, Sem.run_bind, run_underlying hu, Result.andThen_ok, hln, hlm, asInt, asIntOf, Sem.run_pure, run_typeInfo' hi, hwn, hwm]
            have hif : ¬ ((decide (m < 0) || decide ((i.bytes : Int) * m > 2 ^ 48) || decide (n < 0) || decide (n > m)) = true) := by
              simp only [Bool.or_eq_true, decide_eq_true_eq, not_or]
              exact ⟨⟨⟨by omega, hbig⟩, by omega⟩, by omega⟩
            rw [if_neg hif]
            simp only [Sem.run_bind, Sem.run_pure, Result.andThen_ok, run_askRoom, run_sizeOf' hsz]
            by_cases hz0 : m.toNat * i.size = 0
            · have e0 : (Array.map (fun x => (#[] : Array Value)[x % (#[] : Array Value).size]!) (Array.range 0)) = (Array.range 0).map (fun j => zval.cells[j % zval.cells.size]!) := by simp [Array.range_zero']
              simp only [hz0, if_true, Sem.run_pure, Result.andThen_ok, newRow, Sem.run_bind, run_newObj]
              rw [e0]
              simp
            · simp only [hz0, if_false, Sem.run_bind, run_zeroValue hi hzval, Result.andThen_ok, Sem.run_pure, newRow, run_newObj]
              simp
          · rw [hw2] at hR3 hw3
            rw [hdst]
            exact ⟨_, c3, hw3, hR3, hkf, fun _ => (Below.refl _ _).alloc (Nat.le_refl _) _⟩
        · cases hk
    · cases hk
  · cases hk

/-! ### stores -/
theorem run_storeVar {t : TypeId} {n : Nat} (hn : szOf P t = some n) {b off : Nat} {y : Value} {cs : Array Value} {E : TypeId} {w : World} (hy : y.cells.size = n) (h1 : ∀ (j : Nat) (u : Value), y.cells[j]? = some u → u.oneCell' = true)
    (hh : w.heap[b]? = some (.cells cs E (0, 0))) (hle : off + n ≤ cs.size) :
    (Instr.storeAt t (.pointer (some ⟨b, off, none⟩)) y).run P w = .ok () (w.setRow b (cs.toList.take off ++ y.cells.toList ++ cs.toList.drop (off + n)).toArray) := by
  have hst := run_storeCells_at (P := P) b off E y.cells.toList 0 cs w hh (by simp [hy]; omega) (fun v hv => by
    obtain ⟨j, hj⟩ := List.getElem?_of_mem hv
    exact h1 j v (by simpa using hj))
  simp only [Nat.add_zero, Array.length_toList, hy] at hst
  simp only [Instr.storeAt, Sem.run_bind, sureAddr_run, Result.andThen_ok, storeVar, run_sizeOf' hn]
  rw [if_neg (by simp [hy])]
  exact hst
theorem splice_get (cs : Array Value) (ys : Array Value) (off n : Nat) (hy : ys.size = n) (hle : off + n ≤ cs.size) :
    ((cs.toList.take off ++ ys.toList ++ cs.toList.drop (off + n)).toArray).size = cs.size ∧
    ∀ j, ((cs.toList.take off ++ ys.toList ++ cs.toList.drop (off + n)).toArray)[j]? = if off ≤ j ∧ j < off + n then ys[j - off]? else cs[j]? := by
  refine ⟨by simp; omega, fun j => ?_⟩
  have hl : (cs.toList.take off).length = off := by simp; omega
  rw [List.getElem?_toArray, List.append_assoc, List.getElem?_append, hl]
  split
  · rename_i hj
    rw [if_neg (by omega), List.getElem?_take_of_lt hj, Array.getElem?_toList]
  · rename_i hj
    rw [List.getElem?_append]
    have : ys.toList.length = n := by simp [hy]
    rw [this]
    split
    · rw [if_pos (by omega), Array.getElem?_toList]
    · rw [if_neg (by omega), List.getElem?_drop, Array.getElem?_toList]
      congr 1
      omega
theorem bx_repL {n : Nat} {u : V} {cs : Array Value} (hb : c.bx n u cs) (hsz : cs.size = n) (h1 : ∀ (j : Nat) (x : Value), cs[j]? = some x → x.oneCell' = true) {ls : List V} (hl : u.leaves n = some ls) : c.repL ls cs := by
  unfold V.leaves at hl
  split at hl
  · rename_i l
    split at hl
    · simp only [Option.some.injEq] at hl
      subst hl
      exact ⟨by rw [hsz]; exact hb.1.symm, h1, hb.2⟩
    · cases hl
  · rename_i e
    obtain ⟨x, hx, hl⟩ := Option.bind_eq_some_iff.1 hl
    simp only [Option.some.injEq] at hl
    subst hl
    obtain ⟨l, rfl, hln, rfl⟩ := aggN_some hx
    refine ⟨by simp [hsz], h1, fun j u x hu hx => ?_⟩
    simp only [List.getElem?_map] at hu
    obtain ⟨i, hi, rfl⟩ := Option.map_eq_some_iff.1 hu
    obtain ⟨hlt, rfl⟩ := List.getElem?_eq_some_iff.1 hi
    simp at hlt
    simp only [List.getElem_range]
    exact hb.2 j x hx
  · cases hl
theorem bx_of_repL {n : Nat} {ls : List V} {cs : Array Value} (h : c.repL ls cs) (hn : ls.length = n) : c.bx n (.agg ls) cs := ⟨hn, h.2.2⟩
end
end Go.Ax
