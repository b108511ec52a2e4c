/- Ax, part I: the operations, one by one: those that make no memory. -/
import Derived.Test.YtcpcbmebpmokbaaDoorAxH
set_option linter.unusedVariables false
set_option linter.unusedSimpArgs false
namespace Go.Ax
open Go Go.RowKit

section
variable {P : Program} {w0 : Base} {cold0 : Nat → Prop} {N : Nat} {s : St} {a : Act} {c : Cx} {R : Type} {r : R} {o : Oper} {Q : Exit → Act → World → Prop} {k : St → Option R} {ro : Bool}

theorem op_move (h : Rel w0 cold0 N s a c) (hd : okDst N o = true) {x : Operand} (ho : o.op = .move x ∨ o.op = .assign x) (hk : k (s.put o.dst (s.val x)) = some r) :
    o.wp P a c.w (Post w0 cold0 N k r c.w ro) Q := by
  refine wp_val ?_ h hd (h.val x) hk
  rcases ho with ho | ho <;> simp [execOp, ho]
theorem v3_bool {v : V} {y : Value} {b : Bool} (h : c.v3 v y) (e : v = .t (.bool b)) : y = .bool b := by subst e; cases h; rfl
theorem v3_int {v : V} {y : Value} {q : IntKind} {n : Int} (h : c.v3 v y) (e : v = .t (.int q n)) : y = .int q n := by subst e; cases h; rfl
theorem v3_str {v : V} {y : Value} {b : ByteArray} (h : c.v3 v y) (e : v = .t (.str b)) : y = .string b := by subst e; cases h; rfl
theorem op_pick (h : Rel w0 cold0 N s a c) (hd : okDst N o = true) {x y z : Operand} (ho : o.op = .pick x y z)
    (hk : (match s.val x with
      | .t (.bool q) => match s.val y, s.val z with
        | .t (.bool x), .t (.bool y) => k (s.put o.dst (.t (.bool (if q = true then x else y))))
        | u, v => if q = true then k (s.put o.dst u) else k (s.put o.dst v)
      | _ => none) = some r) : o.wp P a c.w (Post w0 cold0 N k r c.w ro) Q := by
  split at hk
  · rename_i q hq
    have hx := v3_bool (h.val x) hq
    have hrun : (execOp a.eval o).run P c.w = .ok (.value (if q then a.eval y else a.eval z)) c.w := by simp [execOp, ho, hx, asBool]
    have hy := h.val y
    have hz := h.val z
    split at hk
    · rename_i b1 b2 h1 h2
      refine wp_val hrun h hd ?_ hk
      rw [v3_bool hy h1, v3_bool hz h2]
      cases q <;> exact .bool _
    · split at hk
      · rename_i hqt
        subst hqt
        exact wp_val hrun h hd hy hk
      · rename_i hqf
        have : q = false := by simpa using hqf
        subst this
        exact wp_val hrun h hd hz hk
  · cases hk
theorem op_load (h : Rel w0 cold0 N s a c) (hd : okDst N o = true) {t : TypeId} {x : Operand} (ho : o.op = .load t x)
    (hk : ld P t s.objs (s.val x) (fun v => k (s.put o.dst v)) = some r) : o.wp P a c.w (Post w0 cold0 N k r c.w ro) Q := by
  obtain ⟨y, v, hrun, hv, hk⟩ := ld_run h (h.val x) hk
  exact wp_val (by simp [execOp, ho, hrun]) h hd hv hk
theorem op_nilCheck (h : Rel w0 cold0 N s a c) (hd : okDst N o = true) {x : Operand} (ho : o.op = .nilCheck x)
    (hk : (match s.val x with
      | .bp d i => k (s.put o.dst (.bp d i))
      | .rp d i j => k (s.put o.dst (.rp d i j))
      | .t (.cp e i) => k (s.put o.dst (.t (.cp e i)))
      | _ => none) = some r) : o.wp P a c.w (Post w0 cold0 N k r c.w ro) Q := by
  have hx := h.val x
  split at hk
  · rename_i d i hq
    rw [hq] at hx
    obtain ⟨n, u, b, h1, h2, h3⟩ := hx
    exact wp_val (v := .bp d i) (by simp [execOp, ho, h3]) h hd ⟨n, u, b, h1, h2, rfl⟩ hk
  · rename_i d i j hq
    rw [hq] at hx
    obtain ⟨n, u, b, h1, h0, h2, h3⟩ := hx
    exact wp_val (v := .rp d i j) (by simp [execOp, ho, h3]) h hd ⟨n, u, b, h1, h0, h2, rfl⟩ hk
  · rename_i e i hq
    rw [hq] at hx
    generalize hy : a.eval x = y at hx
    cases hx with
    | cp _ _ b off cv hc hcell h1 hr =>
      exact wp_val (v := .t (.cp e i)) (by simp [execOp, ho, hy]) h hd (TRep.cp e i b off cv hc hcell h1 hr) hk
  · cases hk
theorem run_fieldAt {t : TypeId} {fs : Array Field} {f : Nat} {fd : Field} (hu : P.underlying t = some (.struct fs)) (hf : fs[f]? = some fd)
    (hz : nzT P fd.type = true) (b off : Nat) (w : World) :
    (Instr.fieldAt t (.pointer (some ⟨b, off, none⟩)) f).run P w = .ok (.pointer (some ⟨b, off + fd.offset, none⟩)) w := by
  unfold nzT at hz
  split at hz
  · rename_i m hm
    simp [Instr.fieldAt, run_underlying hu, hf, sureAddr_run, fieldPlace, run_sizeOf' hm, Addr.add_lit]
  · cases hz
theorem op_fieldAddr (h : Rel w0 cold0 N s a c) (hd : okDst N o = true) {t : TypeId} {x : Operand} {f : Nat} (ho : o.op = .fieldAddr t x f)
    (hk : (match P.underlying t with
    | some (.struct fs) => match fs[f]? with
      | some fd => if nzT P fd.type = true then
          match s.val x with
          | .bp d i => k (s.put o.dst (.bp d (i + fd.offset)))
          | .rp d i j => k (s.put o.dst (.rp d i (j + fd.offset)))
          | .t (.cp e i) => k (s.put o.dst (.t (.cp e (i + fd.offset))))
          | _ => none
        else none
      | none => none
    | _ => none) = some r) : o.wp P a c.w (Post w0 cold0 N k r c.w ro) Q := by
  have hx := h.val x
  split at hk
  · rename_i fs hu
    split at hk
    · rename_i fd hf
      split at hk
      · rename_i hz
        split at hk
        · rename_i d i hq
          rw [hq] at hx
          obtain ⟨n, u, b, h1, h2, h3⟩ := hx
          exact wp_val (v := .bp d (i + fd.offset)) (by simp [execOp, ho, h3, run_fieldAt hu hf hz]) h hd ⟨n, u, b, h1, h2, rfl⟩ hk
        · rename_i d i j hq
          rw [hq] at hx
          obtain ⟨n, u, b, h1, h0, h2, h3⟩ := hx
          exact wp_val (v := .rp d i (j + fd.offset)) (x := .pointer (some ⟨b, i * n + j + fd.offset, none⟩)) (by simp [execOp, ho, h3, run_fieldAt hu hf hz]) h hd ⟨n, u, b, h1, h0, h2, by rw [Nat.add_assoc]⟩ hk
        · rename_i e i hq
          rw [hq] at hx
          generalize hy : a.eval x = y at hx
          cases hx with
          | cp _ _ b off cv hc hcell h1 hr =>
            refine wp_val (v := .t (.cp e (i + fd.offset))) (x := .pointer (some ⟨b, off + (i + fd.offset), none⟩)) (by simp [execOp, ho, hy, run_fieldAt hu hf hz, Nat.add_assoc]) h hd (TRep.cp e _ b off cv hc hcell h1 hr) hk
        · cases hk
      · cases hk
    · cases hk
  · cases hk
theorem rd_some {xs : List T} {i : Int} {sz : Nat} {e : T} (h : rd xs i sz = some e) : 0 ≤ i ∧ i.toNat < xs.length ∧ xs[i.toNat]? = some e ∧ e.width = sz := by
  unfold rd at h
  split at h
  · rename_i h0
    obtain ⟨x, hx, h⟩ := Option.bind_eq_some_iff.1 h
    split at h
    · rename_i hw
      simp only [Option.some.injEq] at h
      subst h
      exact ⟨h0, (List.getElem?_eq_some_iff.1 hx).1, hx, hw⟩
    · cases h
  · cases h
theorem asInt_some {v : V} {i : Int} (h : v.asInt = some i) : ∃ q, v = .t (.int q i) := by
  unfold V.asInt at h
  split at h
  · simp only [Option.some.injEq] at h; subst h; exact ⟨_, rfl⟩
  · cases h
theorem run_indexAt_sl {t E : TypeId} (hu : P.underlying t = some (.slice E)) {sz : Nat} (hsz : szOf P E = some sz) (p : Addr) (len cap : Nat) (q : IntKind) (i : Int) (h0 : 0 ≤ i) (h1 : i < len) (w : World) :
    (Instr.indexAt t (.slice (some p) len cap) (.int q i)).run P w = .ok (.pointer (some (p.add (i.toNat * sz)))) w := by
  simp [Instr.indexAt, run_underlying hu, asIntOf, h0, h1, run_sizeOf' hsz]
theorem run_indexAt_arr {t E : TypeId} {n : Nat} (hu : P.underlying t = some (.array n E)) {sz : Nat} (hsz : szOf P E = some sz) (p : Addr) (q : IntKind) (i : Int) (h0 : 0 ≤ i) (h1 : i < n) (w : World) :
    (Instr.indexAt t (.pointer (some p)) (.int q i)).run P w = .ok (.pointer (some (p.add (i.toNat * sz)))) w := by
  simp [Instr.indexAt, run_underlying hu, asIntOf, sureAddr_run, h0, h1, run_sizeOf' hsz]
theorem lst_elem {w : World} {cold : Nat → Prop} {xs : List T} {y : Value} (h : TRep w cold (.lst xs) y) {i sz : Nat} {e : T} (hi : xs[i]? = some e) (hw : e.width = sz) :
    ∃ b off cap, y = .slice (some ⟨b, off, none⟩) xs.length cap ∧ TRep w cold (.cp e 0) (.pointer (some ⟨b, off + i * sz, none⟩)) := by
  have hlt := (List.getElem?_eq_some_iff.1 hi).1
  cases h with
  | lst0 => simp at hlt
  | lst _ b off cap sz' cv hcap hc hws hcell h1 hr =>
    have : sz' = sz := by rw [← hw]; exact (hws e (List.mem_of_getElem? hi)).symm
    subst this
    refine ⟨b, off, cap, rfl, ?_⟩
    have := TRep.cp (w := w) (cold := cold) e 0 b (off + i * sz') (cv i) hc (fun j hj => hcell i j hlt (by omega)) (fun j hj => h1 i j hlt (by omega)) (fun j hj => hr i e j hi (by omega))
    simpa using this
theorem op_indexAddr (h : Rel w0 cold0 N s a c) (hd : okDst N o = true) {t : TypeId} {x ix : Operand} (ho : o.op = .indexAddr t x ix)
    (hk : ((s.val ix).asInt.bind fun i => match P.underlying t with
    | some (.slice E) => match szOf P E with
      | some sz => match s.val x with
        | .t (.lst xs) => (rd xs i sz).bind fun e => k (s.put o.dst (.t (.cp e 0)))
        | .full d => match s.objs d with
          | .row sz' xs => if sz' = sz then if 0 ≤ i ∧ i < xs.length then k (s.put o.dst (.rp d i.toNat 0)) else none else none
          | _ => none
        | .rv d off len => match s.objs d with
          | .row sz' _ => if sz' = sz then if 0 ≤ i ∧ i < len then k (s.put o.dst (.rp d (off + i.toNat) 0)) else none else none
          | _ => none
        | _ => none
      | none => none
    | some (.array n E) => match szOf P E with
      | some sz => if 0 ≤ i ∧ i < n then match s.val x with
          | .bp d p => k (s.put o.dst (.bp d (p + i.toNat * sz)))
          | .t (.cp e p) => k (s.put o.dst (.t (.cp e (p + i.toNat * sz))))
          | _ => none
        else none
      | none => none
    | _ => none) = some r) : o.wp P a c.w (Post w0 cold0 N k r c.w ro) Q := by
  have hx := h.val x
  obtain ⟨i, hi, hk⟩ := Option.bind_eq_some_iff.1 hk
  obtain ⟨q, hi⟩ := asInt_some hi
  have hix := v3_int (h.val ix) hi
  split at hk
  · rename_i E hu
    split at hk
    · rename_i sz hsz
      split at hk
      · rename_i xs hq
        rw [hq] at hx
        obtain ⟨e, he, hk⟩ := Option.bind_eq_some_iff.1 hk
        obtain ⟨h0, h1, h2, h3⟩ := rd_some he
        obtain ⟨b, off, cap, hy, hrep⟩ := lst_elem hx h2 h3
        refine wp_val (v := .t (.cp e 0)) ?_ h hd hrep hk
        simp [execOp, ho, hy, hix, run_indexAt_sl hu hsz ⟨b, off, none⟩ xs.length cap q i h0 (by omega), add_lit]
      · rename_i d hq
        rw [hq] at hx
        split at hk
        · rename_i sz' xs hob
          split at hk
          · rename_i hss
            subst hss
            split at hk
            · rename_i hb
              obtain ⟨sz2, xs2, ho2, hr⟩ := hx
              rw [h.objs, hob] at ho2
              simp only [Ob.row.injEq] at ho2
              obtain ⟨rfl, rfl⟩ := ho2
              rcases hr with ⟨_, rfl, _⟩ | ⟨b, cap, cs, F, he, hy, hcap, hh, hsz2⟩
              · simp at hb; omega
              · refine wp_val (v := .rp d i.toNat 0) (x := .pointer (some ⟨b, i.toNat * sz', none⟩)) ?_ h hd ⟨sz', xs, b, by rw [h.objs]; exact hob, by omega, he, by simp⟩ hk
                simp [execOp, ho, hy, hix, run_indexAt_sl hu hsz _ _ _ q i hb.1 hb.2, add_lit]
            · cases hk
          · cases hk
        · cases hk
      · rename_i d off len hq
        rw [hq] at hx
        split at hk
        · rename_i sz' xs hob
          split at hk
          · rename_i hss
            subst hss
            split at hk
            · rename_i hb
              obtain ⟨sz2, xs2, ho2, hle, hr⟩ := hx
              rw [h.objs, hob] at ho2
              simp only [Ob.row.injEq] at ho2
              obtain ⟨rfl, rfl⟩ := ho2
              rcases hr with ⟨rfl, _⟩ | ⟨b, cap, he, hy, hcap⟩
              · simp at hb; omega
              · refine wp_val (v := .rp d (off + i.toNat) 0) (x := .pointer (some ⟨b, (off + i.toNat) * sz', none⟩)) ?_ h hd ⟨sz', xs, b, by rw [h.objs]; exact hob, by omega, he, by simp⟩ hk
                simp [execOp, ho, hy, hix, run_indexAt_sl hu hsz _ _ _ q i hb.1 hb.2, add_lit, Nat.add_mul]
            · cases hk
          · cases hk
        · cases hk
      · cases hk
    · cases hk
  · rename_i n E hu
    split at hk
    · rename_i sz hsz
      split at hk
      · rename_i hb
        split at hk
        · rename_i d p hq
          rw [hq] at hx
          obtain ⟨m, u, b, h1, h2, h3⟩ := hx
          refine wp_val (v := .bp d (p + i.toNat * sz)) ?_ h hd ⟨m, u, b, h1, h2, rfl⟩ hk
          simp [execOp, ho, h3, hix, run_indexAt_arr hu hsz _ q i hb.1 hb.2, add_lit]
        · rename_i e p hq
          rw [hq] at hx
          generalize hy : a.eval x = y at hx
          cases hx with
          | cp _ _ b off cv hc hcell h1 hr =>
            refine wp_val (v := .t (.cp e (p + i.toNat * sz))) (x := .pointer (some ⟨b, off + (p + i.toNat * sz), none⟩)) ?_ h hd (TRep.cp e _ b off cv hc hcell h1 hr) hk
            simp [execOp, ho, hy, hix, run_indexAt_arr hu hsz _ q i hb.1 hb.2, add_lit, Nat.add_assoc]
        · cases hk
      · cases hk
    · cases hk
  · cases hk
end
end Go.Ax
