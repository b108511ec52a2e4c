/- Ax, part P: any operation; a region in its order. -/
import Derived.Test.YtcpcbmebpmokbaaDoorAxO
set_option linter.unusedVariables false
set_option linter.unusedSimpArgs false
namespace Go.Ax
open Go Go.RowKit

section
variable {P : Program} {w0 : Base} {cold0 : Nat → Prop} {N : Nat} {s : St} {a : Act} {c : Cx} {R : Type} {r : R} {o : Oper} {Q : Exit → Act → World → Prop} {k : St → Option R} {C : Nat → Option Summary} {ro : Bool}

theorem evCallQ_evCall {objs : Nat → Ob} {dst : Option Nat} {g : Nat} {us : List V} (hN : True) (h : evCallQ C s.objs g us (fun v => k (s.put dst v)) = some r) : evCall ro N C dst s g us k = some r := by
  unfold evCallQ at h
  unfold evCall
  split at h
  · cases h
  rename_i S hS
  cases hm : S.m with
  | some M => rw [hm] at h; cases h
  | none =>
  rw [hm] at h
  simp only at h ⊢
  obtain ⟨ts, hts, h⟩ := Option.bind_eq_some_iff.1 h
  obtain ⟨A, hA, h⟩ := Option.bind_eq_some_iff.1 h
  split at h
  · cases h
  rename_i hhot
  obtain ⟨B, hB, h⟩ := Option.bind_eq_some_iff.1 h
  have flat : ∀ (rs : List RL) (M d i M' d' : Nat), ownSites M d i rs = [] → ownSites M' d' i rs = [] ∧ inVals M d i rs = inVals M' d' i rs ∧ ∀ s : St, inObs M' d' i rs s = s := by
    intro rs
    induction rs with
    | nil => intro M d i M' d' _; exact ⟨rfl, rfl, fun _ => rfl⟩
    | cons q rs ih =>
      intro M d i M' d' h
      cases q with
      | t x =>
        obtain ⟨h1, h2, h3⟩ := ih M d (i + 1) M' d' h
        exact ⟨h1, by simp only [inVals, inOne, h2], h3⟩
      | own sz xs => simp [ownSites] at h
  cases hown : (ownSites 0 0 0 (flatRV (S.res B))).isEmpty with
  | false => simp [hown] at h
  | true =>
    simp only [hown, cond_true] at h
    obtain ⟨h1, h2, h3⟩ := flat (flatRV (S.res B)) 0 0 0 N (dst.getD 0) (List.isEmpty_iff.1 hown)
    simp only [hS, hts, Option.bind_some, hA, hhot, hB, h1, nodupB, cond_true, rooms, h3, ← h2]
    simpa using h
/-- the quiet operations are operations -/
theorem evQ_evOp (hnb : ∀ t l ps, o.op ≠ .buildSlice t l ps) (h : evQ P C o s.val s.objs (fun v => k (s.put o.dst v)) = some r) : evOp P ro N C o s k = some r := by
  unfold evOp
  split
  all_goals (try (rename_i ho; exact absurd ho (hnb _ _ _)))
  all_goals (try (rename_i ho; unfold evQ at h; rw [ho] at h; cases h; done))
  · rename_i cl ho
    split
    · rename_i hb; unfold evQ at h; rw [ho] at h; simp only [hb] at h; cases h
    · rename_i f hb
      unfold evQ at h
      rw [ho] at h
      simp only [hb] at h
      split at h
      · rename_i g caps hq
        exact evCallQ_evCall (objs := s.objs) trivial h
      · rename_i g caps hq
        exact evCallQ_evCall (objs := s.objs) trivial h
      · cases h
    · exact h
  · exact h
/-- ANY OPERATION: what the executor says of it is so. -/
theorem evOp_sound (hC : OrcSound P w0.g C) (h : Rel w0 cold0 N s a c) (hd : okDst N o = true) (hk : evOp P ro N C o s k = some r) :
    o.wp P a c.w (Post w0 cold0 N k r c.w ro) Q := by
  unfold evOp at hk
  split at hk
  · rename_i t ho; simp only [boxK_eq] at hk; exact op_alloc h hd ho hk
  · rename_i t x ho; simp only [boxK_eq] at hk; exact op_box h hd ho hk
  · rename_i t x y ho; exact op_store h hd ho hk
  · rename_i t len parts ho; exact op_buildSlice h hd ho hk
  · rename_i t l cp ho; exact op_makeSlice h hd ho hk
  · rename_i cl ho
    split at hk
    · rename_i hb; exact op_append h hd ho hb hk
    · rename_i f hb; exact op_call hC h hd ho hb hk
    · rename_i hb1 hb2
      unfold evQ at hk
      rw [ho] at hk
      simp only at hk
      split at hk
      · rename_i hb; exact op_len h hd ho hb hk
      · rename_i hb; exact op_minmax (mx := true) h hd ho hb hk
      · rename_i hb; exact op_minmax (mx := false) h hd ho hb hk
      · rename_i f hb; exact absurd hb (hb2 f)
      · cases hk
  · unfold evQ at hk
    split at hk
    · rename_i x ho; exact op_move h hd (.inl ho) hk
    · rename_i x ho; exact op_move h hd (.inr ho) hk
    · rename_i x y z ho; exact op_pick h hd ho hk
    · rename_i t x ho; exact op_load h hd ho hk
    · rename_i x ho; exact op_nilCheck h hd ho hk
    · rename_i op t x y ty ho; exact op_binOp h hd ho hk
    · rename_i op t x ho; exact op_unOp h hd ho hk
    · rename_i src dst x ho; exact op_convert h hd ho hk
    · rename_i t x f ho; exact op_fieldAddr h hd ho hk
    · rename_i t x f ho; simp only [fieldK_eq] at hk; exact op_field h hd ho hk
    · rename_i t x ix ho; exact op_indexAddr h hd ho hk
    · rename_i t x ix ho; exact op_index h hd ho hk
    · rename_i x i ho; exact op_extract h hd ho hk
    · rename_i t x lo hi mx ho; exact op_slice h hd ho hk
    · rename_i t parts ho; simp only [bldStructK_eq, bldArrK_eq] at hk; exact op_build h hd ho hk
    · rename_i t len parts ho; exact absurd ho (‹∀ t l p, o.op = Op.buildSlice t l p → False› t len parts)
    · rename_i g first captured ho; exact op_makeFunc h hd ho hk
    · rename_i cl ho; exact absurd ho (‹∀ c, o.op = Op.call c → False› cl)
    · cases hk
end
end Go.Ax
