/- Ax, part E: frames: operands, temporaries, new objects, objects that go. -/
import Derived.Test.YtcpcbmebpmokbaaDoorAxD
set_option linter.unusedVariables false
set_option linter.unusedSimpArgs false
namespace Go.Ax
open Go Go.RowKit

theorem leafConst_rep (c : Cx) (v : Value) : c.v1 (leafConst v) v := by
  unfold leafConst
  split
  · exact .int _ _
  · exact .bool _
  · exact .str _
  · rfl
  · exact .np
  · exact .nf
  · exact .ni
  · trivial
theorem Cx.v2_of_v1 {c : Cx} {u : V} {v : Value} (h : c.v1 u v) : c.v2 u v := by
  cases u <;> first | exact h | exact h.elim
theorem Cx.v3_of_v2 {c : Cx} {u : V} {v : Value} (h : c.v2 u v) : c.v3 u v := by
  cases u <;> first | exact h | exact h.elim
theorem Cx.v3_of_v1 {c : Cx} {u : V} {v : Value} (h : c.v1 u v) : c.v3 u v := v3_of_v2 (v2_of_v1 h)
theorem ofConst_rep (c : Cx) (v : Value) : c.v3 (ofConst v) v := by
  unfold ofConst
  split
  · rename_i cs
    split
    · rename_i h
      have h1 : ∀ (j : Nat) (x : Value), cs[j]? = some x → x.oneCell' = true := fun j x hx => by
        rw [List.all_eq_true] at h
        exact h x (by rw [Array.mem_toList_iff]; exact Array.mem_of_getElem? hx)
      refine ⟨cs, rfl, by simp, h1, fun j l x hl hx => ?_⟩
      simp only [List.getElem?_map, Array.getElem?_toList, hx, Option.map_some, Option.some.injEq] at hl
      subst hl
      exact leafConst_rep c x
    · trivial
  · rename_i vs
    split
    · rename_i h
      exact ⟨vs, rfl, by simpa using h, fun j l x hl hx => by simp at hl⟩
    · trivial
  · exact Cx.v3_of_v1 (leafConst_rep c v)

section
variable {w0 : Base} {cold0 : Nat → Prop} {N : Nat} {s : St} {a : Act} {c : Cx}

theorem Rel.val (h : Rel w0 cold0 N s a c) (x : Operand) : c.v3 (s.val x) (a.eval x) := by
  cases x with
  | tmp t => exact h.tmp t
  | const v => exact ofConst_rep c v
  | global g => trivial
  | func f => exact ⟨#[], rfl, rfl, fun j l x hl hx => by simp at hl⟩

theorem okDst_lt {o : Oper} (h : okDst N o = true) (d : Nat) (hd : o.dst = some d) : d < N := by
  unfold okDst at h
  rw [hd] at h
  exact Nat.le_of_ble_eq_true h

theorem Rel.put (h : Rel w0 cold0 N s a c) (d : Option Nat) (hd : ∀ e, d = some e → e < N) {v : V} {x : Value} (hv : c.v3 v x) : Rel w0 cold0 N (s.put d v) (a.put d x) c := by
  cases d with
  | none => exact h
  | some d =>
    have hd := hd d rfl
    refine { h with size := ?_, tmp := ?_ }
    · simp [Act.put, h.size]
    · intro t
      show c.v3 (bif Nat.beq t d then v else s.env t) _
      by_cases e : t = d
      · subst e
        have : Nat.beq t t = true := by simp
        rw [this]
        simp only [cond_true, Act.put]
        rw [Array.getD_eq_getD_getElem?, Array.getElem?_setIfInBounds_self_of_lt (by rw [h.size]; exact hd)]
        exact hv
      · have : Nat.beq t d = false := by cases hb : Nat.beq t d with | false => rfl | true => exact absurd (Nat.eq_of_beq_eq_true hb) e
        rw [this]
        simp only [cond_false, Act.put]
        rw [Array.getD_eq_getD_getElem?, Array.getElem?_setIfInBounds_ne (Ne.symm e), ← Array.getD_eq_getD_getElem?]
        exact h.tmp t

/-- more junk -/
theorem Rel.junk (h : Rel w0 cold0 N s a c) (d : Nat) : Rel w0 cold0 N (s.putN d .junk) a c := by
  refine { h with tmp := ?_ }
  intro t
  show c.v3 (bif Nat.beq t d then .junk else s.env t) _
  cases Nat.beq t d
  · exact h.tmp t
  · trivial
theorem Rel.junkAll (h : Rel w0 cold0 N s a c) : ∀ ds, Rel w0 cold0 N (junkAll s ds) a c
  | [] => h
  | d :: ds => (Rel.junkAll h ds).junk d

/-- an object goes: what led to it is junk -/
def Cx.killed (c : Cx) (d : Nat) : Cx := { c with objs := fun e => bif Nat.beq e d then .none else (c.objs e).kill d }
theorem kill_row {o : Ob} {d sz : Nat} {xs : List T} : o.kill d = .row sz xs ↔ o = .row sz xs := by cases o <;> simp [Ob.kill]
theorem kill_none {o : Ob} {d : Nat} : o.kill d = .none ↔ o = .none := by cases o <;> simp [Ob.kill]
theorem Cx.v1_kill (d : Nat) {u : V} {v : Value} (h : c.v1 u v) : (c.killed d).v1 (u.kill1 d) v := by
  have ne : ∀ {e : Nat}, Nat.beq e d = false → (c.killed d).objs e = (c.objs e).kill d := fun he => by simp [Cx.killed, he]
  cases u with
  | full e =>
    simp only [V.kill1]
    cases he : Nat.beq e d
    · obtain ⟨sz, xs, ho, hr⟩ := h
      exact ⟨sz, xs, by rw [ne he, ho]; rfl, hr⟩
    · trivial
  | rv e o l =>
    simp only [V.kill1]
    cases he : Nat.beq e d
    · obtain ⟨sz, xs, ho, hr⟩ := h
      exact ⟨sz, xs, by rw [ne he, ho]; rfl, hr⟩
    · trivial
  | bp e o =>
    simp only [V.kill1]
    cases he : Nat.beq e d
    · obtain ⟨n, u, b, ho, hr⟩ := h
      exact ⟨n, u.kill2 d, b, by rw [ne he, ho]; rfl, hr⟩
    · trivial
  | rp e i o =>
    simp only [V.kill1]
    cases he : Nat.beq e d
    · obtain ⟨sz, xs, b, ho, hr⟩ := h
      exact ⟨sz, xs, b, by rw [ne he, ho]; rfl, hr⟩
    · trivial
  | sp e t =>
    simp only [V.kill1]
    cases he : Nat.beq e d
    · obtain ⟨n, u, b, cs, ho, hr⟩ := h
      exact ⟨n, u.kill2 d, b, cs, by rw [ne he, ho]; rfl, hr⟩
    · trivial
  | fb e t =>
    simp only [V.kill1]
    cases he : Nat.beq e d
    · obtain ⟨sz, xs, ho, hr⟩ := h
      exact ⟨sz, xs, by rw [ne he, ho]; rfl, hr⟩
    · trivial
  | _ => exact h
theorem Cx.v2_kill (d : Nat) {u : V} {v : Value} (h : c.v2 u v) : (c.killed d).v2 (u.kill2 d) v := by
  cases u with
  | agg ls =>
    obtain ⟨cs, h0, h1, h2, h3⟩ := h
    refine ⟨cs, h0, by simpa using h1, h2, fun j l x hl hx => ?_⟩
    rw [List.getElem?_map] at hl
    obtain ⟨l0, hl0, rfl⟩ := Option.map_eq_some_iff.1 hl
    exact Cx.v1_kill d (h3 j l0 x hl0 hx)
  | fn g caps =>
    obtain ⟨cs, h0, h1, h3⟩ := h
    refine ⟨cs, h0, by simpa using h1, fun j l x hl hx => ?_⟩
    rw [List.getElem?_map] at hl
    obtain ⟨l0, hl0, rfl⟩ := Option.map_eq_some_iff.1 hl
    exact Cx.v1_kill d (h3 j l0 x hl0 hx)
  | tup ls => exact h.elim
  | t x => exact h
  | nilv => exact h
  | junk => trivial
  | full e => exact Cx.v2_of_v1 (Cx.v1_kill (u := .full e) d h)
  | rv e x y => exact Cx.v2_of_v1 (Cx.v1_kill (u := .rv e x y) d h)
  | bp e o => exact Cx.v2_of_v1 (Cx.v1_kill (u := .bp e o) d h)
  | rp e i o => exact Cx.v2_of_v1 (Cx.v1_kill (u := .rp e i o) d h)
  | sp e t => exact Cx.v2_of_v1 (Cx.v1_kill (u := .sp e t) d h)
  | fb e t => exact Cx.v2_of_v1 (Cx.v1_kill (u := .fb e t) d h)
theorem Cx.v3_kill (d : Nat) {u : V} {v : Value} (h : c.v3 u v) : (c.killed d).v3 (u.kill d) v := by
  cases u with
  | tup ls =>
    obtain ⟨cs, h0, h1, h3⟩ := h
    refine ⟨cs, h0, by simpa using h1, fun j l x hl hx => ?_⟩
    rw [List.getElem?_map] at hl
    obtain ⟨l0, hl0, rfl⟩ := Option.map_eq_some_iff.1 hl
    exact Cx.v2_kill d (h3 j l0 x hl0 hx)
  | agg ls => exact Cx.v3_of_v2 (Cx.v2_kill (u := .agg ls) d h)
  | fn g cs => exact Cx.v3_of_v2 (Cx.v2_kill (u := .fn g cs) d h)
  | t x => exact h
  | nilv => exact h
  | junk => trivial
  | full e => exact Cx.v3_of_v2 (Cx.v2_kill (u := .full e) d h)
  | rv e x y => exact Cx.v3_of_v2 (Cx.v2_kill (u := .rv e x y) d h)
  | bp e o => exact Cx.v3_of_v2 (Cx.v2_kill (u := .bp e o) d h)
  | rp e i o => exact Cx.v3_of_v2 (Cx.v2_kill (u := .rp e i o) d h)
  | sp e t => exact Cx.v3_of_v2 (Cx.v2_kill (u := .sp e t) d h)
  | fb e t => exact Cx.v3_of_v2 (Cx.v2_kill (u := .fb e t) d h)
theorem Cx.bx_kill (d : Nat) {n : Nat} {u : V} {cs : Array Value} (h : c.bx n u cs) : (c.killed d).bx n (u.kill2 d) cs := by
  have jk : ∀ {e : V}, (∀ x, cs[0]? = some x → c.v2 e x) → (∀ x, cs[0]? = some x → (c.killed d).v2 (e.kill2 d) x) := fun he x hx => Cx.v2_kill d (he x hx)
  cases u with
  | t e => exact h
  | agg ls =>
    refine ⟨by simpa using h.1, fun j l x hl hx => ?_⟩
    rw [List.getElem?_map] at hl
    obtain ⟨l0, hl0, rfl⟩ := Option.map_eq_some_iff.1 hl
    exact Cx.v1_kill d (h.2 j l0 x hl0 hx)
  | full e =>
    have := jk (e := .full e) h.2
    revert this
    simp only [V.kill2, V.kill1]
    cases Nat.beq e d <;> exact fun this => ⟨h.1, this⟩
  | rv e x y =>
    have := jk (e := .rv e x y) h.2
    revert this
    simp only [V.kill2, V.kill1]
    cases Nat.beq e d <;> exact fun this => ⟨h.1, this⟩
  | bp e o =>
    have := jk (e := .bp e o) h.2
    revert this
    simp only [V.kill2, V.kill1]
    cases Nat.beq e d <;> exact fun this => ⟨h.1, this⟩
  | rp e i o =>
    have := jk (e := .rp e i o) h.2
    revert this
    simp only [V.kill2, V.kill1]
    cases Nat.beq e d <;> exact fun this => ⟨h.1, this⟩
  | sp e t =>
    have := jk (e := .sp e t) h.2
    revert this
    simp only [V.kill2, V.kill1]
    cases Nat.beq e d <;> exact fun this => ⟨h.1, this⟩
  | fb e t =>
    have := jk (e := .fb e t) h.2
    revert this
    simp only [V.kill2, V.kill1]
    cases Nat.beq e d <;> exact fun this => ⟨h.1, this⟩
  | fn g cs => exact ⟨h.1, jk (e := .fn g cs) h.2⟩
  | tup ls => exact ⟨h.1, fun x hx => (h.2 x hx).elim⟩
  | nilv => exact h
  | junk => exact ⟨h.1, fun _ _ => trivial⟩
theorem Cx.ob_kill (d e : Nat) {o : Ob} (h : c.ob e o) : (c.killed d).ob e (o.kill d) := by
  cases o with
  | none => trivial
  | box n u => obtain ⟨b, cs, E, h1, h2, h3, h4, h5⟩ := h; exact ⟨b, cs, E, h1, h2, h3, h4, Cx.bx_kill d h5⟩
  | row sz xs => exact h
theorem kill_box' {s : St} {d e n : Nat} {u : V} (h : (s.kill d).objs e = .box n u) : ∃ u', s.objs e = .box n u' := by
  have h : (bif Nat.beq e d then Ob.none else (s.objs e).kill d) = .box n u := h
  cases hb : Nat.beq e d with
  | true => rw [hb] at h; cases h
  | false =>
    rw [hb] at h
    simp only [cond_false] at h
    revert h
    generalize s.objs e = o
    intro h
    cases o with
    | box m v => simp only [Ob.kill, Ob.box.injEq] at h; exact ⟨v, by rw [h.1]⟩
    | _ => simp [Ob.kill] at h
/-- An object may go. -/
theorem Rel.kill (h : Rel w0 cold0 N s a c) (d : Nat) : Rel w0 cold0 N (s.kill d) a (c.killed d) := by
  have hn : ∀ e, (s.kill d).objs e ≠ .none → s.objs e ≠ .none := fun e he hs => he (by
    show (bif Nat.beq e d then Ob.none else (s.objs e).kill d) = .none
    cases Nat.beq e d
    · simp [hs, Ob.kill]
    · rfl)
  refine ⟨?_, h.below, h.size, h.defers, h.c0, h.c1, h.clt, fun e b he => h.hot e b (hn e he), fun e f b he hf => h.inj e f b (hn e he) (hn f hf), fun e => ?_, fun t => Cx.v3_kill d (h.tmp t), h.nle, fun e b n u hp hb => ?_⟩
  · funext e
    show (bif Nat.beq e d then Ob.none else (c.objs e).kill d) = (bif Nat.beq e d then Ob.none else (s.objs e).kill d)
    rw [h.objs]
  · show (c.killed d).ob e (bif Nat.beq e d then Ob.none else (s.objs e).kill d)
    cases Nat.beq e d
    · exact Cx.ob_kill d e (h.ob e)
    · trivial
  · obtain ⟨u', hu⟩ := kill_box' hb
    exact h.pin e b n u' hp hu
/-- What the object held is cold from now on, if no one else holds its block. -/
theorem Rel.kill_cold (h : Rel w0 cold0 N s a c) (d b : Nat) (hd : s.objs d ≠ .none) (hb : c.eta d = some b) :
    Rel w0 cold0 N (s.kill d) a { c.killed d with cold := fun k => c.cold k ∨ k = b } := by
  have hk := h.kill d
  obtain ⟨hb1, hb2, hb3⟩ := h.hot d b hd hb
  have sim : (c.killed d).Sim { c.killed d with cold := fun k => c.cold k ∨ k = b } :=
    ⟨fun _ _ => rfl, fun _ h => .inl h, fun _ _ => rfl, fun _ _ xs h => ⟨xs, h, rfl⟩, fun _ _ u h => ⟨u, h⟩, fun _ _ cs E _ _ h => ⟨cs, h, rfl⟩⟩
  have hne : ∀ e, (s.kill d).objs e ≠ .none → e ≠ d ∧ s.objs e ≠ .none := fun e he => by
    refine ⟨fun hed => he ?_, fun hs => he ?_⟩
    · subst hed
      show (bif Nat.beq e e then Ob.none else _) = .none
      simp
    · show (bif Nat.beq e d then Ob.none else (s.objs e).kill d) = .none
      cases Nat.beq e d
      · simp [hs, Ob.kill]
      · rfl
  refine ⟨hk.objs, h.below, h.size, h.defers, fun k hk => .inl (h.c0 k hk), ?_, ?_, ?_, fun e f k he hf => h.inj e f k (hne e he).2 (hne f hf).2, fun e => ?_, fun t => sim.v3 (hk.tmp t), h.nle, fun e b n u hp hb => hk.pin e b n u hp hb⟩
  · rintro k (hk | rfl)
    · exact h.c1 k hk
    · exact .inr hb2
  · rintro k (hk | rfl)
    · exact h.clt k hk
    · exact hb3
  · intro e k he hek
    obtain ⟨h1, h2, h3⟩ := h.hot e k (hne e he).2 hek
    refine ⟨?_, h2, h3⟩
    rintro (hk | rfl)
    · exact h1 hk
    · exact (hne e he).1 (h.inj e d k (hne e he).2 hd hek hb)
  · have := hk.ob e
    revert this
    generalize (s.kill d).objs e = o
    intro this
    cases o with
    | none => trivial
    | box n u => obtain ⟨b, cs, E, h1, h2, h3, h4, h5⟩ := this; exact ⟨b, cs, E, h1, h2, h3, h4, sim.bx h5⟩
    | row sz xs =>
      rcases this with h1 | ⟨b, cs, E, h1, h2, h3⟩
      · exact .inl h1
      · exact .inr ⟨b, cs, E, h1, h2, sim.rowCells h3⟩

/-- The world grows; some of what is new is cold. -/
theorem Rel.grow (h : Rel w0 cold0 N s a c) (w' : World) (hb : Below c.w.heap.size c.w w') (nc : Nat → Prop) (hnc : ∀ b, nc b → c.w.heap.size ≤ b ∧ b < w'.heap.size) :
    Rel w0 cold0 N s a { c with w := w', cold := fun b => c.cold b ∨ nc b } ∧ c.Sim { c with w := w', cold := fun b => c.cold b ∨ nc b } := by
  have sim : c.Sim { c with w := w', cold := fun b => c.cold b ∨ nc b } :=
    ⟨fun b hc => hb.block b (h.clt b hc), fun _ h => .inl h, fun _ _ => rfl, fun _ _ xs h => ⟨xs, h, rfl⟩, fun _ _ u h => ⟨u, h⟩,
      fun d b cs E hd he hh => ⟨cs, by rw [hb.block b (h.hot d b (by rw [← h.objs]; exact hd) he).2.2]; exact hh, rfl⟩⟩
  have hle := hb.size
  refine ⟨⟨h.objs, h.below.below hb, h.size, h.defers, fun b hc => .inl (h.c0 b hc), ?_, ?_, ?_, h.inj, fun e => ?_, fun t => sim.v3 (h.tmp t), h.nle, h.pin⟩, sim⟩
  · rintro b (hc | hc)
    · exact h.c1 b hc
    · exact .inr (h.below.new (hnc b hc).1)
  · rintro b (hc | hc)
    · exact Nat.lt_of_lt_of_le (h.clt b hc) hle
    · exact (hnc b hc).2
  · intro d b hd he
    obtain ⟨h1, h2, h3⟩ := h.hot d b hd he
    refine ⟨?_, h2, Nat.lt_of_lt_of_le h3 hle⟩
    rintro (hc | hc)
    · exact h1 hc
    · exact absurd h3 (by have := (hnc b hc).1; omega)
  · have := h.ob e
    have hne := h.hot e
    revert this hne
    generalize s.objs e = o
    intro this hne
    cases o with
    | none => trivial
    | box n u => obtain ⟨b, cs, E, h1, h2, h3, h4, h5⟩ := this; exact ⟨b, cs, E, h1, by rw [hb.block b (hne b (by simp) h1).2.2]; exact h2, h3, h4, sim.bx h5⟩
    | row sz xs =>
      rcases this with h1 | ⟨b, cs, E, h1, h2, h3⟩
      · exact .inl h1
      · exact .inr ⟨b, cs, E, h1, by rw [hb.block b (hne b (by simp) h1).2.2]; exact h2, sim.rowCells h3⟩

def Cx.add (c : Cx) (d : Nat) (m : Option Nat) (o : Ob) : Cx :=
  { c with eta := fun e => bif Nat.beq e d then m else c.eta e, objs := fun e => bif Nat.beq e d then o else c.objs e }
theorem beq_ne {e d : Nat} (h : e ≠ d) : Nat.beq e d = false := by
  cases hb : Nat.beq e d with
  | false => rfl
  | true => exact absurd (Nat.eq_of_beq_eq_true hb) h
theorem Cx.Sim.add (c : Cx) (d : Nat) (hd : c.objs d = .none) (m : Option Nat) (o : Ob) : c.Sim (c.add d m o) := by
  have ne : ∀ {e}, c.objs e ≠ .none → Nat.beq e d = false := fun {e} he => beq_ne (fun hed => he (by rw [hed]; exact hd))
  have oo : ∀ {e}, c.objs e ≠ .none → (c.add d m o).objs e = c.objs e := fun he => by simp [Cx.add, ne he]
  refine ⟨fun _ _ => rfl, fun _ h => h, fun e he => by simp [Cx.add, ne he], fun e sz xs he => ⟨xs, ?_, rfl⟩, fun e n u he => ⟨u, ?_⟩, fun _ _ cs E _ _ h => ⟨cs, h, rfl⟩⟩
  · rw [oo (by rw [he]; simp)]; exact he
  · rw [oo (by rw [he]; simp)]; exact he
/-- A new object, over a block that nobody holds. -/
theorem Rel.addOb (h : Rel w0 cold0 N s a c) (d : Nat) (hd : s.objs d = .none) (m : Option Nat) (o : Ob)
    (hm : ∀ b, m = some b → ¬ c.cold b ∧ ¬ w0.F b ∧ b < c.w.heap.size ∧ ∀ e, s.objs e ≠ .none → c.eta e ≠ some b) (ho : (c.add d m o).ob d o) (hp : ∀ n u, o = .box n u → w0.pin d = none) :
    Rel w0 cold0 N (s.setOb d o) a (c.add d m o) := by
  have sim := Cx.Sim.add c d (by rw [h.objs]; exact hd) m o
  have oe : ∀ e, (s.setOb d o).objs e = bif Nat.beq e d then o else s.objs e := fun _ => rfl
  refine ⟨by funext e; show (bif Nat.beq e d then o else c.objs e) = _; rw [oe, h.objs], h.below, h.size, h.defers, h.c0, h.c1, h.clt, ?_, ?_, ?_, fun t => sim.v3 (h.tmp t), h.nle, fun e b n u hpe hu => ?_⟩
  rotate_left 3
  · rw [oe] at hu
    show (bif Nat.beq e d then m else c.eta e) = some b
    cases hed : Nat.beq e d <;> rw [hed] at hu
    · exact h.pin e b n u hpe hu
    · rw [Nat.eq_of_beq_eq_true hed, hp n u hu] at hpe; cases hpe
  · intro e b he hb
    rw [oe] at he
    have hb : (bif Nat.beq e d then m else c.eta e) = some b := hb
    cases hed : Nat.beq e d <;> rw [hed] at he hb
    · exact h.hot e b he hb
    · exact ⟨(hm b hb).1, (hm b hb).2.1, (hm b hb).2.2.1⟩
  · intro e f b he hf hb hc
    rw [oe] at he hf
    have hb : (bif Nat.beq e d then m else c.eta e) = some b := hb
    have hc : (bif Nat.beq f d then m else c.eta f) = some b := hc
    cases hed : Nat.beq e d <;> cases hfd : Nat.beq f d <;> rw [hed] at he hb <;> rw [hfd] at hf hc
    · exact h.inj e f b he hf hb hc
    · exact absurd hb ((hm b hc).2.2.2 e he)
    · exact absurd hc ((hm b hb).2.2.2 f hf)
    · rw [Nat.eq_of_beq_eq_true hed, Nat.eq_of_beq_eq_true hfd]
  · intro e
    rw [oe]
    cases hed : Nat.beq e d
    · have := h.ob e
      revert this
      simp only [cond_false]
      have hn : ∀ b, c.eta e = some b → (c.add d m o).eta e = some b := fun b hb => by simp [Cx.add, hed, hb]
      have hn0 : c.eta e = none → (c.add d m o).eta e = none := fun hb => by simp [Cx.add, hed, hb]
      generalize s.objs e = q
      intro this
      cases q with
      | none => trivial
      | box n u => obtain ⟨b, cs, E, h1, h2, h3, h4, h5⟩ := this; exact ⟨b, cs, E, hn b h1, h2, h3, h4, sim.bx h5⟩
      | row sz xs =>
        rcases this with h1 | ⟨b, cs, E, h1, h2, h3⟩
        · exact .inl ⟨hn0 h1.1, h1.2⟩
        · exact .inr ⟨b, cs, E, hn b h1, h2, sim.rowCells h3⟩
    · have : e = d := Nat.eq_of_beq_eq_true hed
      subst this
      exact ho
theorem Cx.add_eta (c : Cx) (d : Nat) (m : Option Nat) (o : Ob) : (c.add d m o).eta d = m := by simp [Cx.add]
theorem Cx.add_objs (c : Cx) (d : Nat) (m : Option Nat) (o : Ob) : (c.add d m o).objs d = o := by simp [Cx.add]
theorem St.setOb_objs (s : St) (d : Nat) (o : Ob) : (s.setOb d o).objs d = o := by simp [St.setOb]

/-- a block of one's own is written anew -/
theorem heap_setRow (w : World) (b k : Nat) (cs cs' : Array Value) (E : TypeId) (hh : w.heap[b]? = some (.cells cs E (0, 0))) :
    (w.setRow b cs').heap[k]? = if k = b then some (.cells cs' E (0, 0)) else w.heap[k]? := by
  split
  · rename_i hk; subst hk; exact setRow_heap w k cs cs' E (0, 0) hh
  · rename_i hk; exact setRow_other w b k cs' hk
theorem below_setRow {B : Base} {w : World} (h : Kept B w) (b : Nat) (hb : ¬ B.F b) (cs : Array Value) {cs0 : Array Value} {E0 : TypeId} (hh : w.heap[b]? = some (.cells cs0 E0 (0, 0))) : Kept B (w.setRow b cs) :=
  ⟨h.os, h.tape, h.output, by simpa using h.size, fun k hk => (setRow_other w b k cs (fun e => hb (e ▸ hk))).trans (h.block k hk), fun k cs1 E fz hk => by
    obtain ⟨cs', fz', h'⟩ := h.ty k cs1 E fz hk
    rw [heap_setRow w b k cs0 cs E0 hh]
    split
    · rename_i e
      subst e
      rw [hh] at h'
      simp only [Option.some.injEq, Obj.cells.injEq] at h'
      exact ⟨cs, (0, 0), by rw [h'.2.1]⟩
    · exact ⟨cs', fz', h'⟩⟩
/-- A block that nobody holds is written. -/
theorem Rel.setFree (h : Rel w0 cold0 N s a c) (b : Nat) (cs cs' : Array Value) (E : TypeId) (hh : c.w.heap[b]? = some (.cells cs E (0, 0)))
    (hb : ¬ w0.F b) (hcold : ¬ c.cold b) (hfree : ∀ e, s.objs e ≠ .none → c.eta e ≠ some b) :
    Rel w0 cold0 N s a { c with w := c.w.setRow b cs' } ∧ c.Sim { c with w := c.w.setRow b cs' } := by
  have other : ∀ k, k ≠ b → (c.w.setRow b cs').heap[k]? = c.w.heap[k]? := fun k hk => setRow_other c.w b k cs' hk
  have sim : c.Sim { c with w := c.w.setRow b cs' } :=
    ⟨fun k hc => other k (fun e => hcold (e ▸ hc)), fun _ h => h, fun _ _ => rfl, fun _ _ xs h => ⟨xs, h, rfl⟩, fun _ _ u h => ⟨u, h⟩,
      fun d k cs E hd he hh => ⟨cs, by rw [other k (fun e => hfree d (by rw [← h.objs]; exact hd) (e ▸ he))]; exact hh, rfl⟩⟩
  refine ⟨⟨h.objs, below_setRow h.below b hb cs' hh, h.size, h.defers, h.c0, h.c1, fun k hk => by simpa using h.clt k hk, fun d k hd he => by simpa using h.hot d k hd he, h.inj, fun e => ?_, fun t => sim.v3 (h.tmp t), h.nle, h.pin⟩, sim⟩
  have := h.ob e
  have hne := hfree e
  revert this hne
  generalize s.objs e = o
  intro this hne
  cases o with
  | none => trivial
  | box n u => obtain ⟨k, cs, E, h1, h2, h3, h4, h5⟩ := this; exact ⟨k, cs, E, h1, by rw [other k (fun e => hne (by simp) (e ▸ h1))]; exact h2, h3, h4, sim.bx h5⟩
  | row sz xs =>
    rcases this with h1 | ⟨k, cs, E, h1, h2, h3⟩
    · exact .inl h1
    · exact .inr ⟨k, cs, E, h1, by rw [other k (fun e => hne (by simp) (e ▸ h1))]; exact h2, sim.rowCells h3⟩
def Ob.like : Ob → Ob → Prop
  | .box n _, .box m _ => n = m
  | .row s x, .row t y => s = t ∧ x.length = y.length
  | _, _ => False
/-- An object is written: what does not look into it stays. -/
theorem Rel.updSim (h : Rel w0 cold0 N s a c) (d b : Nat) (hb : c.eta d = some b) (cs cs' : Array Value) (E : TypeId)
    (hh : c.w.heap[b]? = some (.cells cs E (0, 0))) (hsz : cs'.size = cs.size) (o : Ob) (hl : (s.objs d).like o) :
    c.Sim { c with w := c.w.setRow b cs', objs := (s.setOb d o).objs } := by
  have hd : s.objs d ≠ .none := fun e => by rw [e] at hl; exact hl
  obtain ⟨hc1, hc2, hc3⟩ := h.hot d b hd hb
  have other : ∀ k, k ≠ b → (c.w.setRow b cs').heap[k]? = c.w.heap[k]? := fun k hk => setRow_other c.w b k cs' hk
  have oe : ∀ e, (s.setOb d o).objs e = bif Nat.beq e d then o else s.objs e := fun _ => rfl
  refine ⟨fun k hc => other k (fun e => hc1 (e ▸ hc)), fun _ h => h, fun _ _ => rfl, fun e sz xs he => ?_, fun e n u he => ?_, fun e k ds F he hk hF => ?_⟩
  · rw [h.objs] at he
    show ∃ xs', (s.setOb d o).objs e = _ ∧ _
    rw [oe]
    cases hed : Nat.beq e d
    · exact ⟨xs, he, rfl⟩
    · rw [Nat.eq_of_beq_eq_true hed] at he
      rw [he] at hl
      cases o with
      | row t ys => exact ⟨ys, by rw [hl.1]; rfl, hl.2.symm⟩
      | _ => exact hl.elim
  · rw [h.objs] at he
    show ∃ u', (s.setOb d o).objs e = _
    rw [oe]
    cases hed : Nat.beq e d
    · exact ⟨u, he⟩
    · rw [Nat.eq_of_beq_eq_true hed] at he
      rw [he] at hl
      cases o with
      | box m u' => exact ⟨u', by rw [show n = m from hl]; rfl⟩
      | _ => exact hl.elim
  · by_cases hkb : k = b
    · subst hkb
      rw [hh] at hF
      simp only [Option.some.injEq, Obj.cells.injEq] at hF
      obtain ⟨rfl, rfl, -⟩ := hF
      exact ⟨cs', setRow_heap c.w k cs cs' E (0, 0) hh, hsz⟩
    · exact ⟨ds, by rw [← hF]; exact other k hkb, rfl⟩
/-- An object is written. -/
theorem Rel.upd (h : Rel w0 cold0 N s a c) (d b : Nat) (hb : c.eta d = some b) (cs cs' : Array Value) (E : TypeId)
    (hh : c.w.heap[b]? = some (.cells cs E (0, 0))) (hsz : cs'.size = cs.size) (o : Ob) (hl : (s.objs d).like o)
    (ho : Cx.ob { c with w := c.w.setRow b cs', objs := (s.setOb d o).objs } d o) :
    Rel w0 cold0 N (s.setOb d o) a { c with w := c.w.setRow b cs', objs := (s.setOb d o).objs } ∧ c.Sim { c with w := c.w.setRow b cs', objs := (s.setOb d o).objs } := by
  have hd : s.objs d ≠ .none := fun e => by rw [e] at hl; exact hl
  obtain ⟨hc1, hc2, hc3⟩ := h.hot d b hd hb
  have other : ∀ k, k ≠ b → (c.w.setRow b cs').heap[k]? = c.w.heap[k]? := fun k hk => setRow_other c.w b k cs' hk
  have oe : ∀ e, (s.setOb d o).objs e = bif Nat.beq e d then o else s.objs e := fun _ => rfl
  have sim := h.updSim d b hb cs cs' E hh hsz o hl
  refine ⟨⟨rfl, below_setRow h.below b hc2 cs' hh, h.size, h.defers, h.c0, h.c1, fun k hk => by simpa using h.clt k hk, ?_, ?_, ?_, fun t => sim.v3 (h.tmp t), h.nle, fun e b' n u hpe hu => ?_⟩, sim⟩
  rotate_left 3
  · rw [oe] at hu
    show c.eta e = some b'
    cases hed : Nat.beq e d <;> rw [hed] at hu
    · exact h.pin e b' n u hpe hu
    · have : e = d := Nat.eq_of_beq_eq_true hed
      subst this
      replace hu : o = .box n u := hu
      subst hu
      cases hs : s.objs e with
      | box m v => exact h.pin e b' m v hpe hs
      | none => rw [hs] at hl; exact hl.elim
      | row _ _ => rw [hs] at hl; exact hl.elim
  · intro e k he hek
    rw [oe] at he
    have : s.objs e ≠ .none := by
      cases hed : Nat.beq e d
      · rw [hed] at he; exact he
      · rw [Nat.eq_of_beq_eq_true hed]; exact hd
    simpa using h.hot e k this hek
  · intro e f k he hf hek hfk
    rw [oe] at he hf
    have he' : s.objs e ≠ .none := by
      cases hed : Nat.beq e d
      · rw [hed] at he; exact he
      · rw [Nat.eq_of_beq_eq_true hed]; exact hd
    have hf' : s.objs f ≠ .none := by
      cases hed : Nat.beq f d
      · rw [hed] at hf; exact hf
      · rw [Nat.eq_of_beq_eq_true hed]; exact hd
    exact h.inj e f k he' hf' hek hfk
  · intro e
    rw [oe]
    cases hed : Nat.beq e d
    · have := h.ob e
      have hne : ∀ k, s.objs e ≠ .none → c.eta e = some k → k ≠ b := fun k h1 h2 hkb => by
        subst hkb
        exact absurd (h.inj e d k h1 hd h2 hb) (by intro hq; rw [hq] at hed; simp at hed)
      revert this hne
      simp only [cond_false]
      generalize s.objs e = q
      intro this hne
      cases q with
      | none => trivial
      | box n u => obtain ⟨k, cs, E, h1, h2, h3, h4, h5⟩ := this; exact ⟨k, cs, E, h1, by rw [← h2]; exact other k (hne k (by simp) h1), h3, h4, sim.bx h5⟩
      | row sz xs =>
        rcases this with h1 | ⟨k, cs, E, h1, h2, h3⟩
        · exact .inl h1
        · exact .inr ⟨k, cs, E, h1, by rw [← h2]; exact other k (hne k (by simp) h1), sim.rowCells h3⟩
    · rw [Nat.eq_of_beq_eq_true hed]
      exact ho
end
end Go.Ax
