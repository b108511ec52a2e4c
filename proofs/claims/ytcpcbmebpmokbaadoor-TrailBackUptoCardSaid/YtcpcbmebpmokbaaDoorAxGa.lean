/- Ax, part Ga: callees that write what they are handed: other names for objects; rows that go cold; such a call. -/
import Derived.Test.YtcpcbmebpmokbaaDoorAxG
set_option linter.unusedVariables false
set_option linter.unusedSimpArgs false
namespace Go.Ax
open Go Go.RowKit

def valOf : List Value → Value
  | [v] => v
  | vs => .tuple vs.toArray
theorem flat_rep {w : World} {cold cold' : Nat → Prop} {x : T} {v : Value} (h : TRep w cold x v) (hf : x.flat = true) : TRep w cold' x v := by
  have one : ∀ {x : T} {v : Value}, TRep w cold x v → x.flat1 = true → TRep w cold' x v := fun {x v} h hf => by
    cases h <;> first | (simp [T.flat1] at hf; done) | constructor
  cases x with
  | agg ls =>
    cases h with
    | agg _ cs hn h1 hr =>
      refine .agg ls cs hn h1 fun j l c hl hc => one (hr j l c hl hc) ?_
      exact List.all_eq_true.1 hf l (List.mem_of_getElem? hl)
  | _ => exact one h hf
theorem flat_leaf {x : T} (h : x.flat = true) (j : Nat) (hj : j < x.width) : (x.leaf j).flat = true := by
  cases x with
  | agg ls =>
    have hj : j < ls.length := hj
    have hl : ls[j]? = some ls[j] := by simp [hj]
    show (ls.getD j .junk).flat = true
    rw [List.getD_eq_getElem?_getD, hl]
    have := List.all_eq_true.1 h ls[j] (List.getElem_mem hj)
    show (ls[j]).flat = true
    revert this
    generalize ls[j] = u
    intro this
    cases u <;> first | exact this | simp [T.flat1] at this
  | _ =>
    cases j with
    | zero => exact h
    | succ j => have hj : j + 1 < 1 := hj; omega
/-- names that lead on: what c holds, c' holds under the new name -/
structure NameOk (c c' : Cx) (f : Nat → Option Nat) : Prop where
  row : ∀ d e sz xs, f d = some e → c.objs d = .row sz xs → c'.objs e = .row sz xs
  box : ∀ d e n u, f d = some e → c.objs d = .box n u → ∃ u', c'.objs e = .box n u'
  eta : ∀ d e, f d = some e → c.objs d ≠ .none → c'.eta e = c.eta d
section ren
variable {c c' : Cx} {f : Nat → Option Nat}
theorem Cx.v1_ren (hw : c'.w = c.w) (hc : ∀ b, c.cold b → c'.cold b) (hf : NameOk c c' f) {u : V} {v : Value} (h : c.v1 u v) : c'.v1 (u.ren1 f) v := by
  cases u with
  | t x => exact TRep.mono (fun b _ => by rw [hw]) hc h
  | nilv => exact h
  | junk => trivial
  | full d =>
    simp only [V.ren1]
    cases he : f d with
    | none => trivial
    | some e =>
      obtain ⟨sz, xs, ho, hr⟩ := h
      have heta := hf.eta d e he (by rw [ho]; simp)
      refine ⟨sz, xs, hf.row d e sz xs he ho, ?_⟩
      rw [heta, hw]
      exact hr
  | rv d a b =>
    simp only [V.ren1]
    cases he : f d with
    | none => trivial
    | some e =>
      obtain ⟨sz, xs, ho, hle, hr⟩ := h
      have heta := hf.eta d e he (by rw [ho]; simp)
      refine ⟨sz, xs, hf.row d e sz xs he ho, hle, ?_⟩
      rw [heta]
      exact hr
  | bp d o =>
    simp only [V.ren1]
    cases he : f d with
    | none => trivial
    | some e =>
      obtain ⟨n, u, b, ho, hr⟩ := h
      have heta := hf.eta d e he (by rw [ho]; simp)
      obtain ⟨u', hu'⟩ := hf.box d e n u he ho
      refine ⟨n, u', b, hu', ?_⟩
      rw [heta]
      exact hr
  | rp d i o =>
    simp only [V.ren1]
    cases he : f d with
    | none => trivial
    | some e =>
      obtain ⟨sz, xs, b, ho, hi, hr⟩ := h
      have heta := hf.eta d e he (by rw [ho]; simp)
      refine ⟨sz, xs, b, hf.row d e sz xs he ho, hi, ?_⟩
      rw [heta]
      exact hr
  | sp d y =>
    simp only [V.ren1]
    cases he : f d with
    | none => trivial
    | some e =>
      obtain ⟨n, u, b, cs, ho, hr⟩ := h
      have heta := hf.eta d e he (by rw [ho]; simp)
      obtain ⟨u', hu'⟩ := hf.box d e n u he ho
      refine ⟨n, u', b, cs, hu', ?_⟩
      rw [heta, hw]
      exact hr
  | fb d y =>
    simp only [V.ren1]
    cases he : f d with
    | none => trivial
    | some e =>
      obtain ⟨sz, xs, ho, hr⟩ := h
      have heta := hf.eta d e he (by rw [ho]; simp)
      refine ⟨sz, xs, hf.row d e sz xs he ho, ?_⟩
      rw [heta, hw]
      exact hr
  | _ => exact h.elim
theorem Cx.v2_ren (hw : c'.w = c.w) (hc : ∀ b, c.cold b → c'.cold b) (hf : NameOk c c' f) {u : V} {v : Value} (h : c.v2 u v) : c'.v2 (u.ren2 f) v := by
  cases u with
  | agg ls =>
    obtain ⟨cs, h0, h1, h2, h3⟩ := h
    refine ⟨cs, h0, by simpa using h1, h2, fun j l x hl hx => ?_⟩
    rw [List.getElem?_map] at hl
    obtain ⟨l0, hl0, rfl⟩ := Option.map_eq_some_iff.1 hl
    exact Cx.v1_ren hw hc hf (h3 j l0 x hl0 hx)
  | fn g caps =>
    obtain ⟨cs, h0, h1, h3⟩ := h
    refine ⟨cs, h0, by simpa using h1, fun j l x hl hx => ?_⟩
    rw [List.getElem?_map] at hl
    obtain ⟨l0, hl0, rfl⟩ := Option.map_eq_some_iff.1 hl
    exact Cx.v1_ren hw hc hf (h3 j l0 x hl0 hx)
  | tup _ => exact h.elim
  | t x => exact Cx.v1_ren (u := .t x) hw hc hf h
  | nilv => exact h
  | junk => trivial
  | full d => exact Cx.v2_of_v1 (Cx.v1_ren (u := .full d) hw hc hf h)
  | rv d x y => exact Cx.v2_of_v1 (Cx.v1_ren (u := .rv d x y) hw hc hf h)
  | bp d o => exact Cx.v2_of_v1 (Cx.v1_ren (u := .bp d o) hw hc hf h)
  | rp d i o => exact Cx.v2_of_v1 (Cx.v1_ren (u := .rp d i o) hw hc hf h)
  | sp d y => exact Cx.v2_of_v1 (Cx.v1_ren (u := .sp d y) hw hc hf h)
  | fb d y => exact Cx.v2_of_v1 (Cx.v1_ren (u := .fb d y) hw hc hf h)
theorem Cx.bx_ren (hw : c'.w = c.w) (hc : ∀ b, c.cold b → c'.cold b) (hf : NameOk c c' f) {n : Nat} {u : V} {cs : Array Value} (h : c.bx n u cs) : c'.bx n (u.ren2 f) cs := by
  have jk : ∀ {e : V}, (∀ x, cs[0]? = some x → c.v2 e x) → (∀ x, cs[0]? = some x → c'.v2 (e.ren2 f) x) := fun he x hx => Cx.v2_ren hw hc hf (he x hx)
  cases u with
  | t e => exact ⟨h.1, fun j x hx => (h.2 j x hx).mono (fun b _ => by rw [hw]) hc⟩
  | agg ls =>
    refine ⟨by simpa using h.1, fun j l x hl hx => ?_⟩
    rw [List.getElem?_map] at hl
    obtain ⟨l0, hl0, rfl⟩ := Option.map_eq_some_iff.1 hl
    exact Cx.v1_ren hw hc hf (h.2 j l0 x hl0 hx)
  | full d =>
    have := jk (e := .full d) h.2
    revert this
    simp only [V.ren2, V.ren1]
    cases f d <;> exact fun this => ⟨h.1, this⟩
  | rv d x y =>
    have := jk (e := .rv d x y) h.2
    revert this
    simp only [V.ren2, V.ren1]
    cases f d <;> exact fun this => ⟨h.1, this⟩
  | bp d o =>
    have := jk (e := .bp d o) h.2
    revert this
    simp only [V.ren2, V.ren1]
    cases f d <;> exact fun this => ⟨h.1, this⟩
  | rp d i o =>
    have := jk (e := .rp d i o) h.2
    revert this
    simp only [V.ren2, V.ren1]
    cases f d <;> exact fun this => ⟨h.1, this⟩
  | sp d y =>
    have := jk (e := .sp d y) h.2
    revert this
    simp only [V.ren2, V.ren1]
    cases f d <;> exact fun this => ⟨h.1, this⟩
  | fb d y =>
    have := jk (e := .fb d y) h.2
    revert this
    simp only [V.ren2, V.ren1]
    cases f d <;> exact fun this => ⟨h.1, this⟩
  | fn g cs => exact ⟨h.1, jk (e := .fn g cs) h.2⟩
  | tup ls => exact ⟨h.1, fun x hx => (h.2 x hx).elim⟩
  | nilv => exact h
  | junk => exact ⟨h.1, fun _ _ => trivial⟩
theorem Cx.rowCells_ren (hw : c'.w = c.w) (hc : ∀ b, c.cold b → c'.cold b) {sz : Nat} {xs : List T} {cs : Array Value} (h : c.rowCells sz xs cs) : c'.rowCells sz xs cs :=
  ⟨h.1, h.2.1, fun i j x y h1 h2 h3 => ⟨(h.2.2 i j x y h1 h2 h3).1.mono (fun b _ => by rw [hw]) hc, (h.2.2 i j x y h1 h2 h3).2⟩⟩
theorem Cx.ob_ren (hw : c'.w = c.w) (hc : ∀ b, c.cold b → c'.cold b) (hf : NameOk c c' f) {d e : Nat} (he : c'.eta e = c.eta d) {o : Ob} (h : c.ob d o) : c'.ob e (o.ren f) := by
  cases o with
  | none => trivial
  | box n u => obtain ⟨b, cs, E, h1, h2, h3, h4, h5⟩ := h; exact ⟨b, cs, E, by rw [he]; exact h1, by rw [hw]; exact h2, h3, h4, Cx.bx_ren hw hc hf h5⟩
  | row sz xs =>
    rcases h with h | ⟨b, cs, E, h1, h2, h3⟩
    · exact .inl ⟨by rw [he]; exact h.1, h.2⟩
    · exact .inr ⟨b, cs, E, by rw [he]; exact h1, by rw [hw]; exact h2, Cx.rowCells_ren hw hc h3⟩
end ren
section flat
variable {c : Cx} {K : Nat → Prop}
theorem Cx.v1_flat {u : V} {v : Value} (h : c.v1 u v) (hf : u.flatV1 = true) : Cx.v1 { c with cold := K } u v := by
  cases u with
  | t x => exact flat_rep h hf
  | _ => exact h
theorem Cx.v2_flat {u : V} {v : Value} (h : c.v2 u v) (hf : u.flatV = true) : Cx.v2 { c with cold := K } u v := by
  cases u with
  | agg ls => obtain ⟨cs, h0, h1, h2, h3⟩ := h; exact ⟨cs, h0, h1, h2, fun j l x hl hx => Cx.v1_flat (h3 j l x hl hx) (List.all_eq_true.1 hf l (List.mem_of_getElem? hl))⟩
  | fn g caps => obtain ⟨cs, h0, h1, h3⟩ := h; exact ⟨cs, h0, h1, fun j l x hl hx => Cx.v1_flat (h3 j l x hl hx) (List.all_eq_true.1 hf l (List.mem_of_getElem? hl))⟩
  | t x => exact Cx.v1_flat (u := .t x) h hf
  | _ => exact h
theorem Cx.ob_flat {d : Nat} {o : Ob} (h : c.ob d o) (hf : o.flat = true) : Cx.ob { c with cold := K } d o := by
  cases o with
  | none => trivial
  | box n u =>
    obtain ⟨b, cs, E, h1, h2, h3, h4, h5⟩ := h
    refine ⟨b, cs, E, h1, h2, h3, h4, ?_⟩
    have hf : u.flatV = true := hf
    cases u with
    | t e =>
      refine ⟨h5.1, fun j x hx => ?_⟩
      have hj : j < e.width := by rw [h5.1]; have := (Array.getElem?_eq_some_iff.1 hx).1; omega
      exact flat_rep (h5.2 j x hx) (flat_leaf hf j hj)
    | agg ls => exact ⟨h5.1, fun j l x hl hx => Cx.v1_flat (h5.2 j l x hl hx) (List.all_eq_true.1 hf l (List.mem_of_getElem? hl))⟩
    | fn g cs => exact ⟨h5.1, fun x hx => Cx.v2_flat (u := .fn g cs) (h5.2 x hx) hf⟩
    | _ => exact h5
  | row sz xs =>
    rcases h with h | ⟨b, cs, E, h1, h2, h3⟩
    · exact .inl h
    · refine .inr ⟨b, cs, E, h1, h2, h3.1, h3.2.1, fun i j x y hx hj hy => ⟨?_, (h3.2.2 i j x y hx hj hy).2⟩⟩
      have hm := List.mem_of_getElem? hx
      refine flat_rep (h3.2.2 i j x y hx hj hy).1 (flat_leaf (List.all_eq_true.1 hf x hm) j ?_)
      rw [h3.2.1 x hm]; exact hj
end flat
section names
theorem bwd_mem : ∀ {σ : List (Nat × Nat)} {d e : Nat}, bwd σ d = some e → (d, e) ∈ σ
  | [], _, _, h => by cases h
  | p :: ps, d, e, h => by
    simp only [bwd] at h
    cases hb : Nat.beq p.1 d with
    | true => rw [hb] at h; simp only [cond_true, Option.some.injEq] at h; have := Nat.eq_of_beq_eq_true hb; subst this; subst h; exact List.mem_cons_self
    | false => rw [hb] at h; exact List.mem_cons_of_mem _ (bwd_mem h)
theorem fwd_mem : ∀ {σ : List (Nat × Nat)} {d e : Nat}, fwd σ e = some d → (d, e) ∈ σ
  | [], _, _, h => by cases h
  | p :: ps, d, e, h => by
    simp only [fwd] at h
    cases hb : Nat.beq p.2 e with
    | true => rw [hb] at h; simp only [cond_true, Option.some.injEq] at h; have := Nat.eq_of_beq_eq_true hb; subst this; subst h; exact List.mem_cons_self
    | false => rw [hb] at h; exact List.mem_cons_of_mem _ (fwd_mem h)
theorem nodupB_cons {d : Nat} {ds : List Nat} (h : nodupB (d :: ds) = true) : d ∉ ds ∧ nodupB ds = true := by
  simp only [nodupB, Bool.and_eq_true, Bool.not_eq_true'] at h
  refine ⟨fun hd => ?_, h.2⟩
  have := List.any_eq_false.1 h.1 d hd
  simp at this
theorem mem_bwd : ∀ {σ : List (Nat × Nat)} {d e : Nat}, nodupB (σ.map (·.1)) = true → (d, e) ∈ σ → bwd σ d = some e
  | [], _, _, _, h => by cases h
  | p :: ps, d, e, hn, h => by
    obtain ⟨hni, hn⟩ := nodupB_cons (by simpa using hn)
    simp only [bwd]
    rcases List.mem_cons.1 h with rfl | h
    · simp
    · have : Nat.beq p.1 d = false := beq_ne (fun he => hni (by rw [he]; exact List.mem_map_of_mem (f := (·.1)) h))
      rw [this]
      exact mem_bwd hn h
theorem mem_fwd : ∀ {σ : List (Nat × Nat)} {d e : Nat}, nodupB (σ.map (·.2)) = true → (d, e) ∈ σ → fwd σ e = some d
  | [], _, _, _, h => by cases h
  | p :: ps, d, e, hn, h => by
    obtain ⟨hni, hn⟩ := nodupB_cons (by simpa using hn)
    simp only [fwd]
    rcases List.mem_cons.1 h with rfl | h
    · simp
    · have : Nat.beq p.2 e = false := beq_ne (fun he => hni (by rw [he]; exact List.mem_map_of_mem (f := (·.2)) h))
      rw [this]
      exact mem_fwd hn h
end names
section
variable {P : Program} {w0 : Base} {cold0 : Nat → Prop} {N : Nat} {s : St} {a : Act} {c : Cx} {R : Type} {r : R}

/-- a row goes cold; who held it, holds it still -/
def Cx.cooled (c : Cx) (d : Nat) (xs : List T) : Cx := { c with objs := fun e => bif Nat.beq e d then .none else (c.objs e).cool d xs, cold := fun k => c.cold k ∨ c.eta d = some k }
theorem row_cold (h : Rel w0 cold0 N s a c) {d sz : Nat} {xs : List T} (ho : s.objs d = .row sz xs) {y : Value} (hv : c.v1 (.full d) y) : TRep c.w (c.cooled d xs).cold (.lst xs) y := by
  obtain ⟨sz', xs', ho', hr⟩ := hv
  rw [h.objs, ho] at ho'
  simp only [Ob.row.injEq] at ho'
  obtain ⟨rfl, rfl⟩ := ho'
  rcases hr with ⟨_, rfl, rfl⟩ | ⟨b, cap, cs, E, he, rfl, hcap, hh, hsz⟩
  · exact .lst0 none 0
  · have := row_rep h ho he 0 xs.length cap (by omega) hcap (cold := (c.cooled d xs).cold) (fun k hk => .inl hk) (.inr he)
    simpa using this
theorem Cx.v1_cool (h : Rel w0 cold0 N s a c) {d sz : Nat} {xs : List T} (ho : s.objs d = .row sz xs) {u : V} {v : Value} (hu : c.v1 u v) : (c.cooled d xs).v1 (u.cool1 d xs) v := by
  have ne : ∀ {e : Nat}, Nat.beq e d = false → (c.cooled d xs).objs e = (c.objs e).cool d xs := fun he => by simp [Cx.cooled, he]
  cases u with
  | full e =>
    simp only [V.cool1]
    cases he : Nat.beq e d
    · obtain ⟨sz, ys, hoe, hr⟩ := hu
      exact ⟨sz, ys, by rw [ne he, hoe]; rfl, hr⟩
    · have := Nat.eq_of_beq_eq_true he; subst this
      exact row_cold h ho hu
  | rv e o l =>
    simp only [V.cool1, V.kill1]
    cases he : Nat.beq e d
    · obtain ⟨sz, xs, ho, hr⟩ := hu
      exact ⟨sz, xs, by rw [ne he, ho]; rfl, hr⟩
    · trivial
  | bp e o =>
    simp only [V.cool1, V.kill1]
    cases he : Nat.beq e d
    · obtain ⟨n, u, b, ho, hr⟩ := hu
      exact ⟨n, u.cool2 d xs, b, by rw [ne he, ho]; rfl, hr⟩
    · trivial
  | rp e i o =>
    simp only [V.cool1, V.kill1]
    cases he : Nat.beq e d
    · obtain ⟨sz, xs, b, ho, hr⟩ := hu
      exact ⟨sz, xs, b, by rw [ne he, ho]; rfl, hr⟩
    · trivial
  | sp e y =>
    simp only [V.cool1, V.kill1]
    cases he : Nat.beq e d
    · obtain ⟨n, u, b, cs, ho, hr⟩ := hu
      exact ⟨n, u.cool2 d xs, b, cs, by rw [ne he, ho]; rfl, hr⟩
    · trivial
  | fb e y =>
    simp only [V.cool1, V.kill1]
    cases he : Nat.beq e d
    · obtain ⟨sz, xs, ho, hr⟩ := hu
      exact ⟨sz, xs, by rw [ne he, ho]; rfl, hr⟩
    · trivial
  | t x => exact TRep.mono (fun _ _ => rfl) (fun _ hk => .inl hk) hu
  | nilv => exact hu
  | junk => trivial
  | _ => exact hu.elim
theorem Cx.v2_cool (h : Rel w0 cold0 N s a c) {d sz : Nat} {xs : List T} (ho : s.objs d = .row sz xs) {u : V} {v : Value} (hu : c.v2 u v) : (c.cooled d xs).v2 (u.cool2 d xs) v := by
  cases u with
  | agg ls =>
    obtain ⟨cs, h0, h1, h2, h3⟩ := hu
    refine ⟨cs, h0, by simpa using h1, h2, fun j l x hl hx => ?_⟩
    rw [List.getElem?_map] at hl
    obtain ⟨l0, hl0, rfl⟩ := Option.map_eq_some_iff.1 hl
    exact Cx.v1_cool h ho (h3 j l0 x hl0 hx)
  | fn g caps =>
    obtain ⟨cs, h0, h1, h3⟩ := hu
    refine ⟨cs, h0, by simpa using h1, fun j l x hl hx => ?_⟩
    rw [List.getElem?_map] at hl
    obtain ⟨l0, hl0, rfl⟩ := Option.map_eq_some_iff.1 hl
    exact Cx.v1_cool h ho (h3 j l0 x hl0 hx)
  | tup ls => exact hu.elim
  | t x => exact Cx.v1_cool (u := .t x) h ho hu
  | nilv => exact hu
  | junk => trivial
  | full e => exact Cx.v2_of_v1 (Cx.v1_cool (u := .full e) h ho hu)
  | rv e x y => exact Cx.v2_of_v1 (Cx.v1_cool (u := .rv e x y) h ho hu)
  | bp e o => exact Cx.v2_of_v1 (Cx.v1_cool (u := .bp e o) h ho hu)
  | rp e i o => exact Cx.v2_of_v1 (Cx.v1_cool (u := .rp e i o) h ho hu)
  | sp e y => exact Cx.v2_of_v1 (Cx.v1_cool (u := .sp e y) h ho hu)
  | fb e y => exact Cx.v2_of_v1 (Cx.v1_cool (u := .fb e y) h ho hu)
theorem Cx.v3_cool (h : Rel w0 cold0 N s a c) {d sz : Nat} {xs : List T} (ho : s.objs d = .row sz xs) {u : V} {v : Value} (hu : c.v3 u v) : (c.cooled d xs).v3 (u.cool d xs) v := by
  cases u with
  | tup ls =>
    obtain ⟨cs, h0, h1, h3⟩ := hu
    refine ⟨cs, h0, by simpa using h1, fun j l x hl hx => ?_⟩
    rw [List.getElem?_map] at hl
    obtain ⟨l0, hl0, rfl⟩ := Option.map_eq_some_iff.1 hl
    exact Cx.v2_cool h ho (h3 j l0 x hl0 hx)
  | agg ls => exact Cx.v3_of_v2 (Cx.v2_cool (u := .agg ls) h ho hu)
  | fn g cs => exact Cx.v3_of_v2 (Cx.v2_cool (u := .fn g cs) h ho hu)
  | t x => exact Cx.v2_cool (u := .t x) h ho hu
  | nilv => exact hu
  | junk => trivial
  | full e => exact Cx.v3_of_v2 (Cx.v2_cool (u := .full e) h ho hu)
  | rv e x y => exact Cx.v3_of_v2 (Cx.v2_cool (u := .rv e x y) h ho hu)
  | bp e o => exact Cx.v3_of_v2 (Cx.v2_cool (u := .bp e o) h ho hu)
  | rp e i o => exact Cx.v3_of_v2 (Cx.v2_cool (u := .rp e i o) h ho hu)
  | sp e y => exact Cx.v3_of_v2 (Cx.v2_cool (u := .sp e y) h ho hu)
  | fb e y => exact Cx.v3_of_v2 (Cx.v2_cool (u := .fb e y) h ho hu)
theorem Cx.bx_cool (h : Rel w0 cold0 N s a c) {d sz : Nat} {xs : List T} (ho : s.objs d = .row sz xs) {n : Nat} {u : V} {cs : Array Value} (hcs : cs.size = n) (hb : c.bx n u cs) : (c.cooled d xs).bx n (u.cool2 d xs) cs := by
  have jk : ∀ {e : V}, (∀ x, cs[0]? = some x → c.v2 e x) → (∀ x, cs[0]? = some x → (c.cooled d xs).v2 (e.cool2 d xs) x) := fun he x hx => Cx.v2_cool h ho (he x hx)
  cases u with
  | t e => exact ⟨hb.1, fun j x hx => (hb.2 j x hx).mono (fun _ _ => rfl) (fun _ hk => .inl hk)⟩
  | agg ls =>
    refine ⟨by simpa using hb.1, fun j l x hl hx => ?_⟩
    rw [List.getElem?_map] at hl
    obtain ⟨l0, hl0, rfl⟩ := Option.map_eq_some_iff.1 hl
    exact Cx.v1_cool h ho (hb.2 j l0 x hl0 hx)
  | full e =>
    have := jk (e := .full e) hb.2
    revert this
    simp only [V.cool2, V.cool1]
    cases Nat.beq e d
    · exact fun this => ⟨hb.1, this⟩
    · exact fun this => ⟨hb.1.symm, fun j x hx => by
        have hj : j = 0 := by have := (Array.getElem?_eq_some_iff.1 hx).1; have := hb.1; omega
        subst hj
        exact this x hx⟩
  | rv e x y =>
    have := jk (e := .rv e x y) hb.2
    revert this
    simp only [V.cool2, V.cool1, V.kill1]
    cases Nat.beq e d <;> exact fun this => ⟨hb.1, this⟩
  | bp e o =>
    have := jk (e := .bp e o) hb.2
    revert this
    simp only [V.cool2, V.cool1, V.kill1]
    cases Nat.beq e d <;> exact fun this => ⟨hb.1, this⟩
  | rp e i o =>
    have := jk (e := .rp e i o) hb.2
    revert this
    simp only [V.cool2, V.cool1, V.kill1]
    cases Nat.beq e d <;> exact fun this => ⟨hb.1, this⟩
  | sp e y =>
    have := jk (e := .sp e y) hb.2
    revert this
    simp only [V.cool2, V.cool1, V.kill1]
    cases Nat.beq e d <;> exact fun this => ⟨hb.1, this⟩
  | fb e y =>
    have := jk (e := .fb e y) hb.2
    revert this
    simp only [V.cool2, V.cool1, V.kill1]
    cases Nat.beq e d <;> exact fun this => ⟨hb.1, this⟩
  | fn g cs => exact ⟨hb.1, jk (e := .fn g cs) hb.2⟩
  | tup ls => exact ⟨hb.1, fun x hx => (hb.2 x hx).elim⟩
  | nilv => exact hb
  | junk => exact ⟨hb.1, fun _ _ => trivial⟩
theorem cool_none {s : St} {d e : Nat} {xs : List T} (h : s.objs e = .none) : (s.cool d xs).objs e = .none := by
  show (bif Nat.beq e d then Ob.none else (s.objs e).cool d xs) = .none
  cases Nat.beq e d
  · simp [h, Ob.cool]
  · rfl
theorem Rel.cool (h : Rel w0 cold0 N s a c) {d sz : Nat} {xs : List T} (ho : s.objs d = .row sz xs) : Rel w0 cold0 N (s.cool d xs) a (c.cooled d xs) := by
  have hn : ∀ e, (s.cool d xs).objs e ≠ .none → e ≠ d ∧ s.objs e ≠ .none := fun e he => by
    refine ⟨fun hed => he ?_, fun hs => he (cool_none hs)⟩
    subst hed
    show (bif Nat.beq e e then Ob.none else _) = .none
    simp
  have hd : s.objs d ≠ .none := by rw [ho]; simp
  refine ⟨?_, h.below, h.size, h.defers, fun k hk => .inl (h.c0 k hk), ?_, ?_, ?_, fun e f k he hf => h.inj e f k (hn e he).2 (hn f hf).2, fun e => ?_, fun t => Cx.v3_cool h ho (h.tmp t), h.nle, fun e b n u hp hu => ?_⟩
  · funext e
    show (bif Nat.beq e d then Ob.none else (c.objs e).cool d xs) = (bif Nat.beq e d then Ob.none else (s.objs e).cool d xs)
    rw [h.objs]
  · rintro k (hk | hk)
    · exact h.c1 k hk
    · exact .inr (h.hot d k hd hk).2.1
  · rintro k (hk | hk)
    · exact h.clt k hk
    · exact (h.hot d k hd hk).2.2
  · intro e k he hek
    obtain ⟨h1, h2, h3⟩ := h.hot e k (hn e he).2 hek
    refine ⟨?_, h2, h3⟩
    rintro (hk | hk)
    · exact h1 hk
    · exact (hn e he).1 (h.inj e d k (hn e he).2 hd hek hk)
  · show (c.cooled d xs).ob e (bif Nat.beq e d then Ob.none else (s.objs e).cool d xs)
    cases Nat.beq e d
    · simp only [cond_false]
      have := h.ob e
      revert this
      generalize s.objs e = o
      intro this
      cases o with
      | none => trivial
      | box n u => obtain ⟨b, cs, E, h1, h2, h3, h4, h5⟩ := this; exact ⟨b, cs, E, h1, h2, h3, h4, Cx.bx_cool h ho h3 h5⟩
      | row sz xs =>
        rcases this with h1 | ⟨b, cs, E, h1, h2, h3⟩
        · exact .inl h1
        · exact .inr ⟨b, cs, E, h1, h2, h3.1, h3.2.1, fun i j x y q1 q2 q3 => ⟨(h3.2.2 i j x y q1 q2 q3).1.mono (fun _ _ => rfl) (fun _ hk => .inl hk), (h3.2.2 i j x y q1 q2 q3).2⟩⟩
    · trivial
  · have hu : (bif Nat.beq e d then Ob.none else (s.objs e).cool d xs) = .box n u := hu
    cases hb : Nat.beq e d with
    | true => rw [hb] at hu; cases hu
    | false =>
      rw [hb] at hu
      simp only [cond_false] at hu
      cases hs : s.objs e with
      | box m v => rw [hs] at hu; simp only [Ob.cool, Ob.box.injEq] at hu; exact h.pin e b m v hp hs
      | none => rw [hs] at hu; simp [Ob.cool] at hu
      | row _ _ => rw [hs] at hu; simp [Ob.cool] at hu
end
end Go.Ax
