/- Ax, part G: what is handed to a callee; what a call's summary says; a call. -/
import Derived.Test.YtcpcbmebpmokbaaDoorAxF
set_option linter.unusedVariables false
set_option linter.unusedSimpArgs false
namespace Go.Ax
open Go Go.RowKit

section
variable {P : Program} {w0 : Base} {cold0 : Nat → Prop} {N : Nat} {s : St} {a : Act} {c : Cx} {R : Type} {r : R} {o : Oper} {Q : Exit → Act → World → Prop}

def Cx.all (c : Cx) : Nat → Prop := fun b => b < c.w.heap.size
theorem Rel.toAll (h : Rel w0 cold0 N s a c) {x : T} {y : Value} (hr : TRep c.w c.cold x y) : TRep c.w c.all x y := hr.mono (fun _ _ => rfl) (fun b hb => h.clt b hb)
theorem oneCell_of_v1 {v : V} {y : Value} (h : c.v1 v y) {x : T} (hx : v.out1 c.objs = some x) (hne : ∀ ls, x ≠ .agg ls) : y.oneCell' = true := by
  cases v with
  | t x' =>
    simp only [V.out1, Option.some.injEq] at hx
    subst hx
    cases h <;> first | rfl | assumption | exact absurd rfl (hne _)
  | nilv => cases h; rfl
  | full d => obtain ⟨sz, xs, ho, hr⟩ := h; rcases hr with ⟨_, _, rfl⟩ | ⟨_, _, _, _, _, rfl, _⟩ <;> rfl
  | rv d o l => obtain ⟨sz, xs, ho, _, hr⟩ := h; rcases hr with ⟨_, _, _, rfl⟩ | ⟨_, _, _, rfl, _⟩ <;> rfl
  | _ => simp [V.out1] at hx

/-- a row's elements, at a place in its block -/
theorem row_rep (h : Rel w0 cold0 N s a c) {d sz : Nat} {xs : List T} (ho : s.objs d = .row sz xs) {b : Nat} (he : c.eta d = some b) (off len cap : Nat) (hle : off + len ≤ xs.length) (hcap : len ≤ cap)
    {cold : Nat → Prop} (hcold : ∀ k, c.cold k → cold k) (hb : cold b) :
    TRep c.w cold (.lst ((xs.drop off).take len)) (.slice (some ⟨b, off * sz, none⟩) len cap) := by
  have hob := h.ob d
  rw [ho] at hob
  rcases hob with ⟨hn, _⟩ | ⟨b', cs, E, he', hh, hsz, hw, hrep⟩
  · rw [he] at hn; cases hn
  rw [he] at he'
  simp only [Option.some.injEq] at he'
  subst he'
  have hin : ∀ i j, i < len → j < sz → (off + i) * sz + j < cs.size := fun i j hi hj => by
    have : (off + i + 1) * sz ≤ xs.length * sz := Nat.mul_le_mul_right sz (by omega)
    rw [Nat.add_mul (off + i), Nat.one_mul] at this
    omega
  have hlen : ((xs.drop off).take len).length = len := by simp; omega
  have hget : ∀ i x, ((xs.drop off).take len)[i]? = some x → i < len ∧ xs[off + i]? = some x := fun i x hx => by
    have hi : i < len := by have := (List.getElem?_eq_some_iff.1 hx).1; omega
    rw [List.getElem?_take_of_lt hi, List.getElem?_drop] at hx
    exact ⟨hi, hx⟩
  have key := TRep.lst (w := c.w) (cold := cold) ((xs.drop off).take len) b (off * sz) cap sz (fun i j => cs.getD ((off + i) * sz + j) undef) (by omega) hb
    (fun x hx => hw x (List.mem_of_mem_drop (List.mem_of_mem_take hx)))
    (fun i j hi hj => by
      rw [cell_block hh, show off * sz + i * sz + j = (off + i) * sz + j by rw [Nat.add_mul], Array.getD_eq_getD_getElem?]
      have := hin i j (by omega) hj
      simp [this])
    (fun i j hi hj => by
      have hg : cs[(off + i) * sz + j]? = some (cs[(off + i) * sz + j]'(hin i j (by omega) hj)) := by simp [hin i j (by omega) hj]
      rw [Array.getD_eq_getD_getElem?, hg]
      have hx : xs[off + i]? = some (xs[off + i]'(by omega)) := List.getElem?_eq_getElem (by omega)
      exact (hrep (off + i) j _ _ hx hj hg).2)
    (fun i x j hx hj => by
      obtain ⟨hi, hx⟩ := hget i x hx
      have hg : cs[(off + i) * sz + j]? = some (cs[(off + i) * sz + j]'(hin i j hi hj)) := by simp [hin i j hi hj]
      show TRep c.w cold (x.leaf j) (cs.getD ((off + i) * sz + j) undef)
      rw [Array.getD_eq_getD_getElem?, hg]
      exact (hrep (off + i) j x _ hx hj hg).1.mono (fun _ _ => rfl) hcold)
  rw [hlen] at key
  exact key
/-- what is read of the frame's memory lies in K -/
structure OutK (s : St) (c : Cx) (O : Nat → Ob) (K : Nat → Prop) : Prop where
  obj : ∀ d, O d ≠ .none → O d = s.objs d
  cold : ∀ b, c.cold b → K b
  hot : ∀ d b, O d ≠ .none → c.eta d = some b → K b
theorem OutK.all (h : Rel w0 cold0 N s a c) : OutK s c s.objs c.all := ⟨fun _ _ => rfl, h.clt, fun d b hd he => (h.hot d b hd he).2.2⟩
theorem out1_rep (h : Rel w0 cold0 N s a c) {O : Nat → Ob} {K : Nat → Prop} (hk : OutK s c O K) {v : V} {y : Value} (hv : c.v1 v y) {x : T} (hx : v.out1 O = some x) : TRep c.w K x y := by
  cases v with
  | t x' =>
    simp only [V.out1, Option.some.injEq] at hx
    subst hx
    exact hv.mono (fun _ _ => rfl) hk.cold
  | nilv =>
    simp only [V.out1, Option.some.injEq] at hx
    subst hx
    rw [show y = .slice none 0 0 from hv]
    exact .lst0 none 0
  | full d =>
    obtain ⟨sz, xs, ho, hr⟩ := hv
    rw [h.objs] at ho
    have hod : O d = s.objs d := hk.obj d (fun e => by simp [V.out1, e] at hx)
    simp only [V.out1, hod, ho, Option.some.injEq] at hx
    subst hx
    rcases hr with ⟨_, rfl, rfl⟩ | ⟨b, cap, cs, E, he, rfl, hcap, hh, hsz⟩
    · exact .lst0 none 0
    · have := row_rep h ho he 0 xs.length cap (by omega) hcap (cold := K) hk.cold (hk.hot d b (by rw [hod, ho]; simp) he)
      simpa using this
  | rv d off len =>
    obtain ⟨sz, xs, ho, hle, hr⟩ := hv
    rw [h.objs] at ho
    have hod : O d = s.objs d := hk.obj d (fun e => by simp [V.out1, e] at hx)
    simp only [V.out1, hod, ho, Option.some.injEq] at hx
    subst hx
    rcases hr with ⟨rfl, a', cap, rfl⟩ | ⟨b, cap, he, rfl, hcap⟩
    · rw [List.take_zero]; exact .lst0 a' cap
    · exact row_rep h ho he off len cap hle hcap hk.cold (hk.hot d b (by rw [hod, ho]; simp) he)
  | _ => simp [V.out1] at hx
theorem outs1_get {objs : Nat → Ob} : ∀ {vs : List V} {xs : List T}, outs1 objs vs = some xs → xs.length = vs.length ∧ ∀ (j : Nat) (v : V) (x : T), vs[j]? = some v → xs[j]? = some x → v.outJ objs = some x
  | [], xs, h => by simp only [outs1, Option.some.injEq] at h; subst h; exact ⟨rfl, fun j v x hv => by simp at hv⟩
  | v :: vs, xs, h => by
    simp only [outs1] at h
    obtain ⟨x, hx, h⟩ := Option.bind_eq_some_iff.1 h
    obtain ⟨ys, hys, h⟩ := Option.bind_eq_some_iff.1 h
    simp only [Option.some.injEq] at h
    subst h
    obtain ⟨hl, ih⟩ := outs1_get hys
    refine ⟨by simp [hl], fun j u y hu hy => ?_⟩
    cases j with
    | zero => simp at hu hy; subst hu; subst hy; exact hx
    | succ j => simp at hu hy; exact ih j u y hu hy
theorem outJ_rep (h : Rel w0 cold0 N s a c) {O : Nat → Ob} {K : Nat → Prop} (hk : OutK s c O K) {v : V} {y : Value} (hv : c.v1 v y) (h1 : y.oneCell' = true) {x : T} (hx : v.outJ O = some x) : TRep c.w K x y := by
  cases v with
  | junk => simp only [V.outJ, Option.some.injEq] at hx; subst hx; exact .junk y h1
  | _ => exact out1_rep h hk hv hx
theorem out2_rep (h : Rel w0 cold0 N s a c) {O : Nat → Ob} {K : Nat → Prop} (hk : OutK s c O K) {v : V} {y : Value} (hv : c.v2 v y) {x : T} (hx : v.out2 O = some x) : TRep c.w K x y := by
  cases v with
  | agg ls =>
    obtain ⟨cs, rfl, hn, h1, hr⟩ := hv
    obtain ⟨ts, hts, hx⟩ := Option.bind_eq_some_iff.1 hx
    simp only [Option.some.injEq] at hx
    subst hx
    obtain ⟨hl, hg⟩ := outs1_get hts
    refine .agg ts cs (by omega) h1 (fun j l y hj hy => ?_)
    have hj' : j < ls.length := by have := (List.getElem?_eq_some_iff.1 hj).1; omega
    have hlj : ls[j]? = some ls[j] := by simp [hj']
    exact outJ_rep h hk (hr j _ y hlj hy) (h1 j y hy) (hg j _ l hlj hj)
  | fn g cs => simp [V.out2, V.out1] at hx
  | tup _ => exact hv.elim
  | t x' => exact out1_rep (v := .t x') h hk hv hx
  | full d => exact out1_rep (v := .full d) h hk hv hx
  | rv d a b => exact out1_rep (v := .rv d a b) h hk hv hx
  | nilv => exact out1_rep (v := .nilv) h hk hv hx
  | bp _ _ => simp [V.out2, V.out1] at hx
  | rp _ _ _ => simp [V.out2, V.out1] at hx
  | sp _ _ => simp [V.out2, V.out1] at hx
  | fb _ _ => simp [V.out2, V.out1] at hx
  | junk => simp [V.out2, V.out1] at hx
theorem agg_notOne {w : World} {cold : Nat → Prop} {x : T} {y : Value} (h : TRep w cold x y) : ∀ ls, x = .agg ls → y.oneCell' = false := by
  intro ls e
  subst e
  cases h
  rfl
theorem bx_out2 (h : Rel w0 cold0 N s a c) {O : Nat → Ob} {K : Nat → Prop} (hk : OutK s c O K) {n : Nat} {u : V} {cs : Array Value} (hsz : cs.size = n) (h1 : ∀ (j : Nat) (x : Value), cs[j]? = some x → x.oneCell' = true)
    (hb : c.bx n u cs) {x : T} (hx : u.out2 O = some x) : x.width ≤ n ∧ ∀ j y, j < x.width → cs[j]? = some y → TRep c.w K (x.leaf j) y := by
  have single : n = 1 → (∀ y, cs[0]? = some y → c.v2 u y) → x.width ≤ n ∧ ∀ j y, j < x.width → cs[j]? = some y → TRep c.w K (x.leaf j) y := by
    intro hn hv
    subst hn
    have hg : cs[0]? = some (cs[0]'(by omega)) := by simp [hsz]
    have hrep := out2_rep h hk (hv _ hg) hx
    have hone := h1 0 _ hg
    have hna : ∀ ls, x ≠ .agg ls := fun ls e => by
      have := agg_notOne hrep ls e
      rw [this] at hone
      cases hone
    have hw : x.width = 1 := by cases x <;> first | rfl | exact absurd rfl (hna _)
    refine ⟨by omega, fun j y hj hy => ?_⟩
    have hj0 : j = 0 := by omega
    subst hj0
    rw [T.leaf_width hw hna]
    rw [hg] at hy
    simp only [Option.some.injEq] at hy
    subst hy
    exact hrep
  cases u with
  | t e =>
    simp only [V.out2, V.out1, Option.some.injEq] at hx
    subst hx
    exact ⟨Nat.le_of_eq hb.1, fun j y hj hy => (hb.2 j y hy).mono (fun _ _ => rfl) hk.cold⟩
  | agg ls =>
    obtain ⟨hl, hr⟩ := hb
    obtain ⟨ts, hts, hx⟩ := Option.bind_eq_some_iff.1 hx
    simp only [Option.some.injEq] at hx
    subst hx
    obtain ⟨hl', hg⟩ := outs1_get hts
    refine ⟨by show ts.length ≤ n; omega, fun j y hj hy => ?_⟩
    have hj : j < ts.length := hj
    have hlj : ls[j]? = some (ls[j]'(by omega)) := List.getElem?_eq_getElem (by omega)
    have htj : ts[j]? = some ts[j] := by simp [hj]
    have := outJ_rep h hk (hr j _ y hlj hy) (h1 j y hy) (hg j _ _ hlj htj)
    simpa [T.leaf, List.getD_eq_getElem?_getD, htj] using this
  | full d => exact single hb.1 hb.2
  | rv d o l => exact single hb.1 hb.2
  | bp d o => exact single hb.1 hb.2
  | rp d i o => exact single hb.1 hb.2
  | sp d t => exact single hb.1 hb.2
  | fb d t => exact single hb.1 hb.2
  | fn g cs => exact single hb.1 hb.2
  | tup ls => exact single hb.1 hb.2
  | nilv => exact single hb.1 hb.2
  | junk => exact single hb.1 hb.2
theorem out3_rep (h : Rel w0 cold0 N s a c) {O : Nat → Ob} {K : Nat → Prop} (hk : OutK s c O K) {v : V} {y : Value} (hv : c.v2 v y) {x : T} (hx : v.out3 O = some x) : TRep c.w K x y := by
  cases v with
  | bp d o =>
    obtain ⟨n, u, b, ho, he, rfl⟩ := hv
    rw [h.objs] at ho
    have hod : O d = s.objs d := hk.obj d (fun e => by simp [V.out3, e] at hx)
    simp only [V.out3, hod, ho] at hx
    obtain ⟨z, hz, hx⟩ := Option.bind_eq_some_iff.1 hx
    simp only [Option.some.injEq] at hx
    subst hx
    have hob := h.ob d
    rw [ho] at hob
    obtain ⟨b', cs, E, he', hh, hsz, h1, hbx⟩ := hob
    rw [he] at he'
    simp only [Option.some.injEq] at he'
    subst he'
    obtain ⟨hw, hr⟩ := bx_out2 h hk hsz h1 hbx hz
    have hg : ∀ j, j < z.width → cs[j]? = some (cs.getD j undef) := fun j hj => by
      have : j < cs.size := by omega
      simp [Array.getD_eq_getD_getElem?, this]
    have := TRep.cp (w := c.w) (cold := K) z o b 0 (fun j => cs.getD j undef) (hk.hot d b (by rw [hod, ho]; simp) he)
      (fun j hj => by rw [cell_block hh, Nat.zero_add]; exact hg j hj) (fun j hj => h1 j _ (hg j hj)) (fun j hj => hr j _ hj (hg j hj))
    rwa [Nat.zero_add] at this
  | rp d i o =>
    obtain ⟨sz, xs, b, ho, hi, he, rfl⟩ := hv
    rw [h.objs] at ho
    have hod : O d = s.objs d := hk.obj d (fun e => by simp [V.out3, e] at hx)
    simp only [V.out3, hod, ho] at hx
    obtain ⟨z, hz, hx⟩ := Option.bind_eq_some_iff.1 hx
    simp only [Option.some.injEq] at hx
    subst hx
    have hob := h.ob d
    rw [ho] at hob
    rcases hob with ⟨hn, _⟩ | ⟨b', cs, E, he', hh, hle, hw, hrep⟩
    · rw [he] at hn; cases hn
    rw [he] at he'
    simp only [Option.some.injEq] at he'
    subst he'
    have hew : z.width = sz := hw z (List.mem_of_getElem? hz)
    have hin : ∀ j, j < z.width → i * sz + j < cs.size := fun j hj => by
      have : (i + 1) * sz ≤ xs.length * sz := Nat.mul_le_mul_right sz hi
      rw [Nat.add_mul, Nat.one_mul] at this
      omega
    have hg : ∀ j, j < z.width → cs[i * sz + j]? = some (cs.getD (i * sz + j) undef) := fun j hj => by
      simp [Array.getD_eq_getD_getElem?, hin j hj]
    exact TRep.cp (w := c.w) (cold := K) z o b (i * sz) (fun j => cs.getD (i * sz + j) undef) (hk.hot d b (by rw [hod, ho]; simp) he)
      (fun j hj => by rw [cell_block hh]; exact hg j hj) (fun j hj => (hrep i j z _ hz (by omega) (hg j hj)).2)
      (fun j hj => (hrep i j z _ hz (by omega) (hg j hj)).1.mono (fun _ _ => rfl) hk.cold)
  | t x' => exact out2_rep (v := .t x') h hk hv hx
  | full d => exact out2_rep (v := .full d) h hk hv hx
  | sp _ _ => simp [V.out3, V.out2, V.out1] at hx
  | fb _ _ => simp [V.out3, V.out2, V.out1] at hx
  | rv d a b => exact out2_rep (v := .rv d a b) h hk hv hx
  | agg ls => exact out2_rep (v := .agg ls) h hk hv hx
  | fn g cs => exact out2_rep (v := .fn g cs) h hk hv hx
  | tup _ => exact hv.elim
  | nilv => exact out2_rep (v := .nilv) h hk hv hx
  | junk => exact out2_rep (v := .junk) h hk hv hx
theorem outs3_get {objs : Nat → Ob} : ∀ {vs : List V} {xs : List T}, outs3 objs vs = some xs → xs.length = vs.length ∧ ∀ (j : Nat) (v : V) (x : T), vs[j]? = some v → xs[j]? = some x → v.out3 objs = some x
  | [], xs, h => by simp only [outs3, Option.some.injEq] at h; subst h; exact ⟨rfl, fun j v x hv => by simp at hv⟩
  | v :: vs, xs, h => by
    simp only [outs3] at h
    obtain ⟨x, hx, h⟩ := Option.bind_eq_some_iff.1 h
    obtain ⟨ys, hys, h⟩ := Option.bind_eq_some_iff.1 h
    simp only [Option.some.injEq] at h
    subst h
    obtain ⟨hl, ih⟩ := outs3_get hys
    refine ⟨by simp [hl], fun j u y hu hy => ?_⟩
    cases j with
    | zero => simp at hu hy; subst hu; subst hy; exact hx
    | succ j => simp at hu hy; exact ih j u y hu hy
theorem out_rep (h : Rel w0 cold0 N s a c) {O : Nat → Ob} {K : Nat → Prop} (hk : OutK s c O K) {v : V} {y : Value} (hv : c.v3 v y) {x : T} (hx : v.out O = some x) : TRep c.w K x y := by
  cases v with
  | fn g caps =>
    obtain ⟨cs, rfl, hn, hr⟩ := hv
    obtain ⟨ts, hts, hx⟩ := Option.bind_eq_some_iff.1 hx
    simp only [Option.some.injEq] at hx
    subst hx
    obtain ⟨hl, hg⟩ := outs3_get hts
    refine .fn g ts cs (by omega) (fun j l y hj hy => ?_)
    have hj' : j < caps.length := by have := (List.getElem?_eq_some_iff.1 hj).1; omega
    have hlj : caps[j]? = some caps[j] := by simp [hj']
    exact out3_rep h hk (Cx.v2_of_v1 (hr j _ y hlj hy)) (hg j _ l hlj hj)
  | tup _ => simp [V.out, V.out3, V.out2, V.out1] at hx
  | t x' => exact out3_rep (v := .t x') h hk hv hx
  | full d => exact out3_rep (v := .full d) h hk hv hx
  | sp _ _ => simp [V.out, V.out3, V.out2, V.out1] at hx
  | fb _ _ => simp [V.out, V.out3, V.out2, V.out1] at hx
  | rv d a b => exact out3_rep (v := .rv d a b) h hk hv hx
  | agg ls => exact out3_rep (v := .agg ls) h hk hv hx
  | bp d o => exact out3_rep (v := .bp d o) h hk hv hx
  | rp d i o => exact out3_rep (v := .rp d i o) h hk hv hx
  | nilv => exact out3_rep (v := .nilv) h hk hv hx
  | junk => exact out3_rep (v := .junk) h hk hv hx

/-- what is not hot stands in the frame's cold memory -/
theorem out1_cold {v : V} {y : Value} (hv : c.v1 v y) (hh : v.hot1 = false) {objs : Nat → Ob} (h1 : v = .junk → y.oneCell' = true) {x : T} (hx : v.outJ objs = some x) : TRep c.w c.cold x y := by
  cases v with
  | t x' => simp only [V.outJ, V.out1, Option.some.injEq] at hx; subst hx; exact hv
  | nilv => simp only [V.outJ, V.out1, Option.some.injEq] at hx; subst hx; rw [show y = .slice none 0 0 from hv]; exact .lst0 none 0
  | junk => simp only [V.outJ, Option.some.injEq] at hx; subst hx; exact .junk y (h1 rfl)
  | _ => simp [V.hot1] at hh
theorem out_cold {v : V} {y : Value} (hv : c.v3 v y) (hh : v.hot = false) {objs : Nat → Ob} {x : T} (hx : v.out objs = some x) : TRep c.w c.cold x y := by
  cases v with
  | agg ls =>
    obtain ⟨cs, rfl, hn, h1, hr⟩ := hv
    obtain ⟨ts, hts, hx⟩ := Option.bind_eq_some_iff.1 hx
    simp only [Option.some.injEq] at hx
    subst hx
    obtain ⟨hl, hg⟩ := outs1_get hts
    refine .agg ts cs (by omega) h1 (fun j l y hj hy => ?_)
    have hj' : j < ls.length := by have := (List.getElem?_eq_some_iff.1 hj).1; omega
    have hlj : ls[j]? = some ls[j] := by simp [hj']
    have hhj : ls[j].hot1 = false := by
      have := List.any_eq_false.1 hh ls[j] (List.getElem_mem hj')
      simpa using this
    exact out1_cold (hr j _ y hlj hy) hhj (fun _ => h1 j y hy) (hg j _ l hlj hj)
  | fn g caps =>
    obtain ⟨cs, rfl, hn, hr⟩ := hv
    obtain ⟨ts, hts, hx⟩ := Option.bind_eq_some_iff.1 hx
    simp only [Option.some.injEq] at hx
    subst hx
    obtain ⟨hl, hg⟩ := outs3_get hts
    refine .fn g ts cs (by omega) (fun j l y hj hy => ?_)
    have hj' : j < caps.length := by have := (List.getElem?_eq_some_iff.1 hj).1; omega
    have hlj : caps[j]? = some caps[j] := by simp [hj']
    have hhj : caps[j].hot1 = false := by
      have := List.any_eq_false.1 hh caps[j] (List.getElem_mem hj')
      simpa using this
    have h3 := hg j _ l hlj hj
    have h1 := hr j _ y hlj hy
    revert h3 hhj h1
    generalize caps[j] = u
    intro hhj h3 h1
    cases u with
    | t x' => exact out1_cold (v := .t x') (objs := objs) h1 rfl (fun e => by cases e) h3
    | nilv => exact out1_cold (v := .nilv) (objs := objs) h1 rfl (fun e => by cases e) h3
    | junk => simp [V.out3, V.out2, V.out1] at h3
    | _ => simp [V.hot1] at hhj
  | t x' => simp only [V.out, V.out3, V.out2, V.out1, Option.some.injEq] at hx; subst hx; exact hv
  | nilv => simp only [V.out, V.out3, V.out2, V.out1, Option.some.injEq] at hx; subst hx; rw [show y = .slice none 0 0 from hv]; exact .lst0 none 0
  | junk => simp [V.out, V.out3, V.out2, V.out1] at hx
  | _ => simp [V.hot, V.hot1] at hh
end
end Go.Ax
