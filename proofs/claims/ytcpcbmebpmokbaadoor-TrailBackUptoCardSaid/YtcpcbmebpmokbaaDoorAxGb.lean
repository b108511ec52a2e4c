/- Ax, part Gb: a call of a callee that writes what it is handed: its arguments. -/
import Derived.Test.YtcpcbmebpmokbaaDoorAxGa
set_option linter.unusedVariables false
set_option linter.unusedSimpArgs false
namespace Go.Ax
open Go Go.RowKit

/-- the callee's memory ce, under the names f -/
structure EnOk (flat : Bool) (s : St) (c ce : Cx) (f : Nat → Option Nat) : Prop where
  w : ce.w = c.w
  cold : ∀ b, c.cold b → ce.cold b
  name : NameOk c ce f
  read : flat = true → ∀ d b, f d = none → s.objs d ≠ .none → c.eta d = some b → ce.cold b
/-- what is called by a name stays -/
def Stays (f : Nat → Option Nat) (s s' : St) : Prop :=
  ∀ d e, f d = some e → (∀ sz xs, s.objs d = .row sz xs → s'.objs d = .row sz xs) ∧ ∀ n u, s.objs d = .box n u → ∃ u', s'.objs d = .box n u'
theorem Stays.refl {f : Nat → Option Nat} {s : St} : Stays f s s := fun d e _ => ⟨fun _ _ h => h, fun n u h => ⟨u, h⟩⟩
theorem Stays.trans {f : Nat → Option Nat} {s s' s'' : St} (h : Stays f s s') (h' : Stays f s' s'') : Stays f s s'' := fun d e he =>
  ⟨fun sz xs ho => (h' d e he).1 sz xs ((h d e he).1 sz xs ho), fun n u ho => by obtain ⟨u1, h1⟩ := (h d e he).2 n u ho; exact (h' d e he).2 n u1 h1⟩
section
variable {P : Program} {w0 : Base} {cold0 : Nat → Prop} {N : Nat} {s : St} {a : Act} {c : Cx} {R : Type} {r : R}

theorem name_back {f : Nat → Option Nat} {s s' : St} {c c' ce : Cx} (hc : c.objs = s.objs) (hc' : c'.objs = s'.objs) (he : c'.eta = c.eta) (hs : Stays f s s') (hn : NameOk c' ce f) : NameOk c ce f := by
  refine ⟨fun d e sz xs hf ho => ?_, fun d e n u hf ho => ?_, fun d e hf ho => ?_⟩
  · rw [hc] at ho
    exact hn.row d e sz xs hf (by rw [hc']; exact (hs d e hf).1 sz xs ho)
  · rw [hc] at ho
    obtain ⟨u', hu⟩ := (hs d e hf).2 n u ho
    exact hn.box d e n u' hf (by rw [hc']; exact hu)
  · rw [← he]
    refine hn.eta d e hf ?_
    rw [hc'] ; rw [hc] at ho
    cases hq : s.objs d with
    | none => exact absurd hq ho
    | row sz xs => rw [(hs d e hf).1 sz xs hq]; simp
    | box n u => obtain ⟨u', hu⟩ := (hs d e hf).2 n u hq; rw [hu]; simp
theorem v2_of_in2 {f : Nat → Option Nat} {v : V} {y : Value} (h : c.v3 v y) (hi : v.in2 f = true) : c.v2 v y := by
  cases v <;> first | exact h | (simp [V.in2, V.in1] at hi; done)
def readO (f : Nat → Option Nat) (s : St) : Nat → Ob := fun d => match f d with | some _ => .none | none => s.objs d
def readK (f : Nat → Option Nat) (s : St) (c : Cx) : Nat → Prop := fun b => c.cold b ∨ ∃ d, f d = none ∧ s.objs d ≠ .none ∧ c.eta d = some b
theorem readOut {f : Nat → Option Nat} : OutK s c (readO f s) (readK f s c) := by
  have key : ∀ d, readO f s d ≠ .none → f d = none ∧ readO f s d = s.objs d := fun d hd => by
    unfold readO at hd ⊢
    cases hf : f d with
    | none => exact ⟨rfl, rfl⟩
    | some e => rw [hf] at hd; exact absurd rfl hd
  refine ⟨fun d hd => (key d hd).2, fun b hb => .inl hb, fun d b hd he => .inr ⟨d, (key d hd).1, by rw [← (key d hd).2]; exact hd, he⟩⟩
theorem capsM_get {f : Nat → Option Nat} {O : Nat → Ob} : ∀ {vs us : List V}, capsM f O vs = some us → us.length = vs.length ∧ ∀ (j : Nat) (v u : V), vs[j]? = some v → us[j]? = some u → (v.in1 f = true ∧ u = v.ren1 f) ∨ ∃ x, v.out3 O = some x ∧ u = .t x
  | [], us, h => by simp only [capsM, Option.some.injEq] at h; subst h; exact ⟨rfl, fun j v u hv => by simp at hv⟩
  | v :: vs, us, h => by
    simp only [capsM] at h
    cases hi : v.in1 f with
    | true =>
      rw [hi] at h
      simp only [cond_true] at h
      obtain ⟨ws, hws, h⟩ := Option.bind_eq_some_iff.1 h
      simp only [Option.some.injEq] at h
      subst h
      obtain ⟨hl, ih⟩ := capsM_get hws
      refine ⟨by simp [hl], fun j x y hx hy => ?_⟩
      cases j with
      | zero => simp at hx hy; subst hx; subst hy; exact .inl ⟨hi, rfl⟩
      | succ j => simp at hx hy; exact ih j x y hx hy
    | false =>
      rw [hi] at h
      simp only [cond_false] at h
      obtain ⟨z, hz, h⟩ := Option.bind_eq_some_iff.1 h
      obtain ⟨ws, hws, h⟩ := Option.bind_eq_some_iff.1 h
      simp only [Option.some.injEq] at h
      subst h
      obtain ⟨hl, ih⟩ := capsM_get hws
      refine ⟨by simp [hl], fun j x y hx hy => ?_⟩
      cases j with
      | zero => simp at hx hy; subst hx; subst hy; exact .inr ⟨z, hz, rfl⟩
      | succ j => simp at hx hy; exact ih j x y hx hy
theorem argR_rep {f : Nat → Option Nat} {v u : V} {y : Value} (hR : Rel w0 cold0 N s a c) (hv : c.v3 v y) (h : argR f s v = some u) {ce : Cx} (hw : ce.w = c.w) (hK : ∀ b, readK f s c b → ce.cold b) (hn : NameOk c ce f) : ce.v3 u y := by
  have toCe : ∀ {x : T} {y : Value}, TRep c.w (readK f s c) x y → TRep ce.w ce.cold x y := fun h => h.mono (fun b _ => by rw [hw]) hK
  have plain : ∀ {x : T}, v.out (readO f s) = some x → u = .t x → ce.v3 u y := fun hx hu => by
    subst hu
    exact toCe (out_rep hR readOut hv hx)
  unfold argR at h
  split at h
  · rename_i g cs
    obtain ⟨us, hus, h⟩ := Option.bind_eq_some_iff.1 h
    simp only [Option.some.injEq] at h
    subst h
    obtain ⟨ys, rfl, hn1, hr⟩ := hv
    obtain ⟨hl, hg⟩ := capsM_get hus
    refine ⟨ys, rfl, by rw [hn1, hl], fun j l x hlj hx => ?_⟩
    have hj : j < cs.length := by have := (List.getElem?_eq_some_iff.1 hlj).1; omega
    have hcj : cs[j]? = some cs[j] := by simp [hj]
    rcases hg j _ l hcj hlj with ⟨_, rfl⟩ | ⟨z, hz, rfl⟩
    · exact Cx.v1_ren hw (fun b hb => hK b (.inl hb)) hn (hr j _ x hcj hx)
    · exact toCe (out3_rep hR readOut (Cx.v2_of_v1 (hr j _ x hcj hx)) hz)
  · obtain ⟨x, hx, h⟩ := Option.bind_eq_some_iff.1 h
    simp only [Option.some.injEq] at h
    exact plain hx h.symm
theorem argsM_some {flat : Bool} {f : Nat → Option Nat} : ∀ {n : Nat} {vs : List V} {s : St} {c : Cx} {q : List V × St} {ys : List Value}, n = vs.length → argsM flat f n vs s = some q → Rel w0 cold0 N s a c → ys.length = vs.length →
    (∀ (j : Nat) (u : V) (y : Value), vs[j]? = some u → ys[j]? = some y → c.v3 u y) →
    ∃ c', Rel w0 cold0 N q.2 a c' ∧ c'.w = c.w ∧ c'.eta = c.eta ∧ (∀ b, c.cold b → c'.cold b) ∧ q.1.length = vs.length ∧ Stays f s q.2 ∧ (flat = true → q.2 = s ∧ c' = c) ∧
      ∀ ce, EnOk flat q.2 c' ce f → ∀ (j : Nat) (u : V) (y : Value), q.1[j]? = some u → ys[j]? = some y → ce.v3 u y
  | 0, [], s, c, q, ys, _, h, hR, hl, hv => by
    simp only [argsM, Option.some.injEq] at h
    subst h
    exact ⟨c, hR, rfl, rfl, fun _ h => h, rfl, .refl, fun _ => ⟨rfl, rfl⟩, fun ce _ j u y hu => by simp at hu⟩
  | 0, _ :: _, _, _, _, _, hn, _, _, _, _ => by simp at hn
  | _ + 1, [], _, _, _, _, hn, _, _, _, _ => by simp at hn
  | n + 1, v :: vs, s, c, q, [], _, _, _, hl, _ => by simp at hl
  | n + 1, v :: vs, s, c, q, y :: ys, hn, h, hR, hl, hv => by
    have hn : n = vs.length := by simpa using hn
    have hl : ys.length = vs.length := by simpa using hl
    have hv0 : c.v3 v y := hv 0 v y rfl rfl
    have hvs : ∀ (j : Nat) (u : V) (z : Value), vs[j]? = some u → ys[j]? = some z → c.v3 u z := fun j u z hu hz => hv (j + 1) u z (by simpa using hu) (by simpa using hz)
    simp only [argsM] at h
    cases hi : v.in2 f with
    | true =>
      rw [hi] at h
      simp only [cond_true] at h
      obtain ⟨q', hq, h⟩ := Option.bind_eq_some_iff.1 h
      simp only [Option.some.injEq] at h
      subst h
      obtain ⟨c', h1, h2, h3, h4, h5, h6, h7, h8⟩ := argsM_some hn hq hR hl hvs
      refine ⟨c', h1, h2, h3, h4, by simp [h5], h6, h7, fun ce hce j u z hu hz => ?_⟩
      cases j with
      | zero =>
        simp at hu hz; subst hu; subst hz
        exact Cx.v3_of_v2 (Cx.v2_ren (by rw [hce.w, h2]) (fun b hb => hce.cold b (h4 b hb)) (name_back hR.objs h1.objs h3 h6 hce.name) (v2_of_in2 hv0 hi))
      | succ j => simp at hu hz; exact h8 ce hce j u z hu hz
    | false =>
      rw [hi] at h
      simp only [cond_false] at h
      cases hflat : flat with
      | true =>
        subst hflat
        simp only [cond_true] at h
        obtain ⟨u0, hu0, h⟩ := Option.bind_eq_some_iff.1 h
        obtain ⟨q', hq, h⟩ := Option.bind_eq_some_iff.1 h
        simp only [Option.some.injEq] at h
        subst h
        obtain ⟨c', h1, h2, h3, h4, h5, h6, h7, h8⟩ := argsM_some hn hq hR hl hvs
        refine ⟨c', h1, h2, h3, h4, by simp [h5], h6, h7, fun ce hce j u z hu hz => ?_⟩
        obtain ⟨e1, e2⟩ := h7 rfl
        cases j with
        | zero =>
          simp at hu hz; subst hu; subst hz
          refine argR_rep hR hv0 hu0 (by rw [hce.w, h2]) (fun b hb => ?_) (name_back hR.objs h1.objs h3 h6 hce.name)
          rcases hb with hb | ⟨d, hd1, hd2, hd3⟩
          · exact hce.cold b (h4 b hb)
          · exact hce.read rfl d b hd1 (by show q'.2.objs d ≠ _; rw [e1]; exact hd2) (by rw [h3]; exact hd3)
        | succ j => simp at hu hz; exact h8 ce hce j u z hu hz
      | false =>
        subst hflat
        simp only [cond_false] at h
        split at h
        rotate_left
        · cases h
        rename_i d
        split at h
        rotate_left
        · cases h
        rename_i sz xs ho
        obtain ⟨q', hq, h⟩ := Option.bind_eq_some_iff.1 h
        simp only [Option.some.injEq] at h
        subst h
        have hfd : f d = none := by
          cases hf : f d with
          | none => rfl
          | some e => simp [V.in2, V.in1, hf] at hi
        have hst : Stays f s (s.cool d xs) := fun e e' he => by
          have hne : Nat.beq e d = false := beq_ne (fun hed => by rw [hed, hfd] at he; cases he)
          refine ⟨fun sz' ys' hq => ?_, fun n' u' hq => ⟨u'.cool2 d xs, ?_⟩⟩
          · show (bif Nat.beq e d then Ob.none else (s.objs e).cool d xs) = _
            rw [hne, hq]; rfl
          · show (bif Nat.beq e d then Ob.none else (s.objs e).cool d xs) = _
            rw [hne, hq]; rfl
        have hvs' : ∀ (j : Nat) (u : V) (z : Value), (vs.map (V.cool d xs))[j]? = some u → ys[j]? = some z → (c.cooled d xs).v3 u z := fun j u z hu hz => by
          rw [List.getElem?_map] at hu
          obtain ⟨u0, hu0, rfl⟩ := Option.map_eq_some_iff.1 hu
          exact Cx.v3_cool hR ho (hvs j u0 z hu0 hz)
        obtain ⟨c', h1, h2, h3, h4, h5, h6, h7, h8⟩ := argsM_some (by simpa using hn) hq (hR.cool ho) (by simpa using hl) hvs'
        refine ⟨c', h1, h2, h3, fun b hb => h4 b (.inl hb), by simp [h5], hst.trans h6, fun h => (by cases h), fun ce hce j u z hu hz => ?_⟩
        cases j with
        | zero =>
          simp at hu hz; subst hu; subst hz
          have := row_cold hR ho (y := y) hv0
          exact this.mono (fun b _ => by rw [hce.w, h2]; rfl) (fun b hb => hce.cold b (h4 b hb))
        | succ j => simp at hu hz; exact h8 ce hce j u z hu hz
end
end Go.Ax
