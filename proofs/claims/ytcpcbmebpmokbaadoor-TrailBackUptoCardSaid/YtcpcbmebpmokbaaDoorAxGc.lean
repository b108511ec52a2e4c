/- Ax, part Gc: a call of a callee that writes what it is handed. -/
import Derived.Test.YtcpcbmebpmokbaaDoorAxGb
set_option linter.unusedVariables false
set_option linter.unusedSimpArgs false
namespace Go.Ax
open Go Go.RowKit

def FlatSt (n : Nat) (x : St) : Prop := (∀ i, i < n → (x.env i).flatV = true) ∧ ∀ d, (x.objs d).flat = true
/-- Where a callee begins that writes what it is handed: what it is handed lies in ce, in blocks of its own each. -/
structure Enter (G : World) (se : St) (ce : Cx) (args : List Value) : Prop where
  objs : ce.objs = se.objs
  below : Below G.heap.size G ce.w
  env : ∀ (t : Nat) (v : Value), args[t]? = some v → ce.v3 (se.env t) v
  env0 : ∀ t, args.length ≤ t → se.env t = .junk
  ob : ∀ d, ce.ob d (se.objs d)
  hot : ∀ d b, se.objs d ≠ .none → ce.eta d = some b → ¬ ce.cold b ∧ G.heap.size ≤ b ∧ b < ce.w.heap.size
  inj : ∀ d e b, se.objs d ≠ .none → se.objs e ≠ .none → ce.eta d = some b → ce.eta e = some b → d = e
  clt : ∀ b, ce.cold b → b < ce.w.heap.size
/-- Where it ends. -/
structure Leave (se x : St) (ce cx : Cx) (n : Nat) (vs : List Value) : Prop where
  objs : cx.objs = x.objs
  os : cx.w.os = ce.w.os
  tape : cx.w.tape = ce.w.tape
  output : cx.w.output = ce.w.output
  size : ce.w.heap.size ≤ cx.w.heap.size
  ty : ∀ (k : Nat) (cs : Array Value) (E : TypeId) (fz : Nat × Nat), ce.w.heap[k]? = some (Obj.cells cs E fz) → ∃ (cs' : Array Value) (fz' : Nat × Nat), cx.w.heap[k]? = some (Obj.cells cs' E fz')
  kept : ∀ b, b < ce.w.heap.size → (∀ d, se.objs d ≠ .none → ce.eta d ≠ some b) → cx.w.heap[b]? = ce.w.heap[b]?
  c0 : ∀ b, ce.cold b → cx.cold b
  c1 : ∀ b, cx.cold b → ce.cold b ∨ (∃ d, se.objs d ≠ .none ∧ ce.eta d = some b) ∨ ce.w.heap.size ≤ b
  clt : ∀ b, cx.cold b → b < cx.w.heap.size
  hot : ∀ d b, x.objs d ≠ .none → cx.eta d = some b → ¬ cx.cold b ∧ ((∃ e, se.objs e ≠ .none ∧ ce.eta e = some b) ∨ ce.w.heap.size ≤ b) ∧ b < cx.w.heap.size
  inj : ∀ d e b, x.objs d ≠ .none → x.objs e ≠ .none → cx.eta d = some b → cx.eta e = some b → d = e
  ob : ∀ d, cx.ob d (x.objs d)
  pin : ∀ d n u m u', 2000000 ≤ d → se.objs d = .box n u → x.objs d = .box m u' → cx.eta d = ce.eta d
  len : vs.length = n
  res : ∀ (i : Nat) (v : Value), vs[i]? = some v → cx.v2 (x.env i) v
def MutSound (P : Program) (G : World) (f : FuncId) (M : Mut) : Prop :=
  (∀ (R : Type) (se : St) (k : St → Option R), M.run R se k = (M.run St se some).bind k) ∧
  ∀ (se x : St) (ce : Cx) (args : Array Value), M.run St se some = some x → args.size = M.nargs → Enter G se ce args.toList →
    (M.flat = true → FlatSt M.nres x) ∧
    Calls P f args ce.w fun e w' => ∃ (vs : List Value) (cx : Cx), e = .returned (valOf vs) ∧ cx.w = w' ∧ Leave se x ce cx M.nres vs

section names
theorem isOb_ne {o : Ob} (h : o.isOb = true) : o ≠ .none := fun e => by subst e; cases h
theorem ren_ne {f : Nat → Option Nat} {o : Ob} (h : o.ren f ≠ .none) : o ≠ .none := fun e => by subst e; exact h rfl
theorem kill_not {s : St} {d e : Nat} (h : (s.kill d).objs e ≠ .none) : s.objs e ≠ .none ∧ e ≠ d := by
  have h : (bif Nat.beq e d then Ob.none else (s.objs e).kill d) ≠ .none := h
  cases hb : Nat.beq e d with
  | true => rw [hb] at h; exact absurd rfl h
  | false =>
    rw [hb] at h
    exact ⟨fun hs => h (by rw [hs]; rfl), fun he => by rw [he] at hb; simp at hb⟩
theorem kill_none_at {s : St} {d : Nat} : (s.kill d).objs d = .none := by
  show (bif Nat.beq d d then Ob.none else _) = .none
  simp
end names
section
variable {P : Program} {w0 : Base} {cold0 : Nat → Prop} {N : Nat} {s : St} {a : Act} {c : Cx} {R : Type} {r : R}

/-- objects that went: nothing else is other -/
structure Gone (s s' : St) (c c' : Cx) : Prop where
  w : c'.w = c.w
  cold : c'.cold = c.cold
  eta : c'.eta = c.eta
  ob : ∀ d, s'.objs d ≠ .none → s.objs d ≠ .none
  box : ∀ d n u, s'.objs d = .box n u → ∃ u', s.objs d = .box n u'
theorem Gone.refl : Gone s s c c := ⟨rfl, rfl, rfl, fun _ h => h, fun _ n u h => ⟨u, h⟩⟩
theorem Gone.trans {s1 s2 : St} {c1 c2 : Cx} (h : Gone s s1 c c1) (h' : Gone s1 s2 c1 c2) : Gone s s2 c c2 :=
  ⟨h'.w.trans h.w, h'.cold.trans h.cold, h'.eta.trans h.eta, fun d hd => h.ob d (h'.ob d hd), fun d n u hd => by obtain ⟨u1, h1⟩ := h'.box d n u hd; exact h.box d n u1 h1⟩
theorem Gone.kill {d : Nat} : Gone s (s.kill d) c (c.killed d) := ⟨rfl, rfl, rfl, fun e he => (kill_not he).1, fun e n u he => kill_box' he⟩
theorem killM_some {x : St} : ∀ {σ : List (Nat × Nat)} {s : St} {c : Cx}, Rel w0 cold0 N s a c →
    ∃ c', Rel w0 cold0 N (killM σ x s) a c' ∧ Gone s (killM σ x s) c c' ∧ ∀ p ∈ σ, (killM σ x s).objs p.2 = .none ∨ ∃ n u u', (killM σ x s).objs p.2 = .box n u ∧ x.objs p.1 = .box n u'
  | [], s, c, hR => ⟨c, hR, .refl, fun p hp => by cases hp⟩
  | p :: ps, s, c, hR => by
    simp only [killM]
    obtain ⟨s1, c1, hs1, hR1, hg1, hp1⟩ : ∃ s1 c1, killStep p x s = s1 ∧ Rel w0 cold0 N s1 a c1 ∧ Gone s s1 c c1 ∧ (s1.objs p.2 = .none ∨ ∃ n u u', s1.objs p.2 = .box n u ∧ x.objs p.1 = .box n u') := by
      have gone : ∃ c1, Rel w0 cold0 N (s.kill p.2) a c1 ∧ Gone s (s.kill p.2) c c1 ∧ ((s.kill p.2).objs p.2 = .none ∨ ∃ n u u', (s.kill p.2).objs p.2 = .box n u ∧ x.objs p.1 = .box n u') :=
        ⟨_, hR.kill p.2, .kill, .inl kill_none_at⟩
      unfold killStep
      cases ho : s.objs p.2 with
      | none => exact ⟨s, c, rfl, hR, .refl, .inl ho⟩
      | row sz xs => obtain ⟨c1, h⟩ := gone; exact ⟨_, c1, rfl, h⟩
      | box n u =>
        cases hx : x.objs p.1 with
        | none => obtain ⟨c1, h⟩ := gone; rw [hx] at h; exact ⟨_, c1, rfl, h⟩
        | row _ _ => obtain ⟨c1, h⟩ := gone; rw [hx] at h; exact ⟨_, c1, rfl, h⟩
        | box m u' =>
          cases hb : Nat.beq n m with
          | true =>
            have := Nat.eq_of_beq_eq_true hb
            subst this
            exact ⟨s, c, by simp [hb], hR, .refl, .inr ⟨n, u, u', ho, rfl⟩⟩
          | false => obtain ⟨c1, h⟩ := gone; rw [hx] at h; exact ⟨_, c1, by simp [hb], h⟩
    rw [hs1]
    obtain ⟨c', hR', hg, hp⟩ := killM_some (σ := ps) hR1
    refine ⟨c', hR', hg1.trans hg, fun q hq => ?_⟩
    rcases List.mem_cons.1 hq with rfl | hq
    · cases ho : (killM ps x s1).objs q.2 with
      | none => exact .inl rfl
      | row sz xs =>
        have := hg.ob q.2 (by rw [ho]; simp)
        rcases hp1 with h | ⟨n, u, u', h, _⟩
        · exact absurd h this
        · by_cases hmem : (q.2) ∈ ps.map (·.2)
          · obtain ⟨q', hq', he⟩ := List.mem_map.1 hmem
            rcases hp q' hq' with h' | ⟨n', u1, u2, h', _⟩
            · rw [he, ho] at h'; cases h'
            · rw [he, ho] at h'; cases h'
          · -- only kills: what is left of a box is a box
            have key : ∀ {ps : List (Nat × Nat)} {s : St} {n : Nat} {u : V}, s.objs q.2 = .box n u → (killM ps x s).objs q.2 = .none ∨ ∃ u', (killM ps x s).objs q.2 = .box n u' := by
              intro ps
              induction ps with
              | nil => intro s n u h; exact .inr ⟨u, h⟩
              | cons p ps ih =>
                intro s n u h
                simp only [killM]
                have kk : ∀ (s : St) {n : Nat} {u : V}, s.objs q.2 = .box n u → (s.kill p.2).objs q.2 = .none ∨ ∃ u', (s.kill p.2).objs q.2 = .box n u' := fun s n u h => by
                  show (bif Nat.beq q.2 p.2 then Ob.none else (s.objs q.2).kill p.2) = .none ∨ ∃ u', (bif Nat.beq q.2 p.2 then Ob.none else (s.objs q.2).kill p.2) = .box n u'
                  cases Nat.beq q.2 p.2
                  · exact .inr ⟨_, by rw [h]; rfl⟩
                  · exact .inl rfl
                have nn : ∀ {ps : List (Nat × Nat)} {s : St}, s.objs q.2 = .none → (killM ps x s).objs q.2 = .none := by
                  intro ps
                  induction ps with
                  | nil => intro s h; exact h
                  | cons p ps ih =>
                    intro s h
                    simp only [killM]
                    have kn : (s.kill p.2).objs q.2 = .none := by
                      show (bif Nat.beq q.2 p.2 then Ob.none else (s.objs q.2).kill p.2) = .none
                      cases Nat.beq q.2 p.2
                      · rw [h]; rfl
                      · rfl
                    apply ih
                    unfold killStep
                    split
                    · exact h
                    · rename_i n u m u' _ _
                      cases Nat.beq n m
                      · exact kn
                      · exact h
                    · exact kn
                have fin : ∀ s1 : St, (s1.objs q.2 = .none ∨ ∃ u', s1.objs q.2 = .box n u') → (killM ps x s1).objs q.2 = .none ∨ ∃ u', (killM ps x s1).objs q.2 = .box n u' := fun s1 h1 => by
                  rcases h1 with h1 | ⟨u', h1⟩
                  · exact .inl (nn h1)
                  · exact ih h1
                apply fin
                unfold killStep
                split
                · exact .inr ⟨u, h⟩
                · rename_i n' u1 m u2 _ _
                  cases Nat.beq n' m
                  · exact kk s h
                  · exact .inr ⟨u, h⟩
                · exact kk s h
            rcases key (ps := ps) h with h' | ⟨u', h'⟩
            · rw [ho] at h'; cases h'
            · rw [ho] at h'; cases h'
      | box n u =>
        right
        rcases hp1 with h | ⟨n', u1, u2, h, hx⟩
        · exact absurd h (hg.ob q.2 (by rw [ho]; simp))
        · obtain ⟨u3, h3⟩ := hg.box q.2 n u ho
          rw [h] at h3
          simp only [Ob.box.injEq] at h3
          exact ⟨n, u, u2, rfl, by rw [← h3.1]; exact hx⟩
    · exact hp q hq
theorem killS_some : ∀ {τ : List (Nat × Nat)} {s : St} {c : Cx}, Rel w0 cold0 N s a c →
    ∃ c', Rel w0 cold0 N (killS τ s) a c' ∧ Gone s (killS τ s) c c' ∧ (∀ p ∈ τ, (killS τ s).objs p.2 = .none) ∧ ∀ d n u, d ∉ τ.map (·.2) → s.objs d = .box n u → ∃ u', (killS τ s).objs d = .box n u'
  | [], s, c, hR => ⟨c, hR, .refl, fun p hp => (by cases hp), fun d n u _ h => ⟨u, h⟩⟩
  | p :: ps, s, c, hR => by
    simp only [killS]
    obtain ⟨c1, hR1, hg1, hp1, hb1⟩ : ∃ c1, Rel w0 cold0 N (s.room p.2) a c1 ∧ Gone s (s.room p.2) c c1 ∧ (s.room p.2).objs p.2 = .none ∧ ∀ d n u, d ≠ p.2 → s.objs d = .box n u → ∃ u', (s.room p.2).objs d = .box n u' := by
      unfold St.room
      split
      · rename_i ho
        exact ⟨c, hR, .refl, ho, fun d n u _ h => ⟨u, h⟩⟩
      · refine ⟨_, hR.kill p.2, .kill, kill_none_at, fun d n u hd h => ⟨u.kill2 p.2, ?_⟩⟩
        show (bif Nat.beq d p.2 then Ob.none else (s.objs d).kill p.2) = _
        rw [beq_ne hd, h]; rfl
    obtain ⟨c', hR', hg, hp, hb⟩ := killS_some (τ := ps) hR1
    refine ⟨c', hR', hg1.trans hg, fun q hq => ?_, fun d n u hd h => ?_⟩
    · rcases List.mem_cons.1 hq with rfl | hq
      · cases ho : (killS ps (s.room q.2)).objs q.2 with
        | none => rfl
        | _ => exact absurd hp1 (hg.ob q.2 (by rw [ho]; simp))
      · exact hp q hq
    · simp only [List.map_cons, List.mem_cons, not_or] at hd
      obtain ⟨u1, h1⟩ := hb1 d n u hd.1 h
      exact hb d n u1 hd.2 h1

/-- A CALL of a callee that writes what it is handed. -/
theorem evCallM_sound {g : FuncId} {M : Mut} (hM : MutSound P w0.g g M) {dst : Option Nat} {us : List V} {k : St → Option R} {ro : Bool}
    (h : evCallM ro N M dst s us k = some r) (hR : Rel w0 cold0 N s a c) (hd : ∀ e, dst = some e → e < N) {ys : Array Value} (hsz : ys.size = us.length)
    (hv : ∀ (j : Nat) (u : V) (y : Value), us[j]? = some u → ys[j]? = some y → c.v3 u y) :
    Calls P g ys c.w fun e w' => ∃ v, e = .returned v ∧ ∃ s' c', c'.w = w' ∧ Rel w0 cold0 N s' (a.put dst v) c' ∧ k s' = some r ∧ ro = false := by
  unfold evCallM at h
  cases hro : ro with
  | true => rw [hro] at h; cases h
  | false =>
  rw [hro] at h
  simp only [cond_false] at h
  generalize hσ : M.sub us s.objs = σ at h
  cases hnd : (Nat.beq us.length M.nargs && nodupB (σ.map (·.1)) && nodupB (σ.map (·.2))) with
  | false => rw [hnd] at h; cases h
  | true =>
  rw [hnd] at h
  simp only [cond_true] at h
  simp only [Bool.and_eq_true] at hnd
  obtain ⟨⟨hna, hn1⟩, hn2⟩ := hnd
  obtain ⟨q, hq, h⟩ := Option.bind_eq_some_iff.1 h
  cases hall : σ.all (fun p => (q.2.objs p.2).isOb && Nat.ble 2000000 p.1) with
  | false => rw [hall] at h; cases h
  | true =>
  rw [hall] at h
  simp only [cond_true] at h
  obtain ⟨hnat, hsound⟩ := hM
  rw [hnat] at h
  obtain ⟨x, hx, h⟩ := Option.bind_eq_some_iff.1 h
  obtain ⟨c1, hR1, hw1, he1, hc1, hl1, _, hflat1, hargs⟩ := argsM_some (ys := ys.toList) rfl hq hR (by simpa using hsz) (fun j u y hu hy => hv j u y hu (by simpa using hy))
  have live : ∀ p ∈ σ, q.2.objs p.2 ≠ .none := fun p hp => isOb_ne (by have := List.all_eq_true.1 hall p hp; simp only [Bool.and_eq_true] at this; exact this.1)
  have big : ∀ p ∈ σ, 2000000 ≤ p.1 := fun p hp => by have := List.all_eq_true.1 hall p hp; simp only [Bool.and_eq_true] at this; exact Nat.le_of_ble_eq_true this.2
  -- what is read
  obtain ⟨hr, hhr⟩ : ∃ hr : Nat → Prop, hr = fun b => M.flat = true ∧ ∃ d, fwd σ d = none ∧ q.2.objs d ≠ .none ∧ c1.eta d = some b := ⟨_, rfl⟩
  obtain ⟨ce, hce⟩ : ∃ ce : Cx, ce = { w := c1.w, cold := fun b => c1.cold b ∨ hr b, eta := fun d => (bwd σ d).bind c1.eta, objs := (entryM σ q.1 q.2).objs } := ⟨_, rfl⟩
  have ceO : ∀ d e, bwd σ d = some e → ce.objs d = (q.2.objs e).ren (fwd σ) ∧ ce.eta d = c1.eta e := fun d e he => by
    subst hce
    refine ⟨?_, by simp [he]⟩
    show (match bwd σ d with | some e => (q.2.objs e).ren (fwd σ) | none => .none) = _
    rw [he]
  have ceN : ∀ d, ce.objs d ≠ .none → ∃ e, bwd σ d = some e ∧ (d, e) ∈ σ ∧ q.2.objs e ≠ .none := fun d hd => by
    subst hce
    have hd : (match bwd σ d with | some e => (q.2.objs e).ren (fwd σ) | none => .none) ≠ Ob.none := hd
    cases hb : bwd σ d with
    | none => rw [hb] at hd; exact absurd rfl hd
    | some e => rw [hb] at hd; exact ⟨e, rfl, bwd_mem hb, ren_ne hd⟩
  have name1 : NameOk c1 ce (fwd σ) := by
    refine ⟨fun d e sz xs hf ho => ?_, fun d e n u hf ho => ?_, fun d e hf ho => ?_⟩
    · have hm := fwd_mem hf
      rw [(ceO e d (mem_bwd hn1 hm)).1, ← hR1.objs, ho]; rfl
    · have hm := fwd_mem hf
      exact ⟨u.ren2 (fwd σ), by rw [(ceO e d (mem_bwd hn1 hm)).1, ← hR1.objs, ho]; rfl⟩
    · exact (ceO e d (mem_bwd hn1 (fwd_mem hf))).2
  have hen : EnOk M.flat q.2 c1 ce (fwd σ) := ⟨by subst hce; rfl, fun b hb => by subst hce; exact .inl hb, name1, fun hf d b h1 h2 h3 => by subst hce; exact .inr (by rw [hhr]; exact ⟨hf, d, h1, h2, h3⟩)⟩
  have noHr : ∀ d b, (∃ e, (e, d) ∈ σ) → q.2.objs d ≠ .none → c1.eta d = some b → ¬ hr b := fun d b ⟨e, hm⟩ ho heta hb => by
    rw [hhr] at hb
    obtain ⟨_, d', h1, h2, h3⟩ := hb
    have := hR1.inj d d' b ho h2 heta h3
    subst this
    rw [mem_fwd hn2 hm] at h1
    cases h1
  have enter : Enter w0.g (entryM σ q.1 q.2) ce ys.toList := by
    refine { objs := by subst hce; rfl, below := by subst hce; exact hR1.below.gbelow, env := fun t v hv => ?_, env0 := fun t ht => ?_, ob := fun d => ?_, hot := fun d b hd he => ?_, inj := fun d e b hd he h1 h2 => ?_, clt := fun b hb => ?_ }
    · have ht : t < q.1.length := by rw [hl1, ← hsz]; have := (List.getElem?_eq_some_iff.1 hv).1; simpa using this
      have hq1 : q.1[t]? = some q.1[t] := by simp [ht]
      have := hargs ce hen t _ v hq1 hv
      show ce.v3 (q.1.getD t .junk) v
      rw [List.getD_eq_getElem?_getD, hq1]
      exact this
    · show q.1.getD t .junk = .junk
      rw [List.getD_eq_getElem?_getD, List.getElem?_eq_none (by rw [hl1, ← hsz]; simpa using ht)]; rfl
    · show ce.ob d (match bwd σ d with | some e => (q.2.objs e).ren (fwd σ) | none => .none)
      cases hb : bwd σ d with
      | none => trivial
      | some e => exact Cx.ob_ren hen.w hen.cold name1 (ceO d e hb).2 (hR1.ob e)
    · have hd : ce.objs d ≠ .none := by subst hce; exact hd
      obtain ⟨e, hb, hm, ho⟩ := ceN d hd
      rw [(ceO d e hb).2] at he
      obtain ⟨p1, p2, p3⟩ := hR1.hot e b ho he
      refine ⟨?_, Nat.le_of_not_lt fun hlt => p2 (w0.gF b hlt), by subst hce; exact p3⟩
      subst hce
      rintro (hq | hq)
      · exact p1 hq
      · exact noHr e b ⟨d, hm⟩ ho he hq
    · have hd' : ce.objs d ≠ .none := by subst hce; exact hd
      have he' : ce.objs e ≠ .none := by subst hce; exact he
      obtain ⟨d1, hb1, hm1, ho1⟩ := ceN d hd'
      obtain ⟨e1, hb2, hm2, ho2⟩ := ceN e he'
      rw [(ceO d d1 hb1).2] at h1
      rw [(ceO e e1 hb2).2] at h2
      have := hR1.inj d1 e1 b ho1 ho2 h1 h2
      subst this
      have q1 := mem_fwd hn2 hm1
      rw [mem_fwd hn2 hm2] at q1
      exact (Option.some.inj q1).symm
    · subst hce
      rcases hb with hb | hb
      · exact hR1.clt b hb
      · rw [hhr] at hb; obtain ⟨_, d, _, h2, h3⟩ := hb; exact (hR1.hot d b h2 h3).2.2
  obtain ⟨hfl, hcalls⟩ := hsound _ x ce ys hx (by rw [hsz]; exact Nat.eq_of_beq_eq_true hna) enter
  have hwe : ce.w = c.w := by subst hce; exact hw1
  rw [← hwe]
  refine hcalls.mono fun e w' ⟨vs, cx, he, hcw, hle⟩ => ⟨valOf vs, he, ?_⟩
  -- behind the call
  unfold afterM at h
  generalize hτ : newM N (dst.getD 0) σ 0 M.outs = τ at h
  cases hok : (nodupB ((τ ++ σ).map (·.1)) && nodupB ((τ ++ σ).map (·.2)) && (τ ++ σ).all (pinOk x (killS τ (killM σ x q.2)))) with
  | false => rw [hok] at h; cases h
  | true =>
  rw [hok] at h
  simp only [cond_true] at h
  simp only [Bool.and_eq_true] at hok
  obtain ⟨⟨ht1, ht2⟩, htp⟩ := hok
  obtain ⟨ca, hRa, hga, hpa⟩ := killM_some (x := x) (σ := σ) hR1
  obtain ⟨c2, hR2, hgb, hpb, hbb⟩ := killS_some (τ := τ) hRa
  generalize hs2 : killS τ (killM σ x q.2) = s2 at h htp hR2 hgb hpb hbb
  have hg := hga.trans hgb
  -- what became of the names
  have gone : ∀ p ∈ τ ++ σ, s2.objs p.2 = .none ∨ (p ∈ σ ∧ ∃ n u u', s2.objs p.2 = .box n u ∧ x.objs p.1 = .box n u') := fun p hp => by
    cases ho : s2.objs p.2 with
    | none => exact .inl rfl
    | row sz xs =>
      rcases List.mem_append.1 hp with hp | hp
      · rw [hpb p hp] at ho; cases ho
      · rcases hpa p hp with h0 | ⟨n, u, u', h1, h2⟩
        · exact absurd h0 (hgb.ob p.2 (by rw [ho]; simp))
        · by_cases hm : p.2 ∈ τ.map (·.2)
          · obtain ⟨p', hp', he'⟩ := List.mem_map.1 hm
            have := hpb p' hp'
            rw [he', ho] at this
            cases this
          · obtain ⟨u1, h3⟩ := hbb p.2 n u hm h1
            rw [ho] at h3; cases h3
    | box n u =>
      rcases List.mem_append.1 hp with hp | hp
      · rw [hpb p hp] at ho; cases ho
      · refine .inr ⟨hp, n, u, ?_⟩
        rcases hpa p hp with h0 | ⟨n', u1, u2, h1, h2⟩
        · exact absurd h0 (hgb.ob p.2 (by rw [ho]; simp))
        · obtain ⟨u3, h3⟩ := hgb.box p.2 n u ho
          rw [h1] at h3
          simp only [Ob.box.injEq] at h3
          exact ⟨u2, rfl, by rw [← h3.1]; exact h2⟩
  have stay : ∀ d e, fwd (τ ++ σ) d = some e → s2.objs d ≠ .none → ∃ n u u' u'', s2.objs d = .box n u ∧ x.objs e = .box n u' ∧ (e, d) ∈ σ ∧ (entryM σ q.1 q.2).objs e = .box n u'' := fun d e hf ho => by
    rcases gone _ (fwd_mem hf) with h0 | ⟨hm, n, u, u', h1, h2⟩
    · exact absurd h0 ho
    · obtain ⟨u3, h3⟩ := hg.box d n u h1
      refine ⟨n, u, u', u3.ren2 (fwd σ), h1, h2, hm, ?_⟩
      show (match bwd σ e with | some e => (q.2.objs e).ren (fwd σ) | none => .none) = _
      rw [mem_bwd hn1 hm]
      show (q.2.objs d).ren _ = _
      rw [h3]; rfl
  have enO : ∀ d e, (e, d) ∈ σ → (entryM σ q.1 q.2).objs e ≠ .none ∧ ce.eta e = c1.eta d := fun d e hm => by
    have hb := mem_bwd hn1 hm
    refine ⟨?_, (ceO e d hb).2⟩
    show (match bwd σ e with | some e => (q.2.objs e).ren (fwd σ) | none => .none) ≠ _
    rw [hb]
    have := live _ hm
    show (q.2.objs d).ren _ ≠ _
    revert this
    generalize q.2.objs d = o
    intro this
    cases o <;> first | exact absurd rfl this | (intro h; cases h)
  have enE : ∀ e b, (entryM σ q.1 q.2).objs e ≠ .none → ce.eta e = some b → ∃ d, (e, d) ∈ σ ∧ q.2.objs d ≠ .none ∧ c1.eta d = some b := fun e b ho he => by
    have ho : ce.objs e ≠ .none := by subst hce; exact ho
    obtain ⟨d, hb, hm, hd⟩ := ceN e ho
    exact ⟨d, hm, hd, by rw [← (ceO e d hb).2]; exact he⟩
  have inτ : ∀ d e, (e, d) ∈ σ → fwd (τ ++ σ) d = some e := fun d e hm => mem_fwd ht2 (List.mem_append_right _ hm)
  obtain ⟨c3, hc3⟩ : ∃ c3 : Cx, c3 = { w := w', cold := fun b => cx.cold b ∧ ¬ hr b, eta := fun d => match fwd (τ ++ σ) d with | some e => cx.eta e | none => c1.eta d, objs := (backM (τ ++ σ) x s2).objs } := ⟨_, rfl⟩
  have eta3 : ∀ d e, fwd (τ ++ σ) d = some e → c3.eta d = cx.eta e := fun d e hf => by subst hc3; simp [hf]
  have eta3n : ∀ d, fwd (τ ++ σ) d = none → c3.eta d = c1.eta d := fun d hf => by subst hc3; simp [hf]
  have ob3 : ∀ d e, fwd (τ ++ σ) d = some e → (backM (τ ++ σ) x s2).objs d = (x.objs e).ren (bwd (τ ++ σ)) := fun d e hf => by simp [backM, hf]
  have ob3n : ∀ d, fwd (τ ++ σ) d = none → (backM (τ ++ σ) x s2).objs d = s2.objs d := fun d hf => by simp [backM, hf]
  have hw3 : c3.w = w' := by subst hc3; rfl
  have ceW : ce.w = c1.w := by subst hce; rfl
  have freeB : ∀ d b, fwd (τ ++ σ) d = none → q.2.objs d ≠ .none → c1.eta d = some b → ∀ e, (entryM σ q.1 q.2).objs e ≠ .none → ce.eta e ≠ some b := fun d b hf ho heta e h1 h2 => by
    obtain ⟨d', hm, hd', h3⟩ := enE e b h1 h2
    have := hR1.inj d d' b ho hd' heta h3
    subst this
    rw [inτ d e hm] at hf; cases hf
  have blkHot : ∀ d b, fwd (τ ++ σ) d = none → q.2.objs d ≠ .none → c1.eta d = some b → c3.w.heap[b]? = c1.w.heap[b]? := fun d b hf ho heta => by
    rw [hw3, ← hcw, ← ceW]
    exact hle.kept b (by rw [ceW]; exact (hR1.hot d b ho heta).2.2) (freeB d b hf ho heta)
  have blkCold : ∀ b, c1.cold b → c3.w.heap[b]? = c1.w.heap[b]? := fun b hb => by
    rw [hw3, ← hcw, ← ceW]
    refine hle.kept b (by rw [ceW]; exact hR1.clt b hb) fun e h1 h2 => ?_
    obtain ⟨d', hm, hd', h3⟩ := enE e b h1 h2
    exact (hR1.hot d' b hd' h3).1 hb
  have hrHot : ∀ b, hr b → ∃ d, q.2.objs d ≠ .none ∧ c1.eta d = some b ∧ fwd σ d = none := fun b hb => by rw [hhr] at hb; obtain ⟨_, d, h1, h2, h3⟩ := hb; exact ⟨d, h2, h3, h1⟩
  have cold3 : ∀ b, c1.cold b → c3.cold b := fun b hb => by
    subst hc3
    refine ⟨hle.c0 b (by subst hce; exact .inl hb), fun hq => ?_⟩
    obtain ⟨d, h1, h2, _⟩ := hrHot b hq
    exact (hR1.hot d b h1 h2).1 hb
  have cold3' : ∀ b, c3.cold b → c1.cold b ∨ (∃ d e, (e, d) ∈ σ ∧ q.2.objs d ≠ .none ∧ c1.eta d = some b) ∨ c1.w.heap.size ≤ b := fun b hb => by
    subst hc3
    rcases hle.c1 b hb.1 with h1 | ⟨e, h1, h2⟩ | h1
    · subst hce
      rcases h1 with h1 | h1
      · exact .inl h1
      · exact absurd h1 hb.2
    · obtain ⟨d, hm, hd', h3⟩ := enE e b h1 h2
      exact .inr (.inl ⟨d, e, hm, hd', h3⟩)
    · exact .inr (.inr (by rw [← ceW]; exact h1))
  have sim : c2.Sim c3 := by
    have o2 : ∀ d, c2.objs d = s2.objs d := fun d => by rw [hR2.objs]
    have o3 : ∀ d, c3.objs d = (backM (τ ++ σ) x s2).objs d := fun d => by subst hc3; rfl
    refine ⟨fun b hb => ?_, fun b hb => cold3 b (by rw [← hg.cold]; exact hb), fun d hd => ?_, fun d sz xs hd => ?_, fun d n u hd => ?_, fun d b cs E hd he hh => ?_⟩
    · rw [hg.w]; exact blkCold b (by rw [← hg.cold]; exact hb)
    · rw [o2] at hd
      rw [hg.eta]
      cases hf : fwd (τ ++ σ) d with
      | none => exact eta3n d hf
      | some e =>
        obtain ⟨n, u, u', u'', h1, h2, hm, h3⟩ := stay d e hf hd
        rw [eta3 d e hf, hle.pin e n u'' n u' (big _ hm) h3 h2]
        exact (enO d e hm).2
    · rw [o2] at hd
      cases hf : fwd (τ ++ σ) d with
      | none => exact ⟨xs, by rw [o3, ob3n d hf]; exact hd, rfl⟩
      | some e =>
        obtain ⟨n, u, u', u'', h1, _⟩ := stay d e hf (by rw [hd]; simp)
        rw [hd] at h1; cases h1
    · rw [o2] at hd
      cases hf : fwd (τ ++ σ) d with
      | none => exact ⟨u, by rw [o3, ob3n d hf]; exact hd⟩
      | some e =>
        obtain ⟨n', u1, u', u'', h1, h2, hm, h3⟩ := stay d e hf (by rw [hd]; simp)
        rw [hd] at h1
        simp only [Ob.box.injEq] at h1
        exact ⟨_, by rw [o3, ob3 d e hf, h2, h1.1]; rfl⟩
    · rw [o2] at hd
      cases hf : fwd (τ ++ σ) d with
      | none =>
        rw [hg.w] at hh
        rw [hg.eta] at he
        exact ⟨cs, by rw [blkHot d b hf (hg.ob d hd) he]; exact hh, rfl⟩
      | some e =>
        obtain ⟨n, u, u', u'', h1, h2, hm, h3⟩ := stay d e hf hd
        rw [hg.w] at hh
        have hob := hR2.ob d
        rw [h1] at hob
        obtain ⟨b0, cs0, E0, p1, p2, p3, _⟩ := hob
        rw [he] at p1
        cases p1
        rw [hg.w, hh] at p2
        cases p2
        have hx := hle.ob e
        rw [h2] at hx
        obtain ⟨b1, cs1, E1, q1, q2, q3, _⟩ := hx
        rw [hg.eta] at he
        rw [hle.pin e n u'' n u' (big _ hm) h3 h2, (enO d e hm).2, he] at q1
        cases q1
        obtain ⟨cs', fz', h4⟩ := hle.ty b cs E (0, 0) (by rw [ceW]; exact hh)
        rw [q2] at h4
        cases h4
        exact ⟨cs1, by rw [hw3, ← hcw]; exact q2, by omega⟩
  -- the callee's memory, under the caller's names
  obtain ⟨cy, hcy⟩ : ∃ cy : Cx, cy = { cx with cold := fun b => cx.cold b ∧ ¬ hr b } := ⟨_, rfl⟩
  have same : M.flat = false → ∀ b, cx.cold b → cy.cold b := fun hf b hb => by subst hcy; exact ⟨hb, fun hq => by rw [hhr, hf] at hq; cases hq.1⟩
  have wy : cy.w = w' := by subst hcy; exact hcw
  have oy : ∀ d, cy.ob d (x.objs d) := fun d => by
    cases hf : M.flat with
    | true => subst hcy; exact Cx.ob_flat (hle.ob d) ((hfl hf).2 d)
    | false =>
      have : x.objs d = (x.objs d) := rfl
      have key := Cx.ob_ren (c := cx) (c' := cy) (f := some) (by subst hcy; rfl) (same hf) ⟨fun d e sz xs h1 h2 => by cases h1; subst hcy; exact h2, fun d e n u h1 h2 => by cases h1; subst hcy; exact ⟨u, h2⟩, fun d e h1 _ => by cases h1; subst hcy; rfl⟩ (d := d) (e := d) (by subst hcy; rfl) (hle.ob d)
      have idr : ∀ u : V, u.ren1 some = u := fun u => by cases u <;> rfl
      have idr2 : ∀ u : V, u.ren2 some = u := fun u => by
        cases u with
        | agg ls => simp only [V.ren2]; congr 1; exact (List.map_congr_left fun u _ => idr u).trans (List.map_id _)
        | fn g ls => simp only [V.ren2]; congr 1; exact (List.map_congr_left fun u _ => idr u).trans (List.map_id _)
        | _ => rfl
      have : (x.objs d).ren some = x.objs d := by cases x.objs d <;> simp [Ob.ren, idr2]
      rwa [this] at key
  have vy : ∀ i v, vs[i]? = some v → cy.v2 (x.env i) v := fun i v hv => by
    have hi : i < M.nres := by rw [← hle.len]; exact (List.getElem?_eq_some_iff.1 hv).1
    cases hf : M.flat with
    | true => subst hcy; exact Cx.v2_flat (hle.res i v hv) ((hfl hf).1 i hi)
    | false =>
      have key := Cx.v2_ren (c := cx) (c' := cy) (f := some) (by subst hcy; rfl) (same hf) ⟨fun d e sz xs h1 h2 => by cases h1; subst hcy; exact h2, fun d e n u h1 h2 => by cases h1; subst hcy; exact ⟨u, h2⟩, fun d e h1 _ => by cases h1; subst hcy; rfl⟩ (hle.res i v hv)
      have idr : ∀ u : V, u.ren1 some = u := fun u => by cases u <;> rfl
      have idr2 : ∀ u : V, u.ren2 some = u := fun u => by
        cases u with
        | agg ls => simp only [V.ren2]; congr 1; exact (List.map_congr_left fun u _ => idr u).trans (List.map_id _)
        | fn g ls => simp only [V.ren2]; congr 1; exact (List.map_congr_left fun u _ => idr u).trans (List.map_id _)
        | _ => rfl
      rwa [idr2] at key
  have yObjs : cy.objs = x.objs := by subst hcy; exact hle.objs
  have yEta : cy.eta = cx.eta := by subst hcy; rfl
  have name3 : NameOk cy c3 (bwd (τ ++ σ)) := by
    have o3 : ∀ d, c3.objs d = (backM (τ ++ σ) x s2).objs d := fun d => by subst hc3; rfl
    refine ⟨fun e d sz xs hb ho => ?_, fun e d n u hb ho => ?_, fun e d hb ho => ?_⟩
    · have hf := mem_fwd ht2 (bwd_mem hb)
      rw [yObjs] at ho
      rw [o3, ob3 d e hf, ho]; rfl
    · have hf := mem_fwd ht2 (bwd_mem hb)
      rw [yObjs] at ho
      exact ⟨_, by rw [o3, ob3 d e hf, ho]; rfl⟩
    · rw [eta3 d e (mem_fwd ht2 (bwd_mem hb)), yEta]
  have coldY : ∀ b, cy.cold b → c3.cold b := fun b hb => by subst hcy; subst hc3; exact hb
  have hR3 : Rel w0 cold0 N (backM (τ ++ σ) x s2) a c3 := by
    have old : ∀ d, fwd (τ ++ σ) d = none → s2.objs d ≠ .none → q.2.objs d ≠ .none := fun d _ ho => hg.ob d ho
    refine { objs := by subst hc3; rfl, below := ?_, size := hR.size, defers := hR.defers, c0 := fun b hb => cold3 b (hR1.c0 b hb), c1 := fun b hb => ?_, clt := fun b hb => ?_, hot := fun d b hd he => ?_, inj := fun d e b hd he h1 h2 => ?_, ob := fun d => ?_, tmp := fun t => sim.v3 (hR2.tmp t), nle := hR.nle, pin := fun d b n u hp hu => ?_ }
    · rw [hw3, ← hcw]
      have hk := hR1.below
      refine ⟨by rw [hle.os, ceW]; exact hk.os, by rw [hle.tape, ceW]; exact hk.tape, by rw [hle.output, ceW]; exact hk.output, Nat.le_trans hk.size (by rw [← ceW]; exact hle.size), fun b hb => ?_, fun b cs E fz hb => ?_⟩
      rw [hle.kept b (by rw [ceW]; exact Nat.lt_of_lt_of_le (w0.Flt b hb) hk.size) fun e h1 h2 => ?_, ceW]
      · exact hk.block b hb
      · obtain ⟨d', hm, hd', h3⟩ := enE e b h1 h2
        exact (hR1.hot d' b hd' h3).2.1 hb
      · obtain ⟨cs', fz', h'⟩ := hk.ty b cs E fz hb
        exact hle.ty b cs' E fz' (by rw [ceW]; exact h')
    · rcases cold3' b hb with h1 | ⟨d, e, hm, hd', h3⟩ | h1
      · exact hR1.c1 b h1
      · exact .inr (hR1.hot d b hd' h3).2.1
      · exact .inr (hR1.below.new h1)
    · rw [hw3, ← hcw]; subst hc3; exact hle.clt b hb.1
    · cases hf : fwd (τ ++ σ) d with
      | none =>
        rw [ob3n d hf] at hd
        rw [eta3n d hf] at he
        have ho := old d hf hd
        obtain ⟨p1, p2, p3⟩ := hR1.hot d b ho he
        refine ⟨fun hb => ?_, p2, ?_⟩
        · rcases cold3' b hb with h1 | ⟨d', e, hm, hd', h3⟩ | h1
          · exact p1 h1
          · have := hR1.inj d d' b ho hd' he h3
            subst this
            rw [inτ d e hm] at hf; cases hf
          · omega
        · rw [hw3, ← hcw]; have := hle.size; rw [ceW] at this; omega
      | some e =>
        rw [ob3 d e hf] at hd
        rw [eta3 d e hf] at he
        obtain ⟨p1, p2, p3⟩ := hle.hot e b (ren_ne hd) he
        refine ⟨fun hb => p1 (by subst hc3; exact hb.1), ?_, by rw [hw3, ← hcw]; exact p3⟩
        rcases p2 with ⟨e', h1, h2⟩ | h1
        · obtain ⟨d', hm, hd', h3⟩ := enE e' b h1 h2
          exact (hR1.hot d' b hd' h3).2.1
        · exact hR1.below.new (by rw [← ceW]; exact h1)
    · have mixed : ∀ d e e', fwd (τ ++ σ) d = none → fwd (τ ++ σ) e = some e' → (backM (τ ++ σ) x s2).objs d ≠ .none → (backM (τ ++ σ) x s2).objs e ≠ .none → c3.eta d = some b → c3.eta e = some b → False := fun d e e' hf hf' hd he h1 h2 => by
        rw [ob3n d hf] at hd
        rw [eta3n d hf] at h1
        rw [ob3 e e' hf'] at he
        rw [eta3 e e' hf'] at h2
        have ho := old d hf hd
        rcases (hle.hot e' b (ren_ne he) h2).2.1 with ⟨e2, q1, q2⟩ | q1
        · exact freeB d b hf ho h1 e2 q1 q2
        · have := (hR1.hot d b ho h1).2.2; rw [ceW] at q1; omega
      cases hf : fwd (τ ++ σ) d with
      | none =>
        cases hf' : fwd (τ ++ σ) e with
        | none =>
          rw [ob3n d hf] at hd
          rw [ob3n e hf'] at he
          rw [eta3n d hf] at h1
          rw [eta3n e hf'] at h2
          exact hR1.inj d e b (old d hf hd) (old e hf' he) h1 h2
        | some e' => exact (mixed d e e' hf hf' hd he h1 h2).elim
      | some d' =>
        cases hf' : fwd (τ ++ σ) e with
        | none => exact (mixed e d d' hf' hf he hd h2 h1).elim
        | some e' =>
          rw [ob3 d d' hf] at hd
          rw [ob3 e e' hf'] at he
          rw [eta3 d d' hf] at h1
          rw [eta3 e e' hf'] at h2
          have := hle.inj d' e' b (ren_ne hd) (ren_ne he) h1 h2
          subst this
          have g1 := mem_bwd ht1 (fwd_mem hf)
          rw [mem_bwd ht1 (fwd_mem hf')] at g1
          exact (Option.some.inj g1).symm
    · cases hf : fwd (τ ++ σ) d with
      | none =>
        rw [ob3n d hf]
        have := hR2.ob d
        have hne := old d hf
        revert this hne
        generalize s2.objs d = o
        intro this hne
        have e2 : c3.eta d = c2.eta d := by rw [hg.eta]; exact eta3n d hf
        cases o with
        | none => trivial
        | box n u =>
          obtain ⟨b, cs, E, h1, h2, h3, h4, h5⟩ := this
          refine ⟨b, cs, E, by rw [e2]; exact h1, ?_, h3, h4, sim.bx h5⟩
          rw [hg.w] at h2
          rw [blkHot d b hf (hne (by simp)) (by rw [← hg.eta]; exact h1)]; exact h2
        | row sz xs =>
          rcases this with h1 | ⟨b, cs, E, h1, h2, h3⟩
          · exact .inl ⟨by rw [e2]; exact h1.1, h1.2⟩
          · refine .inr ⟨b, cs, E, by rw [e2]; exact h1, ?_, sim.rowCells h3⟩
            rw [hg.w] at h2
            rw [blkHot d b hf (hne (by simp)) (by rw [← hg.eta]; exact h1)]; exact h2
      | some e =>
        rw [ob3 d e hf]
        exact Cx.ob_ren (by rw [hw3, wy]) coldY name3 (by rw [eta3 d e hf, yEta]) (oy e)
    · cases hf : fwd (τ ++ σ) d with
      | none =>
        rw [ob3n d hf] at hu
        rw [eta3n d hf, ← hg.eta]
        exact hR2.pin d b n u hp hu
      | some e =>
        rw [ob3 d e hf] at hu
        have hbig := w0.pinN d b hp
        have hpk := List.all_eq_true.1 htp _ (fwd_mem hf)
        unfold pinOk at hpk
        cases hxe : x.objs e with
        | none => rw [hxe] at hu; cases hu
        | row _ _ => rw [hxe] at hu; cases hu
        | box m u' =>
          simp only [hxe, Bool.or_eq_true] at hpk
          rcases hpk with hpk | hpk
          · rw [Nat.blt_eq] at hpk; exact absurd hpk (by omega)
          · obtain ⟨n1, u1, u2, u3, h1, h2, hm, h3⟩ := stay d e hf (isOb_ne hpk)
            rw [eta3 d e hf, hle.pin e n1 u3 n1 u2 (big _ hm) h3 h2, (enO d e hm).2]
            have := hR2.pin d b n1 u1 hp h1
            rw [hg.eta] at this
            exact this
  refine ⟨_, c3, hw3, hR3.put dst hd ?_, h, rfl⟩
  have hlen : (resM (τ ++ σ) M.nres x).length = vs.length := by simp [resM, hle.len]
  have hres : ∀ (j : Nat) (u : V) (v : Value), (resM (τ ++ σ) M.nres x)[j]? = some u → vs[j]? = some v → c3.v2 u v := fun j u v hu hv => by
    unfold resM at hu
    rw [List.getElem?_map] at hu
    obtain ⟨i, hi, rfl⟩ := Option.map_eq_some_iff.1 hu
    have hji : i = j := by
      obtain ⟨_, h⟩ := List.getElem?_eq_some_iff.1 hi
      simpa using h.symm
    subst hji
    exact Cx.v2_ren (by rw [hw3, wy]) coldY name3 (vy i v hv)
  revert hlen hres
  generalize resM (τ ++ σ) M.nres x = ws
  intro hlen hres
  match ws, vs, hlen, hres with
  | [], [], _, _ => exact ⟨#[], rfl, rfl, fun j l x hl => by simp at hl⟩
  | [u], [v], _, hv3 => exact Cx.v3_of_v2 (hv3 0 u v rfl rfl)
  | u1 :: u2 :: us, v1 :: v2 :: vs, hl3, hv3 =>
    exact ⟨(v1 :: v2 :: vs).toArray, rfl, by simpa using hl3.symm, fun j l x hl hx => hv3 j l x hl (by simpa using hx)⟩
end
end Go.Ax
