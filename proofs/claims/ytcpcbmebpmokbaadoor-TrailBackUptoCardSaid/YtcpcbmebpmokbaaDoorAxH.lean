/- Ax, part H: summaries of calls, and a call by its summary. -/
import Derived.Test.YtcpcbmebpmokbaaDoorAxGc
set_option linter.unusedVariables false
set_option linter.unusedSimpArgs false
namespace Go.Ax
open Go Go.RowKit

def rowC (w : World) (cold : Nat → Prop) (sz : Nat) (xs : List T) (cs : Array Value) : Prop := Cx.rowCells ⟨w, cold, fun _ => none, fun _ => .none⟩ sz xs cs
def rvRep1 (w : World) (cold : Nat → Prop) : RL → Value → List Nat → Prop
  | .t x, v, bs => TRep w cold x v ∧ bs = []
  | .own sz xs, v, bs => (v = .slice none 0 0 ∧ xs = [] ∧ bs = []) ∨
      ∃ b cap cs E, bs = [b] ∧ v = .slice (some ⟨b, 0, none⟩) xs.length cap ∧ xs.length ≤ cap ∧ w.heap[b]? = some (.cells cs E (0, 0)) ∧ cap * sz ≤ cs.size ∧ rowC w cold sz xs cs
def rlReps (w : World) (cold : Nat → Prop) : List RL → List Value → List Nat → Prop
  | [], [], bs => bs = []
  | r :: rs, v :: vs, bs => ∃ b1 b2, bs = b1 ++ b2 ∧ rvRep1 w cold r v b1 ∧ rlReps w cold rs vs b2
  | _, _, _ => False
def asmV : List RV → List Value → List Value
  | [], _ => []
  | .l _ :: rs, vs => vs.headD undef :: asmV rs vs.tail
  | .agg ls :: rs, vs => .agg (vs.take ls.length).toArray :: asmV rs (vs.drop ls.length)
def aggsOk : List RV → List Value → Prop
  | [], _ => True
  | .l _ :: rs, vs => aggsOk rs vs.tail
  | .agg ls :: rs, vs => (∀ v ∈ vs.take ls.length, v.oneCell' = true) ∧ aggsOk rs (vs.drop ls.length)
def rvReps (w : World) (cold : Nat → Prop) (rs : List RV) (vs : List Value) (bs : List Nat) : Prop :=
  ∃ us, rlReps w cold (flatRV rs) us bs ∧ vs = asmV rs us ∧ aggsOk rs us

/-- Called with values that stand for the cold ts, in whatever world, function f returns values that stand for rs; what there was is as it was. -/
def CallSound (P : Program) (G : World) (f : FuncId) (ts : List T) (apart : Bool) (rs : List RV) : Prop :=
  ∀ (w : World) (cold : Nat → Prop) (args : Array Value), Below G.heap.size G w → (∀ b, cold b → b < w.heap.size) → args.size = ts.length →
    (∀ (j : Nat) (t : T) (v : Value), ts[j]? = some t → args[j]? = some v → TRep w cold t v) →
    Calls P f args w fun e w' => ∃ vs bs, e = .returned (valOf vs) ∧ Below w.heap.size w w' ∧ bs.Nodup ∧ (∀ b, b ∈ bs → w.heap.size ≤ b ∧ b < w'.heap.size) ∧
      rvReps w' (fun b => (cold b ∧ apart = false) ∨ (w.heap.size ≤ b ∧ b < w'.heap.size ∧ b ∉ bs)) rs vs bs
def Entered (P : Program) (f : FuncId) : Prop := ∃ fn, P.funcs[f]? = some fn ∧ (fn.name == "runtime.NumGoroutine") = false ∧ fn.body.isNone = false
def SumSound (P : Program) (G : World) (f : FuncId) (S : Summary) : Prop :=
  Entered P f ∧ (∀ ts a b, S.args ts = some a → S.fn a = some b → CallSound P G f ts S.apart (S.res b)) ∧ ∀ M, S.m = some M → MutSound P G f M
def OrcSound (P : Program) (G : World) (C : Nat → Option Summary) : Prop := ∀ g S, C g = some S → SumSound P G g S

theorem rvRep1_mono {w w' : World} {cold cold' : Nat → Prop} (hw : w' = w) (hc : ∀ b, cold b → cold' b) {r : RL} {v : Value} {bs : List Nat} (h : rvRep1 w cold r v bs) : rvRep1 w' cold' r v bs := by
  subst hw
  cases r with
  | t x => exact ⟨h.1.mono (fun _ _ => rfl) hc, h.2⟩
  | own sz xs =>
    rcases h with h | ⟨b, cap, cs, E, h0, h1, h2, h3, h4, h5⟩
    · exact .inl h
    · exact .inr ⟨b, cap, cs, E, h0, h1, h2, h3, h4, h5.1, h5.2.1, fun i j x y a b d => ⟨(h5.2.2 i j x y a b d).1.mono (fun _ _ => rfl) hc, (h5.2.2 i j x y a b d).2⟩⟩
theorem rlReps_mono {w : World} {cold cold' : Nat → Prop} (hc : ∀ b, cold b → cold' b) : ∀ {rs : List RL} {vs : List Value} {bs : List Nat}, rlReps w cold rs vs bs → rlReps w cold' rs vs bs
  | [], [], _, h => h
  | _ :: _, _ :: _, _, ⟨b1, b2, h0, h1, h2⟩ => ⟨b1, b2, h0, rvRep1_mono rfl hc h1, rlReps_mono hc h2⟩
  | [], _ :: _, _, h => h.elim
  | _ :: _, [], _, h => h.elim

theorem rvReps_mono {w : World} {cold cold' : Nat → Prop} (hc : ∀ b, cold b → cold' b) {rs : List RV} {vs : List Value} {bs : List Nat} (h : rvReps w cold rs vs bs) : rvReps w cold' rs vs bs :=
  let ⟨us, h1, h2⟩ := h
  ⟨us, rlReps_mono hc h1, h2⟩
theorem asm_rep {c : Cx} : ∀ {rs : List RV} {ws : List V} {us : List Value}, ws.length = us.length → us.length = (flatRV rs).length → (∀ (j : Nat) (u : V) (v : Value), ws[j]? = some u → us[j]? = some v → c.v1 u v) → aggsOk rs us →
    (asm rs ws).length = (asmV rs us).length ∧ ∀ (j : Nat) (u : V) (v : Value), (asm rs ws)[j]? = some u → (asmV rs us)[j]? = some v → c.v2 u v
  | [], ws, us, _, _, _, _ => ⟨rfl, fun j u v h => by simp [asm] at h⟩
  | .l r :: rs, ws, us, hl, hf, hv, ho => by
    simp only [flatRV, RV.leaves, List.length_append, List.length_cons, List.length_nil] at hf
    match ws, us, hl, hf, hv, ho with
    | [], [], _, hf, _, _ => simp at hf; omega
    | w :: ws, u :: us, hl, hf, hv, ho =>
      obtain ⟨h1, h2⟩ := asm_rep (rs := rs) (ws := ws) (us := us) (by simpa using hl) (by simp at hf; omega) (fun j x y hx hy => hv (j + 1) x y (by simpa using hx) (by simpa using hy)) ho
      refine ⟨by simp [asm, asmV, h1], fun j x y hx hy => ?_⟩
      cases j with
      | zero =>
        simp [asm, asmV] at hx hy
        subst hx; subst hy
        exact Cx.v2_of_v1 (hv 0 w u rfl rfl)
      | succ j => exact h2 j x y (by simpa [asm] using hx) (by simpa [asmV] using hy)
  | .agg ls :: rs, ws, us, hl, hf, hv, ho => by
    simp only [flatRV, RV.leaves, List.length_append] at hf
    obtain ⟨h1, h2⟩ := asm_rep (rs := rs) (ws := ws.drop ls.length) (us := us.drop ls.length) (by simp [hl]) (by simp; omega)
      (fun j x y hx hy => hv (ls.length + j) x y (by simpa using hx) (by simpa using hy)) ho.2
    refine ⟨by simp [asm, asmV, h1], fun j x y hx hy => ?_⟩
    cases j with
    | zero =>
      simp [asm, asmV] at hx hy
      subst hx; subst hy
      refine ⟨_, rfl, by simp [hl], fun j x hx => ho.1 x ?_, fun j l x hl' hx => ?_⟩
      · have : (us.take ls.length)[j]? = some x := by simpa using hx
        exact List.mem_of_getElem? this
      · have hj : j < ls.length := by have := (List.getElem?_eq_some_iff.1 hl').1; simp at this; omega
        exact hv j l x (by rw [List.getElem?_take_of_lt hj] at hl'; exact hl') (by
          have : (us.take ls.length)[j]? = some x := by simpa using hx
          rw [List.getElem?_take_of_lt hj] at this; exact this)
    | succ j => exact h2 j x y (by simpa [asm] using hx) (by simpa [asmV] using hy)
theorem rlReps_len {w : World} {cold : Nat → Prop} : ∀ {rs : List RL} {vs : List Value} {bs : List Nat}, rlReps w cold rs vs bs → vs.length = rs.length
  | [], [], _, _ => rfl
  | _ :: _, _ :: _, _, ⟨_, _, _, _, h⟩ => by simp [rlReps_len h]
  | [], _ :: _, _, h => h.elim
  | _ :: _, [], _, h => h.elim

section
variable {P : Program} {w0 : Base} {cold0 : Nat → Prop} {N : Nat} {s : St} {a : Act} {c : Cx} {R : Type} {r : R} {o : Oper} {Q : Exit → Act → World → Prop}

theorem roomRo_some {ro : Bool} {d : Nat} {k : St → Option R} (h : roomRo ro s d k = some r) (hR : Rel w0 cold0 N s a c) :
    ∃ s' c', k s' = some r ∧ Rel w0 cold0 N s' a c' ∧ s'.objs d = .none ∧ c'.w = c.w ∧ c'.cold = c.cold ∧ c'.eta = c.eta ∧
      (∀ e, s.objs e = .none → s'.objs e = .none) ∧ (∀ u y, c.v3 u y → u.hot = false → c'.v3 u y) := by
  unfold roomRo at h
  split at h
  · rename_i ho
    exact ⟨s, c, h, hR, ho, rfl, rfl, rfl, fun _ h => h, fun _ _ h _ => h⟩
  · split at h
    · cases h
    · refine ⟨s.kill d, c.killed d, h, hR.kill d, ?_, rfl, rfl, rfl, fun e he => ?_, fun u y hu hh => ?_⟩
      · show (bif Nat.beq d d then Ob.none else _) = .none
        simp
      · show (bif Nat.beq e d then Ob.none else (s.objs e).kill d) = .none
        cases Nat.beq e d
        · simp [he, Ob.kill]
        · rfl
      · cases u with
        | t x => exact hu
        | nilv => exact hu
        | junk => trivial
        | tup _ => simp [V.hot, V.hot1] at hh
        | agg ls =>
          obtain ⟨cs, h0, h1, h2, h3⟩ := hu
          refine ⟨cs, h0, h1, h2, fun j l x hl hx => ?_⟩
          have hlh : l.hot1 = false := by simpa using List.any_eq_false.1 hh l (List.mem_of_getElem? hl)
          have := h3 j l x hl hx
          cases l <;> first | exact this | simp [V.hot1] at hlh
        | fn g ls =>
          obtain ⟨cs, h0, h1, h3⟩ := hu
          refine ⟨cs, h0, h1, fun j l x hl hx => ?_⟩
          have hlh : l.hot1 = false := by simpa using List.any_eq_false.1 hh l (List.mem_of_getElem? hl)
          have := h3 j l x hl hx
          cases l <;> first | exact this | simp [V.hot1] at hlh
        | _ => simp [V.hot, V.hot1] at hh
theorem rooms_some {ro : Bool} : ∀ {ds : List Nat} {s : St} {c : Cx} {k : St → Option R}, rooms ro ds s k = some r → Rel w0 cold0 N s a c →
    ∃ s' c', k s' = some r ∧ Rel w0 cold0 N s' a c' ∧ (∀ d, d ∈ ds → s'.objs d = .none) ∧ c'.w = c.w ∧ c'.cold = c.cold ∧ c'.eta = c.eta ∧ (∀ e, s.objs e = .none → s'.objs e = .none)
  | [], s, c, k, h, hR => ⟨s, c, h, hR, fun d hd => (by cases hd), rfl, rfl, rfl, fun _ h => h⟩
  | d :: ds, s, c, k, h, hR => by
    simp only [rooms] at h
    obtain ⟨s1, c1, h1, hR1, hd1, hw1, hc1, he1, hn1, _⟩ := roomRo_some h hR
    obtain ⟨s2, c2, h2, hR2, hd2, hw2, hc2, he2, hn2⟩ := rooms_some h1 hR1
    refine ⟨s2, c2, h2, hR2, fun e he => ?_, by rw [hw2, hw1], by rw [hc2, hc1], by rw [he2, he1], fun e he => hn2 e (hn1 e he)⟩
    rcases List.mem_cons.1 he with rfl | he
    · exact hn2 _ hd1
    · exact hd2 e he

theorem inAll_sound (d : Nat) : ∀ (rs : List RL) (i : Nat) (vs : List Value) (bs : List Nat) (s : St) (c : Cx), Rel w0 cold0 N s a c → rlReps c.w c.cold rs vs bs → bs.Nodup →
    (∀ b, b ∈ bs → ¬ c.cold b ∧ ¬ w0.F b ∧ b < c.w.heap.size ∧ ∀ e, s.objs e ≠ .none → c.eta e ≠ some b) →
    (∀ e, e ∈ ownSites N d i rs → s.objs e = .none) → nodupB (ownSites N d i rs) = true →
    ∃ c', Rel w0 cold0 N (inObs N d i rs s) a c' ∧ c'.w = c.w ∧ c'.cold = c.cold ∧ c.Sim c' ∧ (inVals N d i rs).length = vs.length ∧
      ∀ (j : Nat) (u : V) (v : Value), (inVals N d i rs)[j]? = some u → vs[j]? = some v → c'.v1 u v
  | [], i, [], bs, s, c, hR, h, _, _, _, _ => ⟨c, hR, rfl, rfl, ⟨fun _ _ => rfl, fun _ h => h, fun _ _ => rfl, fun _ _ xs h => ⟨xs, h, rfl⟩, fun _ _ u h => ⟨u, h⟩, fun _ _ cs E _ _ h => ⟨cs, h, rfl⟩⟩, rfl, fun j u v hu => by simp [inVals] at hu⟩
  | [], _, _ :: _, _, _, _, _, h, _, _, _, _ => h.elim
  | _ :: _, _, [], _, _, _, _, h, _, _, _, _ => h.elim
  | .t x :: rs, i, v :: vs, bs, s, c, hR, ⟨b1, b2, hbs, h1, h2⟩, hn, hb, hs, hsn => by
    obtain ⟨hx, hb1⟩ := h1
    subst hb1
    rw [List.nil_append] at hbs
    subst hbs
    obtain ⟨c', hR', hw, hc, sim, hl, hv⟩ := inAll_sound d rs (i + 1) vs bs s c hR h2 hn hb hs hsn
    refine ⟨c', hR', hw, hc, sim, by simp [inVals, hl], fun j u y hu hy => ?_⟩
    cases j with
    | zero =>
      simp only [inVals, inOne, List.getElem?_cons_zero, Option.some.injEq] at hu hy
      subst hu; subst hy
      exact sim.v1 (u := .t x) hx
    | succ j => simp only [inVals, List.getElem?_cons_succ] at hu hy; exact hv j u y hu hy
  | .own sz xs :: rs, i, v :: vs, bs, s, c, hR, ⟨b1, b2, hbs, h1, h2⟩, hn, hb, hs, hsn => by
    subst hbs
    have hfree : s.objs (site N d i) = .none := hs _ (by simp [ownSites])
    obtain ⟨hni, hsn'⟩ := nodupB_cons (by simpa [ownSites] using hsn)
    -- the new object's block, if it has one
    obtain ⟨m, hm, ho, hval⟩ : ∃ m : Option Nat, (∀ b, m = some b → b ∈ b1) ∧ (c.add (site N d i) m (.row sz xs)).ob (site N d i) (.row sz xs) ∧ (c.add (site N d i) m (.row sz xs)).v1 (.full (site N d i)) v := by
      rcases h1 with ⟨rfl, rfl, rfl⟩ | ⟨b, cap, cs, E, rfl, rfl, hcap, hh, hsz, hrow⟩
      · exact ⟨none, fun b h => (by cases h), .inl ⟨Cx.add_eta .., rfl⟩, sz, [], Cx.add_objs .., .inl ⟨Cx.add_eta .., rfl, rfl⟩⟩
      · exact ⟨some b, fun b' h => by simp only [Option.some.injEq] at h; subst h; exact List.mem_singleton.2 rfl,
          .inr ⟨b, cs, E, Cx.add_eta .., hh, hrow⟩, sz, xs, Cx.add_objs .., .inr ⟨b, cap, cs, E, Cx.add_eta .., rfl, hcap, hh, hsz⟩⟩
    have hR1 := hR.addOb (site N d i) hfree m (.row sz xs) (fun b hmb => hb b (List.mem_append_left _ (hm b hmb))) ho (fun n u h => by cases h)
    have sim1 := Cx.Sim.add c (site N d i) (by rw [hR.objs]; exact hfree) m (.row sz xs)
    obtain ⟨hn1, hn2, hn12⟩ := List.nodup_append.1 hn
    obtain ⟨c', hR', hw, hc, sim, hl, hv⟩ := inAll_sound d rs (i + 1) vs b2 _ (c.add (site N d i) m (.row sz xs)) hR1
      h2 hn2
      (fun b hb2 => by
        obtain ⟨q1, q2, q3, q4⟩ := hb b (List.mem_append_right _ hb2)
        refine ⟨q1, q2, q3, fun e he hee => ?_⟩
        have he : (bif Nat.beq e (site N d i) then Ob.row sz xs else s.objs e) ≠ .none := he
        have hee : (bif Nat.beq e (site N d i) then m else c.eta e) = some b := hee
        cases hed : Nat.beq e (site N d i) <;> rw [hed] at he hee
        · exact q4 e he hee
        · exact hn12 b (hm b hee) b hb2 rfl)
      (fun e he => by
        show (bif Nat.beq e (site N d i) then Ob.row sz xs else s.objs e) = .none
        have hne : e ≠ site N d i := fun h => hni (by rw [← h]; exact he)
        rw [beq_ne hne]
        exact hs e (by simp only [ownSites]; exact List.mem_cons_of_mem _ he))
      hsn'
    refine ⟨c', hR', hw, hc, ⟨fun b hb' => by rw [sim.blk b hb']; rfl, fun b hb' => sim.cold b hb', fun e he => ?_, fun e t ys he => ?_, fun e n u he => ?_, fun e b cs E he hee hh => ?_⟩, by simp [inVals, hl], fun j u y hu hy => ?_⟩
    · have h1 : (c.add (site N d i) m (.row sz xs)).objs e ≠ .none := by
        obtain hq | hq : Nat.beq e (site N d i) = false ∨ Nat.beq e (site N d i) = true := by cases Nat.beq e (site N d i) <;> simp
        · simp [Cx.add, hq, he]
        · simp [Cx.add, hq]
      rw [sim.eta e h1, sim1.eta e he]
    · obtain ⟨zs, hz, hzl⟩ := sim1.row e t ys he
      obtain ⟨us, hu, hul⟩ := sim.row e t zs hz
      exact ⟨us, hu, by omega⟩
    · obtain ⟨u1, hz⟩ := sim1.box e n u he
      exact sim.box e n u1 hz
    · obtain ⟨cs1, hh1, hs1⟩ := sim1.cells e b cs E he hee hh
      have h1 : (c.add (site N d i) m (.row sz xs)).objs e ≠ .none := by
        obtain hq | hq : Nat.beq e (site N d i) = false ∨ Nat.beq e (site N d i) = true := by cases Nat.beq e (site N d i) <;> simp
        · simp [Cx.add, hq, he]
        · simp [Cx.add, hq]
      obtain ⟨cs2, hh2, hs2⟩ := sim.cells e b cs1 E h1 (by rw [sim1.eta e he]; exact hee) hh1
      exact ⟨cs2, hh2, by omega⟩
    · cases j with
      | zero =>
        simp only [inVals, inOne, List.getElem?_cons_zero, Option.some.injEq] at hu hy
        subst hu; subst hy
        exact sim.v1 hval
      | succ j => simp only [inVals, List.getElem?_cons_succ] at hu hy; exact hv j u y hu hy

theorem outs_get {objs : Nat → Ob} : ∀ {vs : List V} {xs : List T}, outs objs vs = some xs → xs.length = vs.length ∧ ∀ (j : Nat) (v : V) (x : T), vs[j]? = some v → xs[j]? = some x → v.out objs = some x
  | [], xs, h => by simp only [outs, Option.some.injEq] at h; subst h; exact ⟨rfl, fun j v x hv => by simp at hv⟩
  | v :: vs, xs, h => by
    simp only [outs] at h
    obtain ⟨x, hx, h⟩ := Option.bind_eq_some_iff.1 h
    obtain ⟨ys, hys, h⟩ := Option.bind_eq_some_iff.1 h
    simp only [Option.some.injEq] at h
    subst h
    obtain ⟨hl, ih⟩ := outs_get hys
    refine ⟨by simp [hl], fun j u y hu hy => ?_⟩
    cases j with
    | zero => simp at hu hy; subst hu; subst hy; exact hx
    | succ j => simp at hu hy; exact ih j u y hu hy

/-- A call, by its summary. -/
theorem evCall_sound {C : Nat → Option Summary} (hC : OrcSound P w0.g C) {dst : Option Nat} {g : Nat} {us : List V} {k : St → Option R} {ro : Bool}
    (h : evCall ro N C dst s g us k = some r) (hR : Rel w0 cold0 N s a c) (hd : ∀ e, dst = some e → e < N) {ys : Array Value} (hsz : ys.size = us.length)
    (hv : ∀ (j : Nat) (u : V) (y : Value), us[j]? = some u → ys[j]? = some y → c.v3 u y) :
    Entered P g ∧ Calls P g ys c.w fun e w' => ∃ v, e = .returned v ∧ Post w0 cold0 N k r c.w ro (a.put dst v) w' := by
  unfold evCall at h
  split at h
  · cases h
  rename_i S hS
  split at h
  · rename_i M hM
    obtain ⟨hent, _, hmut⟩ := hC g S hS
    refine ⟨hent, (evCallM_sound (hmut M hM) h hR hd hsz hv).mono fun e w' ⟨v, he, s', c', h1, h2, h3, h4⟩ => ⟨v, he, s', c', h1, h2, h3, fun hr => by rw [h4] at hr; cases hr⟩⟩
  obtain ⟨ts, hts, h⟩ := Option.bind_eq_some_iff.1 h
  obtain ⟨A, hA, h⟩ := Option.bind_eq_some_iff.1 h
  split at h
  · cases h
  rename_i hhot
  obtain ⟨B, hB, h⟩ := Option.bind_eq_some_iff.1 h
  obtain ⟨hent, hsum, _⟩ := hC g S hS
  refine ⟨hent, ?_⟩
  cases hno : nodupB (ownSites N (dst.getD 0) 0 (flatRV (S.res B))) with
  | false => simp [hno] at h
  | true =>
  simp only [hno, cond_true] at h
  obtain ⟨hl, hg⟩ := outs_get hts
  -- the memory that the callee may lean on
  obtain ⟨cold, hclt, hcr, hca⟩ : ∃ cold : Nat → Prop, (∀ b, cold b → b < c.w.heap.size) ∧ (∀ (j : Nat) (t : T) (v : Value), ts[j]? = some t → ys[j]? = some v → TRep c.w cold t v) ∧
      (∀ b, cold b ∧ S.apart = false → c.cold b) := by
    have get : ∀ (j : Nat) (t : T) (v : Value), ts[j]? = some t → ys[j]? = some v → ∃ u, us[j]? = some u ∧ u.out s.objs = some t ∧ c.v3 u v := fun j t v ht hy => by
      have hj : j < us.length := by have := (List.getElem?_eq_some_iff.1 ht).1; omega
      have hu : us[j]? = some us[j] := by simp [hj]
      exact ⟨_, hu, hg j _ t hu ht, hv j _ v hu hy⟩
    cases ha : S.apart with
    | true =>
      refine ⟨c.all, fun b hb => hb, fun j t v ht hy => ?_, fun b hb => by cases hb.2⟩
      obtain ⟨u, hu, ho, hv⟩ := get j t v ht hy
      exact out_rep hR (.all hR) hv ho
    | false =>
      refine ⟨c.cold, hR.clt, fun j t v ht hy => ?_, fun b hb => hb.1⟩
      obtain ⟨u, hu, ho, hv⟩ := get j t v ht hy
      have : u.hot = false := by
        have h0 : us.any V.hot = false := by simpa [ha] using hhot
        simpa using List.any_eq_false.1 h0 u (List.mem_of_getElem? hu)
      exact out_cold hv this ho
  refine (hsum ts A B hA hB c.w cold ys hR.below.gbelow hclt (by omega) hcr).mono fun e w' ⟨vs, bs, he, hbel, hnd, hbs, us', hrep, hvs, hao⟩ => ⟨valOf vs, he, ?_⟩
  -- the world behind the call
  obtain ⟨hR1, sim1⟩ := hR.grow w' hbel (fun b => c.w.heap.size ≤ b ∧ b < w'.heap.size ∧ b ∉ bs) (fun b hb => ⟨hb.1, hb.2.1⟩)
  obtain ⟨s2, c2, h2, hR2, hfree, hw2, hc2, he2, hn2⟩ := rooms_some h hR1
  have hrep2 : rlReps c2.w c2.cold (flatRV (S.res B)) us' bs := by
    rw [hw2, hc2]
    refine rlReps_mono (fun b hb => ?_) hrep
    rcases hb with hb | hb
    · exact .inl (hca b hb)
    · exact .inr hb
  have hlive : ∀ e, s2.objs e ≠ .none → s.objs e ≠ .none := fun e he hs => he (hn2 e hs)
  obtain ⟨c3, hR3, hw3, hc3, sim3, hl3, hv3⟩ := inAll_sound (dst.getD 0) (flatRV (S.res B)) 0 us' bs s2 c2 hR2 hrep2 hnd (fun b hb => by
    have hb' := hbs b hb
    refine ⟨?_, hR.below.new hb'.1, by rw [hw2]; exact hb'.2, fun e he hee => ?_⟩
    · rw [hc2]
      rintro (hq | hq)
      · have := hR.clt b hq; omega
      · exact hq.2.2 hb
    · rw [he2] at hee
      have := (hR.hot e b (hlive e he) hee).2.2
      omega) hfree hno
  refine ⟨_, c3, by rw [hw3, hw2], hR3.put dst hd ?_, h2, fun _ => hbel⟩
  obtain ⟨hl4, hv4⟩ := asm_rep (c := c3) (rs := S.res B) hl3 (rlReps_len hrep2) hv3 hao
  rw [← hvs] at hl4 hv4
  revert hl4 hv4
  generalize asm (S.res B) (inVals N (dst.getD 0) 0 (flatRV (S.res B))) = ws
  intro hl3 hv3
  match ws, vs, hl3, hv3 with
  | [], [], _, _ => exact ⟨#[], rfl, rfl, fun j l x hl => by simp at hl⟩
  | [u], [v], _, hv3 => exact Cx.v3_of_v2 (hv3 0 u v rfl rfl)
  | u1 :: u2 :: us, v1 :: v2 :: vs, hl3, hv3 =>
    exact ⟨(v1 :: v2 :: vs).toArray, rfl, by simpa using hl3.symm, fun j l x hl hx => hv3 j l x hl (by simpa using hx)⟩
end
end Go.Ax
