/- Ax, part Ua: functions that write what they are handed. -/
import Derived.Test.YtcpcbmebpmokbaaDoorAxU
set_option linter.unusedVariables false
set_option linter.unusedSimpArgs false
namespace Go.Ax
open Go Go.RowKit

def Tm.flat : Tm → Bool
  | .int _ | .bool | .str => true
  | .full _ | .bp _ _ | .nilv | .junk | .fn _ _ | .sp _ _ | .fb _ _ => true
  | .arg (.cell (.int _)) | .arg (.cell .bool) | .arg (.cell .str) | .arg (.cell .err) => true
  | _ => false
def It.flat : It → Bool
  | .tmp _ m => m.flat
  | .box _ ms => ms.all Tm.flat
  | _ => false
def It.isRow : It → Bool
  | .row _ _ _ => true
  | _ => false
def outsOf (sh : List It) : List Nat := sh.filterMap It.name
/-- what such a function says: the shapes at its beginning and at its end -/
@[reducible] def mutK (nargs : Nat) (sub : List V → (Nat → Ob) → List (Nat × Nat)) (shIn shOut : List It) (nres : Nat) (F : Pay shIn → Option (Pay shOut)) : Mut :=
  { nargs := nargs, sub := sub, run := fun R se k => prS shIn se fun p => (F p).bind fun q => k (inSh shOut q), nres := nres, outs := outsOf shOut, flat := shOut.all It.flat }
@[reducible] def sumM (M : Mut) : Summary := { A := Empty, B := Empty, args := fun _ => none, fn := fun _ => none, apart := false, res := fun _ => [], m := some M }

theorem inTm_flat {m : Tm} (h : m.flat = true) (p : m.Pay) : (inTm m p).flatV1 = true := by
  cases m with
  | arg a =>
    cases a with
    | cell c => cases c <;> first | rfl | (simp [Tm.flat] at h; done)
    | fn g cs => simp [Tm.flat] at h
  | lst => simp [Tm.flat] at h
  | raw => simp [Tm.flat] at h
  | _ => rfl
theorem inTm_flat2 {m : Tm} (h : m.flat = true) (p : m.Pay) : (inTm m p).flatV = true := by
  cases m with
  | arg a => exact inTm_flat (m := .arg a) h p
  | lst => simp [Tm.flat] at h
  | raw => simp [Tm.flat] at h
  | fn g caps =>
    show (caps.map fun p => V.bp p.1 p.2).all V.flatV1 = true
    rw [List.all_eq_true]
    intro v hv
    obtain ⟨q, _, rfl⟩ := List.mem_map.1 hv
    rfl
  | _ => rfl
theorem inTms_flat : ∀ {ms : List Tm} (h : ms.all Tm.flat = true) (p : Tms.Pay ms), (inTms ms p).all V.flatV1 = true
  | [], _, _ => rfl
  | m :: ms, h, p => by
    simp only [List.all_cons, Bool.and_eq_true] at h
    show ((inTm m p.1).flatV1 && (inTms ms p.2).all V.flatV1) = true
    rw [inTm_flat h.1, inTms_flat h.2]; rfl
theorem inSh_flat : ∀ {sh : List It} (h : sh.all It.flat = true) (p : Pay sh), (∀ t, ((inSh sh p).env t).flatV = true) ∧ ∀ d, ((inSh sh p).objs d).flat = true
  | [], _, _ => ⟨fun _ => rfl, fun _ => rfl⟩
  | i :: is, h, p => by
    simp only [List.all_cons, Bool.and_eq_true] at h
    obtain ⟨h1, h2⟩ := inSh_flat h.2 p.2
    cases i with
    | tmp t m =>
      refine ⟨fun u => ?_, h2⟩
      show (bif Nat.beq u t then inTm m p.1 else (inSh is p.2).env u).flatV = true
      cases Nat.beq u t
      · exact h1 u
      · exact inTm_flat2 h.1 p.1
    | box d ms =>
      refine ⟨h1, fun e => ?_⟩
      show (bif Nat.beq e d then Ob.box ms.length (match inTms ms p.1 with | [v] => v | vs => .agg vs) else (inSh is p.2).objs e).flat = true
      cases Nat.beq e d
      · exact h2 e
      · have hms : ms.all Tm.flat = true := h.1
        show (match inTms ms p.1 with | [v] => v | vs => V.agg vs).flatV = true
        match ms, hms, p.1 with
        | [], _, _ => rfl
        | [m], hms, q => exact inTm_flat2 (by simpa using hms) q.1
        | m1 :: m2 :: ms, hms, q => exact inTms_flat (ms := m1 :: m2 :: ms) hms q
    | row _ _ _ => exact absurd h.1 (by simp [It.flat])
    | boxT _ _ => exact absurd h.1 (by simp [It.flat])
theorem inSh_v2 {c : Cx} : ∀ {sh : List It} {p : Pay sh} {t : Nat} {v : Value}, c.v3 ((inSh sh p).env t) v → c.v2 ((inSh sh p).env t) v
  | [], _, _, _, _ => trivial
  | i :: is, p, t, v, h => by
    cases i with
    | tmp e m =>
      have h' : c.v3 (bif Nat.beq t e then inTm m p.1 else (inSh is p.2).env t) v := h
      show c.v2 (bif Nat.beq t e then inTm m p.1 else (inSh is p.2).env t) v
      cases hb : Nat.beq t e with
      | false => rw [hb] at h'; exact inSh_v2 h'
      | true => rw [hb] at h'; revert h'; cases m <;> exact fun h => h
    | row _ _ _ => exact inSh_v2 (sh := is) (p := p.2) h
    | box _ _ => exact inSh_v2 (sh := is) (p := p.2) h
    | boxT _ _ => exact inSh_v2 (sh := is) (p := p.2) h
theorem prS_nat {sh : List It} {R : Type} {s : St} {k : Pay sh → Option R} : prS sh s k = (prS sh s some).bind k := by
  unfold prS
  cases shOk sh s with
  | false => rfl
  | true => exact prSh_nat
section
variable {P : Program} {w0 : Base} {cold0 : Nat → Prop} {N : Nat}
theorem frzM_some {R : Type} {r : R} : ∀ {bs : List Bool} {i : Nat} {s : St} {a : Act} {w : World} {k : St → Option R}, frzM i bs s k = some r → i + bs.length ≤ N → Is w0 cold0 N s a w → ∃ s', k s' = some r ∧ Is w0 cold0 N s' a w
  | [], i, s, a, w, k, h, _, hs => ⟨s, h, hs⟩
  | b :: bs, i, s, a, w, k, h, hN, hs => by
    simp only [frzM] at h
    simp only [List.length_cons] at hN
    cases b with
    | false => exact frzM_some h (by omega) hs
    | true =>
      simp only [cond_true] at h
      obtain ⟨p, hp, h⟩ := Option.bind_eq_some_iff.1 h
      obtain ⟨c, rfl, hR⟩ := hs
      obtain ⟨c', hw, hR', ht, _, _⟩ := frz_some hp hR (hR.tmp i)
      rw [← hw]
      refine frzM_some h (by omega) ⟨c', rfl, ?_⟩
      refine { hR' with tmp := fun t => ?_ }
      show c'.v3 (bif Nat.beq t i then .t p.1 else p.2.env t) _
      cases hb : Nat.beq t i with
      | false => exact hR'.tmp t
      | true => have := Nat.eq_of_beq_eq_true hb; subst this; exact ht
open Classical in
/-- A FUNCTION THAT WRITES WHAT IT IS HANDED: what the executor says of it is so. -/
theorem mut_sound {G : World} {C : Nat → Option Summary} (hC : OrcSound P G C) (hm : P.follows .mixedOrders = true) {f : FuncId} {fn : Func} {code : Code} {fuel : Nat} {nargs nres : Nat} {sub : List V → (Nat → Ob) → List (Nat × Nat)}
    {shIn shOut : List It} {fz : List Bool} {F : Pay shIn → Option (Pay shOut)} {an : Ann (Pay shOut)}
    (hf : P.funcs[f]? = some fn) (hb : fn.body = some code) (hl : lexOk code = true) (hlen : Nat.ble nargs fn.ntmps = true) (hres : Nat.beq fn.results.size nres = true)
    (hok : Ok P fn.ntmps C fuel an code (fun _ => fnKM P fn fz shOut some))
    (h : ∀ p, evFnM P C fuel fn fz shOut (Pay shOut) an (inSh shIn p) some = F p) : MutSound P G f (mutK nargs sub shIn shOut nres F) := by
  refine ⟨fun R se k => ?_, fun se x ce args hx hsz hen => ?_⟩
  · show prS shIn se _ = (prS shIn se _).bind k
    rw [prS_nat, prS_nat (k := fun p => (F p).bind fun q => some (inSh shOut q)), Option.bind_assoc]
    congr 1; funext p
    rw [Option.bind_assoc]; rfl
  · have hx : (prS shIn se fun p => (F p).bind fun q => some (inSh shOut q)) = some x := hx
    rw [prS_nat] at hx
    obtain ⟨p, hp, hx⟩ := Option.bind_eq_some_iff.1 hx
    obtain ⟨q, hq, hx⟩ := Option.bind_eq_some_iff.1 hx
    simp only [Option.some.injEq] at hx
    subst hx
    refine ⟨fun hfl => ⟨fun i _ => (inSh_flat hfl q).1 i, (inSh_flat hfl q).2⟩, ?_⟩
    have hev := (h p).trans hq
    unfold evFnM at hev
    rw [hb] at hev
    simp only at hev
    cases hN2 : Nat.ble fn.ntmps 2000000 with
    | false => rw [hN2] at hev; cases hev
    | true =>
    rw [hN2] at hev
    simp only [cond_true] at hev
    have hN2 := Nat.le_of_ble_eq_true hN2
    have hargs : args.size ≤ fn.ntmps := by rw [hsz]; exact Nat.le_of_ble_eq_true hlen
    obtain ⟨B, hB⟩ : ∃ B : Base, B = ⟨G, ce.w, fun b => b < ce.w.heap.size ∧ ∀ d, se.objs d ≠ .none → ce.eta d ≠ some b, hen.below, fun b hb => ⟨Nat.lt_of_lt_of_le hb hen.below.size, fun d hd he => by have := (hen.hot d b hd he).2.1; omega⟩, fun b hb => hb.1,
      fun d => if 2000000 ≤ d ∧ (∃ n u, se.objs d = .box n u) then ce.eta d else none, fun d b hd => by
        by_cases hc : 2000000 ≤ d ∧ (∃ n u, se.objs d = .box n u)
        · exact hc.1
        · simp only [hc, if_false] at hd; cases hd⟩ := ⟨_, rfl⟩
    have hBF : ∀ b, B.F b ↔ (b < ce.w.heap.size ∧ ∀ d, se.objs d ≠ .none → ce.eta d ≠ some b) := fun b => by subst hB; exact Iff.rfl
    have hBw : B.w = ce.w := by subst hB; rfl
    have hBp : ∀ d n u, 2000000 ≤ d → se.objs d = .box n u → B.pin d = ce.eta d := fun d n u h1 h2 => by subst hB; exact if_pos ⟨h1, n, u, h2⟩
    have start : Is B ce.cold fn.ntmps se { tmps := args ++ Array.replicate (fn.ntmps - args.size) undef, defers := [] } ce.w := by
      refine ⟨ce, rfl, ?_⟩
      exact { objs := hen.objs, below := by rw [← hBw]; exact Kept.refl, size := by simp; omega, defers := rfl, c0 := fun _ h => h, c1 := fun _ h => .inl h, clt := hen.clt
              hot := fun d b hd he => by
                obtain ⟨h1, h2, h3⟩ := hen.hot d b hd he
                exact ⟨h1, fun hF => ((hBF b).1 hF).2 d hd he, h3⟩
              inj := hen.inj
              ob := hen.ob
              tmp := fun t => by
                rcases Nat.lt_or_ge t args.size with ht | ht
                · have hv : args[t]? = some args[t] := by simp [ht]
                  have : (args ++ Array.replicate (fn.ntmps - args.size) undef).getD t undef = args[t] := by
                    rw [Array.getD_eq_getD_getElem?, Array.getElem?_append_left ht, hv]; rfl
                  rw [this]
                  exact hen.env t _ (by simp)
                · rw [hen.env0 t (by simpa using ht)]; trivial
              nle := hN2
              pin := fun d b n u hd _ => by
                subst hB
                have hd : (if 2000000 ≤ d ∧ (∃ n u, se.objs d = .box n u) then ce.eta d else none) = some b := hd
                by_cases hc : 2000000 ≤ d ∧ (∃ n u, se.objs d = .box n u)
                · rw [if_pos hc] at hd; exact hd
                · rw [if_neg hc] at hd; cases hd }
    obtain ⟨p', hp', hs⟩ := prSh_sound start hp
    simp only [Option.some.injEq] at hp'
    subst hp'
    refine calls_of_wp hf hb ?_
    refine Code.wp_mono ?_ (ev_sound (w0 := B) (fuel := fuel) (by subst hB; exact hC) hm (csz code) code (Nat.le_refl _) (Pay shOut) an (fun _ => fnKM P fn fz shOut some) _ _ _ q hl hok hev hs)
    have fin : ∀ (a : Act) (w' : World), (∃ s, retM P fn fz shOut some s = some q ∧ Is B ce.cold fn.ntmps s a w') → a.defers = [] ∧ ∃ v, (results fn a.tmps).run P w' = .ok v w' ∧ ∃ (vs : List Value) (cx : Cx), Ending.returned v = .returned (valOf vs) ∧ cx.w = w' ∧ Leave se (inSh shOut q) ce cx nres vs := by
      rintro a0 w' ⟨s0, hk, hIs0⟩
      have hdef : a0.defers = [] := by obtain ⟨c, _, hR⟩ := hIs0; exact hR.defers
      unfold retM at hk
      cases hnd : (nodupB (fn.results.toList.map resTmp) && Nat.ble fz.length fn.results.size && Nat.ble fn.results.size 2000000) with
      | false => rw [hnd] at hk; cases hk
      | true =>
      rw [hnd] at hk
      simp only [cond_true] at hk
      simp only [Bool.and_eq_true] at hnd
      obtain ⟨⟨hnd, hfz⟩, hr2⟩ := hnd
      obtain ⟨s, a, hk, ⟨c, rfl, hR⟩, _, hcells⟩ := pre_sound hk hnd hIs0
      -- the results, one by one
      obtain ⟨vs, hvs⟩ : ∃ vs : List Value, vs = (fn.results.toList.map asTmp).map (rvVal a) := ⟨_, rfl⟩
      have hvl : vs.length = fn.results.size := by rw [hvs]; simp
      have hR1 : Rel B ce.cold fn.results.size (resSt (fn.results.toList.map asTmp) s) { tmps := vs.toArray, defers := [] } c := by
        refine { objs := hR.objs, below := hR.below, size := by simp [hvl], defers := rfl, c0 := hR.c0, c1 := hR.c1, clt := hR.clt, hot := hR.hot, inj := hR.inj, ob := hR.ob, tmp := fun t => ?_, nle := Nat.le_of_ble_eq_true hr2, pin := hR.pin }
        show c.v3 (match (fn.results.toList.map asTmp)[t]? with | some v => s.env (resTmp v) | none => .junk) (vs.toArray.getD t undef)
        cases hv : (fn.results.toList.map asTmp)[t]? with
        | none => trivial
        | some v =>
          have : vs.toArray.getD t undef = rvVal a v := by
            rw [Array.getD_eq_getD_getElem?, List.getElem?_toArray, hvs, List.getElem?_map, hv]; rfl
          rw [this]
          simp only [List.getElem?_map] at hv
          obtain ⟨v0, _, rfl⟩ := Option.map_eq_some_iff.1 hv
          cases v0 with
          | tmp t => exact hR.tmp t
          | cell b t => exact hR.tmp b
      obtain ⟨s2, hk, hs2⟩ := frzM_some hk (by have := Nat.le_of_ble_eq_true hfz; omega) ⟨c, rfl, hR1⟩
      obtain ⟨q', hq', cx, hcw, hRx⟩ := prSh_sound hs2 hk
      simp only [Option.some.injEq] at hq'
      subst hq'
      refine ⟨hdef, _, results_run _ hcells, vs, cx, by rw [hvs], hcw, ?_⟩
      have hbel := hRx.below
      refine { objs := hRx.objs, os := by rw [← hBw]; exact hbel.os, tape := by rw [← hBw]; exact hbel.tape, output := by rw [← hBw]; exact hbel.output, size := by rw [← hBw]; exact hbel.size, ty := fun k cs E fz hk => hbel.ty k cs E fz (by rw [hBw]; exact hk), kept := fun b h1 h2 => by rw [← hBw]; exact hbel.block b ((hBF b).2 ⟨h1, h2⟩), c0 := hRx.c0, c1 := fun b hb => ?_, clt := hRx.clt, hot := fun d b hd he => ?_, inj := hRx.inj, ob := hRx.ob, pin := fun d n u m u' h1 h2 h3 => ?_, len := by rw [hvl]; exact Nat.eq_of_beq_eq_true hres, res := fun i v hv => ?_ }
      · rcases hRx.c1 b hb with h1 | h1
        · exact .inl h1
        · rcases Nat.lt_or_ge b ce.w.heap.size with h2 | h2
          · refine .inr (.inl ?_)
            by_cases he : ∃ d, se.objs d ≠ .none ∧ ce.eta d = some b
            · exact he
            · exact absurd ((hBF b).2 ⟨h2, fun d h3 h4 => he ⟨d, h3, h4⟩⟩) h1
          · exact .inr (.inr h2)
      · obtain ⟨h1, h2, h3⟩ := hRx.hot d b hd he
        refine ⟨h1, ?_, h3⟩
        rcases Nat.lt_or_ge b ce.w.heap.size with h4 | h4
        · refine .inl ?_
          by_cases he : ∃ d, se.objs d ≠ .none ∧ ce.eta d = some b
          · exact he
          · exact absurd ((hBF b).2 ⟨h4, fun d h5 h6 => he ⟨d, h5, h6⟩⟩) h2
        · exact .inr h4
      · cases hce : ce.eta d with
        | none =>
          obtain ⟨b, _, _, he, _⟩ : ∃ b cs E, ce.eta d = some b ∧ _ := by have := hen.ob d; rw [h2] at this; exact this
          rw [hce] at he; cases he
        | some b => exact hRx.pin d b m u' (by rw [hBp d n u h1 h2, hce]) h3
      · have := hRx.tmp i
        rw [show (Array.getD vs.toArray i undef) = v by rw [Array.getD_eq_getD_getElem?, List.getElem?_toArray, hv]; rfl] at this
        exact inSh_v2 this
    intro e a w' hq'
    cases e with
    | normal => obtain ⟨h1, v, h2, h3⟩ := fin a w' hq'; exact ⟨h1, v, h2, h3⟩
    | ret => obtain ⟨h1, v, h2, h3⟩ := fin a w' hq'; exact ⟨h1, v, h2, h3⟩
    | exit id => obtain ⟨s, h1, _⟩ := hq'; cases h1
    | goto l => obtain ⟨s, h1, _⟩ := hq'; cases h1
    | _ => exact hq'.elim
/-- its summary -/
theorem sumM_sound {G : World} {f : FuncId} {M : Mut} (he : Entered P f) (h : MutSound P G f M) : SumSound P G f (sumM M) :=
  ⟨he, fun ts a b ha => (by cases ha), fun M' hM' => by simp only [Option.some.injEq] at hM'; subst hM'; exact h⟩
end
end Go.Ax
