/- Ax, part U: functions. -/
import Derived.Test.YtcpcbmebpmokbaaDoorAxT
set_option linter.unusedVariables false
set_option linter.unusedSimpArgs false
namespace Go.Ax
open Go Go.RowKit

theorem argEnv_spec : ∀ (ts : List T) (i : Nat), (∃ t, ts[i]? = some t ∧ argEnv ts i = .t t) ∨ (ts.length ≤ i ∧ argEnv ts i = .junk)
  | [], i => .inr ⟨Nat.zero_le _, by simp [argEnv]⟩
  | x :: xs, 0 => .inl ⟨x, rfl, rfl⟩
  | x :: xs, i + 1 => by
    rcases argEnv_spec xs i with ⟨t, h1, h2⟩ | ⟨h1, h2⟩
    · exact .inl ⟨t, by simpa using h1, by simpa [argEnv] using h2⟩
    · exact .inr ⟨by simp; omega, by simpa [argEnv] using h2⟩
/-- the start of a call -/
def Base.call (G w : World) (h : Below G.heap.size G w) : Base := ⟨G, w, fun b => b < w.heap.size, h, fun b hb => Nat.lt_of_lt_of_le hb h.size, fun _ hb => hb, fun _ => none, fun _ _ h => (by cases h)⟩
theorem start_is {G w : World} {hG : Below G.heap.size G w} {cold : Nat → Prop} {N : Nat} {ts : List T} {args : Array Value} (hclt : ∀ b, cold b → b < w.heap.size) (hsz : args.size = ts.length) (hN : ts.length ≤ N) (hN2 : N ≤ 2000000)
    (hr : ∀ (j : Nat) (t : T) (v : Value), ts[j]? = some t → args[j]? = some v → TRep w cold t v) :
    Is (Base.call G w hG) cold N { env := argEnv ts, objs := fun _ => .none } { tmps := args ++ Array.replicate (N - args.size) undef, defers := [] } w := by
  refine ⟨⟨w, cold, fun _ => none, fun _ => .none⟩, rfl, ?_⟩
  exact { objs := rfl, below := Kept.refl, size := by simp; omega, defers := rfl, c0 := fun _ h => h, c1 := fun _ h => .inl h, clt := hclt
          hot := fun d b h => absurd rfl h
          inj := fun d e b h => absurd rfl h
          ob := fun d => trivial
          tmp := fun t => by
            show Cx.v3 _ (argEnv ts t) _
            rcases argEnv_spec ts t with ⟨x, h1, h2⟩ | ⟨h1, h2⟩
            · rw [h2]
              have ht : t < args.size := by rw [hsz]; exact (List.getElem?_eq_some_iff.1 h1).1
              have hv : args[t]? = some args[t] := by simp [ht]
              have : (args ++ Array.replicate (N - args.size) undef).getD t undef = args[t] := by
                rw [Array.getD_eq_getD_getElem?, Array.getElem?_append_left ht, hv]; rfl
              rw [this]
              exact hr t x _ h1 hv
            · rw [h2]; trivial
          nle := hN2
          pin := fun d b n u h => by cases h }

def rvVal (a : Act) : ResultVar → Value
  | .tmp t => a.tmps.getD t undef
  | .cell _ _ => undef
section
variable {P : Program} {w0 : Base} {cold0 : Nat → Prop} {N : Nat} {a : Act}

def srcVal (a : Act) : Src → Value
  | .whole t => a.tmps.getD t undef
  | .leaf t j => match a.tmps.getD t undef with
    | .agg cs => cs.getD j undef
    | _ => undef
theorem src_rep {s : St} {c : Cx} (hR : Rel w0 cold0 N s a c) (x : Src) : c.v3 (srcV s x) (srcVal a x) := by
  cases x with
  | whole t => exact hR.tmp t
  | leaf t j =>
    have ht := hR.tmp t
    show c.v3 (match s.env t with
      | .agg ls => ls.getD j .junk
      | .t (.agg ls) => match ls[j]? with
        | some x => .t x
        | none => .junk
      | _ => .junk) (match a.tmps.getD t undef with | .agg cs => cs.getD j undef | _ => undef)
    split
    · rename_i ls he
      rw [he] at ht
      obtain ⟨cs, hv, hn, h1, hr⟩ : ∃ cs, a.tmps.getD t undef = .agg cs ∧ _ := ht
      rw [hv]
      simp only
      rcases Nat.lt_or_ge j ls.length with hj | hj
      · have hl : ls[j]? = some ls[j] := by simp [hj]
        have hc : cs[j]? = some (cs[j]'(by omega)) := Array.getElem?_eq_getElem _
        rw [List.getD_eq_getElem?_getD, hl, Array.getD_eq_getD_getElem?, hc]
        exact Cx.v3_of_v1 (hr j _ _ hl hc)
      · rw [List.getD_eq_getElem?_getD, List.getElem?_eq_none hj]; trivial
    · rename_i ls he
      rw [he] at ht
      have ht : TRep c.w c.cold (.agg ls) (a.tmps.getD t undef) := ht
      generalize a.tmps.getD t undef = v at ht
      cases ht with
      | agg _ cs hn h1 hr =>
        simp only
        split
        · rename_i x hx
          have hc : cs[j]? = some (cs[j]'(by have := (List.getElem?_eq_some_iff.1 hx).1; omega)) := Array.getElem?_eq_getElem _
          rw [Array.getD_eq_getD_getElem?, hc]
          exact hr j x _ hx hc
        · trivial
    · trivial
def ColdParts (w : World) (cold : Nat → Prop) (a : Act) : List (RSL × Src) → List T → Prop
  | [], [] => True
  | (.t, v) :: fs, x :: xs => TRep w cold x (srcVal a v) ∧ ColdParts w cold a fs xs
  | (.own _, _) :: fs, xs => ColdParts w cold a fs xs
  | _, _ => False
theorem frzRes_some : ∀ {fs : List (RSL × Src)} {s : St} {c : Cx} {p : List T × St}, frzRes fs s = some p → Rel w0 cold0 N s a c →
    ∃ c', c'.w = c.w ∧ Rel w0 cold0 N p.2 a c' ∧ (∀ b, c.cold b → c'.cold b) ∧ ColdParts c'.w c'.cold a fs p.1
  | [], s, c, p, h, hR => by simp only [frzRes, Option.some.injEq] at h; subst h; exact ⟨c, rfl, hR, fun _ h => h, trivial⟩
  | (.t, x) :: fs, s, c, p, h, hR => by
    simp only [frzRes] at h
    obtain ⟨p1, h1, h⟩ := Option.bind_eq_some_iff.1 h
    obtain ⟨q, h2, h⟩ := Option.bind_eq_some_iff.1 h
    simp only [Option.some.injEq] at h
    subst h
    obtain ⟨c1, hw1, hR1, ht1, hc1, _⟩ := frz_some h1 hR (src_rep hR x)
    obtain ⟨c2, hw2, hR2, hc2, hp⟩ := frzRes_some h2 hR1
    exact ⟨c2, by rw [hw2, hw1], hR2, fun b hb => hc2 b (hc1 b hb), ht1.mono (fun b _ => by rw [hw2]) hc2, hp⟩
  | (.own _, x) :: fs, s, c, p, h, hR => by
    simp only [frzRes] at h
    obtain ⟨c2, hw2, hR2, hc2, hp⟩ := frzRes_some h hR
    exact ⟨c2, hw2, hR2, hc2, hp⟩
theorem ownRes_rep : ∀ {fs : List (RSL × Src)} {xs : List T} {s : St} {c : Cx} {q : List RL}, ownRes fs xs s = some q → Rel w0 cold0 N s a c → ColdParts c.w c.cold a fs xs → nodupB (ownIds fs s) = true →
    ∃ bs, bs.Nodup ∧ (∀ b ∈ bs, ∃ d, d ∈ ownIds fs s ∧ c.eta d = some b ∧ s.objs d ≠ .none) ∧ rlReps c.w c.cold q (fs.map fun f => srcVal a f.2) bs
  | [], [], s, c, q, h, hR, hp, hn => by simp only [ownRes, Option.some.injEq] at h; subst h; exact ⟨[], List.nodup_nil, by simp, rfl⟩
  | (.t, v) :: fs, x :: xs, s, c, q, h, hR, hp, hn => by
    simp only [ownRes] at h
    obtain ⟨q1, h1, h⟩ := Option.bind_eq_some_iff.1 h
    simp only [Option.some.injEq] at h
    subst h
    obtain ⟨bs, hb1, hb2, hb3⟩ := ownRes_rep h1 hR hp.2 (by simpa [ownIds] using hn)
    exact ⟨bs, hb1, fun b hb => by simpa [ownIds] using hb2 b hb, [], bs, rfl, ⟨hp.1, rfl⟩, hb3⟩
  | (.own sz, y) :: fs, xs, s, c, q, h, hR, hp, hn => by
    have ht := src_rep hR y
    simp only [ownRes] at h
    split at h
    · rename_i d hd
      have hids : ownIds ((.own sz, y) :: fs) s = d :: ownIds fs s := by simp [ownIds, hd]
      rw [hids] at hn ⊢
      obtain ⟨hdn, hn⟩ := nodupB_cons hn
      split at h
      rotate_left
      · cases h
      rename_i sz' ys ho
      cases hz : Nat.beq sz' sz with
      | false => rw [hz] at h; cases h
      | true =>
      rw [hz] at h
      simp only [cond_true] at h
      have := nbeq hz; subst this
      obtain ⟨q1, h1, h⟩ := Option.bind_eq_some_iff.1 h
      simp only [Option.some.injEq] at h
      subst h
      obtain ⟨bs, hb1, hb2, hb3⟩ := ownRes_rep h1 hR hp hn
      rw [hd] at ht
      obtain ⟨sz2, xs2, ho2, hr⟩ : ∃ sz xs, c.objs d = .row sz xs ∧ _ := ht
      rw [hR.objs, ho] at ho2
      simp only [Ob.row.injEq] at ho2
      obtain ⟨rfl, rfl⟩ := ho2
      have hlive : s.objs d ≠ .none := by rw [ho]; simp
      rcases hr with ⟨_, hx, hv⟩ | ⟨b, cap, cs, E, he, hv, hcap, hh, hsz⟩
      · exact ⟨bs, hb1, fun b hb => by obtain ⟨e, h1, h2⟩ := hb2 b hb; exact ⟨e, List.mem_cons_of_mem _ h1, h2⟩, [], bs, rfl, .inl ⟨hv, hx, rfl⟩, hb3⟩
      · refine ⟨b :: bs, List.nodup_cons.2 ⟨fun hb => ?_, hb1⟩, fun b' hb' => ?_, [b], bs, rfl, .inr ⟨b, cap, cs, E, rfl, hv, hcap, hh, hsz, ?_⟩, hb3⟩
        · obtain ⟨e, he1, he2, he3⟩ := hb2 b hb
          have := hR.inj d e b hlive he3 he he2
          subst this
          exact hdn he1
        · rcases List.mem_cons.1 hb' with rfl | hb'
          · exact ⟨d, by simp, he, hlive⟩
          · obtain ⟨e, h1, h2⟩ := hb2 b' hb'
            exact ⟨e, List.mem_cons_of_mem _ h1, h2⟩
        · have hob := hR.ob d
          rw [ho] at hob
          rcases hob with ⟨h0, _⟩ | ⟨b', cs', E', he', hh', hrow⟩
          · rw [he] at h0; cases h0
          · rw [he] at he'
            simp only [Option.some.injEq] at he'
            subst he'
            rw [hh] at hh'
            simp only [Option.some.injEq, Obj.cells.injEq] at hh'
            obtain ⟨rfl, _⟩ := hh'
            exact hrow
    · rename_i hd
      have hids : ownIds ((.own sz, y) :: fs) s = ownIds fs s := by simp [ownIds, hd]
      rw [hids] at hn ⊢
      obtain ⟨q1, h1, h⟩ := Option.bind_eq_some_iff.1 h
      simp only [Option.some.injEq] at h
      subst h
      obtain ⟨bs, hb1, hb2, hb3⟩ := ownRes_rep h1 hR hp hn
      rw [hd] at ht
      exact ⟨bs, hb1, hb2, [], bs, rfl, .inl ⟨ht, rfl, rfl⟩, hb3⟩
    · cases h
  | [], _ :: _, _, _, _, h, _, _, _ => by simp [ownRes] at h
  | (.t, _) :: _, [], _, _, _, h, _, _, _ => by simp [ownRes] at h
theorem leavesS_map {t : Nat} {cs : Array Value} (ha : a.tmps.getD t undef = .agg cs) : ∀ (ls : List RSL) (j : Nat), (leavesS t j ls).length = ls.length ∧ ∀ k, k < ls.length → ((leavesS t j ls).map fun f => srcVal a f.2)[k]? = some (cs.getD (j + k) undef)
  | [], j => ⟨rfl, fun k hk => by simp at hk⟩
  | r :: rs, j => by
    obtain ⟨h1, h2⟩ := leavesS_map ha rs (j + 1)
    refine ⟨by simp [leavesS, h1], fun k hk => ?_⟩
    cases k with
    | zero =>
      show some (match a.tmps.getD t undef with | .agg cs => cs.getD j undef | _ => undef) = _
      rw [ha]; rfl
    | succ k =>
      have := h2 k (by simpa using hk)
      simp only [leavesS, List.map_cons, List.getElem?_cons_succ]
      rw [this]
      congr 2; omega
/-- the parts, out of their leaves -/
theorem asmR_rep {s : St} {c : Cx} (hR : Rel w0 cold0 N s a c) : ∀ {rs : List RS} {vs : List ResultVar} {fs : List (RSL × Src)} {q : List RL}, flatS rs vs = some fs → aggsB rs vs s = true → q.length = fs.length →
    (∀ v ∈ vs, ∃ t, v = .tmp t) ∧ flatRV (asmR rs q) = q ∧ vs.map (rvVal a) = asmV (asmR rs q) (fs.map fun f => srcVal a f.2) ∧ aggsOk (asmR rs q) (fs.map fun f => srcVal a f.2)
  | [], [], fs, q, h, _, hq => by
    simp only [flatS, Option.some.injEq] at h
    subst h
    have : q = [] := List.length_eq_zero_iff.1 hq
    subst this
    exact ⟨by simp, rfl, rfl, trivial⟩
  | .l r :: rs, .tmp t :: vs, fs, q, h, hb, hq => by
    simp only [flatS] at h
    obtain ⟨fs', h1, h⟩ := Option.bind_eq_some_iff.1 h
    simp only [Option.some.injEq] at h
    subst h
    cases q with
    | nil => simp at hq
    | cons x xs =>
      obtain ⟨i1, i2, i3, i4⟩ := asmR_rep hR (q := xs) h1 (by simpa [aggsB] using hb) (by simpa using hq)
      refine ⟨fun v hv => ?_, ?_, ?_, i4⟩
      · rcases List.mem_cons.1 hv with rfl | hv
        · exact ⟨t, rfl⟩
        · exact i1 v hv
      · show [x] ++ flatRV (asmR rs xs) = _
        rw [i2]; rfl
      · show _ :: vs.map (rvVal a) = _ :: asmV (asmR rs xs) (fs'.map fun f => srcVal a f.2)
        rw [i3]; rfl
  | .agg ls :: rs, .tmp t :: vs, fs, q, h, hb, hq => by
    simp only [flatS] at h
    obtain ⟨fs', h1, h⟩ := Option.bind_eq_some_iff.1 h
    simp only [Option.some.injEq] at h
    subst h
    simp only [aggsB, Bool.and_eq_true] at hb
    -- the struct's leaves
    obtain ⟨cs, hcs, hn, hone⟩ : ∃ cs, a.tmps.getD t undef = .agg cs ∧ cs.size = ls.length ∧ ∀ (j : Nat) (x : Value), cs[j]? = some x → x.oneCell' = true := by
      have ht := hR.tmp t
      have hb1 := hb.1
      split at hb1
      · rename_i us he
        rw [he] at ht
        obtain ⟨cs, hv, hn, h1, _⟩ : ∃ cs, a.tmps.getD t undef = .agg cs ∧ _ := ht
        exact ⟨cs, hv, by rw [hn]; exact nbeq hb1, h1⟩
      · rename_i us he
        rw [he] at ht
        have ht : TRep c.w c.cold (.agg us) (a.tmps.getD t undef) := ht
        generalize a.tmps.getD t undef = v at ht
        cases ht with
        | agg _ cs hn h1 _ => exact ⟨cs, rfl, by rw [hn]; exact nbeq hb1, h1⟩
      · cases hb1
    obtain ⟨hl1, hl2⟩ := leavesS_map hcs ls 0
    rw [List.length_append, hl1] at hq
    obtain ⟨i1, i2, i3, i4⟩ := asmR_rep hR (q := q.drop ls.length) h1 hb.2 (by simp; omega)
    have hleaf : (leavesS t 0 ls).map (fun f => srcVal a f.2) = cs.toList := by
      apply List.ext_getElem?
      intro k
      rcases Nat.lt_or_ge k ls.length with hk | hk
      · rw [hl2 k hk, Nat.zero_add, Array.getElem?_toList]
        have hc : cs[k]? = some (cs[k]'(by omega)) := Array.getElem?_eq_getElem _
        rw [Array.getD_eq_getD_getElem?, hc]; rfl
      · rw [List.getElem?_eq_none (by simp [hl1]; exact hk), Array.getElem?_toList, Array.getElem?_eq_none (by omega)]
    have hlen : (leavesS t 0 ls).length = ls.length := hl1
    have htl : (q.take ls.length).length = ls.length := by simp; omega
    have htake : ((leavesS t 0 ls ++ fs').map fun f => srcVal a f.2).take ls.length = cs.toList := by
      rw [List.map_append, hleaf, List.take_append_of_le_length (by simp [hn]), List.take_of_length_le (by simp [hn])]
    have hdrop : ((leavesS t 0 ls ++ fs').map fun f => srcVal a f.2).drop ls.length = fs'.map fun f => srcVal a f.2 := by
      rw [List.map_append, List.drop_append_of_le_length (by simp [hl1]), List.drop_eq_nil_of_le (by simp [hl1])]; rfl
    refine ⟨fun v hv => ?_, ?_, ?_, ?_⟩
    · rcases List.mem_cons.1 hv with rfl | hv
      · exact ⟨t, rfl⟩
      · exact i1 v hv
    · show q.take ls.length ++ flatRV (asmR rs (q.drop ls.length)) = q
      rw [i2, List.take_append_drop]
    · show rvVal a (.tmp t) :: vs.map (rvVal a) = .agg (List.take (q.take ls.length).length _).toArray :: asmV (asmR rs (q.drop ls.length)) (List.drop (q.take ls.length).length _)
      rw [htl, htake, hdrop, ← i3]
      show a.tmps.getD t undef :: _ = _
      rw [hcs]
    · show (∀ v ∈ List.take (q.take ls.length).length _, _) ∧ aggsOk (asmR rs (q.drop ls.length)) (List.drop (q.take ls.length).length _)
      rw [htl, htake, hdrop]
      refine ⟨fun v hv => ?_, i4⟩
      obtain ⟨j, hj⟩ := List.getElem?_of_mem hv
      exact hone j v (by simpa using hj)
  | [], _ :: _, _, _, h, _, _ => by simp [flatS] at h
  | .l _ :: _, [], _, _, h, _, _ => by simp [flatS] at h
  | .agg _ :: _, [], _, _, h, _, _ => by simp [flatS] at h
  | .l _ :: _, .cell _ _ :: _, _, _, h, _, _ => by simp [flatS] at h
  | .agg _ :: _, .cell _ _ :: _, _, _, h, _, _ => by simp [flatS] at h
theorem rlReps_flat {w : World} {cold cold' : Nat → Prop} : ∀ {rs : List RL} {vs : List Value} {bs : List Nat}, rlReps w cold rs vs bs → rs.all RL.flat = true → rlReps w cold' rs vs bs
  | [], [], _, h, _ => h
  | [], _ :: _, _, h, _ => h.elim
  | _ :: _, [], _, h, _ => h.elim
  | r :: rs, v :: vs, bs, ⟨b1, b2, h0, h1, h2⟩, hf => by
    simp only [List.all_cons, Bool.and_eq_true] at hf
    refine ⟨b1, b2, h0, ?_, rlReps_flat h2 hf.2⟩
    cases r with
    | t x => exact ⟨flat_rep h1.1 hf.1, h1.2⟩
    | own sz xs =>
      rcases h1 with h1 | ⟨b, cap, cs, E, q0, q1, q2, q3, q4, q5, q6, q7⟩
      · exact .inl h1
      · refine .inr ⟨b, cap, cs, E, q0, q1, q2, q3, q4, q5, q6, fun i j x y hx hj hy => ⟨?_, (q7 i j x y hx hj hy).2⟩⟩
        have hxf := List.all_eq_true.1 hf.1 x (List.mem_of_getElem? hx)
        have hrep := (q7 i j x y hx hj hy).1
        have hw := q6 x (List.mem_of_getElem? hx)
        refine flat_rep hrep ?_
        cases x with
        | agg ls =>
          show (ls.getD j .junk).flat = true
          have hjl : j < ls.length := by rw [show ls.length = sz from hw]; exact hj
          have hl : ls[j]? = some ls[j] := by simp [hjl]
          rw [List.getD_eq_getElem?_getD, hl]
          have := List.all_eq_true.1 hxf ls[j] (List.getElem_mem hjl)
          show (ls[j]).flat = true
          revert this
          generalize ls[j] = u
          intro this
          cases u <;> first | exact this | simp [T.flat1] at this
        | _ =>
          cases j with
          | zero => exact hxf
          | succ j => have hw : (1 : Nat) = sz := hw; omega
theorem rvReps_flat {w : World} {cold cold' : Nat → Prop} {rs : List RV} {vs : List Value} {bs : List Nat} (h : rvReps w cold rs vs bs) (hf : (flatRV rs).all RL.flat = true) : rvReps w cold' rs vs bs :=
  let ⟨us, h1, h2⟩ := h
  ⟨us, rlReps_flat h1 hf, h2⟩
theorem results_run {fn : Func} {tmps : Array Value} {a' : Act} (w : World)
    (hv : ∀ v ∈ fn.results.toList, match v with
      | .tmp t => a'.tmps.getD t undef = tmps.getD t undef
      | .cell b t => (Instr.loadAt t (tmps.getD b undef)).run P w = .ok (a'.tmps.getD b undef) w) :
    (results fn tmps).run P w = .ok (valOf ((fn.results.toList.map asTmp).map (rvVal a'))) w := by
  obtain ⟨f, hrun, hf, hf2⟩ : ∃ f : ResultVar → Sem Value, results fn tmps = (do let vs ← fn.results.mapM f; pure (if h : vs.size = 1 then vs[0] else .tuple vs)) ∧ (∀ t, f (.tmp t) = pure (tmps.getD t undef)) ∧
      (∀ b t, f (.cell b t) = do loadVar t (← asAddr (tmps.getD b undef))) :=
    ⟨_, rfl, fun t => rfl, fun b t => rfl⟩
  have hcell : ∀ (t : TypeId) (y x : Value), (Instr.loadAt t y).run P w = .ok x w → (do loadVar t (← asAddr y) : Sem Value).run P w = .ok x w := by
    intro t y x h
    unfold Instr.loadAt at h
    rw [Sem.run_bind] at h ⊢
    unfold Instr.sureAddr at h
    unfold asAddr
    split at h
    · exact h
    · simp [stuck] at h
  have hall : ∀ (l : List ResultVar), (∀ v ∈ l, match v with
      | .tmp t => a'.tmps.getD t undef = tmps.getD t undef
      | .cell b t => (Instr.loadAt t (tmps.getD b undef)).run P w = .ok (a'.tmps.getD b undef) w) → (l.mapM f).run P w = .ok ((l.map asTmp).map (rvVal a')) w := by
    intro l
    induction l with
    | nil => intro _; rfl
    | cons v l ih =>
      intro hv
      have hv0 := hv v (by simp)
      have h1 : (f v).run P w = .ok (rvVal a' (asTmp v)) w := by
        cases v with
        | tmp t =>
          have hv0 : a'.tmps.getD t undef = tmps.getD t undef := hv0
          rw [hf]
          show Result.ok (tmps.getD t undef) w = .ok (a'.tmps.getD t undef) w
          rw [hv0]
        | cell b t => rw [hf2]; exact hcell t _ _ hv0
      rw [List.mapM_cons]
      simp only [Sem.run_bind]
      rw [h1]
      simp only [Result.andThen_ok, Sem.run_bind, ih fun v h => hv v (by simp [h])]
      rfl
  obtain ⟨l, hl⟩ : ∃ l : List ResultVar, fn.results = l.toArray := ⟨fn.results.toList, by simp⟩
  have h := hall l (by rw [hl] at hv; simpa using hv)
  rw [hrun, hl, List.mapM_toArray]
  simp only [Sem.run_bind, Sem.run_map, h, Result.andThen_ok]
  match l with
  | [] => rfl
  | [x] => rfl
  | x :: y :: l => rfl
theorem pre_sound {R : Type} {r : R} {w : World} : ∀ {vs : List ResultVar} {s : St} {a : Act} {k : St → Option R}, preRes P N vs s k = some r → nodupB (vs.map resTmp) = true → Is w0 cold0 N s a w →
    ∃ (s' : St) (a' : Act), k s' = some r ∧ Is w0 cold0 N s' a' w ∧ (∀ t, t ∉ vs.map resTmp → a'.tmps.getD t undef = a.tmps.getD t undef) ∧ ∀ v ∈ vs, match v with
      | .tmp t => a'.tmps.getD t undef = a.tmps.getD t undef
      | .cell b t => (Instr.loadAt t (a.tmps.getD b undef)).run P w = .ok (a'.tmps.getD b undef) w
  | [], s, a, k, h, _, hs => ⟨s, a, h, hs, fun _ _ => rfl, by simp⟩
  | .tmp t :: vs, s, a, k, h, hn, hs => by
    obtain ⟨hx, hn⟩ := nodupB_cons (d := t) (ds := vs.map resTmp) hn
    have h : preRes P N vs s k = some r := h
    obtain ⟨s', a', h1, h2, h3, h4⟩ := pre_sound (k := k) h hn hs
    refine ⟨s', a', h1, h2, fun u hu => h3 u fun hm => hu (List.mem_cons_of_mem _ hm), fun v hv => ?_⟩
    rcases List.mem_cons.1 hv with rfl | hv
    · exact h3 t hx
    · exact h4 v hv
  | .cell b t :: vs, s, a, k, h, hn, hs => by
    obtain ⟨hx, hn⟩ := nodupB_cons (d := b) (ds := vs.map resTmp) hn
    simp only [preRes] at h
    cases hb : Nat.blt b N with
    | false => rw [hb] at h; cases h
    | true =>
    rw [hb] at h
    simp only [cond_true] at h
    have hbN : b < N := by rw [Nat.blt_eq] at hb; exact hb
    obtain ⟨c, rfl, hR⟩ := hs
    obtain ⟨x, v, hrun, hv, h⟩ := ld_run hR (hR.tmp b) h
    have hR' := hR.put (some b) (fun e he => by cases he; exact hbN) hv
    have hget : ∀ u, (a.put (some b) x).tmps.getD u undef = if u = b then x else a.tmps.getD u undef := fun u => by
      simp only [Act.put, Array.getD_eq_getD_getElem?]
      rw [Array.getElem?_setIfInBounds]
      by_cases hu : b = u
      · subst hu
        rw [if_pos rfl, if_pos rfl, if_pos (by rw [hR.size]; exact hbN)]; rfl
      · rw [if_neg hu, if_neg (fun h => hu h.symm)]
    obtain ⟨s', a', h1, h2, h3, h4⟩ := pre_sound (k := k) h hn ⟨c, rfl, hR'⟩
    refine ⟨s', a', h1, h2, fun u hu => ?_, fun v' hv' => ?_⟩
    · rw [h3 u fun hm => hu (List.mem_cons_of_mem _ hm), hget, if_neg fun he => hu (by rw [he]; exact List.mem_cons_self)]
    · rcases List.mem_cons.1 hv' with rfl | hv'
      · show (Instr.loadAt t (a.tmps.getD b undef)).run P c.w = .ok (a'.tmps.getD b undef) c.w
        rw [h3 b hx, hget, if_pos rfl]
        exact hrun
      · have h5 := h4 v' hv'
        have hne : resTmp v' ≠ b := fun he => hx (he ▸ List.mem_map_of_mem hv')
        cases v' with
        | tmp u =>
          have h5 : a'.tmps.getD u undef = (a.put (some b) x).tmps.getD u undef := h5
          show a'.tmps.getD u undef = a.tmps.getD u undef
          rw [h5, hget, if_neg (show ¬ u = b from hne)]
        | cell u t' =>
          have h5 : (Instr.loadAt t' ((a.put (some b) x).tmps.getD u undef)).run P c.w = .ok (a'.tmps.getD u undef) c.w := h5
          show (Instr.loadAt t' (a.tmps.getD u undef)).run P c.w = .ok (a'.tmps.getD u undef) c.w
          rw [hget, if_neg (show ¬ u = b from hne)] at h5
          exact h5
/-- A FUNCTION: what the executor says of it is so. -/
theorem fn_sound {G : World} {C : Nat → Option Summary} (hC : OrcSound P G C) (hm : P.follows .mixedOrders = true) {f : FuncId} {fn : Func} {code : Code} {fuel : Nat} {rs : List RS} {R : Type} {an : Ann R} {dec : List RV → Option R} {ts : List T} {r : R} {q : List RV} {apart : Bool}
    (hf : P.funcs[f]? = some fn) (hb : fn.body = some code) (hl : lexOk code = true) (hok : Ok P fn.ntmps C fuel an code (fun _ => fnK P fn rs dec))
    (hlen : ts.length ≤ fn.ntmps) (hdec : ∀ p, dec p = some r → p = q) (hap : apart = true → (flatRV q).all RL.flat = true)
    (h : evFn P C fuel fn rs R an ts dec = some r) : CallSound P G f ts apart q := by
  intro w cold args hG hclt hsz hr
  refine calls_of_wp hf hb ?_
  unfold evFn at h
  rw [hb] at h
  simp only at h
  cases hN2 : Nat.ble fn.ntmps 2000000 with
  | false => rw [hN2] at h; cases h
  | true =>
  rw [hN2] at h
  simp only [cond_true] at h
  have hs := start_is (hG := hG) hclt hsz hlen (Nat.le_of_ble_eq_true hN2) hr
  refine Code.wp_mono ?_ (ev_sound (fuel := fuel) hC hm (csz code) code (Nat.le_refl _) R an (fun _ => fnK P fn rs dec) _ _ _ r hl hok h hs)
  have fin : ∀ (a : Act) (w' : World), (∃ s, retK P fn rs dec s = some r ∧ Is (Base.call G w hG) cold fn.ntmps s a w') → a.defers = [] ∧ ∃ v, (results fn a.tmps).run P w' = .ok v w' ∧ ∃ vs bs, Ending.returned v = .returned (valOf vs) ∧ Below w.heap.size w w' ∧ bs.Nodup ∧ (∀ b, b ∈ bs → w.heap.size ≤ b ∧ b < w'.heap.size) ∧
      rvReps w' (fun b => (cold b ∧ apart = false) ∨ (w.heap.size ≤ b ∧ b < w'.heap.size ∧ b ∉ bs)) q vs bs := by
    rintro a0 w' ⟨s0, hk, hIs0⟩
    have hdef : a0.defers = [] := by obtain ⟨c, _, hR⟩ := hIs0; exact hR.defers
    unfold retK at hk
    cases hnd : nodupB (fn.results.toList.map resTmp) with
    | false => rw [hnd] at hk; cases hk
    | true =>
    rw [hnd] at hk
    simp only [cond_true] at hk
    obtain ⟨s, a, hk, ⟨c, rfl, hR⟩, _, hcells⟩ := pre_sound hk hnd hIs0
    obtain ⟨p, hp, hk⟩ := Option.bind_eq_some_iff.1 hk
    have := hdec p hk
    subst this
    unfold evRes at hp
    obtain ⟨fs, hfs, hp⟩ := Option.bind_eq_some_iff.1 hp
    obtain ⟨z, hz, hp⟩ := Option.bind_eq_some_iff.1 hp
    obtain ⟨c', hw', hR', hc', hparts⟩ := frzRes_some hz hR
    cases hn : nodupB (ownIds fs z.2) && aggsB rs (fn.results.toList.map asTmp) s with
    | false => rw [hn] at hp; cases hp
    | true =>
    rw [hn] at hp
    simp only [cond_true] at hp
    simp only [Bool.and_eq_true] at hn
    obtain ⟨lv, hlv, hp⟩ := Option.bind_eq_some_iff.1 hp
    simp only [Option.some.injEq] at hp
    subst hp
    obtain ⟨bs, hb1, hb2, hb3⟩ := ownRes_rep hlv hR' hparts hn.1
    obtain ⟨hv, hfl, hasm, hao⟩ := asmR_rep hR hfs hn.2 (by have := rlReps_len hb3; simpa using this.symm)
    replace hb3 : rvReps c'.w c'.cold (asmR rs lv) ((fn.results.toList.map asTmp).map (rvVal a)) bs := ⟨_, by rw [hfl]; exact hb3, hasm, hao⟩
    have hbs : ∀ b, b ∈ bs → ¬ c'.cold b ∧ w.heap.size ≤ b ∧ b < c'.w.heap.size := fun b hb => by
      obtain ⟨d, _, h1, h2⟩ := hb2 b hb
      obtain ⟨q1, q2, q3⟩ := hR'.hot d b h2 h1
      exact ⟨q1, Nat.le_of_not_lt q2, q3⟩
    refine ⟨hdef, _, results_run _ hcells, (fn.results.toList.map asTmp).map (rvVal a), bs, rfl, ⟨hR.below.os, hR.below.tape, hR.below.output, hR.below.size, hR.below.block⟩, hb1, fun b hb => by rw [← hw']; exact (hbs b hb).2, ?_⟩
    rw [← hw']
    cases ha : apart with
    | true => exact rvReps_flat hb3 (hap ha)
    | false =>
      refine rvReps_mono (fun b hb => ?_) hb3
      rcases hR'.c1 b hb with h1 | h1
      · exact .inl ⟨h1, rfl⟩
      · exact .inr ⟨Nat.le_of_not_lt h1, hR'.clt b hb, fun hbs' => (hbs b hbs').1 hb⟩
  intro e a w' hq
  cases e with
  | normal =>
    obtain ⟨h1, v, h2, h3⟩ := fin a w' hq
    exact ⟨h1, v, h2, h3⟩
  | ret =>
    obtain ⟨h1, v, h2, h3⟩ := fin a w' hq
    exact ⟨h1, v, h2, h3⟩
  | exit id => obtain ⟨s, h1, _⟩ := hq; cases h1
  | goto l => obtain ⟨s, h1, _⟩ := hq; cases h1
  | _ => exact hq.elim
/-- A SUMMARY, from the function's law. -/
theorem sum_sound {G : World} {C : Nat → Option Summary} (hC : OrcSound P G C) (hm : P.follows .mixedOrders = true) {f : FuncId} {fn : Func} {code : Code} {fuel : Nat} {rs : List RS} (S : Summary) {an : Ann S.B} {dec : List RV → Option S.B}
    (hf : P.funcs[f]? = some fn) (hb : fn.body = some code) (hname : (fn.name == "runtime.NumGoroutine") = false) (hl : lexOk code = true) (hok : Ok P fn.ntmps C fuel an code (fun _ => fnK P fn rs dec))
    (hdec : ∀ p b, dec p = some b → p = S.res b) (hmut : S.m = none) (hap : S.apart = true → ∀ b, (flatRV (S.res b)).all RL.flat = true) (hlen : ∀ ts a, S.args ts = some a → ts.length ≤ fn.ntmps)
    (h : ∀ ts a, S.args ts = some a → evFn P C fuel fn rs S.B an ts dec = S.fn a) : SumSound P G f S :=
  ⟨⟨fn, hf, hname, by rw [hb]; rfl⟩, fun ts a b ha hb' => fn_sound hC hm hf hb hl hok (hlen ts a ha) (fun p hp => hdec p b hp) (fun hs => hap hs b) ((h ts a ha).trans hb'), fun M hM => by rw [hmut] at hM; cases hM⟩
end
end Go.Ax
