/- Ax, part R: regions: in their order, and in whatever order. -/
import Derived.Test.YtcpcbmebpmokbaaDoorAxQ
set_option linter.unusedVariables false
set_option linter.unusedSimpArgs false
namespace Go.Ax
open Go Go.RowKit

/-- the state s stands for this frame and this world -/
def Is (w0 : Base) (cold0 : Nat → Prop) (N : Nat) (s : St) (a : Act) (w : World) : Prop := ∃ c, c.w = w ∧ Rel w0 cold0 N s a c

/-! ### states -/
theorem St.put_comm {s : St} {x y : Option Nat} {v u : V} (h : ∀ d, x = some d → y ≠ some d) : (s.put x v).put y u = (s.put y u).put x v := by
  cases x with
  | none => rfl
  | some d =>
    cases y with
    | none => rfl
    | some e =>
      have hne : d ≠ e := fun he => h d rfl (he ▸ rfl)
      show St.mk _ _ = St.mk _ _
      congr 1
      funext t
      show (bif Nat.beq t e then u else bif Nat.beq t d then v else s.env t) = (bif Nat.beq t d then v else bif Nat.beq t e then u else s.env t)
      cases h1 : Nat.beq t e <;> cases h2 : Nat.beq t d <;> simp
      exact absurd ((Nat.eq_of_beq_eq_true h2).symm.trans (Nat.eq_of_beq_eq_true h1)) hne
theorem St.put_env_ne {s : St} {x : Option Nat} {v : V} {t : Nat} (h : x ≠ some t) : (s.put x v).env t = s.env t := by
  cases x with
  | none => rfl
  | some d =>
    show (bif Nat.beq t d then v else s.env t) = _
    rw [beq_ne (fun e => h (by rw [e]))]
    rfl
theorem St.put_env_eq {s : St} {v : V} {t : Nat} : (s.put (some t) v).env t = v := by
  show (bif Nat.beq t t then v else s.env t) = v
  simp
theorem St.put_objs {s : St} {x : Option Nat} {v : V} : (s.put x v).objs = s.objs := by cases x <;> rfl
theorem St.put_val {s : St} {x : Option Nat} {v : V} {y : Operand} (h : ∀ d, x = some d → y ≠ .tmp d) : (s.put x v).val y = s.val y := by
  cases y with
  | tmp t => exact St.put_env_ne fun e => h t e rfl
  | _ => rfl
/-- s0 knows at least what s knows -/
def St.le (s0 s : St) : Prop := s0.objs = s.objs ∧ ∀ t, s.env t = s0.env t ∨ s.env t = .junk
theorem St.le_refl (s : St) : s.le s := ⟨rfl, fun _ => .inl rfl⟩
theorem St.le.put {s0 s : St} (h : s0.le s) (d : Option Nat) (v : V) : (s0.put d v).le (s.put d v) := by
  refine ⟨by rw [St.put_objs, St.put_objs]; exact h.1, fun t => ?_⟩
  by_cases hd : d = some t
  · subst hd; exact .inl (by rw [St.put_env_eq, St.put_env_eq])
  · rw [St.put_env_ne hd, St.put_env_ne hd]; exact h.2 t
theorem St.le.val {s0 s : St} (h : s0.le s) {x : Operand} (hx : s.val x ≠ .junk) : s0.val x = s.val x := by
  cases x with
  | tmp t => exact ((h.2 t).resolve_right hx).symm
  | _ => rfl
theorem junkAll_env {s : St} : ∀ {ds : List Nat} {t : Nat}, (t ∈ ds ∧ (junkAll s ds).env t = .junk) ∨ (t ∉ ds ∧ (junkAll s ds).env t = s.env t)
  | [], t => .inr ⟨by simp, rfl⟩
  | d :: ds, t => by
    show (_ ∧ (bif Nat.beq t d then V.junk else (junkAll s ds).env t) = .junk) ∨ (_ ∧ (bif Nat.beq t d then V.junk else (junkAll s ds).env t) = s.env t)
    by_cases h : t = d
    · subst h; exact .inl ⟨by simp, by simp⟩
    · rw [beq_ne h]
      rcases junkAll_env (s := s) (ds := ds) (t := t) with ⟨h1, h2⟩ | ⟨h1, h2⟩
      · exact .inl ⟨by simp [h1], h2⟩
      · exact .inr ⟨by simp [h, h1], h2⟩
theorem junkAll_objs {s : St} : ∀ {ds : List Nat}, (junkAll s ds).objs = s.objs
  | [] => rfl
  | _ :: ds => junkAll_objs (ds := ds)
theorem memB_spec {t : Nat} {ds : List Nat} (h : memB t ds = false) : t ∉ ds := fun hm => by
  have := List.any_eq_false.1 h t hm
  simp at this

section
variable {P : Program} {w0 : Base} {cold0 : Nat → Prop} {N : Nat} {C : Nat → Option Summary} {ops : Array Oper} {Q : Exit → Act → World → Prop}

theorem Rel.weaken {s0 s : St} {a : Act} {c : Cx} (h : Rel w0 cold0 N s0 a c) (hs : s0.le s) : Rel w0 cold0 N s a c where
  objs := h.objs.trans hs.1
  below := h.below
  size := h.size
  defers := h.defers
  c0 := h.c0
  c1 := h.c1
  clt := h.clt
  nle := h.nle
  pin := fun d b n u hp hu => h.pin d b n u hp (by rw [hs.1]; exact hu)
  hot := fun d b hd => h.hot d b (by rw [hs.1]; exact hd)
  inj := fun d e b hd he => h.inj d e b (by rw [hs.1]; exact hd) (by rw [hs.1]; exact he)
  ob := fun d => by rw [← hs.1]; exact h.ob d
  tmp := fun t => by
    rcases hs.2 t with e | e
    · rw [e]; exact h.tmp t
    · rw [e]; trivial
theorem Is.weaken {s0 s : St} {a : Act} {w : World} (h : Is w0 cold0 N s0 a w) (hs : s0.le s) : Is w0 cold0 N s a w :=
  let ⟨c, h1, h2⟩ := h
  ⟨c, h1, h2.weaken hs⟩
theorem Is.below {s : St} {a : Act} {w w' : World} (h : Is w0 cold0 N s a w) (hb : Below w.heap.size w w') : Is w0 cold0 N s a w' := by
  obtain ⟨c, rfl, h⟩ := h
  exact ⟨_, rfl, (h.grow w' hb (fun _ => False) (fun _ h => h.elim)).1⟩
theorem evQ_sound {o : Oper} {s : St} {a : Act} {w : World} {v : V} (hC : OrcSound P w0.g C) (h : Is w0 cold0 N s a w) (hd : okDst N o = true) (hk : evQ P C o s.val s.objs some = some v) :
    o.wp P a w (Is w0 cold0 N (s.put o.dst v)) Q := by
  obtain ⟨c, rfl, h⟩ := h
  have h1 : evQ P C o s.val s.objs (fun v => some (s.put o.dst v)) = some (s.put o.dst v) := by
    rw [evQ_nat, hk]; rfl
  have hmain : o.wp P a c.w (Post w0 cold0 N (fun s => some s) (s.put o.dst v) c.w false) Q := by
    by_cases hb : ∃ t l ps, o.op = .buildSlice t l ps
    · obtain ⟨t, l, ps, ho⟩ := hb
      unfold evQ at h1
      rw [ho] at h1
      exact op_buildSliceQ (k := fun s => some s) h hd ho h1
    · exact evOp_sound (ro := false) hC h hd (evQ_evOp (k := fun s => some s) (fun t l ps ho => hb ⟨t, l, ps, ho⟩) h1)
  refine Oper.wp_mono ?_ hmain
  rintro a' w' ⟨s', c', hw, hR, hs, _⟩
  simp only [Option.some.injEq] at hs
  subst hs
  exact ⟨c', hw, hR⟩

/-- an operation in its region: it yields v, or stands aside -/
def aStep (P : Program) (C : Nat → Option Summary) (N : Nat) (ops : Array Oper) (o : Oper) (v : V) (s : St) : Prop :=
  okDst N o = true ∧ match o.guard with
    | none => evQ P C o s.val s.objs some = some v
    | some (j, w) => ∃ jd, tmpOf ops j = some jd ∧
        ((s.env jd = .t (.bool w) ∧ evQ P C o s.val s.objs some = some v) ∨ ((s.env jd = .t (.bool (!w)) ∨ s.env jd = .tup []) ∧ v = .tup []))
theorem undef_tup {s : St} {a : Act} {w : World} {o : Oper} (h : Is w0 cold0 N s a w) (hd : okDst N o = true) : Is w0 cold0 N (s.put o.dst (.tup [])) (a.put o.dst undef) w := by
  obtain ⟨c, hw, h⟩ := h
  exact ⟨c, hw, h.put o.dst (okDst_lt hd) (v := .tup []) (x := undef) ⟨#[], rfl, rfl, fun j l x hl hx => by simp at hl⟩⟩
theorem Is.yielded {s : St} {a : Act} {w : World} {j jd : Nat} (h : Is w0 cold0 N s a w) (hj : tmpOf ops j = some jd) :
    (∀ b, s.env jd = .t (.bool b) → Go.yielded ops a.tmps j = some b) ∧ (s.env jd = .tup [] → Go.yielded ops a.tmps j = none) := by
  obtain ⟨c, hw, h⟩ := h
  have hy : Go.yielded ops a.tmps j = (match a.tmps[jd]? with | some (.bool b) => some b | _ => none) := by
    unfold Go.yielded
    have : (ops[j]?).bind (·.dst) = some jd := hj
    rw [this]; rfl
  have ht := h.tmp jd
  constructor
  · intro b hb
    rw [hb] at ht
    have ht : TRep c.w c.cold (.bool b) (a.tmps.getD jd undef) := ht
    rw [hy]
    cases hg : a.tmps[jd]? with
    | none => 
      have : a.tmps.getD jd undef = undef := by simp [Array.getD_eq_getD_getElem?, hg]
      rw [this] at ht; cases ht
    | some x =>
      have : a.tmps.getD jd undef = x := by simp [Array.getD_eq_getD_getElem?, hg]
      rw [this] at ht; cases ht; rfl
  · intro hb
    rw [hb] at ht
    obtain ⟨cs, h1, h2, _⟩ : ∃ cs, a.tmps.getD jd undef = .tuple cs ∧ cs.size = ([] : List V).length ∧ _ := ht
    rw [hy]
    cases hg : a.tmps[jd]? with
    | none => rfl
    | some x =>
      have : a.tmps.getD jd undef = x := by simp [Array.getD_eq_getD_getElem?, hg]
      rw [this] at h1; subst h1; rfl
theorem aStep_sound {o : Oper} {v : V} {s : St} {a : Act} {w : World} (hC : OrcSound P w0.g C) (h : aStep P C N ops o v s) (hs : Is w0 cold0 N s a w) :
    if Region.wanted o (yielded ops a.tmps) = true then o.wp P a w (Is w0 cold0 N (s.put o.dst v)) Q else Is w0 cold0 N (s.put o.dst v) (a.put o.dst undef) w := by
  obtain ⟨hd, h⟩ := h
  unfold Region.wanted
  cases hg : o.guard with
  | none =>
    rw [hg] at h
    simp only [if_true]
    exact evQ_sound hC hs hd h
  | some p =>
    obtain ⟨j, b⟩ := p
    rw [hg] at h
    obtain ⟨jd, hj, h⟩ := h
    obtain ⟨y1, y2⟩ := hs.yielded (ops := ops) hj
    rcases h with ⟨he, h⟩ | ⟨he, rfl⟩
    · simp only [y1 b he, beq_self_eq_true, if_true]
      exact evQ_sound hC hs hd h
    · have : (yielded ops a.tmps j == some b) = false := by
        rcases he with he | he
        · rw [y1 _ he]; cases b <;> rfl
        · rw [y2 he]; rfl
      simp only [this, Bool.false_eq_true, if_false]
      exact undef_tup hs hd
theorem aStep_put {o : Oper} {v : V} {s : St} {dst : Option Nat} {u : V} (h : ∀ d, dst = some d → d ∉ o.looksAt ops) : aStep P C N ops o v (s.put dst u) ↔ aStep P C N ops o v s := by
  have h1 : evQ P C o (s.put dst u).val (s.put dst u).objs some = evQ P C o s.val s.objs some := by
    rw [St.put_objs]
    exact evQ_congr fun x hx => St.put_val fun d hd hxd => h d hd (by
      subst hxd
      exact List.mem_append_left _ (List.mem_filterMap.2 ⟨.tmp d, by simpa using hx, rfl⟩))
  unfold aStep
  cases hg : o.guard with
  | none => simp only [h1]
  | some p =>
    obtain ⟨j, b⟩ := p
    simp only [h1]
    have : ∀ jd, tmpOf ops j = some jd → (s.put dst u).env jd = s.env jd := fun jd hj => St.put_env_ne fun e => h jd e (by
      have : (ops[j]?).bind (·.dst) = some jd := hj
      simp [Oper.looksAt, hg, this])
    constructor <;> rintro ⟨hd, jd, hj, hh⟩ <;> refine ⟨hd, jd, hj, ?_⟩
    · rwa [this jd hj] at hh
    · rwa [this jd hj]

/-! ### whatever order -/
/-- one that makes or writes memory, in its turn -/
def aBar (P : Program) (C : Nat → Option Summary) (N : Nat) (lr : Bool) (o : Oper) (K : St → Prop) (s : St) : Prop :=
  o.guard = none ∧ okDst N o = true ∧ ((∃ t a x objs', o.op = .store t a x ∧ (lr = true → (s.val a).isBp = true) ∧ stObj P t s.objs (s.val a) (s.val x) = some objs' ∧ K ((⟨s.env, objs'⟩ : St).put o.dst (.tup []))) ∨
    (storeOp o.op = false ∧ ∃ s1 : St, s.le s1 ∧ ∃ (R : Type) (k : St → Option R) (r : R), evOp P false N C o s1 k = some r ∧ ∀ s', k s' = some r → K s'))
theorem aBar_mono {lr : Bool} {o : Oper} {s : St} {K K' : St → Prop} (h : ∀ s, K s → K' s) (hh : aBar P C N lr o K s) : aBar P C N lr o K' s := by
  obtain ⟨h1, h2, ⟨t, a, x, objs', h3, hbp, h4, h5⟩ | ⟨h0, s1, h3, R, k, r, h4, h5⟩⟩ := hh
  · exact ⟨h1, h2, .inl ⟨t, a, x, objs', h3, hbp, h4, h _ h5⟩⟩
  · exact ⟨h1, h2, .inr ⟨h0, s1, h3, R, k, r, h4, fun s' hs => h _ (h5 s' hs)⟩⟩
theorem frzT_some {v : V} {s : St} {p : T × St} {objs : Nat → Ob} (ho : objs = s.objs) (env : Nat → V) (h : frz true v s = some p) : p.2 = s ∧ frz true v ⟨env, objs⟩ = some (p.1, ⟨env, objs⟩) := by
  subst ho
  unfold frz at h ⊢
  split at h
  · simp at h
  · rename_i ls
    simp only [if_true] at h ⊢
    cases hh : V.hot (.agg ls) with
    | true => rw [hh] at h; cases h
    | false =>
      rw [hh] at h
      simp only [cond_false, Option.bind_eq_some_iff, Option.some.injEq] at h ⊢
      obtain ⟨x, hx, rfl⟩ := h
      exact ⟨rfl, x, hx, rfl⟩
  · rename_i h1 h2
    cases hh : V.hot v with
    | true => rw [hh] at h; cases h
    | false =>
      rw [hh] at h
      simp only [cond_false, Option.bind_eq_some_iff, Option.some.injEq] at h ⊢
      obtain ⟨x, hx, rfl⟩ := h
      exact ⟨rfl, x, hx, rfl⟩
theorem frzT_none {v : V} {s : St} {objs : Nat → Ob} (ho : objs = s.objs) (env : Nat → V) (h : frz true v s = none) : frz true v ⟨env, objs⟩ = none := by
  cases h' : frz true v ⟨env, objs⟩ with
  | none => rfl
  | some p =>
    obtain ⟨_, h2⟩ := frzT_some (s := ⟨env, objs⟩) (objs := s.objs) ho.symm s.env h'
    have : (⟨s.env, s.objs⟩ : St) = s := rfl
    rw [this, h] at h2; cases h2
theorem stObj_junk {t : TypeId} {objs objs' : Nat → Ob} {a v : V} (h : stObj P t objs a v = some objs') : a ≠ .junk ∧ v ≠ .junk := by
  unfold stObj stTo at h
  split at h
  · cases h
  · split at h
    · refine ⟨by simp, fun hv => ?_⟩
      subst hv
      split at h
      · split at h
        · split at h
          · rw [boxK_eq] at h; simp [boxable] at h
          · rw [leavesK_eq] at h
            obtain ⟨ls, _, h⟩ := Option.bind_eq_some_iff.1 h
            rw [leavesK_eq] at h
            simp [V.leaves] at h
        · split at h
          · rw [stLeafK_eq] at h
            obtain ⟨w, hw, _⟩ := Option.bind_eq_some_iff.1 h
            unfold stLeaf at hw
            split at hw <;> simp [V.one, V.fnB] at hw
            split at hw <;> first | (split at hw <;> simp at hw; done) | simp at hw
          · cases h
      · cases h
    · refine ⟨by simp, fun hv => ?_⟩
      subst hv
      split at h
      · obtain ⟨p, hp, h⟩ := Option.bind_eq_some_iff.1 h
        simp [frz, V.hot, V.hot1, V.out, V.out3, V.out2, V.out1] at hp
      · cases h
    · cases h
/-- A store turns objects alone. -/
theorem stTo_obj {R : Type} {t : TypeId} {s : St} {a v : V} {k : St → Option R} : stTo P t s a v k = (stObj P t s.objs a v).bind fun objs => k ⟨s.env, objs⟩ := by
  unfold stObj stTo
  cases hn : szOf P t with
  | none => rfl
  | some n =>
    simp only
    cases a with
    | bp d o =>
      simp only
      cases hd : s.objs d with
      | box m w =>
        simp only
        split
        · split
          · rw [boxK_eq, boxK_eq, Option.bind_assoc]; rfl
          · rw [leavesK_eq, leavesK_eq, Option.bind_assoc]
            congr 1; funext ls
            rw [leavesK_eq, leavesK_eq, Option.bind_assoc]
            congr 1; funext vs
            split <;> rfl
        · split
          · rw [stLeafK_eq, stLeafK_eq, Option.bind_assoc]; rfl
          · rfl
      | _ => rfl
    | rp d i o =>
      simp only
      cases hd : s.objs d with
      | row sz xs =>
        simp only
        cases hf : frz true v s with
        | none => rw [frzT_none rfl _ hf]; rfl
        | some p =>
          rw [(frzT_some rfl (fun _ => V.junk) hf).2]
          simp only [Option.bind_some]
          cases hx : xs[i]? with
          | none => rfl
          | some e =>
            simp only [Option.bind_some]
            split
            · split
              · split <;> rfl
              · rfl
            · split <;> rfl
      | _ => rfl
    | _ => rfl
/-- a reader that a store does not wait for reads rows -/
def Rd (ops : Array Oper) (k : Nat) (o : Oper) (s : St) : Prop := o.guard = none → rdOk ops k o s = true
def aOp (P : Program) (C : Nat → Option Summary) (N : Nat) (ops : Array Oper) (bar : Nat → Bool) (i : Nat) (K : St → Prop) (s : St) : Prop :=
  match ops[i]? with
  | none => K s
  | some o => (bar i = true ∧ aBar P C N (looseR ops i) o K s) ∨ (bar i = false ∧ ∃ v, aStep P C N ops o v s ∧ K (s.put o.dst v))
theorem aOp_mono {bar : Nat → Bool} {i : Nat} {s : St} {K K' : St → Prop} (h : ∀ s, K s → K' s) (hh : aOp P C N ops bar i K s) : aOp P C N ops bar i K' s := by
  unfold aOp at *
  split
  · exact h _ (by simpa [*] using hh)
  · rename_i o ho
    simp only [ho] at hh
    rcases hh with ⟨hb, hh⟩ | ⟨hb, v, h1, h2⟩
    · exact .inl ⟨hb, aBar_mono h hh⟩
    · exact .inr ⟨hb, v, h1, h _ h2⟩
def aAny (P : Program) (C : Nat → Option Summary) (N : Nat) (md : Region.Mode) (ops : Array Oper) (bar : Nat → Bool) (K : St → Prop) : Nat → Array Bool → St → Prop
  | 0, listed, s => Region.ready md ops listed = [] ∧ K s
  | fuel + 1, listed, s => (Region.ready md ops listed = [] → K s) ∧ ∀ i ∈ Region.ready md ops listed, aOp P C N ops bar i (aAny P C N md ops bar K fuel (listed.setIfInBounds i true)) s
theorem aAny_sound (hC : OrcSound P w0.g C) {md : Region.Mode} {bar : Nat → Bool} {K : St → Prop} (hK : ∀ s a w, K s → Is w0 cold0 N s a w → Q .normal a w) : ∀ (fuel : Nat) (listed : Array Bool) (s : St) (a : Act) (w : World),
    aAny P C N md ops bar K fuel listed s → Is w0 cold0 N s a w → wpAny P md ops Q fuel listed a w
  | 0, _, _, _, _, h, hs => ⟨h.1, hK _ _ _ h.2 hs⟩
  | fuel + 1, listed, s, a, w, h, hs => ⟨fun h0 => hK _ _ _ (h.1 h0) hs, fun i hi => by
      have h1 := h.2 i hi
      unfold aOp at h1
      unfold wpOp
      cases ho : ops[i]? with
      | none => simp only [ho] at h1; exact aAny_sound hC hK fuel _ _ _ _ h1 hs
      | some o =>
        simp only [ho] at h1
        rcases h1 with ⟨_, hg, hd, ⟨t, x, y, objs', hop, _, hst, hK'⟩ | ⟨_, s1, hle, R, k, r, he, hk⟩⟩ | ⟨_, v, h1, h2⟩
        · have hw : Region.wanted o (yielded ops a.tmps) = true := by unfold Region.wanted; rw [hg]
          simp only [hw, if_true]
          obtain ⟨c, rfl, hR⟩ := hs
          have he : evOp P false N C o s (fun s => some s) = some ((⟨s.env, objs'⟩ : St).put o.dst (.tup [])) := by
            unfold evOp
            rw [hop]
            simp only [Bool.false_eq_true, if_false]
            rw [stTo_obj, hst]; rfl
          refine .inl (Oper.wp_mono ?_ (evOp_sound hC hR hd he))
          rintro a' w' ⟨s', c', hw', hR', hk', _⟩
          simp only [Option.some.injEq] at hk'
          subst hk'
          exact aAny_sound hC hK fuel _ _ _ _ hK' ⟨c', hw', hR'⟩
        · have hw : Region.wanted o (yielded ops a.tmps) = true := by unfold Region.wanted; rw [hg]
          simp only [hw, if_true]
          obtain ⟨c, rfl, hR⟩ := hs.weaken hle
          refine .inl (Oper.wp_mono ?_ (evOp_sound hC hR hd he))
          rintro a' w' ⟨s', c', hw', hR', hk', _⟩
          exact aAny_sound hC hK fuel _ _ _ _ (hk s' hk') ⟨c', hw', hR'⟩
        have h3 := aStep_sound (Q := Q) hC h1 hs
        simp only []
        split
        · rename_i hw
          simp only [hw, if_true] at h3
          exact .inl (Oper.wp_mono (fun a' w' h => aAny_sound hC hK fuel _ _ _ _ h2 h) h3)
        · rename_i hw
          simp only [hw, if_false] at h3
          exact aAny_sound hC hK fuel _ _ _ _ h2 h3⟩
theorem aOp_put {bar : Nat → Bool} {j : Nat} {oi oj : Oper} {v : V} (hj : ops[j]? = some oj) (hnb : bar j = false) (hap : oi.apart ops oj = true) {K : St → Prop} {s : St}
    (hy : aStep P C N ops oi v s) (h : aOp P C N ops bar j K (s.put oi.dst v)) :
    aOp P C N ops bar j (fun s' => (aStep P C N ops oi v s' ∧ ∀ z ∈ oi.op.operands, s'.val z = s.val z) ∧ K (s'.put oi.dst v)) s := by
  obtain ⟨h1, h2, h3⟩ := Oper.apart_spec hap
  unfold aOp at *
  simp only [hj] at *
  rcases h with ⟨hb, _⟩ | ⟨_, u, hu, hn⟩
  · rw [hnb] at hb; cases hb
  · exact .inr ⟨hnb, u, (aStep_put h1).1 hu, ⟨(aStep_put h3).2 hy, fun z hz => St.put_val fun d hd hxd => h3 d hd (by
      subst hxd
      exact List.mem_append_left _ (List.mem_filterMap.2 ⟨.tmp d, by simpa using hz, rfl⟩))⟩, by rw [← St.put_comm h2]; exact hn⟩
/-- whatever is listed, all that it waits for is listed -/
def Closed (ops : Array Oper) (listed : Array Bool) : Prop := ∀ j oj, ops[j]? = some oj → listed.getD j false = true → ∀ e ∈ oj.after, Region.binds .any e = true → listed.getD e.on false = true
theorem unlisted {listed : Array Bool} {i : Nat} (h : listed.getD i true = false) : listed.getD i false = false ∧ i < listed.size := by
  rcases Nat.lt_or_ge i listed.size with h' | h'
  · simp [h'] at h ⊢; exact h
  · simp [Array.getElem?_eq_none h'] at h
theorem closed_set {listed : Array Bool} {i : Nat} (hc : Closed ops listed) (hi : i ∈ Region.ready .any ops listed) : Closed ops (listed.setIfInBounds i true) := by
  intro j oj hj hl e he hb
  by_cases hij : i = j
  · subst hij
    obtain ⟨_, o, ho, hall⟩ := mem_ready.1 hi
    rw [hj] at ho
    simp only [Option.some.injEq] at ho
    subst ho
    exact getD_set_true (hall e he hb)
  · rw [getD_set_ne false hij] at hl
    exact getD_set_true (hc j oj hj hl e he hb)
theorem dependsB_spec {j i : Nat} (h : dependsB ops j i = true) : ∃ o, ops[j]? = some o ∧ ∃ e ∈ o.after, Region.binds .any e = true ∧ e.on = i := by
  unfold dependsB at h
  split at h
  · rename_i o ho
    obtain ⟨e, he, h⟩ := List.any_eq_true.1 h
    simp only [Bool.and_eq_true] at h
    exact ⟨o, ho, e, by simpa using he, h.1, Nat.eq_of_beq_eq_true h.2⟩
  · cases h
theorem bar_waits {listed : Array Bool} {b : Nat} (hc : Closed ops listed) (hs : succAll ops b = true) (hb : b ∈ Region.ready .any ops listed) : ∀ (d i : Nat), b - i = d → i < b → listed.getD i false = true := by
  intro d
  induction d using Nat.strongRecOn with
  | ind d ih =>
    intro i hd hi
    have h1 := List.all_eq_true.1 hs i (List.mem_range.2 hi)
    obtain ⟨j, hj, h1⟩ := List.any_eq_true.1 h1
    simp only [Bool.and_eq_true] at h1
    have hij : i < j := by have := h1.1; rw [Nat.blt_eq] at this; exact this
    have hjb := List.mem_range.1 hj
    obtain ⟨o, ho, e, he, hbd, heq⟩ := dependsB_spec h1.2
    rw [← heq]
    by_cases hjj : j = b
    · subst hjj
      obtain ⟨_, o', ho', hall⟩ := mem_ready.1 hb
      rw [ho] at ho'
      simp only [Option.some.injEq] at ho'
      subst ho'
      exact hall e he hbd
    · exact hc j o ho (ih (b - j) (by omega) j rfl (by omega)) e he hbd
theorem firm_waits {listed : Array Bool} {b : Nat} (hc : Closed ops listed) (hb : b ∈ Region.ready .any ops listed) : ∀ (n i : Nat), firm ops b n i = true → listed.getD i false = true
  | 0, _, h => by cases h
  | n + 1, i, h => by
    simp only [firm, Bool.or_eq_true] at h
    rcases h with h | h
    · obtain ⟨o, ho, e, he, hbd, heq⟩ := dependsB_spec h
      obtain ⟨_, o', ho', hall⟩ := mem_ready.1 hb
      rw [ho] at ho'
      simp only [Option.some.injEq] at ho'
      subst ho'
      rw [← heq]
      exact hall e he hbd
    · obtain ⟨j, _, h⟩ := List.any_eq_true.1 h
      simp only [Bool.and_eq_true] at h
      obtain ⟨o, ho, e, he, hbd, heq⟩ := dependsB_spec h.1.2
      rw [← heq]
      exact hc j o ho (firm_waits hc hb n j h.2) e he hbd
def SameRows (o o' : Nat → Ob) : Prop := ∀ d, o d = o' d ∨ ((∀ sz xs, o d ≠ .row sz xs) ∧ ∀ sz xs, o' d ≠ .row sz xs)
theorem SameRows.match {o o' : Nat → Ob} (h : SameRows o o') {α : Type} (d : Nat) (f : Nat → List T → Option α) :
    (match o d with | .row sz xs => f sz xs | _ => none) = (match o' d with | .row sz xs => f sz xs | _ => none) := by
  rcases h d with h | ⟨h1, h2⟩
  · rw [h]
  · cases ho : o d <;> cases ho' : o' d <;> first | rfl | exact absurd ho (h1 _ _) | exact absurd ho' (h2 _ _)
theorem store_rows {t : TypeId} {objs objs' : Nat → Ob} {a v : V} (h : stObj P t objs a v = some objs') (ha : a.isBp = true) : SameRows objs objs' := by
  unfold stObj stTo at h
  split at h
  · cases h
  · split at h
    · rename_i d o
      have key : ∀ n u, objs d = .box n u → ∀ m w, SameRows objs (({ env := fun _ => V.junk, objs := objs } : St).setOb d (.box m w)).objs := fun n u hu m w e => by
        by_cases he : e = d
        · subst he
          refine .inr ⟨fun sz xs => by rw [hu]; simp, fun sz xs => ?_⟩
          show (bif Nat.beq e e then Ob.box m w else objs e) ≠ _
          simp
        · refine .inl ?_
          show _ = (bif Nat.beq e d then Ob.box m w else objs e)
          rw [beq_ne he]; rfl
      split at h
      · rename_i m w hu
        split at h
        · split at h
          · rw [boxK_eq] at h
            obtain ⟨x, _, h⟩ := Option.bind_eq_some_iff.1 h
            simp only [Option.some.injEq] at h
            subst h
            exact key _ _ hu _ _
          · rw [leavesK_eq] at h
            obtain ⟨ls, _, h⟩ := Option.bind_eq_some_iff.1 h
            rw [leavesK_eq] at h
            obtain ⟨vs, _, h⟩ := Option.bind_eq_some_iff.1 h
            split at h
            · simp only [Option.some.injEq] at h
              subst h
              exact key _ _ hu _ _
            · cases h
        · split at h
          · rw [stLeafK_eq] at h
            obtain ⟨x, _, h⟩ := Option.bind_eq_some_iff.1 h
            simp only [Option.some.injEq] at h
            subst h
            exact key _ _ hu _ _
          · cases h
      · cases h
    · cases ha
    · cases h
theorem read_rows {C : Nat → Option Summary} {o : Oper} {ρ : Operand → V} {objs objs' : Nat → Ob} (hr : readOp o.op = true) (hv : ∀ x ∈ o.op.operands, (ρ x).rowy = true) (h : SameRows objs objs') :
    evQ P C o ρ objs some = evQ P C o ρ objs' some := by
  unfold evQ
  cases hop : o.op <;> rw [hop] at hr <;> (try (exfalso; revert hr; simp [readOp]; done))
  case load t a =>
    have ha := hv a (by rw [hop]; simp [Op.operands])
    simp only
    unfold ld
    cases hρ : ρ a <;> rw [hρ] at ha <;> first | (cases ha; done) | rfl | (rename_i z; cases z <;> rfl) | exact h.match _ _
  case indexAddr t x ix =>
    have hx := hv x (by rw [hop]; simp [Op.operands])
    simp only
    congr 1; funext i
    split
    · split
      · cases hρ : ρ x <;> rw [hρ] at hx <;> first | (cases hx; done) | rfl | (rename_i z; cases z <;> rfl) | exact h.match _ _
      · rfl
    · split
      · split
        · cases hρ : ρ x <;> rfl
        · rfl
      · rfl
    · rfl
  case slice t x lo hi mx =>
    have hx := hv x (by rw [hop]; simp [Op.operands])
    simp only
    cases mx with
    | some _ => rfl
    | none =>
      simp only
      cases hu : P.underlying t with
      | none => rfl
      | some dd =>
        cases dd <;> (cases hρ : ρ x <;> rw [hρ] at hx <;> first | (cases hx; done) | rfl | (rename_i z; cases z <;> rfl) | exact h.match _ _)
  case convert src dst x =>
    have hx := hv x (by rw [hop]; simp [Op.operands])
    have hrow : rowOf objs (ρ x) = rowOf objs' (ρ x) := by
      unfold rowOf
      cases hρ : ρ x <;> rw [hρ] at hx <;> first | (cases hx; done) | rfl | (rename_i z; cases z <;> rfl) | exact h.match _ _
    clear hx
    simp only
    generalize ρ x = v at hrow
    split
    · rfl
    · rfl
    · rw [hrow]
    · rfl
  case call c =>
    unfold readOp at hr
    simp only at hr ⊢
    split at hr
    · rename_i hc
      rw [hc]
      simp only
      split
      · rename_i x t hx ht
        have hx' := hv x (by rw [hop]; simp only [Op.operands, Call.operands, hc]; have : x ∈ c.args.toList := by rw [hx]; simp
                             simpa using this)
        unfold evLen
        cases hu : P.underlying t with
        | none => rfl
        | some dd => cases dd <;> (cases hρ : ρ x <;> rw [hρ] at hx' <;> first | (cases hx'; done) | rfl | (rename_i z; cases z <;> rfl) | exact h.match _ (fun _ xs => some (V.t (.int .i64 xs.length))))
      · rfl
    · cases hr
/-- what does not look at memory may stand on either side of a store -/
theorem aOp_store {bar : Nat → Bool} {j : Nat} {oi oj : Oper} {v : V} {s : St} (hj : ops[j]? = some oj) (hbj : bar j = true) (hst : storeOp oj.op = true) (hgi : oi.guard = none) (hfl : floatOp oi.op = true ∨ (readOp oi.op = true ∧ looseR ops j = true ∧ ∀ x ∈ oi.op.operands, (s.val x).rowy = true)) (hap : oi.apart ops oj = true) {K : St → Prop}
    (hy : aStep P C N ops oi v s) (h : aOp P C N ops bar j K (s.put oi.dst v)) :
    aOp P C N ops bar j (fun s' => (aStep P C N ops oi v s' ∧ ∀ z ∈ oi.op.operands, s'.val z = s.val z) ∧ K (s'.put oi.dst v)) s := by
  obtain ⟨h1, h2, h3⟩ := Oper.apart_spec hap
  unfold aOp at *
  simp only [hj] at *
  rcases h with ⟨_, hg, hd, ⟨t, a, x, objs', hop, hbp, hs, hK⟩ | ⟨h0, _⟩⟩ | ⟨hb, _⟩
  rotate_left
  · rw [hst] at h0; cases h0
  · rw [hbj] at hb; cases hb
  have hv : ∀ z, z ∈ oj.op.operands → (s.put oi.dst v).val z = s.val z := fun z hz => St.put_val fun d hd hxd => h1 d hd (by
    subst hxd
    exact List.mem_append_left _ (List.mem_filterMap.2 ⟨.tmp d, by simpa using hz, rfl⟩))
  rw [hv a (by rw [hop]; simp [Op.operands])] at hbp
  rw [St.put_objs, hv a (by rw [hop]; simp [Op.operands]), hv x (by rw [hop]; simp [Op.operands])] at hs
  have hval : ∀ z, z ∈ oi.op.operands → ((⟨s.env, objs'⟩ : St).put oj.dst (.tup [])).val z = s.val z := fun z hz => by
    rw [St.put_val (s := ⟨s.env, objs'⟩) fun d hd hxd => h3 d hd (by
      subst hxd
      exact List.mem_append_left _ (List.mem_filterMap.2 ⟨.tmp d, by simpa using hz, rfl⟩))]
    cases z <;> rfl
  refine .inl ⟨hbj, hg, hd, .inl ⟨t, a, x, objs', hop, hbp, hs, ⟨?_, hval⟩, ?_⟩⟩
  · -- the step
    obtain ⟨hd', hy⟩ := hy
    refine ⟨hd', ?_⟩
    rw [hgi] at hy ⊢
    show evQ P C oi _ _ some = some v
    have hy : evQ P C oi s.val s.objs some = some v := hy
    rw [evQ_congr (ρ' := s.val) hval, St.put_objs]
    show evQ P C oi s.val objs' some = some v
    rcases hfl with hfl | ⟨hr, hlr, hrow⟩
    · have hobj : ∀ (ρ : Operand → V) (o1 o2 : Nat → Ob), evQ P C oi ρ o1 some = evQ P C oi ρ o2 some := fun ρ o1 o2 => by
        unfold evQ
        cases hop' : oi.op <;> first | rfl | (rw [hop'] at hfl; cases hfl)
      rw [hobj _ _ s.objs]
      exact hy
    · have := read_rows (P := P) (C := C) hr hrow (store_rows hs (hbp hlr))
      exact this.symm.trans hy
  · have : ((⟨s.env, objs'⟩ : St).put oj.dst (.tup [])).put oi.dst v = (⟨(s.put oi.dst v).env, objs'⟩ : St).put oj.dst (.tup []) := by
      rw [St.put_comm (x := oj.dst) (y := oi.dst) (fun d hd he => h2 d he hd)]
      cases oi.dst <;> rfl
    rw [this]
    exact hK
theorem aAny_first {bar : Nat → Bool} {K : St → Prop} {i : Nat} {oi : Oper} {v : V} (hi : ops[i]? = some oi) (hbi : bar i = false) (hsucc : ∀ j, bar j = true → succOk ops j = true) :
    ∀ (fuel : Nat) (listed : Array Bool) (s : St), Closed ops listed → (∀ j, bar j = true → listed.getD j true = true ∨ i < j) →
      (∀ j oj, ops[j]? = some oj → j ≠ i → listed.getD j true = false → (∀ e ∈ oj.after, Region.binds .any e = true → e.on ≠ i) → oi.apart ops oj = true) →
      i ∈ Region.ready .any ops listed → aStep P C N ops oi v s → Rd ops i oi s →
      aAny P C N .any ops bar K fuel (listed.setIfInBounds i true) (s.put oi.dst v) → aAny P C N .any ops bar K (fuel + 1) listed s := by
  have hone : ∀ (K : St → Prop) (s : St), aStep P C N ops oi v s → K (s.put oi.dst v) → aOp P C N ops bar i K s := fun K s h1 h2 => by
    unfold aOp
    simp only [hi]
    exact .inr ⟨hbi, v, h1, h2⟩
  intro fuel
  induction fuel with
  | zero =>
    intro listed s _ _ _ hr hy _ H
    refine ⟨fun h => (by rw [h] at hr; cases hr), fun j hj => ?_⟩
    by_cases hji : j = i
    · subst hji; exact hone _ _ hy H
    · have := ready_mono hj hji
      rw [H.1] at this
      cases this
  | succ fuel ih =>
    intro listed s hcl hbar hfree hr hy hrd H
    refine ⟨fun h => (by rw [h] at hr; cases hr), fun j hj => ?_⟩
    by_cases hji : j = i
    · subst hji; exact hone _ _ hy H
    · have h1 := H.2 j (ready_mono hj hji)
      obtain ⟨hjun, oj, hoj, hall⟩ := mem_ready.1 hj
      have hbj : bar j = false ∨ (bar j = true ∧ storeOp oj.op = true ∧ oi.guard = none ∧ (floatOp oi.op = true ∨ (readOp oi.op = true ∧ looseR ops j = true ∧ ∀ x ∈ oi.op.operands, (s.val x).rowy = true))) := by
        cases hb : bar j with
        | false => exact .inl rfl
        | true =>
          rcases hbar j hb with h | h
          · rw [hjun] at h; cases h
          · have h3 := (unlisted (mem_ready.1 hr).1).1
            have hs := hsucc j hb
            unfold succOk at hs
            rcases Bool.or_eq_true _ _ |>.mp hs with hs | hs
            · have h2 := bar_waits hcl hs hj _ i rfl h
              rw [h2] at h3; cases h3
            · obtain ⟨hs1, hs2⟩ := (Bool.and_eq_true _ _).mp hs
              have h4 := List.all_eq_true.1 hs2 i (List.mem_range.2 h)
              cases hfirm : firm ops j j i with
              | true =>
                have h2 := firm_waits hcl hj _ i hfirm
                rw [h2] at h3; cases h3
              | false =>
                rw [hfirm, Bool.false_or] at h4
                refine .inr ⟨rfl, ?_⟩
                have hs1' := hs1
                unfold storeB at hs1
                rw [hoj] at hs1
                unfold floatB at h4
                rw [hi] at h4
                obtain ⟨h5, h6⟩ := (Bool.and_eq_true _ _).mp h4
                have hgn : oi.guard = none := by
                  cases hgg : oi.guard with
                  | none => rfl
                  | some _ => rw [hgg] at h5; cases h5
                refine ⟨hs1, hgn, ?_⟩
                rcases (Bool.or_eq_true _ _).mp h6 with h6 | h6
                · exact .inl h6
                · refine .inr ⟨h6, List.any_eq_true.2 ⟨i, List.mem_range.2 h, ?_⟩, ?_⟩
                  · unfold readB; rw [hi]; simp only [h6, hfirm]; rfl
                  · have hr2 := hrd hgn
                    unfold rdOk at hr2
                    have hl : looseB ops i = true := by
                      refine List.any_eq_true.2 ⟨j, List.mem_range.2 (by exact (Array.getElem?_eq_some_iff.1 hoj).1), ?_⟩
                      rw [hs1', hfirm]
                      simp [h]
                    rw [h6, hl] at hr2
                    simp only [Bool.not_true, Bool.false_or] at hr2
                    exact fun x hx => List.all_eq_true.1 hr2 x (by simpa using hx)
      have hnot : ∀ e ∈ oj.after, Region.binds .any e = true → e.on ≠ i := fun e he hb heq => by
        have h1 := hall e he hb
        have h0 := (mem_ready.1 hr).1
        rw [heq] at h1
        rcases Nat.lt_or_ge i listed.size with h' | h'
        · simp [h'] at h0 h1; rw [h0] at h1; cases h1
        · simp [Array.getElem?_eq_none h'] at h1
      have h2 : aOp P C N ops bar j (fun s' => (aStep P C N ops oi v s' ∧ ∀ z ∈ oi.op.operands, s'.val z = s.val z) ∧ aAny P C N .any ops bar K fuel ((listed.setIfInBounds i true).setIfInBounds j true) (s'.put oi.dst v)) s := by
        rcases hbj with hbj | ⟨hb1, hb2, hb3, hb4⟩
        · exact aOp_put hoj hbj (hfree j oj hoj hji hjun hnot) hy h1
        · exact aOp_store hoj hb1 hb2 hb3 hb4 (hfree j oj hoj hji hjun hnot) hy h1
      have hfree' : ∀ k ok, ops[k]? = some ok → k ≠ i → (listed.setIfInBounds j true).getD k true = false →
          (∀ e ∈ ok.after, Region.binds .any e = true → e.on ≠ i) → oi.apart ops ok = true := fun k ok hk hki hun hno => by
        refine hfree k ok hk hki ?_ hno
        by_cases hjk : j = k
        · subst hjk; exact hjun
        · rw [getD_set_ne true hjk] at hun; exact hun
      have hbar' : ∀ k, bar k = true → (listed.setIfInBounds j true).getD k true = true ∨ i < k := fun k hk => by
        rcases hbar k hk with h | h
        · by_cases hjk : j = k
          · subst hjk; rw [hjun] at h; cases h
          · exact .inl (by rw [getD_set_ne true hjk]; exact h)
        · exact .inr h
      refine aOp_mono (fun s' h3 => ih (listed.setIfInBounds j true) s' (closed_set hcl hj) hbar' hfree' (ready_mono hr (Ne.symm hji)) h3.1.1 (fun hg => by
        have := hrd hg
        unfold rdOk at this ⊢
        simp only [Bool.or_eq_true] at this ⊢
        refine this.imp id fun hall => List.all_eq_true.2 fun x hx => ?_
        rw [h3.1.2 x (by simpa using hx)]
        exact List.all_eq_true.1 hall x hx) ?_) h2
      rw [Array.setIfInBounds_comm _ _ hji]
      exact h3.2
/-- the lexical order -/
def aLex (P : Program) (C : Nat → Option Summary) (N : Nat) (ops : Array Oper) : List Oper → (St → Prop) → St → Prop
  | [], K, s => K s
  | o :: os, K, s => ∃ v, aStep P C N ops o v s ∧ aLex P C N ops os K (s.put o.dst v)
theorem aLex_mono {K K' : St → Prop} (h : ∀ s, K s → K' s) : ∀ {l : List Oper} {s : St}, aLex P C N ops l K s → aLex P C N ops l K' s
  | [], _, hh => h _ hh
  | _ :: _, _, ⟨v, h1, h2⟩ => ⟨v, h1, aLex_mono h h2⟩
theorem aLex_append {K : St → Prop} : ∀ {l m : List Oper} {s : St}, aLex P C N ops l (aLex P C N ops m K) s → aLex P C N ops (l ++ m) K s
  | [], _, _, h => h
  | _ :: _, _, _, ⟨v, h1, h2⟩ => ⟨v, h1, aLex_append h2⟩
/-- the lexical order, with those that make or write memory in their turn -/
def bLex (P : Program) (C : Nat → Option Summary) (N : Nat) (ops : Array Oper) (bar : Nat → Bool) : List Oper → Nat → (St → Prop) → St → Prop
  | [], _, K, s => K s
  | o :: os, k, K, s => (bar k = true ∧ aBar P C N (looseR ops k) o (bLex P C N ops bar os (k + 1) K) s) ∨ (bar k = false ∧ ∃ v, aStep P C N ops o v s ∧ Rd ops k o s ∧ bLex P C N ops bar os (k + 1) K (s.put o.dst v))
theorem bLex_append {bar : Nat → Bool} {K : St → Prop} : ∀ {l m : List Oper} {k : Nat} {s : St}, (∀ j, j < l.length → bar (k + j) = false) → (∀ o ∈ l, o.guard = none → readOp o.op = false) → aLex P C N ops l (bLex P C N ops bar m (k + l.length) K) s → bLex P C N ops bar (l ++ m) k K s
  | [], _, _, _, _, _, h => h
  | o :: l, m, k, s, hb, hr, ⟨v, h1, h2⟩ => by
    refine .inr ⟨hb 0 (by simp), v, h1, fun hg => by unfold rdOk; rw [hr o (by simp) hg]; rfl, bLex_append (fun j hj => by rw [Nat.add_assoc, Nat.add_comm 1 j]; exact hb (j + 1) (by simpa using hj)) (fun o ho => hr o (List.mem_cons_of_mem _ ho)) ?_⟩
    have : k + 1 + l.length = k + (o :: l).length := by simp; omega
    rw [this]; exact h2
def lexFromB (ops : Array Oper) (bar : Nat → Bool) : Nat → Nat → Array Bool → Bool
  | 0, _, listed => (Region.ready .any ops listed).isEmpty
  | fuel + 1, k, listed => (bif bar k then isOne (Region.ready .any ops listed) k && succOk ops k else (Region.ready .any ops listed).contains k && Region.free .any ops listed k) && lexFromB ops bar fuel (k + 1) (listed.setIfInBounds k true)
theorem isOne_spec {l : List Nat} {k : Nat} (h : isOne l k = true) : l = [k] := by
  unfold isOne at h
  split at h
  · rw [Nat.eq_of_beq_eq_true h]
  · cases h
theorem aAny_lex {bar : Nat → Bool} {K : St → Prop} (hsucc : ∀ j, bar j = true → succOk ops j = true) : ∀ (l : List Oper) (k : Nat) (listed : Array Bool) (s : St), (∀ j, l[j]? = ops[k + j]?) → Closed ops listed → (∀ j, j < k → listed.getD j true = true) →
    lexFromB ops bar l.length k listed = true → bLex P C N ops bar l k K s → aAny P C N .any ops bar K l.length listed s
  | [], _, _, _, _, _, _, hB, h => ⟨by simpa [lexFromB] using hB, h⟩
  | o :: l, k, listed, s, hl, hcl, hpre, hB, h => by
    have h0 : ops[k]? = some o := by simpa using (hl 0).symm
    have hl' : ∀ j, l[j]? = ops[k + 1 + j]? := fun j => by have := hl (j + 1); simpa [Nat.add_assoc, Nat.add_comm 1 j] using this
    have hpre' : ∀ j, j < k + 1 → (listed.setIfInBounds k true).getD j true = true := fun j hj => by
      by_cases hjk : k = j
      · subst hjk
        rw [Array.getD_eq_getD_getElem?, Array.getElem?_setIfInBounds]
        rw [if_pos rfl]; split <;> rfl
      · rw [getD_set_ne true hjk]; exact hpre j (by omega)
    simp only [List.length_cons, lexFromB, Bool.and_eq_true] at hB
    obtain ⟨hB, hB'⟩ := hB
    rcases h with ⟨hb, h⟩ | ⟨hb, v, hy, hrd, hK⟩
    · rw [hb] at hB
      simp only [cond_true, Bool.and_eq_true] at hB
      have hone := isOne_spec hB.1
      have hin : k ∈ Region.ready .any ops listed := by rw [hone]; simp
      refine ⟨fun he => (by rw [hone] at he; cases he), fun i hi => ?_⟩
      rw [hone] at hi
      have : i = k := by simpa using hi
      subst this
      unfold aOp
      simp only [h0]
      exact .inl ⟨hb, aBar_mono (fun s' h' => aAny_lex hsucc l (i + 1) _ s' hl' (closed_set hcl hin) hpre' hB' h') h⟩
    · rw [hb] at hB
      simp only [cond_false, Bool.and_eq_true] at hB
      obtain ⟨hr, hf⟩ := hB
      have hin : k ∈ Region.ready .any ops listed := by simpa using hr
      refine aAny_first h0 hb hsucc l.length listed s hcl (fun j hj => ?_) (Region.free_spec h0 hf) hin hy hrd (aAny_lex hsucc l (k + 1) _ _ hl' (closed_set hcl hin) hpre' hB' hK)
      by_cases hjk : j < k
      · exact .inl (hpre j hjk)
      · refine .inr (Nat.lt_of_le_of_ne (by omega) fun e => ?_)
        subst e; rw [hb] at hj; cases hj
/-- which they are -/
def barB (ops : Array Oper) (k : Nat) : Bool :=
  match ops[k]? with
  | some o => barOk ops o k
  | none => false
def lexOkB (ops : Array Oper) : Bool := lexFromB ops (barB ops) ops.size 0 (Array.replicate ops.size false)
/-- a region that draws its order -/
theorem region_draw {id : Nat} {K : St → Prop} {s : St} {a : Act} {w : World} (hC : OrcSound P w0.g C) (hm : P.follows .mixedOrders = true) (hB : lexOkB ops = true)
    (h : bLex P C N ops (barB ops) ops.toList 0 K s) (hs : Is w0 cold0 N s a w) (hK : ∀ s a w, K s → Is w0 cold0 N s a w → Q .normal a w) : (Code.region id ops true).wp P Q a w := by
  have hsucc : ∀ j, barB ops j = true → succOk ops j = true := fun j hj => by
    unfold barB at hj
    split at hj
    · unfold barOk at hj
      simp only [Bool.and_eq_true] at hj
      exact hj.1.2
    · cases hj
  have h1 := aAny_lex hsucc ops.toList 0 (Array.replicate ops.size false) s (by simp) (fun j oj hj hl => by simp [Array.getElem?_replicate] at hl; split at hl <;> simp_all) (fun j hj => by omega) (by unfold lexOkB at hB; simpa using hB) h
  refine wp_region_any hm (aAny_sound hC hK _ _ _ _ _ (by simpa using h1) (hs.below ?_))
  exact ⟨rfl, rfl, rfl, Nat.le_refl _, fun _ _ => rfl⟩
theorem aLex_list (hC : OrcSound P w0.g C) {K : St → Prop} {rest : List Oper} : ∀ {l : List Oper} {s : St} {a : Act} {w : World}, aLex P C N ops l K s → Is w0 cold0 N s a w →
    (∀ s' a' w', K s' → Is w0 cold0 N s' a' w' → wpList P ops Q rest a' w') → wpList P ops Q (l ++ rest) a w
  | [], s, a, w, h, hs, hK => hK _ _ _ h hs
  | o :: l, s, a, w, ⟨v, h1, h2⟩, hs, hK => by
    have h3 := aStep_sound (Q := Q) hC h1 hs
    show (if Region.wanted o (yielded ops a.tmps) = true then o.wp P a w (wpList P ops Q (l ++ rest)) Q ∨ _ else wpList P ops Q (l ++ rest) (a.put o.dst undef) w)
    split
    · rename_i hw
      simp only [hw, if_true] at h3
      exact .inl (Oper.wp_mono (fun a' w' h => aLex_list hC h2 h hK) h3)
    · rename_i hw
      simp only [hw, if_false] at h3
      exact aLex_list hC h2 h3 hK

/-! ### the executor's word -/
def CtxA (ops : Array Oper) (ctx : Option (Nat × Bool)) (s : St) : Prop :=
  match ctx with
  | none => True
  | some (j, w) => ∃ jd, tmpOf ops j = some jd ∧ s.env jd = .t (.bool w)
def CtxN (ops : Array Oper) (ctx : Option (Nat × Bool)) (l : List Oper) : Prop :=
  match ctx with
  | none => True
  | some (j, w) => ∀ jd, tmpOf ops j = some jd → jd ∉ dsts l
theorem gEq_spec {a b : Option (Nat × Bool)} (h : gEq a b = true) : a = b := by
  unfold gEq at h
  split at h
  · rfl
  · simp only [Bool.and_eq_true, beq_iff_eq] at h
    rw [Nat.eq_of_beq_eq_true h.1, h.2]
  · cases h
theorem spanG_spec {ctx : Option (Nat × Bool)} : ∀ {l : List Oper} {p : Oper} {rest : List Oper}, (spanG ctx l).2 = p :: rest → l = (spanG ctx l).1 ++ p :: rest ∧ p.guard = ctx
  | [], _, _, h => by simp [spanG] at h
  | o :: os, p, rest, h => by
    unfold spanG at h ⊢
    cases hg : gEq o.guard ctx with
    | true =>
      rw [hg] at h
      simp only [cond_true, List.cons.injEq] at h
      obtain ⟨rfl, rfl⟩ := h
      exact ⟨rfl, gEq_spec hg⟩
    | false =>
      rw [hg] at h
      simp only [cond_false] at h ⊢
      obtain ⟨h1, h2⟩ := spanG_spec h
      exact ⟨by rw [List.cons_append, ← h1], h2⟩
theorem dsts_cons {o : Oper} {os : List Oper} {t : Nat} : t ∈ dsts (o :: os) ↔ o.dst = some t ∨ t ∈ dsts os := by
  have h : dsts (o :: os) = (match o.dst with | some d => d :: dsts os | none => dsts os) := rfl
  rw [h]
  cases o.dst with
  | none => simp
  | some d => simp [eq_comm]
theorem dsts_append {l m : List Oper} {t : Nat} : t ∈ dsts (l ++ m) ↔ t ∈ dsts l ∨ t ∈ dsts m := by
  induction l with
  | nil => simp [dsts]
  | cons o l ih => rw [List.cons_append, dsts_cons, dsts_cons, ih, or_assoc]
theorem CtxA.keep {ctx : Option (Nat × Bool)} {s s' : St} {l : List Oper} (h : CtxA ops ctx s) (hn : CtxN ops ctx l) (hf : ∀ t, t ∉ dsts l → s'.env t = s.env t) : CtxA ops ctx s' := by
  cases ctx with
  | none => trivial
  | some p =>
    obtain ⟨jd, h1, h2⟩ := h
    exact ⟨jd, h1, by rw [hf jd (hn jd h1)]; exact h2⟩
theorem CtxN.sub {ctx : Option (Nat × Bool)} {l m : List Oper} (h : CtxN ops ctx l) (hs : ∀ t, t ∈ dsts m → t ∈ dsts l) : CtxN ops ctx m := by
  cases ctx with
  | none => trivial
  | some p => exact fun jd h1 hm => h jd h1 (hs jd hm)
theorem aStep_ctx {ctx : Option (Nat × Bool)} {o : Oper} {v : V} {s : St} (hg : o.guard = ctx) (hc : CtxA ops ctx s) (hd : okDst N o = true) (h : evQ P C o s.val s.objs some = some v) : aStep P C N ops o v s := by
  refine ⟨hd, ?_⟩
  cases ctx with
  | none => rw [hg]; exact h
  | some p =>
    rw [hg]
    obtain ⟨jd, h1, h2⟩ := hc
    exact ⟨jd, h1, .inl ⟨h2, h⟩⟩
/-- what a walk leaves alone -/
def Fr (s0 : St) (l : List Oper) (s : St) : Prop := s.objs = s0.objs ∧ ∀ t, t ∉ dsts l → s.env t = s0.env t
theorem skip_lex {j jd : Nat} {w : Bool} (hj : tmpOf ops j = some jd) : ∀ {l : List Oper} {ds : List Nat} {s : St}, skipB N ops j w ds l = true → s.env jd = .t (.bool (!w)) → (∀ t, t ∈ ds → s.env t = .tup []) →
    jd ∉ dsts l → aLex P C N ops l (Fr s l) s
  | [], ds, s, _, _, _, _ => ⟨rfl, fun _ _ => rfl⟩
  | o :: l, ds, s, h, he, hds, hn => by
    simp only [skipB, Bool.and_eq_true] at h
    obtain ⟨⟨hd, hg⟩, h⟩ := h
    have hjd : o.dst ≠ some jd := fun e => hn (dsts_cons.2 (.inl e))
    have hstep : aStep P C N ops o (.tup []) s := by
      refine ⟨hd, ?_⟩
      cases hgo : o.guard with
      | none => rw [hgo] at hg; cases hg
      | some p =>
        obtain ⟨g, x⟩ := p
        rw [hgo] at hg
        simp only [Bool.or_eq_true, Bool.and_eq_true, beq_iff_eq] at hg
        rcases hg with ⟨h1, h2⟩ | h1
        · have h1 := Nat.eq_of_beq_eq_true h1
          subst h1; subst h2
          exact ⟨jd, hj, .inr ⟨.inl he, rfl⟩⟩
        · cases ht : tmpOf ops g with
          | none => rw [ht] at h1; cases h1
          | some t =>
            rw [ht] at h1
            obtain ⟨e, he', hte⟩ := List.any_eq_true.1 h1
            have := Nat.eq_of_beq_eq_true hte
            subst this
            exact ⟨t, ht, .inr ⟨.inr (hds t he'), rfl⟩⟩
    refine ⟨_, hstep, aLex_mono ?_ (skip_lex hj (s := s.put o.dst (.tup [])) h (by rw [St.put_env_ne hjd]; exact he) ?_ fun hm => hn (dsts_cons.2 (.inr hm)))⟩
    · rintro s' ⟨h1, h2⟩
      refine ⟨by rw [h1, St.put_objs], fun t ht => ?_⟩
      rw [dsts_cons] at ht
      rw [h2 t (fun h => ht (.inr h)), St.put_env_ne fun h => ht (.inl h)]
    · intro t ht
      by_cases hd : o.dst = some t
      · rw [hd, St.put_env_eq]
      · rw [St.put_env_ne hd]
        refine hds t ?_
        revert ht
        cases ho : o.dst with
        | none => exact id
        | some d =>
          intro ht
          rcases List.mem_cons.1 ht with rfl | ht
          · exact absurd ho hd
          · exact ht
theorem asBoolV {v : V} {u : Bool} (h : v.asBool = some u) : v = .t (.bool u) := by
  unfold V.asBool at h
  split at h
  · simp only [Option.some.injEq] at h; subst h; rfl
  · cases h
theorem pick_ev {o : Oper} {x y : Operand} {jd : Nat} {s : St} {b u : Bool} (ho : o.op = .pick (.tmp jd) x y) (hb : s.env jd = .t (.bool b)) (hu : s.val (if b = true then x else y) = .t (.bool u)) :
    evQ P C o s.val s.objs some = some (.t (.bool u)) := by
  unfold evQ
  rw [ho]
  simp only
  have : s.val (.tmp jd) = .t (.bool b) := hb
  rw [this]
  simp only
  split
  · rename_i q q' h1 h2
    cases b <;> simp only [if_true, if_false, Bool.false_eq_true, h1, h2] at hu ⊢ <;> rw [hu]
  · cases b <;> simp only [if_true, if_false, Bool.false_eq_true] at hu ⊢ <;> rw [hu]
/-- THE QUIET WALK: what the executor says of a run of quiet operations holds in the lexical order -/
theorem evOps_lex : ∀ (fuel : Nat) (ctx : Option (Nat × Bool)) (l : List Oper) (s : St) (R : Type) (k : St → Option R) (r : R), ctx ≠ none → evOps P N C ops fuel true ctx l s R k = some r →
    ∀ s0 : St, s0.le s → CtxA ops ctx s0 → CtxN ops ctx l → aLex P C N ops l (fun s' => Fr s0 l s' ∧ ∃ s1 : St, s'.le s1 ∧ k s1 = some r) s0
  | 0, _, _, _, _, _, _, _, h => by simp [evOps] at h
  | n + 1, _, [], s, _, k, r, _, h => fun s0 hs _ _ => ⟨⟨rfl, fun _ _ => rfl⟩, s, hs, by simpa [evOps] using h⟩
  | n + 1, ctx, o :: os, s, R, k, r, hne, h => fun s0 hs hc hn => by
    rw [evOps] at h
    have hng : noG ctx = false := by cases ctx with | none => exact absurd rfl hne | some _ => rfl
    rw [hng] at h
    simp only [Bool.false_and, cond_false] at h
    cases hg : gEq o.guard ctx with
    | true =>
      simp only [hg, cond_true] at h
      cases hd : okDst N o with
      | false => rw [hd] at h; cases h
      | true =>
      simp only [hd, cond_true, Bool.not_false, Bool.true_or, Bool.and_true] at h
      cases ha : okArgs o s with
      | false => rw [ha] at h; cases h
      | true =>
      simp only [ha, cond_true] at h
      rw [evQ_nat] at h
      obtain ⟨v, hv, h⟩ := Option.bind_eq_some_iff.1 h
      have hv0 : evQ P C o s0.val s0.objs some = some v := by
        rw [hs.1, evQ_congr (ρ' := s.val)]
        · exact hv
        · intro x hx
          refine hs.val fun hj => ?_
          have := List.all_eq_true.1 ha x (by simpa using hx)
          rw [hj] at this; cases this
      have hnd : ∀ t, t ∈ dsts os → t ∈ dsts (o :: os) := fun t ht => dsts_cons.2 (.inr ht)
      refine ⟨v, aStep_ctx (gEq_spec hg) hc hd hv0, aLex_mono ?_ (evOps_lex n ctx os _ R k r hne h (s0.put o.dst v) (hs.put _ _) (hc.keep hn fun t ht => St.put_env_ne fun e => ht (dsts_cons.2 (.inl e))) (hn.sub hnd))⟩
      rintro s' ⟨⟨h1, h2⟩, h3⟩
      refine ⟨⟨by rw [h1, St.put_objs], fun t ht => ?_⟩, h3⟩
      rw [dsts_cons] at ht
      rw [h2 t (fun h => ht (.inr h)), St.put_env_ne fun h => ht (.inl h)]
    | false =>
      simp only [hg, cond_false] at h
      split at h
      · cases h
      rename_i j w hgo
      split at h
      · cases h
      rename_i jd hj
      split at h
      rotate_left
      · cases h
      rename_i b hb
      split at h
      rotate_left
      · cases h
      rename_i p rest hrun
      obtain ⟨hl, hpg⟩ := spanG_spec hrun
      split at h
      rotate_left
      · cases h
      rename_i cc x y pd hpo hpd
      cases hok : (Nat.beq cc jd && okDst N p && skipB N ops j w [] (spanG ctx (o :: os)).1 && !memB jd (dsts (spanG ctx (o :: os)).1)) with
      | false => rw [hok] at h; cases h
      | true =>
      simp only [hok, cond_true] at h
      simp only [Bool.and_eq_true, Bool.not_eq_true'] at hok
      obtain ⟨⟨⟨hcc, hpN⟩, hskip⟩, hmem⟩ := hok
      have hcc := Nat.eq_of_beq_eq_true hcc
      subst hcc
      have hmem := memB_spec hmem
      obtain ⟨u, hu, h⟩ := Option.bind_eq_some_iff.1 h
      generalize hr1 : (spanG ctx (o :: os)).1 = r1 at *
      have hb0 : s0.env cc = .t (.bool b) := by
        have := hs.val (x := .tmp cc) (by show s.env cc ≠ _; rw [hb]; simp)
        exact this.trans hb
      -- the run under the guard
      have hjunk : ∀ (z : Operand) (s' : St), Fr s0 r1 s' → ((junkAll s (dsts r1)).val z).asBool = some u → s'.val z = .t (.bool u) := fun z s' hf hz => by
        have hz := asBoolV hz
        cases z with
        | tmp t =>
          have hz : (junkAll s (dsts r1)).env t = .t (.bool u) := hz
          rcases junkAll_env (s := s) (ds := dsts r1) (t := t) with ⟨h1, h2⟩ | ⟨h1, h2⟩
          · rw [h2] at hz; cases hz
          · show s'.env t = _
            rw [hf.2 t h1]
            rw [h2] at hz
            rcases hs.2 t with e | e
            · rw [← e]; exact hz
            · rw [e] at hz; cases hz
        | _ => exact hz
      have hrun1 : aLex P C N ops r1 (fun s' => Fr s0 r1 s' ∧ s'.val (if b = true then x else y) = .t (.bool u)) s0 := by
        have live : ∀ z : Operand, b = w → evOps P N C ops n true (some (j, w)) r1 s Bool (fun s' => (s'.val z).asBool) = some u →
            aLex P C N ops r1 (fun s' => Fr s0 r1 s' ∧ s'.val z = .t (.bool u)) s0 := fun z hbw hz => by
          refine aLex_mono ?_ (evOps_lex n (some (j, w)) r1 s Bool _ u (by simp) hz s0 hs ⟨cc, hj, by rw [← hbw]; exact hb0⟩ (fun jd' hj' => by rw [hj] at hj'; cases hj'; exact hmem))
          rintro s' ⟨h1, s1, h2, h3⟩
          refine ⟨h1, ?_⟩
          have h3 := asBoolV h3
          rw [h2.val (by rw [h3]; simp)]
          exact h3
        have dead : ∀ z : Operand, b = !w → ((junkAll s (dsts r1)).val z).asBool = some u →
            aLex P C N ops r1 (fun s' => Fr s0 r1 s' ∧ s'.val z = .t (.bool u)) s0 := fun z hbw hz =>
          aLex_mono (fun s' hf => ⟨hf, hjunk z s' hf hz⟩) (skip_lex hj hskip (by rw [← hbw]; exact hb0) (by simp) hmem)
        cases b <;> cases w <;> simp only [if_true, if_false, Bool.false_eq_true] at hu ⊢
        · exact live y rfl hu
        · exact dead y rfl hu
        · exact dead x rfl hu
        · exact live x rfl hu
      rw [hl]
      refine aLex_append (aLex_mono ?_ hrun1)
      rintro s' ⟨hf, hz⟩
      have hsub : ∀ t, t ∈ dsts r1 → t ∈ dsts (o :: os) := fun t ht => by rw [hl]; exact dsts_append.2 (.inl ht)
      have hc' : CtxA ops ctx s' := hc.keep (hn.sub hsub) hf.2
      have hev := pick_ev (P := P) (C := C) hpo (s := s') (by rw [hf.2 cc hmem]; exact hb0) hz
      refine ⟨.t (.bool u), aStep_ctx hpg hc' hpN hev, ?_⟩
      have hn' : CtxN ops ctx rest := hn.sub fun t ht => by rw [hl]; exact dsts_append.2 (.inr (dsts_cons.2 (.inr ht)))
      have hle : (s'.put p.dst (.t (.bool u))).le ((junkAll s (dsts r1)).putN pd (.t (.bool u))) := by
        rw [hpd]
        refine St.le.put (d := some pd) (v := .t (.bool u)) ⟨?_, fun t => ?_⟩
        · rw [junkAll_objs, hf.1, hs.1]
        · rcases junkAll_env (s := s) (ds := dsts r1) (t := t) with ⟨h1, h2⟩ | ⟨h1, h2⟩
          · exact .inr h2
          · rw [h2, hf.2 t h1]; exact hs.2 t
      refine aLex_mono ?_ (evOps_lex n ctx rest _ R k r hne h _ hle (hc'.keep (l := [p]) (by
        cases ctx with
        | none => trivial
        | some q => exact fun jd' hj' hm => hn jd' hj' (by
            rw [hl, dsts_append, dsts_cons]
            rcases dsts_cons.1 hm with h | h
            · exact .inr (.inl h)
            · simp [dsts] at h)) fun t ht => St.put_env_ne fun e => ht (dsts_cons.2 (.inl e))) hn')
      rintro s2 ⟨⟨h1, h2⟩, h3⟩
      refine ⟨⟨by rw [h1, St.put_objs, hf.1], fun t ht => ?_⟩, h3⟩
      rw [dsts_append, dsts_cons] at ht
      rw [h2 t (fun h => ht (.inr (.inr h))), St.put_env_ne fun h => ht (.inr (.inl h)), hf.2 t fun h => ht (.inl h)]
/-- a run under a guard, and the pick that ends it -/
theorem group_lex {n : Nat} {ctx : Option (Nat × Bool)} {s s0 : St} {j jd : Nat} {w b u : Bool} {r1 : List Oper} {p : Oper} {x y : Operand} {pd : Nat} (hs : s0.le s) (hc : CtxA ops ctx s0) (hn : CtxN ops ctx r1)
    (hj : tmpOf ops j = some jd) (hb : s.env jd = .t (.bool b)) (hpo : p.op = .pick (.tmp jd) x y) (hpd : p.dst = some pd) (hpg : p.guard = ctx) (hpN : okDst N p = true)
    (hmem : jd ∉ dsts r1)
    (hu : (if b = true then
            (match w with
            | true => evOps P N C ops n true (some (j, w)) r1 s Bool fun s' => (s'.val x).asBool
            | false => ((junkAll s (dsts r1)).val x).asBool)
          else
            (match w with
            | true => ((junkAll s (dsts r1)).val y).asBool
            | false => evOps P N C ops n true (some (j, w)) r1 s Bool fun s' => (s'.val y).asBool)) = some u) (hskip : skipB N ops j w [] r1 = true) :
    aLex P C N ops (r1 ++ [p]) (fun s2 => s2.le ((junkAll s (dsts r1)).putN pd (.t (.bool u)))) s0 := by
  have hb0 : s0.env jd = .t (.bool b) := by
    have := hs.val (x := .tmp jd) (by show s.env jd ≠ _; rw [hb]; simp)
    exact this.trans hb
  have hjunk : ∀ (z : Operand) (s' : St), Fr s0 r1 s' → ((junkAll s (dsts r1)).val z).asBool = some u → s'.val z = .t (.bool u) := fun z s' hf hz => by
    have hz := asBoolV hz
    cases z with
    | tmp t =>
      have hz : (junkAll s (dsts r1)).env t = .t (.bool u) := hz
      rcases junkAll_env (s := s) (ds := dsts r1) (t := t) with ⟨h1, h2⟩ | ⟨h1, h2⟩
      · rw [h2] at hz; cases hz
      · show s'.env t = _
        rw [hf.2 t h1]
        rw [h2] at hz
        rcases hs.2 t with e | e
        · rw [← e]; exact hz
        · rw [e] at hz; cases hz
    | _ => exact hz
  have hrun1 : aLex P C N ops r1 (fun s' => Fr s0 r1 s' ∧ s'.val (if b = true then x else y) = .t (.bool u)) s0 := by
    have live : ∀ z : Operand, b = w → evOps P N C ops n true (some (j, w)) r1 s Bool (fun s' => (s'.val z).asBool) = some u →
        aLex P C N ops r1 (fun s' => Fr s0 r1 s' ∧ s'.val z = .t (.bool u)) s0 := fun z hbw hz => by
      refine aLex_mono ?_ (evOps_lex n (some (j, w)) r1 s Bool _ u (by simp) hz s0 hs ⟨jd, hj, by rw [← hbw]; exact hb0⟩ (fun jd' hj' => by rw [hj] at hj'; cases hj'; exact hmem))
      rintro s' ⟨h1, s1, h2, h3⟩
      refine ⟨h1, ?_⟩
      have h3 := asBoolV h3
      rw [h2.val (by rw [h3]; simp)]
      exact h3
    have dead : ∀ z : Operand, b = !w → ((junkAll s (dsts r1)).val z).asBool = some u →
        aLex P C N ops r1 (fun s' => Fr s0 r1 s' ∧ s'.val z = .t (.bool u)) s0 := fun z hbw hz =>
      aLex_mono (fun s' hf => ⟨hf, hjunk z s' hf hz⟩) (skip_lex hj hskip (by rw [← hbw]; exact hb0) (by simp) hmem)
    cases b <;> cases w <;> simp only [if_true, if_false, Bool.false_eq_true] at hu ⊢
    · exact live y rfl hu
    · exact dead y rfl hu
    · exact dead x rfl hu
    · exact live x rfl hu
  refine aLex_append (aLex_mono ?_ hrun1)
  rintro s' ⟨hf, hz⟩
  have hc' : CtxA ops ctx s' := hc.keep hn hf.2
  have hev := pick_ev (P := P) (C := C) hpo (s := s') (by rw [hf.2 jd hmem]; exact hb0) hz
  refine ⟨.t (.bool u), aStep_ctx hpg hc' hpN hev, ?_⟩
  show (s'.put p.dst _).le _
  rw [hpd]
  refine St.le.put (d := some pd) (v := .t (.bool u)) ⟨?_, fun t => ?_⟩
  · rw [junkAll_objs, hf.1, hs.1]
  · rcases junkAll_env (s := s) (ds := dsts r1) (t := t) with ⟨h1, h2⟩ | ⟨h1, h2⟩
    · exact .inr h2
    · rw [h2, hf.2 t h1]; exact hs.2 t
theorem spanG_guards {ctx : Option (Nat × Bool)} : ∀ {l : List Oper} {o : Oper}, o ∈ (spanG ctx l).1 → gEq o.guard ctx = false
  | [], _, h => by simp [spanG] at h
  | x :: l, o, h => by
    unfold spanG at h
    cases hg : gEq x.guard ctx with
    | true => rw [hg] at h; simp at h
    | false =>
      rw [hg] at h
      rcases List.mem_cons.1 h with rfl | h
      · exact hg
      · exact spanG_guards h
/-- A REGION THAT DRAWS ITS ORDER: its lexical order -/
theorem evOps_bar : ∀ (fuel : Nat) (l : List Oper) (i : Nat) (s : St) (R : Type) (k : St → Option R) (r : R), (∀ j, l[j]? = ops[i + j]?) → i + l.length = ops.size → evOps P N C ops fuel true none l s R k = some r →
    ∀ s0 : St, s0.le s → bLex P C N ops (barB ops) l i (fun s' => ∃ s1 : St, s'.le s1 ∧ k s1 = some r) s0
  | 0, _, _, _, _, _, _, _, _, h => by simp [evOps] at h
  | n + 1, [], i, s, _, k, r, _, _, h => fun s0 hs => ⟨s, hs, by simpa [evOps] using h⟩
  | n + 1, o :: os, i, s, R, k, r, hl0, hsz, h => fun s0 hs => by
    have h0 : ops[i]? = some o := by simpa using (hl0 0).symm
    have hl' : ∀ j, os[j]? = ops[i + 1 + j]? := fun j => by have := hl0 (j + 1); simpa [Nat.add_assoc, Nat.add_comm 1 j] using this
    have hsz' : i + 1 + os.length = ops.size := by rw [← hsz]; simp; omega
    have hidx : ops.size - (os.length + 1) = i := by omega
    rw [evOps, hidx] at h
    cases hg : gEq o.guard none with
    | true =>
      simp only [hg, cond_true] at h
      cases hd : okDst N o with
      | false => rw [hd] at h; cases h
      | true =>
      simp only [hd, cond_true] at h
      have hbar : barB ops i = barOk ops o i := by unfold barB; rw [h0]
      cases hb : barOk ops o i with
      | true =>
        simp only [noG, hb, Bool.and_self, cond_true] at h
        cases hso : stOk ops i o s with
        | false => rw [hso] at h; cases h
        | true =>
        simp only [hso, cond_true] at h
        cases hst : storeOp o.op with
        | false =>
          refine .inl ⟨by rw [hbar, hb], gEq_spec hg, hd, .inr ⟨hst, s, hs, R, _, r, h, fun s' hs' => ?_⟩⟩
          exact evOps_bar n os (i + 1) s' R k r hl' hsz' hs' s' (St.le_refl s')
        | true =>
          obtain ⟨t, x, y, hop⟩ : ∃ t x y, o.op = .store t x y := by
            unfold storeOp at hst
            split at hst
            · rename_i t x y hop; exact ⟨t, x, y, hop⟩
            · cases hst
          unfold evOp at h
          rw [hop] at h
          simp only [Bool.false_eq_true, if_false] at h
          rw [stTo_obj] at h
          obtain ⟨objs', ho, h⟩ := Option.bind_eq_some_iff.1 h
          have hj := stObj_junk ho
          refine .inl ⟨by rw [hbar, hb], gEq_spec hg, hd, .inl ⟨t, x, y, objs', hop, fun hlr => ?_, ?_, ?_⟩⟩
          · unfold stOk at hso
            rw [hop] at hso
            simp only [hlr, Bool.not_true, Bool.false_or] at hso
            rw [hs.val hj.1]; exact hso
          · rw [hs.1, hs.val hj.1, hs.val hj.2]; exact ho
          · refine evOps_bar n os (i + 1) _ R k r hl' hsz' h _ (St.le.put ?_ _ _)
            exact ⟨rfl, hs.2⟩
      | false =>
        simp only [noG, hb, Bool.and_false, cond_false, Bool.not_true, Bool.false_or] at h
        cases ha0 : okArgs o s && rdOk ops i o s with
        | false => rw [ha0] at h; cases h
        | true =>
        simp only [ha0, cond_true] at h
        obtain ⟨ha, hrd⟩ := (Bool.and_eq_true _ _).mp ha0
        rw [evQ_nat] at h
        obtain ⟨v, hv, h⟩ := Option.bind_eq_some_iff.1 h
        have hv0 : evQ P C o s0.val s0.objs some = some v := by
          rw [hs.1, evQ_congr (ρ' := s.val)]
          · exact hv
          · intro x hx
            refine hs.val fun hj => ?_
            have := List.all_eq_true.1 ha x (by simpa using hx)
            rw [hj] at this; cases this
        exact .inr ⟨by rw [hbar, hb], v, aStep_ctx (gEq_spec hg) trivial hd hv0, fun _ => by
          unfold rdOk at hrd ⊢
          simp only [Bool.or_eq_true] at hrd ⊢
          refine hrd.imp id fun hall => List.all_eq_true.2 fun x hx => ?_
          rw [hs.val fun hj => by
            have := List.all_eq_true.1 ha x hx
            rw [hj] at this; cases this]
          exact List.all_eq_true.1 hall x hx, evOps_bar n os (i + 1) _ R k r hl' hsz' h _ (hs.put _ _)⟩
    | false =>
      simp only [hg, cond_false] at h
      split at h
      · cases h
      rename_i j w' hgo
      split at h
      · cases h
      rename_i jd hj
      split at h
      rotate_left
      · cases h
      rename_i b hb
      split at h
      rotate_left
      · cases h
      rename_i p rest hrun
      obtain ⟨hl, hpg⟩ := spanG_spec hrun
      split at h
      rotate_left
      · cases h
      rename_i cc x y pd hpo hpd
      cases hok : (Nat.beq cc jd && okDst N p && skipB N ops j w' [] (spanG none (o :: os)).1 && !memB jd (dsts (spanG none (o :: os)).1)) with
      | false => rw [hok] at h; cases h
      | true =>
      simp only [hok, cond_true] at h
      simp only [Bool.and_eq_true, Bool.not_eq_true'] at hok
      obtain ⟨⟨⟨hcc, hpN⟩, hskip⟩, hmem⟩ := hok
      have hcc := Nat.eq_of_beq_eq_true hcc
      subst hcc
      obtain ⟨u, hu, h⟩ := Option.bind_eq_some_iff.1 h
      have hq := group_lex (ctx := none) hs trivial trivial hj hb hpo hpd hpg hpN (memB_spec hmem) hu hskip
      have hl' : o :: os = ((spanG none (o :: os)).1 ++ [p]) ++ rest := by rw [List.append_assoc]; exact hl
      have hgd : ∀ q ∈ (spanG none (o :: os)).1, q.guard ≠ none := fun q hq hn => by
        have := spanG_guards hq
        rw [hn] at this; cases this
      generalize (spanG none (o :: os)).1 = r1 at *
      obtain ⟨r2, hr2⟩ : ∃ r2, r2 = r1 ++ [p] := ⟨_, rfl⟩
      rw [hl', ← hr2] at hl0 hsz ⊢
      rw [← hr2] at hq
      refine bLex_append (fun j hj => ?_) (fun q hq' hgq => ?_) (aLex_mono (fun s' hle => ?_) hq)
      · have hj2 := hl0 j
        rw [List.getElem?_append_left hj] at hj2
        have hget : r2[j]? = some r2[j] := List.getElem?_eq_getElem hj
        rw [hget] at hj2
        unfold barB
        rw [← hj2]
        have hm : r2[j] ∈ r1 ++ [p] := by
          have h9 : r2[j] ∈ r2 := List.getElem_mem hj
          have h8 : ∀ z, z ∈ r2 → z ∈ r1 ++ [p] := fun z hz => by rw [← hr2]; exact hz
          exact h8 _ h9
        simp only [barOk]
        rcases List.mem_append.1 hm with hm | hm
        · have := hgd _ hm
          cases hgg : r2[j].guard with
          | none => exact absurd hgg this
          | some _ => rfl
        · have : r2[j] = p := by simpa using hm
          rw [this, hpo]; simp [loudOp]
      · have hm : q ∈ r1 ++ [p] := hr2 ▸ hq'
        rcases List.mem_append.1 hm with hm | hm
        · exact absurd hgq (hgd _ hm)
        · have : q = p := by simpa using hm
          rw [this, hpo]; rfl
      · exact evOps_bar n rest (i + r2.length) _ R k r (fun j => by
          have := hl0 (r2.length + j)
          rw [List.getElem?_append_right (by omega)] at this
          simpa [Nat.add_assoc] using this) (by have := hsz; simp only [List.length_append] at this; omega) h s' hle
/-- A REGION IN ITS ORDER -/
theorem evOps_sound (hC : OrcSound P w0.g C) {R : Type} {k : St → Option R} {r : R} (hK : ∀ s a w, k s = some r → Is w0 cold0 N s a w → Q .normal a w) :
    ∀ (fuel : Nat) (l : List Oper) (s : St) (a : Act) (w : World), evOps P N C ops fuel false none l s R k = some r → Is w0 cold0 N s a w → wpList P ops Q l a w
  | 0, _, _, _, _, h, _ => by simp [evOps] at h
  | n + 1, [], s, a, w, h, hs => hK s a w (by simpa [evOps] using h) hs
  | n + 1, o :: os, s, a, w, h, hs => by
    rw [evOps] at h
    cases hg : gEq o.guard none with
    | true =>
      simp only [hg, cond_true] at h
      cases hd : okDst N o with
      | false => rw [hd] at h; cases h
      | true =>
      simp only [hd, cond_true, cond_false] at h
      obtain ⟨c, rfl, hR⟩ := hs
      have h1 := evOp_sound (Q := Q) hC hR hd h
      show (if Region.wanted o (yielded ops a.tmps) = true then o.wp P a c.w (wpList P ops Q os) Q ∨ _ else _)
      have hw : Region.wanted o (yielded ops a.tmps) = true := by unfold Region.wanted; rw [gEq_spec hg]
      rw [if_pos hw]
      refine .inl (Oper.wp_mono ?_ h1)
      rintro a' w' ⟨s', c', hw', hR', hk', _⟩
      exact evOps_sound hC hK n os s' a' w' hk' ⟨c', hw', hR'⟩
    | false =>
      simp only [hg, cond_false] at h
      split at h
      · cases h
      rename_i j w' hgo
      split at h
      · cases h
      rename_i jd hj
      split at h
      rotate_left
      · cases h
      rename_i b hb
      split at h
      rotate_left
      · cases h
      rename_i p rest hrun
      obtain ⟨hl, hpg⟩ := spanG_spec hrun
      split at h
      rotate_left
      · cases h
      rename_i cc x y pd hpo hpd
      cases hok : (Nat.beq cc jd && okDst N p && skipB N ops j w' [] (spanG none (o :: os)).1 && !memB jd (dsts (spanG none (o :: os)).1)) with
      | false => rw [hok] at h; cases h
      | true =>
      simp only [hok, cond_true] at h
      simp only [Bool.and_eq_true, Bool.not_eq_true'] at hok
      obtain ⟨⟨⟨hcc, hpN⟩, hskip⟩, hmem⟩ := hok
      have hcc := Nat.eq_of_beq_eq_true hcc
      subst hcc
      obtain ⟨u, hu, h⟩ := Option.bind_eq_some_iff.1 h
      have hq := group_lex (ctx := none) (St.le_refl s) trivial trivial hj hb hpo hpd hpg hpN (memB_spec hmem) hu hskip
      have hl' : o :: os = ((spanG none (o :: os)).1 ++ [p]) ++ rest := by rw [List.append_assoc]; exact hl
      rw [hl']
      exact aLex_list hC hq hs fun s' a' w' hle hs' => evOps_sound hC hK n rest _ a' w' h (hs'.weaken hle)
end
end Go.Ax
