/- Ax, part S: shapes: what is kept at a cut still stands for the frame. -/
import Derived.Test.YtcpcbmebpmokbaaDoorAxR
set_option linter.unusedVariables false
set_option linter.unusedSimpArgs false
namespace Go.Ax
open Go Go.RowKit

theorem bnat {α R : Type} {x : Option α} {k : α → Option R} : x.bind k = (x.bind some).bind k := by cases x <;> rfl
theorem nat2 {α β R : Type} (X : ∀ {R : Type}, (α → Option R) → Option R) (Y : ∀ {R : Type}, (β → Option R) → Option R) (hX : ∀ {R : Type} (k : α → Option R), X k = (X some).bind k)
    (hY : ∀ {R : Type} (k : β → Option R), Y k = (Y some).bind k) (k : α × β → Option R) : X (fun p => Y fun q => k (p, q)) = (X fun p => Y fun q => some (p, q)).bind k := by
  rw [hX, hX (fun p => Y fun q => some (p, q)), Option.bind_assoc]
  congr 1; funext p
  rw [hY, hY (fun q => some (p, q)), Option.bind_assoc]
  rfl
section
variable {all : List It} {s : St}
theorem prTm_nat {R : Type} : ∀ {m : Tm} {v : V} {k : m.Pay → Option R}, prTm all s m v k = (prTm all s m v some).bind k := by
  intro m v k
  cases m <;> simp only [prTm]
  case int q => split <;> first | rfl | exact bnat
  case bool => split <;> first | rfl | exact bnat
  case str => split <;> first | rfl | exact bnat
  case lst => split <;> first | rfl | exact bnat
  case raw => cases v.hot <;> first | rfl | exact bnat
  case arg a =>
    cases v.hot
    · show ((v.out s.objs).bind fun x => (a.dec x).bind k) = ((v.out s.objs).bind fun x => (a.dec x).bind some).bind k
      rw [Option.bind_assoc]; congr 1; funext x; exact bnat
    · rfl
  case full d =>
    cases hasRow all d <;> simp only [cond_true, cond_false]
    · rfl
    · split
      · rename_i e e' _; cases Nat.beq e e' <;> rfl
      · rfl
      · split <;> rfl
      · rfl
  case bp d o => cases hasBox all d <;> simp only [cond_true, cond_false] <;> first | rfl | (split <;> first | rfl | (rename_i e p; cases (Nat.beq e d && Nat.beq p o) <;> rfl))
  case sp d y => cases hasBox all d <;> simp only [cond_true, cond_false] <;> first | rfl | (split <;> first | rfl | (rename_i e p; cases (Nat.beq e d && Nat.beq p y) <;> rfl))
  case fb d y =>
    cases hasRow all d <;> simp only [cond_true, cond_false]
    · rfl
    · split
      · rename_i e u e' _; cases (Nat.beq e e' && Nat.beq u y) <;> rfl
      · rfl
      · split <;> rfl
      · rfl
  case nilv => split <;> rfl
  case fn g caps =>
    cases caps.all (fun p => hasBox all p.1) <;> simp only [cond_true, cond_false]
    · rfl
    · split
      · rename_i h cs
        generalize (Nat.beq h g && (cs.zip caps).all capEq && Nat.beq cs.length caps.length) = q
        cases q <;> rfl
      · rfl
  case junk => rfl
theorem prTms_nat : ∀ {ms : List Tm} {vs : List V} {R : Type} {k : Tms.Pay ms → Option R}, prTms all s ms vs k = (prTms all s ms vs some).bind k
  | [], [], _, _ => rfl
  | [], _ :: _, _, _ => rfl
  | _ :: _, [], _, _ => rfl
  | m :: ms, v :: vs, R, k => by
    exact nat2 (fun k => prTm all s m v k) (fun k => prTms all s ms vs k) (fun k => prTm_nat) (fun k => prTms_nat) k
theorem prIt_nat {R : Type} : ∀ {i : It} {k : i.Pay → Option R}, prIt all s i k = (prIt all s i some).bind k := by
  intro i k
  cases i <;> simp only [prIt, leavesK_eq]
  case tmp t m => exact prTm_nat
  case row o d sz =>
    cases o with
    | none =>
      simp only
      split
      · rename_i sz' xs h; cases Nat.beq sz' sz <;> rfl
      · rfl
      · rfl
    | some t =>
      simp only
      split
      · split
        · rename_i sz' xs h; cases Nat.beq sz' sz <;> rfl
        · rfl
      · split
        · rename_i sz' xs h; cases Nat.beq sz' sz <;> rfl
        · rfl
      · rfl
      · rfl
  case box d ms =>
    split
    · rename_i n v h
      cases Nat.beq n ms.length <;> simp only [cond_true, cond_false]
      · rfl
      · split
        · exact prTms_nat
        · split
          · split
            · rfl
            · exact prTms_nat
          · rw [Option.bind_assoc]; congr 1; funext ls; exact prTms_nat
        · exact prTms_nat
    · rfl
  case boxT d n =>
    split
    · rename_i n' v h
      cases (Nat.beq n' n && !v.hot) <;> first | rfl | exact bnat
    · rfl
theorem prSh_nat : ∀ {sh : List It} {R : Type} {k : Pay sh → Option R}, prSh all s sh k = (prSh all s sh some).bind k
  | [], _, _ => rfl
  | i :: is, R, k => by
    exact nat2 (fun k => prIt all s i k) (fun k => prSh all s is k) (fun k => prIt_nat) (fun k => prSh_nat) k
end

/-- what a kept row was -/
def RowFrom (s : St) (o : Option Nat) (sz : Nat) (xs : List T) : Prop :=
  match o with
  | some e => s.objs e = .row sz xs ∨ (s.objs e = .none ∧ xs = [])
  | none => xs = []
/-- what has become of an object -/
def ObK (all : List It) (s : St) (O : Nat → Ob) (d : Nat) : Prop :=
  O d = .none ∨ (∃ sz xs, O d = .row sz xs ∧ RowFrom s (nm s d all) sz xs) ∨ (∃ n u u', O d = .box n u' ∧ s.objs d = .box n u ∧ nm s d all = some d)
theorem nbeq {a b : Nat} (h : Nat.beq a b = true) : a = b := Nat.eq_of_beq_eq_true h
theorem beq_sym {d e : Nat} : Nat.beq e d = Nat.beq d e := by
  cases h : Nat.beq d e with
  | true => rw [nbeq h]; simp
  | false =>
    cases h' : Nat.beq e d with
    | false => rfl
    | true => rw [nbeq h'] at h; simp at h
theorem inIt_objs {i : It} {p : i.Pay} {s : St} {d : Nat} : (i.rowOf d = false ∧ i.boxOf d = false ∧ (inIt i p s).objs d = s.objs d) ∨
    (i.rowOf d = true ∧ i.boxOf d = false ∧ i.name = some d ∧ ∃ sz xs, (inIt i p s).objs d = .row sz xs) ∨ (i.boxOf d = true ∧ i.rowOf d = false ∧ i.name = some d ∧ ∃ n u, (inIt i p s).objs d = .box n u) := by
  have setOb : ∀ e o, (s.setOb e o).objs d = (bif Nat.beq d e then o else s.objs d) := fun _ _ => rfl
  cases i with
  | tmp t m => exact .inl ⟨by first | rfl | trivial, by first | rfl | trivial, by first | rfl | trivial⟩
  | row o e sz =>
    simp only [It.rowOf, It.boxOf, inIt, setOb, beq_sym (e := e)]
    cases hb : Nat.beq d e
    · exact .inl ⟨by first | rfl | trivial, by first | rfl | trivial, by first | rfl | trivial⟩
    · exact .inr (.inl ⟨by first | rfl | trivial, by first | rfl | trivial, by rw [nbeq hb]; rfl, _, _, rfl⟩)
  | box e ms =>
    simp only [It.rowOf, It.boxOf, inIt, setOb, beq_sym (e := e)]
    cases hb : Nat.beq d e
    · exact .inl ⟨by first | rfl | trivial, by first | rfl | trivial, by first | rfl | trivial⟩
    · exact .inr (.inr ⟨by first | rfl | trivial, by first | rfl | trivial, by rw [nbeq hb]; rfl, _, _, rfl⟩)
  | boxT e n =>
    simp only [It.rowOf, It.boxOf, inIt, setOb, beq_sym (e := e)]
    cases hb : Nat.beq d e
    · exact .inl ⟨by first | rfl | trivial, by first | rfl | trivial, by first | rfl | trivial⟩
    · exact .inr (.inr ⟨by first | rfl | trivial, by first | rfl | trivial, by rw [nbeq hb]; rfl, _, _, rfl⟩)
theorem mem_names {is : List It} {i : It} {d : Nat} (hi : i ∈ is) (hn : i.name = some d) : d ∈ is.filterMap It.name := List.mem_filterMap.2 ⟨i, hi, hn⟩
theorem row_name {is : List It} {d : Nat} (h : hasRow is d = true) : d ∈ is.filterMap It.name := by
  obtain ⟨i, hi, h⟩ := List.any_eq_true.1 h
  refine mem_names hi ?_
  cases i with
  | row o e sz => show some e = _; rw [nbeq h]
  | _ => cases h
theorem box_name {is : List It} {d : Nat} (h : hasBox is d = true) : d ∈ is.filterMap It.name := by
  obtain ⟨i, hi, h⟩ := List.any_eq_true.1 h
  refine mem_names hi ?_
  cases i with
  | box e ms => show some e = _; rw [nbeq h]
  | boxT e ms => show some e = _; rw [nbeq h]
  | _ => cases h
theorem names_cons {i : It} {is : List It} (h : nodupB ((i :: is).filterMap It.name) = true) : nodupB (is.filterMap It.name) = true ∧ ∀ d, i.name = some d → d ∉ is.filterMap It.name := by
  cases hn : i.name with
  | none =>
    rw [List.filterMap_cons_none hn] at h
    exact ⟨h, fun d hd => by cases hd⟩
  | some e =>
    rw [List.filterMap_cons_some hn] at h
    obtain ⟨h1, h2⟩ := nodupB_cons h
    exact ⟨h2, fun d hd => by cases hd; exact h1⟩
theorem nm_of_mem {s : St} : ∀ {all : List It} {i : It} {d : Nat}, nodupB (all.filterMap It.name) = true → i ∈ all → i.name = some d → nm s d all = i.src s
  | [], _, _, _, h, _ => by cases h
  | j :: js, i, d, hn, hi, hd => by
    obtain ⟨h1, h2⟩ := names_cons hn
    rcases List.mem_cons.1 hi with rfl | hi
    · simp [nm, hd]
    · have hne : j.name ≠ some d := fun e => h2 d e (mem_names hi hd)
      have ih := nm_of_mem (s := s) h1 hi hd
      unfold nm
      split
      · rename_i e he
        have : Nat.beq e d = false := beq_ne fun e' => hne (by rw [he, e'])
        rw [this]
        exact ih
      · exact ih
theorem nm_mem {s : St} : ∀ {all : List It} {d e : Nat}, nm s d all = some e → e ∈ all.filterMap (It.src s)
  | [], _, _, h => by cases h
  | j :: js, d, e, h => by
    unfold nm at h
    split at h
    · rename_i x hx
      cases hb : Nat.beq x d with
      | true => rw [hb] at h; exact List.mem_filterMap.2 ⟨j, by simp, h⟩
      | false =>
        rw [hb] at h
        obtain ⟨i, hi, hs⟩ := List.mem_filterMap.1 (nm_mem h)
        exact List.mem_filterMap.2 ⟨i, List.mem_cons_of_mem _ hi, hs⟩
    · obtain ⟨i, hi, hs⟩ := List.mem_filterMap.1 (nm_mem h)
      exact List.mem_filterMap.2 ⟨i, List.mem_cons_of_mem _ hi, hs⟩
theorem nm_inj {s : St} : ∀ {all : List It} {d d' e : Nat}, nodupB (all.filterMap (It.src s)) = true → nm s d all = some e → nm s d' all = some e → d = d'
  | [], _, _, _, _, h, _ => by cases h
  | j :: js, d, d', e, hn, h, h' => by
    have tail : nodupB (js.filterMap (It.src s)) = true := by
      cases hj : j.src s with
      | none => rw [List.filterMap_cons_none hj] at hn; exact hn
      | some x => rw [List.filterMap_cons_some hj] at hn; exact (nodupB_cons hn).2
    have head : ∀ x, j.src s = some x → x ∉ js.filterMap (It.src s) := fun x hj => by
      rw [List.filterMap_cons_some hj] at hn; exact (nodupB_cons hn).1
    unfold nm at h h'
    cases hname : j.name with
    | none => rw [hname] at h h'; exact nm_inj tail h h'
    | some x =>
      rw [hname] at h h'
      simp only at h h'
      cases hb : Nat.beq x d <;> cases hb' : Nat.beq x d' <;> rw [hb] at h <;> rw [hb'] at h'
      · exact nm_inj tail h h'
      · exact absurd (nm_mem h) (head e h')
      · exact absurd (nm_mem h') (head e h)
      · exact (nbeq hb).symm.trans (nbeq hb')

section
variable {w0 : Base} {cold0 : Nat → Prop} {N : Nat} {all : List It} {s : St} {a : Act} {c : Cx}
/-- shapes: what prIt lets through is what stood there -/
theorem prIt_obK {i : It} {p : i.Pay} (h : prIt all s i some = some p) (hnm : ∀ d, i.name = some d → nm s d all = i.src s) {d : Nat} {s1 : St} (h1 : ObK all s s1.objs d) : ObK all s (inIt i p s1).objs d := by
  have setOb : ∀ e o, (s1.setOb e o).objs d = (bif Nat.beq d e then o else s1.objs d) := fun _ _ => rfl
  cases i with
  | tmp t m => exact h1
  | row o e sz =>
    show ObK all s (s1.setOb e _).objs d
    unfold ObK
    rw [setOb]
    cases hb : Nat.beq d e with
    | false => exact h1
    | true =>
      have := nbeq hb; subst this
      have hn := hnm d rfl
      simp only [prIt, leavesK_eq] at h
      simp only [cond_true]
      cases o with
      | none =>
        have hn : nm s d all = some d := hn
        rw [hn]
        simp only at h
        split at h
        · rename_i sz' xs ho
          cases hz : Nat.beq sz' sz with
          | false => rw [hz] at h; cases h
          | true =>
            rw [hz] at h
            simp only [cond_true, Option.some.injEq] at h
            have := nbeq hz; subst this; subst h
            exact .inr (.inl ⟨_, _, rfl, .inl ho⟩)
        · rename_i ho
          simp only [Option.some.injEq] at h
          subst h
          exact .inr (.inl ⟨_, _, rfl, .inr ⟨ho, rfl⟩⟩)
        · cases h
      | some t =>
        have hn : nm s d all = (match rowAt s t with | .full e => some e | .fb e _ => some e | _ => none) := hn
        rw [hn]
        simp only at h
        split at h
        · rename_i e he
          rw [he]
          split at h
          · rename_i sz' xs ho
            cases hz : Nat.beq sz' sz with
            | false => rw [hz] at h; cases h
            | true =>
              rw [hz] at h
              simp only [cond_true, Option.some.injEq] at h
              have := nbeq hz; subst this; subst h
              exact .inr (.inl ⟨_, _, rfl, .inl ho⟩)
          · cases h
        · rename_i e y he
          rw [he]
          split at h
          · rename_i sz' xs ho
            cases hz : Nat.beq sz' sz with
            | false => rw [hz] at h; cases h
            | true =>
              rw [hz] at h
              simp only [cond_true, Option.some.injEq] at h
              have := nbeq hz; subst this; subst h
              exact .inr (.inl ⟨_, _, rfl, .inl ho⟩)
          · cases h
        · rename_i he
          rw [he]
          simp only [Option.some.injEq] at h
          subst h
          exact .inr (.inl ⟨_, _, rfl, rfl⟩)
        · cases h
  | box e ms =>
    show ObK all s (s1.setOb e _).objs d
    unfold ObK
    rw [setOb]
    cases hb : Nat.beq d e with
    | false => exact h1
    | true =>
      have := nbeq hb; subst this
      simp only [prIt, leavesK_eq] at h
      simp only [cond_true]
      split at h
      · rename_i n v ho
        cases hz : Nat.beq n ms.length with
        | false => rw [hz] at h; cases h
        | true =>
          have := nbeq hz; subst this
          exact .inr (.inr ⟨_, _, _, rfl, ho, hnm d rfl⟩)
      · cases h
  | boxT e n =>
    show ObK all s (s1.setOb e _).objs d
    unfold ObK
    rw [setOb]
    cases hb : Nat.beq d e with
    | false => exact h1
    | true =>
      have := nbeq hb; subst this
      simp only [prIt, leavesK_eq] at h
      simp only [cond_true]
      split at h
      · rename_i n' v ho
        cases hz : (Nat.beq n' n && !v.hot) with
        | false => rw [hz] at h; cases h
        | true =>
          simp only [Bool.and_eq_true] at hz
          have := nbeq hz.1; subst this
          exact .inr (.inr ⟨_, _, _, rfl, ho, hnm d rfl⟩)
      · cases h
theorem prSh_parts {i : It} {is : List It} {p : Pay (i :: is)} (h : prSh all s (i :: is) some = some p) : prIt all s i some = some p.1 ∧ prSh all s is some = some p.2 := by
  simp only [prSh] at h
  rw [prIt_nat] at h
  obtain ⟨p1, h1, h⟩ := Option.bind_eq_some_iff.1 h
  rw [prSh_nat] at h
  obtain ⟨p2, h2, h⟩ := Option.bind_eq_some_iff.1 h
  simp only [Option.some.injEq] at h
  subst h
  exact ⟨h1, h2⟩
theorem prSh_obK (hnm : ∀ i ∈ all, ∀ d, i.name = some d → nm s d all = i.src s) : ∀ {sh : List It} {p : Pay sh}, (∀ i ∈ sh, i ∈ all) → prSh all s sh some = some p → ∀ d, ObK all s (inSh sh p).objs d
  | [], _, _, _, _ => .inl rfl
  | i :: is, p, hsub, h, d => prIt_obK (prSh_parts h).1 (hnm i (hsub i (by simp))) (prSh_obK hnm (fun j hj => hsub j (by simp [hj])) (prSh_parts h).2 d)
theorem inSh_row : ∀ {sh : List It} {p : Pay sh}, nodupB (sh.filterMap It.name) = true → ∀ d, hasRow sh d = true → ∃ sz xs, (inSh sh p).objs d = .row sz xs
  | [], _, _, d, h => by cases h
  | i :: is, p, hn, d, hr => by
    obtain ⟨h1, h2⟩ := names_cons hn
    rcases inIt_objs (i := i) (p := p.1) (s := inSh is p.2) (d := d) with ⟨q1, q2, q3⟩ | ⟨q1, q2, q4, q3⟩ | ⟨q1, q2, q4, q3⟩
    · have : hasRow is d = true := by
        simp only [hasRow, List.any_cons, q1, Bool.false_or] at hr
        exact hr
      obtain ⟨sz, xs, ho⟩ := inSh_row (p := p.2) h1 d this
      exact ⟨sz, xs, by show (inIt i p.1 (inSh is p.2)).objs d = _; rw [q3, ho]⟩
    · exact q3
    · have : hasRow is d = true := by
        simp only [hasRow, List.any_cons, q2, Bool.false_or] at hr
        exact hr
      exact absurd (row_name this) (h2 d q4)
theorem inSh_box : ∀ {sh : List It} {p : Pay sh}, nodupB (sh.filterMap It.name) = true → ∀ d, hasBox sh d = true → ∃ n u, (inSh sh p).objs d = .box n u
  | [], _, _, d, h => by cases h
  | i :: is, p, hn, d, hr => by
    obtain ⟨h1, h2⟩ := names_cons hn
    rcases inIt_objs (i := i) (p := p.1) (s := inSh is p.2) (d := d) with ⟨q1, q2, q3⟩ | ⟨q1, q2, q4, q3⟩ | ⟨q1, q2, q4, q3⟩
    · have : hasBox is d = true := by
        simp only [hasBox, List.any_cons, q2, Bool.false_or] at hr
        exact hr
      obtain ⟨sz, xs, ho⟩ := inSh_box (p := p.2) h1 d this
      exact ⟨sz, xs, by show (inIt i p.1 (inSh is p.2)).objs d = _; rw [q3, ho]⟩
    · have : hasBox is d = true := by
        simp only [hasBox, List.any_cons, q2, Bool.false_or] at hr
        exact hr
      exact absurd (box_name this) (h2 d q4)
    · exact q3

/-- the memory behind a cut -/
def Cx.cut (c : Cx) (s : St) (all : List It) (O : Nat → Ob) : Cx :=
  { c with
    eta := fun d => match nm s d all with
      | some e => (match s.objs e with | .none => none | _ => c.eta e)
      | none => none
    objs := O }
theorem cut_eta {O : Nat → Ob} {d e : Nat} (hn : nm s d all = some e) (h : s.objs e ≠ .none) : (c.cut s all O).eta d = c.eta e := by
  show (match nm s d all with | some e => (match s.objs e with | .none => none | _ => c.eta e) | none => none) = c.eta e
  rw [hn]
  show (match s.objs e with | .none => none | _ => c.eta e) = c.eta e
  cases ho : s.objs e with
  | none => exact absurd ho h
  | _ => rfl
theorem cut_eta0 {O : Nat → Ob} {d e : Nat} (hn : nm s d all = some e) (h : s.objs e = .none) : (c.cut s all O).eta d = none := by
  show (match nm s d all with | some e => (match s.objs e with | .none => none | _ => c.eta e) | none => none) = none
  rw [hn]
  show (match s.objs e with | .none => none | _ => c.eta e) = none
  rw [h]
theorem cut_etaN {O : Nat → Ob} {d : Nat} (hn : nm s d all = none) : (c.cut s all O).eta d = none := by
  show (match nm s d all with | some e => (match s.objs e with | .none => none | _ => c.eta e) | none => none) = none
  rw [hn]
theorem prTm_sound (hR : Rel w0 cold0 N s a c) {O : Nat → Ob} (hA : ∀ d, hasRow all d = true → ∃ sz xs, O d = .row sz xs ∧ RowFrom s (nm s d all) sz xs)
    (hB : ∀ d, hasBox all d = true → ∃ n u u', O d = .box n u' ∧ s.objs d = .box n u ∧ nm s d all = some d) {m : Tm} {v : V} {p : m.Pay} (h : prTm all s m v some = some p) {x : Value} (hv : c.v3 v x) :
    (c.cut s all O).v2 (inTm m p) x := by
  have hbp : ∀ d o y, hasBox all d = true → c.v1 (.bp d o) y → (c.cut s all O).v1 (.bp d o) y := fun d o y hb hy => by
    obtain ⟨n, u, u', h1, h2, h2n⟩ := hB d hb
    obtain ⟨n', u1, b, h3, h4, h5⟩ := hy
    exact ⟨n, u', b, h1, by rw [cut_eta h2n (by rw [h2]; simp)]; exact h4, h5⟩
  cases m <;> simp only [prTm] at h
  case int q =>
    split at h
    · rename_i x'; obtain ⟨n, hn, h⟩ := Option.bind_eq_some_iff.1 h
      simp only [Option.some.injEq] at h; subst h
      rw [asInt_eq hn] at hv; exact hv
    · cases h
  case bool =>
    split at h
    · rename_i x'; obtain ⟨n, hn, h⟩ := Option.bind_eq_some_iff.1 h
      simp only [Option.some.injEq] at h; subst h
      rw [asBool_eq hn] at hv; exact hv
    · cases h
  case str =>
    split at h
    · rename_i x'; obtain ⟨n, hn, h⟩ := Option.bind_eq_some_iff.1 h
      simp only [Option.some.injEq] at h; subst h
      rw [asStr_eq hn] at hv; exact hv
    · cases h
  case lst =>
    split at h
    · rename_i x'; obtain ⟨n, hn, h⟩ := Option.bind_eq_some_iff.1 h
      simp only [Option.some.injEq] at h; subst h
      rw [asLst_eq hn] at hv; exact hv
    · simp only [Option.some.injEq] at h; subst h
      show TRep c.w c.cold (.lst []) x
      rw [show x = .slice none 0 0 from hv]; exact .lst0 none 0
    · cases h
  case raw =>
    cases hh : v.hot with
    | true => rw [hh] at h; cases h
    | false =>
      rw [hh] at h
      simp only [cond_false] at h
      obtain ⟨y, hy, h⟩ := Option.bind_eq_some_iff.1 h
      simp only [Option.some.injEq] at h; subst h
      exact out_cold hv hh hy
  case arg b =>
    cases hh : v.hot with
    | true => rw [hh] at h; cases h
    | false =>
      rw [hh] at h
      simp only [cond_false] at h
      obtain ⟨y, hy, h⟩ := Option.bind_eq_some_iff.1 h
      obtain ⟨z, hz, h⟩ := Option.bind_eq_some_iff.1 h
      simp only [Option.some.injEq] at h; subst h
      rw [Ak.dec_some hz] at hy
      exact out_cold hv hh hy
  case full d =>
    cases hr : hasRow all d with
    | false => rw [hr] at h; cases h
    | true =>
      rw [hr] at h
      simp only [cond_true] at h
      obtain ⟨sz, xs, h1, h2⟩ := hA d hr
      split at h
      · rename_i e e' hn
        cases he : Nat.beq e e' with
        | false => rw [he] at h; cases h
        | true =>
          have := nbeq he; subst this
          rw [hn] at h2
          obtain ⟨sz', xs', ho, hx⟩ : ∃ sz xs, c.objs e = .row sz xs ∧ _ := hv
          rw [hR.objs] at ho
          rcases h2 with h2 | ⟨h2, _⟩
          · rw [h2] at ho
            simp only [Ob.row.injEq] at ho
            obtain ⟨rfl, rfl⟩ := ho
            refine ⟨sz, xs, h1, ?_⟩
            rw [cut_eta hn (by rw [h2]; simp)]
            exact hx
          · rw [h2] at ho; cases ho
      · rename_i hn
        rw [hn] at h2
        have h2 : xs = [] := h2
        subst h2
        exact ⟨sz, [], h1, .inl ⟨cut_etaN hn, rfl, hv⟩⟩
      · rename_i e' hn
        rw [hn] at h2
        split at h
        · rename_i ho
          rcases h2 with h2 | ⟨_, rfl⟩
          · rw [h2] at ho; cases ho
          · exact ⟨sz, [], h1, .inl ⟨cut_eta0 hn ho, rfl, hv⟩⟩
        · cases h
      · cases h
  case bp d o =>
    cases hr : hasBox all d with
    | false => rw [hr] at h; cases h
    | true =>
      rw [hr] at h
      simp only [cond_true] at h
      split at h
      · rename_i e p'
        cases he : (Nat.beq e d && Nat.beq p' o) with
        | false => rw [he] at h; cases h
        | true =>
          simp only [Bool.and_eq_true] at he
          have := nbeq he.1; subst this
          have := nbeq he.2; subst this
          exact hbp _ _ _ hr hv
      · cases h
  case sp d y =>
    cases hr : hasBox all d with
    | false => rw [hr] at h; cases h
    | true =>
      rw [hr] at h
      simp only [cond_true] at h
      split at h
      · rename_i e p'
        cases he : (Nat.beq e d && Nat.beq p' y) with
        | false => rw [he] at h; cases h
        | true =>
          simp only [Bool.and_eq_true] at he
          have := nbeq he.1; subst this
          have := nbeq he.2; subst this
          obtain ⟨n, u, u', h1, h2, h3⟩ := hB _ hr
          obtain ⟨n0, u0, b, cs, _, h5, h6, h7⟩ : ∃ n u b cs, c.objs _ = .box n u ∧ _ := hv
          exact ⟨n, u', b, cs, h1, by rw [cut_eta h3 (by rw [h2]; simp)]; exact h5, h6, h7⟩
      · cases h
  case fb d y =>
    cases hr : hasRow all d with
    | false => rw [hr] at h; cases h
    | true =>
      rw [hr] at h
      simp only [cond_true] at h
      obtain ⟨sz, xs, h1, h2⟩ := hA d hr
      split at h
      · rename_i e y' e' hn
        cases he : (Nat.beq e e' && Nat.beq y' y) with
        | false => rw [he] at h; cases h
        | true =>
          simp only [Bool.and_eq_true] at he
          have := nbeq he.1; subst this
          have := nbeq he.2; subst this
          rw [hn] at h2
          obtain ⟨sz', xs', ho, hx⟩ : ∃ sz xs, c.objs e = .row sz xs ∧ _ := hv
          rw [hR.objs] at ho
          rcases h2 with h2 | ⟨h2, _⟩
          · rw [h2] at ho
            simp only [Ob.row.injEq] at ho
            obtain ⟨rfl, rfl⟩ := ho
            refine ⟨sz, xs, h1, ?_⟩
            rw [cut_eta hn (by rw [h2]; simp)]
            exact hx
          · rw [h2] at ho; cases ho
      · rename_i hn
        rw [hn] at h2
        have h2 : xs = [] := h2
        subst h2
        exact ⟨sz, [], h1, .inl ⟨cut_etaN hn, rfl, hv⟩⟩
      · rename_i e' hn
        rw [hn] at h2
        split at h
        · rename_i ho
          rcases h2 with h2 | ⟨_, rfl⟩
          · rw [h2] at ho; cases ho
          · exact ⟨sz, [], h1, .inl ⟨cut_eta0 hn ho, rfl, hv⟩⟩
        · cases h
      · cases h
  case nilv =>
    split at h
    · exact hv
    · cases h
  case fn g caps =>
    cases hr : caps.all (fun p => hasBox all p.1) with
    | false => rw [hr] at h; cases h
    | true =>
      rw [hr] at h
      simp only [cond_true] at h
      split at h
      · rename_i g' cs
        cases hq : (Nat.beq g' g && (cs.zip caps).all capEq && Nat.beq cs.length caps.length) with
        | false => rw [hq] at h; cases h
        | true =>
          simp only [Bool.and_eq_true] at hq
          obtain ⟨⟨hg, hz⟩, hlen⟩ := hq
          have := nbeq hg; subst this
          have hlen := nbeq hlen
          obtain ⟨ys, h0, h1, h2⟩ : ∃ ys, x = .func (.func g') #[] ys ∧ ys.size = cs.length ∧ _ := hv
          refine ⟨ys, h0, by simp [h1, hlen], fun j l y hl hy => ?_⟩
          simp only [List.getElem?_map, Option.map_eq_some_iff] at hl
          obtain ⟨q, hqj, rfl⟩ := hl
          have hj : j < cs.length := by have := (List.getElem?_eq_some_iff.1 hqj).1; omega
          have hcj : cs[j]? = some cs[j] := by simp [hj]
          have hzj : (cs.zip caps)[j]? = some (cs[j], q) := List.getElem?_zip_eq_some.2 ⟨hcj, hqj⟩
          have h5 := List.all_eq_true.1 hz _ (List.mem_of_getElem? hzj)
          simp only [capEq] at h5
          have h6 := h2 j _ y hcj hy
          split at h5
          · rename_i d' o' he
            simp only [Bool.and_eq_true] at h5
            rw [he, nbeq h5.1, nbeq h5.2] at h6
            exact hbp _ _ _ (List.all_eq_true.1 hr _ (List.mem_of_getElem? hqj)) h6
          · cases h5
      · cases h
  case junk => trivial

theorem prTm_sound1 (hR : Rel w0 cold0 N s a c) {O : Nat → Ob} (hA : ∀ d, hasRow all d = true → ∃ sz xs, O d = .row sz xs ∧ RowFrom s (nm s d all) sz xs)
    (hB : ∀ d, hasBox all d = true → ∃ n u u', O d = .box n u' ∧ s.objs d = .box n u ∧ nm s d all = some d) {m : Tm} {v : V} {p : m.Pay} (h : prTm all s m v some = some p) {x : Value} (hv : c.v1 v x) :
    (c.cut s all O).v1 (inTm m p) x := by
  have h2 := prTm_sound hR hA hB h (Cx.v3_of_v1 hv)
  cases m with
  | fn g caps =>
    simp only [prTm] at h
    cases hr : caps.all (fun p => hasBox all p.1) with
    | false => rw [hr] at h; cases h
    | true =>
      rw [hr] at h
      simp only [cond_true] at h
      split at h
      · exact hv.elim
      · cases h
  | _ => exact h2
theorem inTms_len : ∀ {ms : List Tm} {p : Tms.Pay ms}, (inTms ms p).length = ms.length
  | [], _ => rfl
  | _ :: ms, _ => by simp [inTms, inTms_len]
theorem prTms_parts {m : Tm} {ms : List Tm} {v : V} {vs : List V} {p : Tms.Pay (m :: ms)} (h : prTms all s (m :: ms) (v :: vs) some = some p) :
    prTm all s m v some = some p.1 ∧ prTms all s ms vs some = some p.2 := by
  simp only [prTms] at h
  rw [prTm_nat] at h
  obtain ⟨p1, h1, h⟩ := Option.bind_eq_some_iff.1 h
  rw [prTms_nat] at h
  obtain ⟨p2, h2, h⟩ := Option.bind_eq_some_iff.1 h
  simp only [Option.some.injEq] at h
  subst h
  exact ⟨h1, h2⟩
theorem prTms_sound (hR : Rel w0 cold0 N s a c) {O : Nat → Ob} (hA : ∀ d, hasRow all d = true → ∃ sz xs, O d = .row sz xs ∧ RowFrom s (nm s d all) sz xs)
    (hB : ∀ d, hasBox all d = true → ∃ n u u', O d = .box n u' ∧ s.objs d = .box n u ∧ nm s d all = some d) : ∀ {ms : List Tm} {vs : List V} {p : Tms.Pay ms}, prTms all s ms vs some = some p →
    vs.length = ms.length ∧ ∀ (j : Nat) (u v : V) (x : Value), (inTms ms p)[j]? = some u → vs[j]? = some v → (c.v1 v x → (c.cut s all O).v1 u x) ∧ (c.v2 v x → (c.cut s all O).v2 u x)
  | [], [], _, _ => ⟨rfl, fun j u v x hu => by simp [inTms] at hu⟩
  | [], _ :: _, _, h => by simp [prTms] at h
  | _ :: _, [], _, h => by simp [prTms] at h
  | m :: ms, v :: vs, p, h => by
    obtain ⟨h1, h2⟩ := prTms_parts h
    obtain ⟨hl, ih⟩ := prTms_sound hR hA hB h2
    refine ⟨by simp [hl], fun j u v' x hu hv => ?_⟩
    cases j with
    | zero =>
      simp only [inTms, List.getElem?_cons_zero, Option.some.injEq] at hu hv
      subst hu; subst hv
      exact ⟨fun h => prTm_sound1 hR hA hB h1 h, fun h => prTm_sound hR hA hB h1 (Cx.v3_of_v2 h)⟩
    | succ j => simp only [inTms, List.getElem?_cons_succ] at hu hv; exact ih j u v' x hu hv
theorem bx_single {c : Cx} {u : V} {cs : Array Value} (hsz : cs.size = 1) (h1 : ∀ (j : Nat) (x : Value), cs[j]? = some x → x.oneCell' = true) (hu : ∀ ls, u ≠ .agg ls) (h : ∀ x, cs[0]? = some x → c.v2 u x) : c.bx 1 u cs := by
  have hg : cs[0]? = some (cs[0]'(by omega)) := by simp [hsz]
  cases u with
  | t e =>
    have hr : TRep c.w c.cold e _ := h _ hg
    have hn : ∀ ls, e ≠ .agg ls := fun ls he => by
      have := agg_notOne hr ls he
      rw [h1 _ _ hg] at this; cases this
    have hw : e.width = 1 := by cases e <;> first | rfl | exact absurd rfl (hn _)
    refine ⟨hw, fun j x hx => ?_⟩
    have hj : j = 0 := by have := (Array.getElem?_eq_some_iff.1 hx).1; omega
    subst hj
    have : e.leaf 0 = e := by cases e <;> first | rfl | exact absurd rfl (hn _)
    rw [this]
    exact h x hx
  | agg ls => exact absurd rfl (hu ls)
  | _ => exact ⟨rfl, h⟩
theorem inTm_notAgg {m : Tm} {p : m.Pay} : ∀ ls, inTm m p ≠ .agg ls := by
  intro ls h
  cases m <;> cases h
theorem prIt_ob (hR : Rel w0 cold0 N s a c) {O : Nat → Ob} (hA : ∀ d, hasRow all d = true → ∃ sz xs, O d = .row sz xs ∧ RowFrom s (nm s d all) sz xs)
    (hB : ∀ d, hasBox all d = true → ∃ n u u', O d = .box n u' ∧ s.objs d = .box n u ∧ nm s d all = some d) {i : It} {p : i.Pay} (h : prIt all s i some = some p) (hnm : ∀ d, i.name = some d → nm s d all = i.src s) {s1 : St} {d : Nat} (h1 : (c.cut s all O).ob d (s1.objs d)) :
    (c.cut s all O).ob d ((inIt i p s1).objs d) := by
  have setOb : ∀ e o, (s1.setOb e o).objs d = (bif Nat.beq d e then o else s1.objs d) := fun _ _ => rfl
  cases i with
  | tmp t m => exact h1
  | row o e sz =>
    show (c.cut s all O).ob d ((s1.setOb e _).objs d)
    rw [setOb]
    cases hb : Nat.beq d e with
    | false => exact h1
    | true =>
      have := nbeq hb; subst this
      have hn := hnm d rfl
      simp only [prIt, leavesK_eq] at h
      simp only [cond_true]
      have from_ : ∀ e xs, nm s d all = some e → s.objs e = .row sz xs → (c.cut s all O).ob d (.row sz xs) := fun e xs hn ho => by
        have hob := hR.ob e
        rw [ho] at hob
        show (_ ∧ _) ∨ _
        rw [cut_eta hn (by rw [ho]; simp)]
        exact hob
      cases o with
      | none =>
        have hn : nm s d all = some d := hn
        simp only at h
        split at h
        · rename_i sz' xs ho
          cases hz : Nat.beq sz' sz with
          | false => rw [hz] at h; cases h
          | true =>
            rw [hz] at h
            simp only [cond_true, Option.some.injEq] at h
            have := nbeq hz; subst this; subst h
            exact from_ d xs hn ho
        · rename_i ho
          simp only [Option.some.injEq] at h
          subst h
          exact .inl ⟨cut_eta0 hn ho, rfl⟩
        · cases h
      | some t =>
        replace hn : nm s d all = (match rowAt s t with | .full e => some e | .fb e _ => some e | _ => none) := hn
        simp only at h
        split at h
        · rename_i e he
          rw [he] at hn
          replace hn : nm s d all = some e := hn
          split at h
          · rename_i sz' xs ho
            cases hz : Nat.beq sz' sz with
            | false => rw [hz] at h; cases h
            | true =>
              rw [hz] at h
              simp only [cond_true, Option.some.injEq] at h
              have := nbeq hz; subst this; subst h
              exact from_ e xs hn ho
          · cases h
        · rename_i e y he
          rw [he] at hn
          replace hn : nm s d all = some e := hn
          split at h
          · rename_i sz' xs ho
            cases hz : Nat.beq sz' sz with
            | false => rw [hz] at h; cases h
            | true =>
              rw [hz] at h
              simp only [cond_true, Option.some.injEq] at h
              have := nbeq hz; subst this; subst h
              exact from_ e xs hn ho
          · cases h
        · rename_i he
          rw [he] at hn
          simp only [Option.some.injEq] at h
          subst h
          exact .inl ⟨cut_etaN hn, rfl⟩
        · cases h
  | box e ms =>
    show (c.cut s all O).ob d ((s1.setOb e _).objs d)
    rw [setOb]
    cases hb : Nat.beq d e with
    | false => exact h1
    | true =>
      have := nbeq hb; subst this
      simp only [prIt, leavesK_eq] at h
      simp only [cond_true]
      split at h
      rotate_left
      · cases h
      rename_i n v ho
      cases hz : Nat.beq n ms.length with
      | false => rw [hz] at h; cases h
      | true =>
      rw [hz] at h
      simp only [cond_true] at h
      have := nbeq hz; subst this
      have hob := hR.ob d
      rw [ho] at hob
      obtain ⟨b, cs, E, he, hh, hsz, hone, hbx⟩ := hob
      refine ⟨b, cs, E, by rw [cut_eta (hnm d rfl) (by rw [ho]; simp)]; exact he, hh, hsz, hone, ?_⟩
      -- from the leaves to the box
      have many : ∀ vs : List V, prTms all s ms vs some = some p → ((∀ (j : Nat) (v : V) (x : Value), vs[j]? = some v → cs[j]? = some x → c.v1 v x) ∨ (ms.length = 1 ∧ ∀ (v : V) (x : Value), vs[0]? = some v → cs[0]? = some x → c.v2 v x)) →
          (c.cut s all O).bx ms.length (match inTms ms p with | [v] => v | vs => .agg vs) cs := by
        intro vs hp hv
        obtain ⟨hl, hs⟩ := prTms_sound hR hA hB hp
        have hlen := inTms_len (ms := ms) (p := p)
        have hv2 : ∀ (v : V) (x : Value), vs[0]? = some v → cs[0]? = some x → c.v2 v x := fun v x h0 hx => by
          rcases hv with hv | hv
          · exact Cx.v2_of_v1 (hv 0 v x h0 hx)
          · exact hv.2 v x h0 hx
        by_cases h1 : ms.length = 1
        · obtain ⟨m, rfl⟩ := List.length_eq_one_iff.1 h1
          obtain ⟨v0, rfl⟩ := List.length_eq_one_iff.1 (hl.trans h1)
          show (c.cut s all O).bx 1 (inTm m p.1) cs
          exact bx_single (by simpa using hsz) hone inTm_notAgg fun x hx => (hs 0 _ v0 x rfl rfl).2 (hv2 v0 x rfl hx)
        · have hagg : (match inTms ms p with | [v] => v | vs => .agg vs) = .agg (inTms ms p) := by
            split
            · rename_i v' e; rw [e] at hlen; exact absurd hlen.symm h1
            · rfl
          rw [hagg]
          refine ⟨hlen, fun j u x hu hx => ?_⟩
          have hj : j < vs.length := by have := (List.getElem?_eq_some_iff.1 hu).1; omega
          have hvj : vs[j]? = some vs[j] := by simp [hj]
          refine (hs j u _ x hu hvj).1 ?_
          rcases hv with hv | hv
          · exact hv j _ x hvj hx
          · exact absurd hv.1 h1
      split at h
      · rename_i ls
        exact many ls h (.inl fun j v x hv hx => hbx.2 j v x hv hx)
      · rename_i e
        split at h
        · rename_i hn1
          split at h
          · cases h
          · rename_i hna
            refine many [.t e] h (.inr ⟨hn1, fun v x hv hx => ?_⟩)
            simp only [List.getElem?_cons_zero, Option.some.injEq] at hv
            subst hv
            have := hbx.2 0 x hx
            have he0 : e.leaf 0 = e := by cases e <;> first | rfl | exact absurd rfl (hna _)
            rw [he0] at this
            exact this
        · obtain ⟨ls, hls, h⟩ := Option.bind_eq_some_iff.1 h
          refine many ls h (.inl fun j v x hv hx => ?_)
          obtain ⟨e', he', hls⟩ := Option.bind_eq_some_iff.1 hls
          simp only [Option.some.injEq] at hls
          subst hls
          simp only [List.getElem?_map, Option.map_eq_some_iff] at hv
          obtain ⟨q, hq, rfl⟩ := hv
          have hjq : q = j := by
            have := List.getElem?_eq_some_iff.1 hq
            obtain ⟨_, h⟩ := this
            simpa using h.symm
          subst hjq
          have : e' = e := by
            unfold T.aggN at he'
            split at he'
            · split at he'
              · simp only [Option.some.injEq] at he'; exact he'.symm
              · cases he'
            · cases he'
          subst this
          exact hbx.2 q x hx
      · rename_i hv1 hv2
        have hl : ms.length = 1 := by have := (prTms_sound hR hA hB h).1; simpa using this.symm
        refine many [v] h (.inr ⟨hl, fun v' x hv hx => ?_⟩)
        simp only [List.getElem?_cons_zero, Option.some.injEq] at hv
        subst hv
        cases v with
        | t e => exact absurd rfl (hv2 e)
        | agg ls => exact absurd rfl (hv1 ls)
        | _ => exact hbx.2 x hx
  | boxT e n =>
    show (c.cut s all O).ob d ((s1.setOb e _).objs d)
    rw [setOb]
    cases hb : Nat.beq d e with
    | false => exact h1
    | true =>
      have := nbeq hb; subst this
      simp only [prIt, leavesK_eq] at h
      simp only [cond_true]
      split at h
      rotate_left
      · cases h
      rename_i n' v ho
      cases hz : (Nat.beq n' n && !v.hot) with
      | false => rw [hz] at h; cases h
      | true =>
      rw [hz] at h
      simp only [cond_true] at h
      simp only [Bool.and_eq_true, Bool.not_eq_true'] at hz
      have := nbeq hz.1; subst this
      have hob := hR.ob d
      rw [ho] at hob
      obtain ⟨b, cs, E, he, hh, hsz, hone, hbx⟩ := hob
      obtain ⟨y, hy, h⟩ := Option.bind_eq_some_iff.1 h
      simp only [Option.some.injEq] at h
      subst h
      refine ⟨b, cs, E, by rw [cut_eta (hnm d rfl) (by rw [ho]; simp)]; exact he, hh, hsz, hone, ?_⟩
      have single : n' = 1 → (∀ x, cs[0]? = some x → c.v2 v x) → (c.cut s all O).bx n' (.t y) cs := fun hn1 hx => by
        subst hn1
        exact bx_single hsz hone (by simp) fun x h0 => out_cold (Cx.v3_of_v2 (hx x h0)) hz.2 hy
      cases v with
      | t e =>
        simp only [V.out, V.out3, V.out2, V.out1, Option.some.injEq] at hy
        subst hy
        exact hbx
      | agg ls =>
        have hr : TRep c.w c.cold y (.agg cs) := out_cold (c := c) (v := .agg ls) ⟨cs, rfl, by rw [hsz, hbx.1], hone, hbx.2⟩ hz.2 hy
        cases hr with
        | agg ts _ hn h1' h' => exact ⟨by show ts.length = n'; omega, fun j x hx => by
            have hj : j < ts.length := by have := (Array.getElem?_eq_some_iff.1 hx).1; omega
            have ht : ts[j]? = some ts[j] := by simp [hj]
            have := h' j _ x ht hx
            show TRep _ _ (ts.getD j .junk) x
            rw [List.getD_eq_getElem?_getD, ht]
            exact this⟩
        | junk _ h' => cases h'
      | tup _ => simp [V.hot, V.hot1] at hz
      | _ => exact single hbx.1 hbx.2
theorem prSh_ob (hR : Rel w0 cold0 N s a c) {O : Nat → Ob} (hA : ∀ d, hasRow all d = true → ∃ sz xs, O d = .row sz xs ∧ RowFrom s (nm s d all) sz xs)
    (hB : ∀ d, hasBox all d = true → ∃ n u u', O d = .box n u' ∧ s.objs d = .box n u ∧ nm s d all = some d) (hnm : ∀ i ∈ all, ∀ d, i.name = some d → nm s d all = i.src s) : ∀ {sh : List It} {p : Pay sh}, (∀ i ∈ sh, i ∈ all) → prSh all s sh some = some p → ∀ d, (c.cut s all O).ob d ((inSh sh p).objs d)
  | [], _, _, _, _ => trivial
  | i :: is, p, hsub, h, d => prIt_ob hR hA hB (prSh_parts h).1 (hnm i (hsub i (by simp))) (prSh_ob hR hA hB hnm (fun j hj => hsub j (by simp [hj])) (prSh_parts h).2 d)
theorem prSh_tmp (hR : Rel w0 cold0 N s a c) {O : Nat → Ob} (hA : ∀ d, hasRow all d = true → ∃ sz xs, O d = .row sz xs ∧ RowFrom s (nm s d all) sz xs)
    (hB : ∀ d, hasBox all d = true → ∃ n u u', O d = .box n u' ∧ s.objs d = .box n u ∧ nm s d all = some d) : ∀ {sh : List It} {p : Pay sh}, prSh all s sh some = some p → ∀ t, (c.cut s all O).v3 ((inSh sh p).env t) (a.tmps.getD t undef)
  | [], _, _, _ => trivial
  | i :: is, p, h, t => by
    obtain ⟨h1, h2⟩ := prSh_parts h
    have ih := prSh_tmp hR hA hB h2 t
    cases i with
    | tmp e m =>
      show (c.cut s all O).v3 (bif Nat.beq t e then inTm m p.1 else (inSh is p.2).env t) _
      cases hb : Nat.beq t e with
      | false => exact ih
      | true =>
        have := nbeq hb; subst this
        exact Cx.v3_of_v2 (prTm_sound hR hA hB h1 (hR.tmp t))
    | _ => exact ih
/-- WHAT A CUT KEEPS still stands for the frame. -/
theorem prSh_sound {R : Type} {sh : List It} {k : Pay sh → Option R} {r : R} {w : World} (hs : Is w0 cold0 N s a w) (h : prS sh s k = some r) : ∃ p, k p = some r ∧ Is w0 cold0 N (inSh sh p) a w := by
  obtain ⟨c, rfl, hR⟩ := hs
  unfold prS at h
  cases hok : shOk sh s with
  | false => rw [hok] at h; cases h
  | true =>
  rw [hok] at h
  simp only [cond_true] at h
  simp only [shOk, Bool.and_eq_true] at hok
  obtain ⟨hn1, hn2⟩ := hok
  rw [prSh_nat] at h
  obtain ⟨p, hp, h⟩ := Option.bind_eq_some_iff.1 h
  refine ⟨p, h, c.cut s sh (inSh sh p).objs, rfl, ?_⟩
  have hnm : ∀ i ∈ sh, ∀ d, i.name = some d → nm s d sh = i.src s := fun i hi d hd => nm_of_mem hn1 hi hd
  have hobk := prSh_obK hnm (fun _ h => h) hp
  have hA : ∀ d, hasRow sh d = true → ∃ sz xs, (inSh sh p).objs d = .row sz xs ∧ RowFrom s (nm s d sh) sz xs := fun d hd => by
    obtain ⟨sz, xs, ho⟩ := inSh_row (p := p) hn1 d hd
    rcases hobk d with e | ⟨sz', xs', e, e'⟩ | ⟨_, _, _, e, _⟩
    · rw [ho] at e; cases e
    · exact ⟨sz', xs', e, e'⟩
    · rw [ho] at e; cases e
  have hB : ∀ d, hasBox sh d = true → ∃ n u u', (inSh sh p).objs d = .box n u' ∧ s.objs d = .box n u ∧ nm s d sh = some d := fun d hd => by
    obtain ⟨n, u, ho⟩ := inSh_box (p := p) hn1 d hd
    rcases hobk d with e | ⟨_, _, e, _⟩ | ⟨n', u1, u2, e, e'⟩
    · rw [ho] at e; cases e
    · rw [ho] at e; cases e
    · exact ⟨n', u1, u2, e, e'⟩
  have live : ∀ d b, (c.cut s sh (inSh sh p).objs).eta d = some b → ∃ e, nm s d sh = some e ∧ s.objs e ≠ .none ∧ c.eta e = some b := fun d b he => by
    cases hn : nm s d sh with
    | none => rw [cut_etaN hn] at he; cases he
    | some e =>
      by_cases ho : s.objs e = .none
      · rw [cut_eta0 hn ho] at he; cases he
      · rw [cut_eta hn ho] at he; exact ⟨e, rfl, ho, he⟩
  exact { objs := rfl, below := hR.below, size := hR.size, defers := hR.defers, c0 := hR.c0, c1 := hR.c1, clt := hR.clt
          hot := fun d b _ he => by obtain ⟨e, _, h1, h2⟩ := live d b he; exact hR.hot e b h1 h2
          inj := fun d d' b _ _ h1 h2 => by
            obtain ⟨e, n1, l1, e1⟩ := live d b h1
            obtain ⟨e', n2, l2, e2⟩ := live d' b h2
            have := hR.inj e e' b l1 l2 e1 e2
            subst this
            exact nm_inj hn2 n1 n2
          ob := prSh_ob hR hA hB hnm (fun _ h => h) hp
          tmp := prSh_tmp hR hA hB hp
          nle := hR.nle
          pin := fun d b n u hpn hu => by
            rcases hobk d with e | ⟨_, _, e, _⟩ | ⟨n', u1, u2, e, e', e''⟩
            · rw [hu] at e; cases e
            · rw [hu] at e; cases e
            · show (c.cut s sh (inSh sh p).objs).eta d = some b
              rw [cut_eta e'' (by rw [e']; simp)]
              exact hR.pin d b n' u1 hpn e' }
end
end Go.Ax
