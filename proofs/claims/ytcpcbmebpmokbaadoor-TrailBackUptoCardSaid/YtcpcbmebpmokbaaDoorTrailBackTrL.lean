/- Layer 23: what is written is read as the same; what is read is written as the same text: in plain Lean, no program. -/
import Derived.Test.YtcpcbmebpmokbaaDoorTrailBackTrB
set_option linter.unusedVariables false
set_option linter.unusedSimpArgs false
namespace Go.Ax
open Go
theorem cutAt_app (c : UInt8) : ∀ (a p r : List UInt8), c ∉ a → cutAt c p (a ++ r) = cutAt c (p ++ a) r
  | [], p, r, _ => by rw [List.nil_append, List.append_nil]
  | b :: a, p, r, h => by
    have hb : b ≠ c := fun e => h (e ▸ List.mem_cons_self ..)
    rw [List.cons_append, cutAt, if_neg hb, cutAt_app c a _ r fun e => h (List.mem_cons_of_mem _ e), List.append_assoc]
    rfl
theorem itoa_no {n : Int} {c : UInt8} (h45 : c.toNat ≠ 45) (hd : ¬ isDig c) : c ∉ Lib.itoa n := fun h => by
  rcases itoa_mem h with h | h
  · exact h45 h
  · exact hd h
theorem itoa_no32 (n : Int) : (32 : UInt8) ∉ Lib.itoa n := itoa_no (by decide) (by unfold isDig; decide)
theorem itoa_no10 (n : Int) : (10 : UInt8) ∉ Lib.itoa n := itoa_no (by decide) (by unfold isDig; decide)
theorem numsL_no10 : ∀ (ns : List Int), (10 : UInt8) ∉ numsL ns
  | [] => by simp [numsL]
  | n :: ns => by
    rw [numsL_cons]
    intro h
    rcases List.mem_append.1 h with h | h
    · rcases List.mem_cons.1 h with h | h
      · exact absurd h (by decide)
      · exact itoa_no10 n h
    · exact numsL_no10 ns h
theorem cutAt_nums : ∀ (ns : List Int) (p : List UInt8), cutAt 32 p (numsL ns) = p :: ns.map Lib.itoa
  | [], p => rfl
  | n :: ns, p => by
    rw [numsL_cons, List.cons_append, cutAt, if_pos rfl, cutAt_app 32 _ _ _ (itoa_no32 n), cutAt_nums ns]
    rfl
theorem numsS_map : ∀ {ns : List Int}, (∀ n ∈ ns, okI n) → numsS (ns.map Lib.itoa) = some ns
  | [], _ => rfl
  | n :: ns, h => by
    have h1 : numS (bl (Lib.itoa n)) = some n := numS_iff.2 ⟨h n (List.mem_cons_self ..), rfl⟩
    rw [List.map_cons, numsS, h1]
    simp only [bind_mk]
    rw [numsS_map fun m hm => h m (List.mem_cons_of_mem _ hm)]
    rfl
theorem numbers_line {w : List UInt8} {ns : List Int} (hw : (32 : UInt8) ∉ w) (h : ∀ n ∈ ns, okI n) : numbersS (bl (w ++ numsL ns)) (bl w) ns.length = some ns := by
  unfold numbersS
  rw [bl_list, cutAt_app 32 _ _ _ hw, cutAt_nums, List.nil_append]
  unfold numbersL
  simp only
  rw [if_pos ⟨trivial, by simp⟩, numsS_map h]
/-- the other way -/
theorem cutAt_join (c : UInt8) : ∀ (l p : List UInt8) (h : List UInt8) (ts : List (List UInt8)), cutAt c p l = h :: ts → p ++ l = h ++ ts.flatMap fun t => c :: t
  | [], p, h, ts, e => by
    simp only [cutAt, List.cons.injEq] at e
    rw [← e.1, ← e.2]; simp
  | b :: l, p, h, ts, e => by
    unfold cutAt at e
    split at e
    · rename_i hb
      subst hb
      cases hc : cutAt b [] l with
      | nil => have := (cutAt_len b l []).1; rw [hc] at this; simp at this
      | cons h' ts' =>
        rw [hc] at e
        simp only [List.cons.injEq] at e
        have := cutAt_join b l [] h' ts' hc
        rw [← e.1, ← e.2, List.flatMap_cons, List.cons_append, ← this]
        rfl
    · have := cutAt_join c l _ h ts e
      rw [← this, List.append_assoc]; rfl
theorem numsS_inv : ∀ {ts : List (List UInt8)} {ns : List Int}, numsS ts = some ns → ts.flatMap (fun t => (32 : UInt8) :: t) = numsL ns
  | [], ns, h => by cases h; rfl
  | t :: ts, ns, h => by
    simp only [numsS] at h
    obtain ⟨n, hn, h⟩ := Option.bind_eq_some_iff.1 h
    obtain ⟨l, hl, h⟩ := Option.bind_eq_some_iff.1 h
    cases h
    have e : t = Lib.itoa n := bl_inj (numS_iff.1 hn).2
    rw [List.flatMap_cons, numsL_cons, numsS_inv hl, e]
theorem numbers_inv {t w : List UInt8} {m : Nat} {ns : List Int} (h : numbersS (bl t) (bl w) m = some ns) : t = w ++ numsL ns := by
  unfold numbersS numbersL at h
  rw [bl_list] at h
  split at h
  · rename_i hd ts hc
    split at h
    · rename_i hw
      have e := bl_inj hw.1
      have := cutAt_join 32 t [] hd ts hc
      rw [List.nil_append] at this
      rw [this, e, numsS_inv h]
    · cases h
  · cases h
/-! ### written, then read -/
theorem line_app (w : List UInt8) (ns : List Int) (r : List UInt8) : lineS w ns ++ r = (w ++ numsL ns) ++ 10 :: r := by
  unfold lineS; simp
theorem no10_line {w : List UInt8} (hw : (10 : UInt8) ∉ w) (ns : List Int) : (10 : UInt8) ∉ w ++ numsL ns := fun h => by
  rcases List.mem_append.1 h with h | h
  · exact hw h
  · exact numsL_no10 ns h
theorem step_move {K : Nat → Prop} {v : MMove} (hv : v.ok K) (du : Bool) (f : MFound) : stepP (wMove ++ numsL v.nums) false du f = some (false, { f with Trail := f.Trail ++ [v] }) := by
  unfold stepP
  have h1 : ¬ (wMove ++ numsL v.nums = wCycle ∧ f.Cycle < 0) := fun h => by
    have := congrArg List.head? h.1
    simp [wMove, wCycle] at this
  rw [if_neg (by decide), if_neg h1]
  have := numbers_line (w := wMove) (by decide) (MMove.nums_ok hv)
  rw [show v.nums.length = 7 from rfl] at this
  rw [this]
  rfl
theorem parse_moves {K : Nat → Prop} (c : Int) : ∀ (l : List MMove) (a i : Nat) (f : MFound), (∀ v ∈ l, v.ok K) → f.Trail.length = i → ((i : Int) ≤ c ∧ c < (i : Int) + l.length → f.Cycle < 0) →
    parseP a [] (movesS c i l) false false f = .ok { f with Trail := f.Trail ++ l, Cycle := if (i : Int) ≤ c ∧ c < (i : Int) + l.length then c else f.Cycle }
  | [], a, i, f, _, _, _ => by
    rw [movesS, parseP, if_pos ⟨rfl, rfl, rfl⟩]
    have : ¬ ((i : Int) ≤ c ∧ c < (i : Int) + (([] : List MMove).length : Int)) := by simp only [List.length_nil]; omega
    rw [if_neg this, List.append_nil]
  | v :: l, a, i, f, ho, hi, hc => by
    have hv := ho v (List.mem_cons_self ..)
    have hl := fun x hx => ho x (List.mem_cons_of_mem v hx)
    rw [movesS, moveS]
    by_cases hic : (i : Int) = c
    · rw [if_pos hic, List.append_assoc, List.append_assoc, List.singleton_append, parseP_line wCycle _ a [] false false f (by decide)]
      have hneg : f.Cycle < 0 := hc (by simp only [List.length_cons]; omega)
      have hs : stepP ([] ++ wCycle) false false f = some (true, { f with Cycle := (f.Trail.length : Int) }) := by
        unfold stepP
        rw [if_neg (by decide), if_pos ⟨rfl, hneg⟩]
      rw [hs]
      simp only
      rw [line_app, parseP_line _ _ _ [] false true _ (no10_line (by decide) _), List.nil_append, step_move hv]
      simp only
      rw [parse_moves c l _ (i + 1) _ hl (by simp [hi]) (by intro h; omega)]
      have h1 : ¬ (((i + 1 : Nat) : Int) ≤ c ∧ c < ((i + 1 : Nat) : Int) + (l.length : Int)) := by omega
      have h2 : (i : Int) ≤ c ∧ c < (i : Int) + ((v :: l).length : Int) := by simp only [List.length_cons]; omega
      rw [if_neg h1, if_pos h2]
      simp only [List.append_assoc, List.singleton_append, hi, hic]
    · rw [if_neg hic, List.nil_append, line_app, parseP_line _ _ _ [] false false _ (no10_line (by decide) _), List.nil_append, step_move hv]
      simp only
      rw [parse_moves c l _ (i + 1) _ hl (by simp [hi]) (by intro h; exact hc (by simp only [List.length_cons]; omega))]
      have h1 : (((i + 1 : Nat) : Int) ≤ c ∧ c < ((i + 1 : Nat) : Int) + (l.length : Int)) ↔ ((i : Int) ≤ c ∧ c < (i : Int) + ((v :: l).length : Int)) := by
        simp only [List.length_cons]; omega
      simp only [h1, List.append_assoc, List.singleton_append]
theorem parse_print {f : MFound} {K : Nat → Prop} (ho : f.ok K) (hp : printOk f = true) : parseS (bl (printS f)) = .ok f := by
  unfold printOk at hp
  simp only [Bool.not_eq_true', Bool.or_eq_false_iff, decide_eq_false_iff_not] at hp
  obtain ⟨⟨⟨h1, h2⟩, h3⟩, h4⟩ := hp
  have hf := numbers_line (w := wFound) (by decide) (MFound.nums_ok ho)
  rw [show f.nums.length = 6 from rfl] at hf
  unfold parseS printS
  rw [bl_list, line_app, parseP_line _ _ 0 [] true false zFound (no10_line (by decide) _), List.nil_append]
  have hs : stepP (wFound ++ numsL f.nums) true false zFound = some (false, { f with Trail := [], Cycle := -1 }) := by
    unfold stepP
    rw [if_pos rfl, hf]
    simp only [bind_mk]
    have : 1 ≤ f.nums.getD 0 0 ∧ f.nums.getD 0 0 ≤ 4 := by show 1 ≤ f.Kind ∧ f.Kind ≤ 4; omega
    rw [if_pos this]
    rfl
  rw [hs]
  simp only
  obtain ⟨o0, o1, o2, o3, ⟨ol, oT⟩, o5, o6, o7⟩ := ho
  rw [parse_moves f.Cycle f.Trail _ 0 _ oT rfl (by intro _; show (-1 : Int) < 0; decide)]
  simp only [List.nil_append]
  by_cases hc : f.Cycle = -1
  · have : ¬ (((0 : Nat) : Int) ≤ f.Cycle ∧ f.Cycle < ((0 : Nat) : Int) + (f.Trail.length : Int)) := by omega
    rw [if_neg this, ← hc]
  · rw [if_pos (by omega)]
/-! ### read, then written -/
theorem movesS_app (c : Int) : ∀ (l : List MMove) (i : Nat) (v : MMove), movesS c i (l ++ [v]) = movesS c i l ++ moveS c (i + l.length) v
  | [], i, v => by simp [movesS]
  | x :: l, i, v => by
    rw [List.cons_append, movesS, movesS, movesS_app c l (i + 1) v, List.append_assoc, List.length_cons]
    rw [show i + 1 + l.length = i + (l.length + 1) by omega]
theorem movesS_out {c c' : Int} : ∀ (l : List MMove) (i : Nat), (c < i ∨ (i : Int) + l.length ≤ c) → (c' < i ∨ (i : Int) + l.length ≤ c') → movesS c i l = movesS c' i l
  | [], i, _, _ => rfl
  | x :: l, i, h, h' => by
    simp only [List.length_cons] at h h'
    have e1 : ¬ (i : Int) = c := by omega
    have e2 : ¬ (i : Int) = c' := by omega
    rw [movesS, movesS, moveS, moveS, if_neg e1, if_neg e2, movesS_out (c := c) (c' := c') l (i + 1) (by omega) (by omega)]
structure Seen (pre : List UInt8) (du : Bool) (f : MFound) : Prop where
  kind : 1 ≤ f.Kind ∧ f.Kind ≤ 4
  nums : ∀ n ∈ f.nums, okI n
  trail : ∀ v ∈ f.Trail, v.ok ksmall
  cyc : -1 ≤ f.Cycle ∧ f.Cycle ≤ (f.Trail.length : Int)
  due : du = true ↔ f.Cycle = (f.Trail.length : Int)
  pre : pre = lineS wFound f.nums ++ movesS f.Cycle 0 f.Trail ++ (if du = true then wCycle ++ [10] else [])
theorem print_parse : ∀ (rest : List UInt8) (a : Nat) (cur pre : List UInt8) (fi du : Bool) (f g : MFound),
    ((fi = true ∧ du = false ∧ f = zFound ∧ pre = []) ∨ (fi = false ∧ Seen pre du f)) → parseP a cur rest fi du f = .ok g →
    printS g = pre ++ cur ++ rest ∧ Seen (pre ++ cur ++ rest) false g
  | [], a, cur, pre, fi, du, f, g, hI, h => by
    unfold parseP at h
    split at h
    · rename_i hc
      obtain ⟨rfl, rfl, rfl⟩ := hc
      cases h
      rcases hI with ⟨h, _⟩ | ⟨_, hI⟩
      · cases h
      · rw [List.append_nil, List.append_nil]
        have := hI.pre
        rw [if_neg (by decide), List.append_nil] at this
        exact ⟨this.symm, hI⟩
    · cases h
  | b :: r, a, cur, pre, fi, du, f, g, hI, h => by
    unfold parseP at h
    split at h
    · rename_i hb
      subst hb
      split at h
      · rename_i d f' hs
        have key : Seen (pre ++ cur ++ [10]) d f' := by
          unfold stepP at hs
          rcases hI with ⟨rfl, rfl, rfl, rfl⟩ | ⟨rfl, hI⟩
          · rw [if_pos rfl] at hs
            obtain ⟨ns, hn, hs⟩ := Option.bind_eq_some_iff.1 hs
            split at hs
            · rename_i hk
              simp only [Option.some.injEq, Prod.mk.injEq] at hs
              obtain ⟨rfl, rfl⟩ := hs
              obtain ⟨hl, hok⟩ := numbersS_len hn
              obtain ⟨a0, a1, a2, a3, a4, a5, rfl⟩ := list6 hl
              have e := numbers_inv hn
              refine ⟨hk, hok, fun v hv => (by cases hv), ⟨by show (-1 : Int) ≤ -1; decide, by show (-1 : Int) ≤ 0; decide⟩, ⟨fun h => (by cases h), fun h => absurd (show (-1 : Int) = 0 from h) (by decide)⟩, ?_⟩
              rw [if_neg (by decide), List.append_nil, List.nil_append, e]
              show _ = lineS wFound _ ++ []
              rw [List.append_nil]
              rfl
            · cases hs
          · rw [if_neg (by decide)] at hs
            split at hs
            · rename_i hc
              simp only [Option.some.injEq, Prod.mk.injEq] at hs
              obtain ⟨rfl, rfl⟩ := hs
              have hd : du = false := by
                cases hdu : du with
                | false => rfl
                | true => have := hI.due.1 hdu; omega
              refine ⟨hI.kind, hI.nums, hI.trail, ⟨by show -1 ≤ (f.Trail.length : Int); omega, Int.le_refl _⟩, ⟨fun _ => rfl, fun _ => rfl⟩, ?_⟩
              have hp := hI.pre
              rw [hd, if_neg (by decide), List.append_nil] at hp
              rw [if_pos rfl, hp, hc.1]
              show _ = lineS wFound f.nums ++ movesS (f.Trail.length : Int) 0 f.Trail ++ _
              rw [movesS_out (c := f.Cycle) (c' := (f.Trail.length : Int)) f.Trail 0 (by have := hc.2; omega) (by omega), List.append_assoc]
            · obtain ⟨ns, hn, hs⟩ := Option.bind_eq_some_iff.1 hs
              simp only [Option.some.injEq, Prod.mk.injEq] at hs
              obtain ⟨rfl, rfl⟩ := hs
              obtain ⟨hl, hok⟩ := numbersS_len hn
              obtain ⟨a0, a1, a2, a3, a4, a5, a6, rfl⟩ := list7 hl
              have e := numbers_inv hn
              have hc := hI.cyc
              have hlen : ((f.Trail ++ [(⟨a0, a1, a2, a3, a4, a5, a6⟩ : MMove)]).length : Int) = (f.Trail.length : Int) + 1 := by simp
              refine ⟨hI.kind, hI.nums, fun v hv => ?_, ⟨hc.1, ?_⟩, ⟨fun h => (by cases h), fun h => ?_⟩, ?_⟩
              · rcases List.mem_append.1 hv with hv | hv
                · exact hI.trail v hv
                · rw [List.mem_singleton.1 hv]
                  exact ⟨hok _ (by simp), hok _ (by simp), hok _ (by simp), hok _ (by simp), hok _ (by simp), hok _ (by simp), hok _ (by simp)⟩
              · show f.Cycle ≤ ((f.Trail ++ [(⟨a0, a1, a2, a3, a4, a5, a6⟩ : MMove)]).length : Int)
                rw [hlen]; omega
              · have h : f.Cycle = ((f.Trail ++ [(⟨a0, a1, a2, a3, a4, a5, a6⟩ : MMove)]).length : Int) := h
                rw [hlen] at h; omega
              · rw [if_neg (by decide), List.append_nil, hI.pre, e]
                show _ = lineS wFound f.nums ++ movesS f.Cycle 0 (f.Trail ++ [(⟨a0, a1, a2, a3, a4, a5, a6⟩ : MMove)])
                rw [movesS_app, moveS]
                have ed : (if du = true then wCycle ++ [10] else []) = (if ((0 + f.Trail.length : Nat) : Int) = f.Cycle then wCycle ++ [(10 : UInt8)] else []) := by
                  by_cases hd : du = true
                  · rw [if_pos hd, if_pos (by have := hI.due.1 hd; omega)]
                  · rw [if_neg hd, if_neg fun h => hd (hI.due.2 (by omega))]
                rw [ed]
                simp only [List.append_assoc]
                rfl
        have := print_parse r _ [] (pre ++ cur ++ [10]) false d f' g (.inr ⟨rfl, key⟩) h
        have e : pre ++ cur ++ [10] ++ [] ++ r = pre ++ cur ++ 10 :: r := by simp
        rw [e] at this
        exact this
      · cases h
    · have := print_parse r a (cur ++ [b]) pre fi du f g hI h
      have e : pre ++ (cur ++ [b]) ++ r = pre ++ cur ++ b :: r := by simp
      rw [e] at this
      exact this
end Go.Ax
