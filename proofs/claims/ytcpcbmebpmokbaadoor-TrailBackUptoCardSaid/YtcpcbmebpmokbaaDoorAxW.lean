/- Ax, part W: a law: its function's summary gives what its row says. -/
import Derived.Test.YtcpcbmebpmokbaaDoorAxV
set_option linter.unusedVariables false
set_option linter.unusedSimpArgs false
namespace Go.Ax
open Go Go.RowKit

def TypedArgs (P : Program) (K : Nat → Prop) (n : Nat) : List TypeId → List T → Prop
  | [], [] => True
  | t :: ts, x :: xs => (∃ ls, x = wrapT (isAggT P t) ls ∧ Typed P K n t ls) ∧ TypedArgs P K n ts xs
  | _, _ => False

section
variable {H : Type} {enc : TypeId × Value → H} {P : Program} {K : Nat → Prop} {w : World} {spare : Nat → Bool} {held : Bool}

theorem one_rep (hK0 : K 0) {n : Nat} {t : TypeId} {v : Value} {d : DataW H} {ps : List MemPlace} {r : Reach} {base : Nat} (hok : okTy P n t = true) (hw : Value.okWide P w r base t v) (hwt : (∀ k ∈ d.weights P t, k ≤ reachBytes) ∧ ∀ k ∈ lensD d, K k) (h : DataW.Trod enc P w 0 spare held t v d ps) :
    ∃ x, (∃ ls, x = wrapT (isAggT P t) ls ∧ Typed P K n t ls) ∧ TRep w (fun b => b < w.heap.size) x v := by
  obtain ⟨fuel, h⟩ := h
  obtain ⟨hl, ls, h1, h2⟩ := trod_rep hK0 n t fuel _ _ hok hwt h
  refine ⟨_, ⟨ls, rfl, h1⟩, ?_⟩
  have agg : ∀ cs : Array Value, v = .agg cs → isAggT P t = true → TRep w (fun b => b < w.heap.size) (wrapT (isAggT P t) ls) v := fun cs hv ha => by
    subst hv
    rw [ha]
    have h2 : LRep w (fun b => b < w.heap.size) ls cs.toList := h2
    refine .agg ls cs (by rw [h2.len]; simp) (fun j c hc => ?_) (fun j l c hl hc => (h2.get j l c hl (by simpa using hc)).1)
    have hj : j < ls.length := by rw [h2.len]; have := (Array.getElem?_eq_some_iff.1 hc).1; simpa using this
    exact (h2.get j _ c (List.getElem?_eq_getElem hj) (by simpa using hc)).2.1
  have one : v.cells = #[v] → isAggT P t = false → TRep w (fun b => b < w.heap.size) (wrapT (isAggT P t) ls) v := fun hv ha => by
    rw [ha]
    rw [hv] at h2
    have h2 : LRep w (fun b => b < w.heap.size) ls [v] := h2
    match ls, h2 with
    | [x], h2 => exact h2.1.1
    | [], h2 => exact h2.elim
    | _ :: _ :: _, h2 => exact h2.2.elim
  cases n with
  | zero => cases hok
  | succ n =>
    unfold okTy at hok
    unfold isAggT at agg one
    unfold isAggT
    split at hok
    · rename_i hu
      obtain ⟨b, rfl⟩ := Go.WideShapes.okWide_bool hu hw
      rw [hu] at one ⊢
      exact one rfl rfl
    · rename_i k hu
      obtain ⟨b, rfl⟩ := Go.WideShapes.okWide_int hu hw
      rw [hu] at one ⊢
      exact one rfl rfl
    · rename_i hu
      obtain ⟨b, rfl⟩ := Go.WideShapes.okWide_string hu hw
      rw [hu] at one ⊢
      exact one rfl rfl
    · rename_i e hu
      obtain ⟨a, l, c, rfl⟩ := Go.WideShapes.okWide_slice hu hw
      rw [hu] at one ⊢
      exact one rfl rfl
    · rename_i fs hu
      obtain ⟨cs, hv, _⟩ := Go.WideShapes.okWide_struct hu hw
      rw [hu] at agg ⊢
      exact agg cs hv rfl
    · rename_i m e hu
      unfold Value.okWide at hw
      rw [hu] at hw agg ⊢
      obtain ⟨cs, hv, _⟩ := hw
      exact agg cs hv rfl
    · cases hok
theorem args_rep (hK0 : K 0) {n : Nat} {r : Reach} {base : Nat} : ∀ {ts : List TypeId} {vs : List Value} {ds : List (DataW H)} {ps : List MemPlace}, ts.all (okTy P n) = true →
    (∀ (j : Nat) t v, ts[j]? = some t → vs[j]? = some v → Value.okWide P w r base t v) → ((∀ k ∈ DataW.weightsEach P ts ds, k ≤ reachBytes) ∧ ∀ k ∈ lensAll ds, K k) → DataW.TrodAll enc P w 0 spare held ts vs ds ps →
    ∃ xs, TypedArgs P K n ts xs ∧ xs.length = vs.length ∧ ∀ (j : Nat) (x : T) (v : Value), xs[j]? = some x → vs[j]? = some v → TRep w (fun b => b < w.heap.size) x v
  | [], [], [], _, _, _, _, _ => ⟨[], trivial, rfl, fun j x v h => by simp at h⟩
  | t :: ts, v :: vs, d :: ds, ps, hok, hw, hwt, ⟨p, q, h1, h2, _⟩ => by
    simp only [List.all_cons, Bool.and_eq_true] at hok
    obtain ⟨x, hx1, hx2⟩ := one_rep hK0 hok.1 (hw 0 t v rfl rfl) ⟨fun k hk => hwt.1 k (by unfold DataW.weightsEach; exact List.mem_append_left _ hk), fun k hk => hwt.2 k (by unfold lensAll; exact List.mem_append_left _ hk)⟩ h1
    obtain ⟨xs, hxs, hl, hr⟩ := args_rep hK0 hok.2 (fun j t v h1 h2 => hw (j + 1) t v (by simpa using h1) (by simpa using h2)) ⟨fun k hk => hwt.1 k (by unfold DataW.weightsEach; exact List.mem_append_right _ hk), fun k hk => hwt.2 k (by unfold lensAll; exact List.mem_append_right _ hk)⟩ h2
    refine ⟨x :: xs, ⟨hx1, hxs⟩, by simp [hl], fun j y u hy hu => ?_⟩
    cases j with
    | zero => simp at hy hu; subst hy; subst hu; exact hx2
    | succ j => exact hr j y u (by simpa using hy) (by simpa using hu)
  | [], [], _ :: _, _, _, _, _, h => h.elim
  | [], _ :: _, _, _, _, _, _, h => by cases h
  | _ :: _, [], _, _, _, _, _, h => by cases h
  | _ :: _, _ :: _, [], _, _, _, _, h => h.elim
theorem args_below {W W' : World} (hl : laidOutB P = true) (hb : Below W.heap.size W W') : ∀ {ts : List TypeId} {vs : List Value} {ds : List (DataW H)} {ps : List MemPlace},
    ts.all (fun t => P.readableRec t && decide (t < P.types.size)) = true → (∀ x ∈ ps, x.block < W.heap.size) → DataW.TrodAll enc P W 0 (fun _ => true) true ts vs ds ps →
    DataW.TrodAll enc P W' 0 (fun b => decide (b < W.heap.size)) true ts vs ds ps
  | [], [], [], _, _, _, h => h
  | t :: ts, v :: vs, d :: ds, ps, hok, hlt, ⟨p, q, h1, h2, h3⟩ => by
    subst h3
    simp only [List.all_cons, Bool.and_eq_true, decide_eq_true_eq] at hok
    exact ⟨p, q, Below.trod hl hok.1.1 hok.1.2 h1 hb fun x hx => hlt x (List.mem_append_left _ hx), args_below hl hb hok.2 (fun x hx => hlt x (List.mem_append_right _ hx)) h2, rfl⟩
  | [], [], _ :: _, _, _, _, h => h.elim
  | [], _ :: _, _, _, _, _, h => by cases h
  | _ :: _, [], _, _, _, _, h => by cases h
  | _ :: _, _ :: _, [], _, _, _, h => h.elim
theorem trodAll_len {W : World} {base : Nat} : ∀ {ts : List TypeId} {vs : List Value} {ds : List (DataW H)} {ps : List MemPlace}, DataW.TrodAll enc P W base spare held ts vs ds ps → ds.length = ts.length ∧ vs.length = ts.length
  | [], [], [], _, _ => ⟨rfl, rfl⟩
  | t :: ts, v :: vs, d :: ds, ps, ⟨p, q, h1, h2, h3⟩ => by obtain ⟨h4, h5⟩ := trodAll_len h2; exact ⟨by simp [h4], by simp [h5]⟩
  | [], [], _ :: _, _, h => h.elim
  | [], _ :: _, _, _, h => by cases h
  | _ :: _, [], _, _, h => by cases h
  | _ :: _, _ :: _, [], _, h => h.elim
theorem weightsEach_left : ∀ {ts us : List TypeId} {ds : List (DataW H)} (k : Nat), k ∈ DataW.weightsEach P ts ds → k ∈ DataW.weightsEach P (ts ++ us) ds
  | t :: ts, us, d :: ds, k, h => by
    simp only [List.cons_append, DataW.weightsEach, List.mem_append] at h ⊢
    exact h.imp id (weightsEach_left k)
  | [], _, _, _, h => by simp [DataW.weightsEach] at h
  | _ :: _, _, [], _, h => by simp [DataW.weightsEach] at h
/-- A LAW, from the summary of its function: it returns true, what it reads reads as it did. -/
theorem law_contract (hK0 : K 0) {f : FuncId} {fn : Func} {s : ChangeSpec} {n : Nat} {tb : TypeId} {apart : Bool} (hl : laidOutB P = true)
    (hts : fn.params.toList.all (okTy P n) = true) (hrd : fn.params.toList.all (fun t => P.readableRec t && decide (t < P.types.size)) = true) (hrt : fn.resultTypes = #[tb]) (htb : P.underlying tb = some .bool) (hvars : s.vars = [])
    (hs : ∀ ds : List (DataW H), ds.length = fn.params.size → s.fn H ds = { results := [.lit (.bool true)], args := ds })
    {W : World} {base : Nat} {args : Array Value} {ds gs : List (DataW H)} {before : List MemPlace}
    (hlaw : ∀ xs, TypedArgs P K n fn.params.toList xs → ∃ ap, CallSound P W f xs ap [.l (.t (.bool true))])
    (hval : ∀ (j : Nat) t v, fn.params[j]? = some t → args[j]? = some v → Value.okWide P W .any base t v)
    (hwt : (DataW.weightsEach P (fn.params.toList ++ s.plain.varTypes P) (ds ++ gs)).all (· ≤ reachBytes) = true)
    (hlens : ∀ k ∈ lensAll ds, K k)
    (hW : DataW.Whole enc P fn.params.toList s.vars apart W args.toList ds gs before) :
    Calls P f args W fun e W' => ∃ v, e = .returned v ∧ s.post enc P fn apart true false false W args v W' := by
  have hW' := hW
  obtain ⟨p, q, hA, hV, rfl, hfz, hnd⟩ := hW
  obtain ⟨hdl, hvl⟩ := trodAll_len hA
  rw [hvars] at hV
  obtain ⟨rfl, rfl⟩ : gs = [] ∧ q = [] := by
    cases gs with
    | nil => exact ⟨rfl, hV⟩
    | cons _ _ => exact hV.elim
  obtain ⟨xs, hx1, hx2, hx3⟩ := args_rep hK0 hts (fun j t v h1 h2 => hval j t v (by simpa using h1) (by simpa using h2)) ⟨fun k hk => by
    have hm : k ∈ DataW.weightsEach P (fn.params.toList ++ s.plain.varTypes P) (ds ++ []) := by
      rw [List.append_nil]; exact weightsEach_left k hk
    simpa using List.all_eq_true.1 hwt k hm, hlens⟩ hA
  obtain ⟨ap, hcall⟩ := hlaw xs hx1
  refine (hcall W (fun b => b < W.heap.size) args (Below.refl _ _) (fun _ h => h) (by rw [hx2]; simp) (fun j t v h1 h2 => hx3 j t v h1 (by simpa using h2))).mono ?_
  rintro e W' ⟨vs, bs, he, hb, _, _, hrep⟩
  have hv : valOf vs = .bool true := by
    obtain ⟨us, hrep, rfl, _⟩ := hrep
    match us, hrep with
    | [v], ⟨b1, b2, _, ⟨h1, _⟩, _⟩ =>
      show v = _
      cases h1; rfl
    | _ :: _ :: _, ⟨_, _, _, _, h⟩ => exact h.elim
  rw [hv] at he
  refine ⟨_, he, ?_⟩
  simp only [List.append_nil] at hW'
  have hlt : ∀ x ∈ p, x.block < W.heap.size := fun x hx => by simpa using hW'.lt x hx
  have hsfn := hs ds (by rw [hdl]; simp)
  refine ⟨ds, [], p, [], p, [], hW', ?_, ?_, ?_, ?_, fun h => by cases h⟩
  · rw [List.append_nil, hsfn, hrt]
    exact Go.ChangeShapes.trodAll_mk1 (shut_bool htb _)
  · rw [List.append_nil, hsfn]
    exact args_below hl hb hrd hlt hA
  · rw [List.append_nil, hsfn, hvars]
    exact rfl
  · exact hb.frame _
end
end Go.Ax
