/- Ax, part X: kinds of arguments and of results; oracles as lists; laws out of summaries. -/
import Derived.Test.YtcpcbmebpmokbaaDoorAxW
import Derived.Test.YtcpcbmebpmokbaaDoorAxUa
set_option linter.unusedVariables false
set_option linter.unusedSimpArgs false
namespace Go.Ax
open Go

@[reducible] def APay : List Ak → Type
  | [] => Unit
  | a :: as => a.Pay × APay as
def decA : (as : List Ak) → List T → Option (APay as)
  | [], [] => some ()
  | a :: as, x :: xs => (a.dec x).bind fun p => (decA as xs).bind fun q => some (p, q)
  | _, _ => none
def encA : (as : List Ak) → APay as → List T
  | [], _ => []
  | a :: as, p => a.enc p.1 :: encA as p.2
theorem decA_some : ∀ {as : List Ak} {xs : List T} {p : APay as}, decA as xs = some p → xs = encA as p
  | [], [], _, _ => rfl
  | a :: as, x :: xs, p, h => by
    simp only [decA, Option.bind_eq_some_iff, Option.some.injEq] at h
    obtain ⟨u, hu, b, hb, rfl⟩ := h
    show _ = a.enc u :: encA as b
    rw [Ak.dec_some hu, decA_some hb]
  | [], _ :: _, _, h => by simp [decA] at h
  | _ :: _, [], _, h => by simp [decA] at h
theorem encA_len : ∀ {as : List Ak} {p : APay as}, (encA as p).length = as.length
  | [], _ => rfl
  | _ :: as, p => by show (encA as p.2).length + 1 = as.length + 1; rw [encA_len]

/-- kinds of results: a leaf: cold; a row of the callee's own; a struct of leaves -/
inductive Lk where
  | cell (c : Ck)
  | own (sz : Nat)
@[reducible] def Lk.Pay : Lk → Type
  | .cell c => c.Pay
  | .own _ => List T
@[reducible] def Lks.Pay : List Lk → Type
  | [] => Unit
  | l :: ls => l.Pay × Lks.Pay ls
def Lk.dec : (l : Lk) → RL → Option l.Pay
  | .cell c, .t x => c.dec x
  | .own sz, .own sz' xs => bif Nat.beq sz' sz then some xs else none
  | _, _ => none
def Lk.enc : (l : Lk) → l.Pay → RL
  | .cell c, p => .t (c.enc p)
  | .own sz, xs => .own sz xs
theorem Lk.dec_some {l : Lk} {x : RL} {p : l.Pay} (h : l.dec x = some p) : x = l.enc p := by
  cases l with
  | cell c =>
    cases x with
    | t x => show RL.t x = .t (c.enc p); rw [Ck.dec_some (c := c) (p := p) h]
    | own _ _ => cases h
  | own sz =>
    cases x with
    | t x => cases h
    | own sz' xs =>
      unfold Lk.dec at h
      simp only at h
      cases hb : Nat.beq sz' sz with
      | false => rw [hb] at h; cases h
      | true =>
        rw [hb] at h
        have := Nat.eq_of_beq_eq_true hb
        subst this
        simp only [cond_true, Option.some.injEq] at h
        show RL.own _ _ = .own _ _
        rw [h]
def Lks.dec : (ls : List Lk) → List RL → Option (Lks.Pay ls)
  | [], [] => some ()
  | l :: ls, x :: xs => (l.dec x).bind fun p => (Lks.dec ls xs).bind fun q => some (p, q)
  | _, _ => none
def Lks.enc : (ls : List Lk) → Lks.Pay ls → List RL
  | [], _ => []
  | l :: ls, p => l.enc p.1 :: Lks.enc ls p.2
theorem Lks.dec_some : ∀ {ls : List Lk} {xs : List RL} {p : Lks.Pay ls}, Lks.dec ls xs = some p → xs = Lks.enc ls p
  | [], [], _, _ => rfl
  | l :: ls, x :: xs, p, h => by
    simp only [Lks.dec, Option.bind_eq_some_iff, Option.some.injEq] at h
    obtain ⟨a, ha, b, hb, rfl⟩ := h
    show _ = l.enc a :: Lks.enc ls b
    rw [Lk.dec_some ha, Lks.dec_some hb]
  | [], _ :: _, _, h => by simp [Lks.dec] at h
  | _ :: _, [], _, h => by simp [Lks.dec] at h
inductive Rk where
  | leaf (l : Lk)
  | agg (ls : List Lk)
@[reducible] def Rk.Pay : Rk → Type
  | .leaf l => l.Pay
  | .agg ls => Lks.Pay ls
def Rk.dec : (r : Rk) → RV → Option r.Pay
  | .leaf l, .l x => l.dec x
  | .agg ls, .agg xs => Lks.dec ls xs
  | _, _ => none
def Rk.enc : (r : Rk) → r.Pay → RV
  | .leaf l, p => .l (l.enc p)
  | .agg ls, p => .agg (Lks.enc ls p)
theorem Rk.dec_some {r : Rk} {x : RV} {p : r.Pay} (h : r.dec x = some p) : x = r.enc p := by
  cases r with
  | leaf l =>
    cases x with
    | l x => show RV.l x = .l (l.enc p); rw [Lk.dec_some (l := l) (p := p) h]
    | agg _ => cases h
  | agg ls =>
    cases x with
    | l _ => cases h
    | agg xs => show RV.agg xs = .agg (Lks.enc ls p); rw [Lks.dec_some (ls := ls) (p := p) h]
@[reducible] def RPay : List Rk → Type
  | [] => Unit
  | r :: rs => r.Pay × RPay rs
def decR : (rs : List Rk) → List RV → Option (RPay rs)
  | [], [] => some ()
  | r :: rs, x :: xs => (r.dec x).bind fun p => (decR rs xs).bind fun q => some (p, q)
  | _, _ => none
def encR : (rs : List Rk) → RPay rs → List RV
  | [], _ => []
  | r :: rs, p => r.enc p.1 :: encR rs p.2
theorem decR_some : ∀ {rs : List Rk} {xs : List RV} {p : RPay rs}, decR rs xs = some p → xs = encR rs p
  | [], [], _, _ => rfl
  | r :: rs, x :: xs, p, h => by
    simp only [decR, Option.bind_eq_some_iff, Option.some.injEq] at h
    obtain ⟨u, hu, b, hb, rfl⟩ := h
    show _ = r.enc u :: encR rs b
    rw [Rk.dec_some hu, decR_some hb]
  | [], _ :: _, _, h => by simp [decR] at h
  | _ :: _, [], _, h => by simp [decR] at h
def Lk.spec : Lk → RSL
  | .cell _ => .t
  | .own sz => .own sz
def Rk.spec : Rk → RS
  | .leaf l => .l l.spec
  | .agg ls => .agg (ls.map Lk.spec)
/-- cells that lead to no memory -/
def Ck.flat : Ck → Bool
  | .int _ | .bool | .str | .err => true
  | _ => false
def Lk.flat : Lk → Bool
  | .cell c => c.flat
  | .own _ => false
def Rk.flat : Rk → Bool
  | .leaf l => l.flat
  | .agg ls => ls.all Lk.flat
theorem Lk.flat_enc {l : Lk} (h : l.flat = true) (p : l.Pay) : (l.enc p).flat = true := by
  cases l with
  | own _ => cases h
  | cell c => cases c <;> first | rfl | cases h
theorem Lks.flat_enc : ∀ {ls : List Lk} (h : ls.all Lk.flat = true) (p : Lks.Pay ls), (Lks.enc ls p).all RL.flat = true
  | [], _, _ => rfl
  | l :: ls, h, p => by
    simp only [List.all_cons, Bool.and_eq_true] at h
    show ((l.enc p.1).flat && (Lks.enc ls p.2).all RL.flat) = true
    rw [Lk.flat_enc h.1, Lks.flat_enc h.2]; rfl
theorem flat_encR : ∀ {rs : List Rk} (h : rs.all Rk.flat = true) (p : RPay rs), (flatRV (encR rs p)).all RL.flat = true
  | [], _, _ => rfl
  | r :: rs, h, p => by
    simp only [List.all_cons, Bool.and_eq_true] at h
    show ((r.enc p.1).leaves ++ flatRV (encR rs p.2)).all RL.flat = true
    rw [List.all_append, flat_encR h.2, Bool.and_true]
    cases r with
    | leaf l =>
      show ([l.enc p.1].all RL.flat) = true
      simp only [List.all_cons, List.all_nil, Bool.and_true]
      exact Lk.flat_enc h.1 _
    | agg ls => exact Lks.flat_enc h.1 _

/-- a summary of these kinds -/
@[reducible] def sumK (as : List Ak) (rs : List Rk) (f : APay as → Option (RPay rs)) : Summary :=
  { A := APay as, B := RPay rs, args := decA as, fn := f, apart := rs.all Rk.flat, res := encR rs }
/-- oracles -/
def orcL : List (Nat × Summary) → Nat → Option Summary
  | [], _ => none
  | p :: ps, g => bif Nat.beq p.1 g then some p.2 else orcL ps g
section
variable {P : Program} {G : World}
theorem orc_nil : OrcSound P G (orcL []) := fun _ _ h => by cases h
theorem orc_cons {f : Nat} {S : Summary} {ps : List (Nat × Summary)} (h : SumSound P G f S) (h' : OrcSound P G (orcL ps)) : OrcSound P G (orcL ((f, S) :: ps)) := fun g S' hg => by
  unfold orcL at hg
  cases hb : Nat.beq f g with
  | false => simp only [hb] at hg; exact h' g S' hg
  | true =>
    simp only [hb, cond_true, Option.some.injEq] at hg
    have := Nat.eq_of_beq_eq_true hb
    subst this; subst hg
    exact h
theorem sumK_sound {C : Nat → Option Summary} (hC : OrcSound P G C) (hm : P.follows .mixedOrders = true) {f : FuncId} {fn : Func} {code : Code} {fuel : Nat} {as : List Ak} {rs : List Rk} {F : APay as → Option (RPay rs)} {an : Ann (RPay rs)}
    (hf : P.funcs[f]? = some fn) (hb : fn.body = some code) (hname : (fn.name == "runtime.NumGoroutine") = false) (hl : lexOk code = true) (hlen : Nat.ble as.length fn.ntmps = true)
    (hok : Ok P fn.ntmps C fuel an code (fun _ => fnK P fn (rs.map Rk.spec) (decR rs)))
    (h : ∀ a, evFn P C fuel fn (rs.map Rk.spec) (RPay rs) an (encA as a) (decR rs) = F a) : SumSound P G f (sumK as rs F) :=
  sum_sound hC hm (sumK as rs F) hf hb hname hl hok (fun p b h => decR_some h) rfl (fun ha b => flat_encR ha b)
    (fun ts a ha => by rw [decA_some ha, encA_len]; exact Nat.le_of_ble_eq_true hlen) (fun ts a ha => by rw [decA_some ha]; exact h a)
/-- names, as the shape asks for them -/
def subAdd (d e : Nat) (σ : List (Nat × Nat)) : List (Nat × Nat) :=
  match bwd σ d with
  | some _ => σ
  | none => (d, e) :: σ
def subCaps : List (Nat × Nat) → List V → List (Nat × Nat) → List (Nat × Nat)
  | p :: ps, .bp e _ :: vs, σ => subCaps ps vs (subAdd p.1 e σ)
  | _ :: ps, _ :: vs, σ => subCaps ps vs σ
  | _, _, σ => σ
def subTm : Tm → V → List (Nat × Nat) → List (Nat × Nat)
  | .full d, .full e, σ => subAdd d e σ
  | .fb d _, .fb e _, σ => subAdd d e σ
  | .bp d _, .bp e _, σ => subAdd d e σ
  | .fn _ caps, .fn _ cs, σ => subCaps caps cs σ
  | _, _, σ => σ
def subTms : List Tm → List V → List (Nat × Nat) → List (Nat × Nat)
  | m :: ms, v :: vs, σ => subTms ms vs (subTm m v σ)
  | _, _, σ => σ
def subSh (objs : Nat → Ob) (vs : List V) : List It → List (Nat × Nat) → List (Nat × Nat)
  | [], σ => σ
  | .tmp t m :: is, σ => subSh objs vs is (subTm m (vs.getD t .junk) σ)
  | .box d ms :: is, σ => subSh objs vs is (match bwd σ d with
    | some e => (match objs e with
      | .box _ (.agg ls) => subTms ms ls σ
      | .box _ v => subTms ms [v] σ
      | _ => σ)
    | none => σ)
  | _ :: is, σ => subSh objs vs is σ
def subOf (sh : List It) : List V → (Nat → Ob) → List (Nat × Nat) := fun vs objs => subSh objs vs sh []
@[reducible] def sumW (nargs : Nat) (shIn shOut : List It) (nres : Nat) (F : Pay shIn → Option (Pay shOut)) : Summary := sumM (mutK nargs (subOf shIn) shIn shOut nres F)
theorem sumW_sound {C : Nat → Option Summary} (hC : OrcSound P G C) (hm : P.follows .mixedOrders = true) {f : FuncId} {fn : Func} {code : Code} {fuel : Nat} {nargs nres : Nat}
    {shIn shOut : List It} {fz : List Bool} {F : Pay shIn → Option (Pay shOut)} {an : Ann (Pay shOut)}
    (hf : P.funcs[f]? = some fn) (hb : fn.body = some code) (hname : (fn.name == "runtime.NumGoroutine") = false) (hl : lexOk code = true) (hlen : Nat.ble nargs fn.ntmps = true) (hres : Nat.beq fn.results.size nres = true)
    (hok : Ok P fn.ntmps C fuel an code (fun _ => fnKM P fn fz shOut some))
    (h : ∀ p, evFnM P C fuel fn fz shOut (Pay shOut) an (inSh shIn p) some = F p) : SumSound P G f (sumW nargs shIn shOut nres F) :=
  sumM_sound ⟨fn, hf, hname, by rw [hb]; rfl⟩ (mut_sound hC hm hf hb hl hlen hres hok h)
/-- one function, some summaries: the first that fits -/
structure Alt (rs : List Rk) where
  as : List Ak
  F : APay as → Option (RPay rs)
def altA {rs : List Rk} : List (Alt rs) → List T → Option (Option (RPay rs))
  | [], _ => none
  | a :: l, ts => match decA a.as ts with
    | some x => some (a.F x)
    | none => altA l ts
@[reducible] def sumAlts (rs : List Rk) (l : List (Alt rs)) : Summary :=
  { A := Option (RPay rs), B := RPay rs, args := altA l, fn := fun a => a, apart := rs.all Rk.flat, res := encR rs }
theorem alts_sound {f : FuncId} {rs : List Rk} (he : Entered P f) : ∀ {l : List (Alt rs)}, (∀ a ∈ l, SumSound P G f (sumK a.as rs a.F)) → SumSound P G f (sumAlts rs l) := by
  intro l hl
  refine ⟨he, fun ts a b ha hb => ?_, fun M hM => by cases hM⟩
  replace ha : altA l ts = some a := ha
  replace hb : a = some b := hb
  subst hb
  induction l with
  | nil => cases ha
  | cons x l ih =>
    unfold altA at ha
    cases hd : decA x.as ts with
    | none => rw [hd] at ha; exact ih (fun a ha => hl a (List.mem_cons_of_mem _ ha)) b ha
    | some y =>
      rw [hd] at ha
      simp only [Option.some.injEq] at ha
      exact (hl x List.mem_cons_self).2.1 ts y b hd ha
theorem alts_nil {f : FuncId} {rs : List Rk} : ∀ a ∈ ([] : List (Alt rs)), SumSound P G f (sumK a.as rs a.F) := fun a h => by cases h
theorem alts_cons {f : FuncId} {rs : List Rk} {a : Alt rs} {l : List (Alt rs)} (h : SumSound P G f (sumK a.as rs a.F)) (h' : ∀ a ∈ l, SumSound P G f (sumK a.as rs a.F)) : ∀ b ∈ a :: l, SumSound P G f (sumK b.as rs b.F) := fun b hb => by
  rcases List.mem_cons.1 hb with rfl | hb
  · exact h
  · exact h' b hb
/-- a law's function: it says true -/
theorem sumK_law {f : FuncId} {as : List Ak} {F : APay as → Option (RPay [.leaf (.cell .bool)])} (h : SumSound P G f (sumK as [.leaf (.cell .bool)] F)) {xs : List T} {a : APay as} (ha : decA as xs = some a) (hF : F a = some (true, ())) :
    ∃ ap, CallSound P G f xs ap [.l (.t (.bool true))] :=
  ⟨_, h.2.1 xs a (true, ()) ha hF⟩
end
/-- what follows a cut -/
def cutB {α R : Type} (x : Option (α ⊕ R)) (f : α → Option R) : Option R := x.bind fun r => match r with
  | .inl p => f p
  | .inr r => some r
theorem cutB_inl {α R : Type} {p : α} {f : α → Option R} : cutB (some (.inl p)) f = f p := rfl
theorem cutB_inr {α R : Type} {r : R} {f : α → Option R} : cutB (some (.inr r)) f = some r := rfl
@[reducible] def emp : ByteArray := ByteArray.empty
def codeOf (f : Func) : Code :=
  match f.body with
  | some c => c
  | none => .skip
end Go.Ax
namespace Go.Ax
open Go
/-! ### what a typed value is -/
def okI (n : Int) : Prop := -9223372036854775808 ≤ n ∧ n ≤ 9223372036854775807
def ktrue (_ : Nat) : Prop := True
def ksmall (n : Nat) : Prop := n ≤ 1048576
def okS (K : Nat → Prop) (s : ByteArray) : Prop := s.size ≤ 140737488351232 ∧ K s.size
def okL {α : Type} (K : Nat → Prop) (b : Nat) (ok : α → Prop) (l : List α) : Prop := (l.length * b ≤ 140737488351232 ∧ K l.length) ∧ ∀ y ∈ l, ok y
def okT {α : Type} (_ : α) : Prop := True
section
variable {P : Program} {G : World} {K : Nat → Prop}
theorem typed_int {n : Nat} {t : TypeId} (hu : P.underlying t = some (.int .i64)) {ls : List T} (h : Typed P K n t ls) : ∃ v, ls = [.int .i64 v] ∧ okI v := by
  cases n with
  | zero => exact h.elim
  | succ n =>
    unfold Typed at h
    rw [hu] at h
    obtain ⟨v, rfl, hw⟩ := h
    simp only [Lit.wf, Bool.and_eq_true, decide_eq_true_eq] at hw
    exact ⟨v, rfl, hw⟩
theorem typed_bool {n : Nat} {t : TypeId} (hu : P.underlying t = some .bool) {ls : List T} (h : Typed P K n t ls) : ∃ v, ls = [.bool v] ∧ okT v := by
  cases n with
  | zero => exact h.elim
  | succ n =>
    unfold Typed at h
    rw [hu] at h
    obtain ⟨v, rfl⟩ := h
    exact ⟨v, rfl, trivial⟩
theorem typed_str {n : Nat} {t : TypeId} (hu : P.underlying t = some .string) {ls : List T} (h : Typed P K n t ls) : ∃ v, ls = [.str v] ∧ okS K v := by
  cases n with
  | zero => exact h.elim
  | succ n =>
    unfold Typed at h
    rw [hu] at h
    obtain ⟨v, rfl, hs⟩ := h
    exact ⟨v, rfl, hs⟩
theorem all_enc {α : Type} {enc : α → T} {ok : α → Prop} : ∀ {es : List T}, (∀ x ∈ es, ∃ y, x = enc y ∧ ok y) → ∃ ys : List α, es = ys.map enc ∧ ∀ y ∈ ys, ok y
  | [], _ => ⟨[], rfl, fun _ h => by cases h⟩
  | x :: es, h => by
    obtain ⟨y, rfl, hy⟩ := h x List.mem_cons_self
    obtain ⟨ys, rfl, hys⟩ := all_enc (es := es) fun x hx => h x (List.mem_cons_of_mem _ hx)
    exact ⟨y :: ys, rfl, fun z hz => by
      rcases List.mem_cons.1 hz with rfl | hz
      · exact hy
      · exact hys z hz⟩
theorem typed_slice {α : Type} {enc : α → T} {ok : α → Prop} {n b : Nat} {t e : TypeId} (hu : P.underlying t = some (.slice e)) (hb : P.bytesOf e = b) {ls : List T} (h : Typed P K n t ls)
    (he : ∀ (n : Nat) (ls : List T), Typed P K n e ls → ∃ y, wrapT (isAggT P e) ls = enc y ∧ ok y) : ∃ xs : List α, ls = [.lst (xs.map enc)] ∧ okL K b ok xs := by
  cases n with
  | zero => exact h.elim
  | succ n =>
    unfold Typed at h
    rw [hu] at h
    obtain ⟨es, rfl, ⟨_, hl, hk⟩, hes⟩ := h
    obtain ⟨ys, rfl, hys⟩ := all_enc (enc := enc) (ok := ok) fun x hx => by
      obtain ⟨ls, rfl, h⟩ := hes x hx
      exact he n ls h
    rw [hb, List.length_map] at hl
    rw [List.length_map] at hk
    exact ⟨ys, rfl, ⟨hl, hk⟩, hys⟩
theorem elem_int {t : TypeId} (hu : P.underlying t = some (.int .i64)) (n : Nat) (ls : List T) (h : Typed P K n t ls) : ∃ y, wrapT (isAggT P t) ls = T.int .i64 y ∧ okI y := by
  obtain ⟨v, rfl, hv⟩ := typed_int hu h
  exact ⟨v, by unfold isAggT wrapT; rw [hu]; rfl, hv⟩
theorem elem_bool {t : TypeId} (hu : P.underlying t = some .bool) (n : Nat) (ls : List T) (h : Typed P K n t ls) : ∃ y, wrapT (isAggT P t) ls = T.bool y ∧ okT y := by
  obtain ⟨v, rfl, hv⟩ := typed_bool hu h
  exact ⟨v, by unfold isAggT wrapT; rw [hu]; rfl, hv⟩
theorem elem_str {t : TypeId} (hu : P.underlying t = some .string) (n : Nat) (ls : List T) (h : Typed P K n t ls) : ∃ y, wrapT (isAggT P t) ls = T.str y ∧ okS K y := by
  obtain ⟨v, rfl, hv⟩ := typed_str hu h
  exact ⟨v, by unfold isAggT wrapT; rw [hu]; rfl, hv⟩
theorem elem_slice {α : Type} {enc : α → T} {ok : α → Prop} {b : Nat} {t e : TypeId} (hu : P.underlying t = some (.slice e)) (hb : P.bytesOf e = b)
    (he : ∀ (n : Nat) (ls : List T), Typed P K n e ls → ∃ y, wrapT (isAggT P e) ls = enc y ∧ ok y) (n : Nat) (ls : List T) (h : Typed P K n t ls) : ∃ y : List α, wrapT (isAggT P t) ls = T.lst (y.map enc) ∧ okL K b ok y := by
  obtain ⟨v, rfl, hv⟩ := typed_slice hu hb h he
  exact ⟨v, by unfold isAggT wrapT; rw [hu]; rfl, hv⟩
theorem typed_struct {n : Nat} {t : TypeId} {fs : Array Field} (hu : P.underlying t = some (.struct fs)) {ls : List T} (h : Typed P K n t ls) : ∃ m, fieldsP (Typed P K m) fs.toList ls := by
  cases n with
  | zero => exact h.elim
  | succ n =>
    unfold Typed at h
    rw [hu] at h
    exact ⟨n, h⟩
end
end Go.Ax
namespace Go.Ax
open Go
theorem typedArgs_cons {P : Program} {K : Nat → Prop} {n : Nat} {t : TypeId} {ts : List TypeId} {xs : List T} (h : TypedArgs P K n (t :: ts) xs) : ∃ ls ys, xs = wrapT (isAggT P t) ls :: ys ∧ Typed P K n t ls ∧ TypedArgs P K n ts ys := by
  cases xs with
  | nil => exact h.elim
  | cons x xs =>
    obtain ⟨⟨ls, rfl, h1⟩, h2⟩ := h
    exact ⟨ls, xs, rfl, h1, h2⟩
theorem typedArgs_nil {P : Program} {K : Nat → Prop} {n : Nat} {xs : List T} (h : TypedArgs P K n [] xs) : xs = [] := by
  cases xs with
  | nil => rfl
  | cons x xs => exact h.elim
end Go.Ax
