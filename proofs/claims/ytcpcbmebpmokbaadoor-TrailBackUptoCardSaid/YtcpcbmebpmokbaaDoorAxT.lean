/- Ax, part T: code: what the executor says of it is so. -/
import Derived.Test.YtcpcbmebpmokbaaDoorAxS
import Derived.LoopN
import Derived.ScopeJumps
import Derived.Tactics
set_option linter.unusedVariables false
set_option linter.unusedSimpArgs false
namespace Go.Ax
open Go Go.RowKit

/-- regions that draw do so in whatever order, alike -/
def lexOk : Code → Bool
  | .region _ ops dr => !dr || lexOkB ops
  | .seq a b => lexOk a && lexOk b
  | .cond _ a b => lexOk a && lexOk b
  | .block _ a => lexOk a
  | .loop a => lexOk a
  | .scope a => lexOk a
  | _ => true
def csz : Code → Nat
  | .seq a b => csz a + csz b + 1
  | .cond _ a b => csz a + csz b + 1
  | .block _ a => csz a + 1
  | .loop a => csz a + 1
  | .scope a => csz a + 1
  | _ => 1
theorem findLabel_sz : ∀ {c : Code} {l : Nat} {rest : Code}, findLabel c l = some rest → csz rest ≤ csz c ∧ (lexOk c = true → lexOk rest = true) := by
  intro c
  induction c with
  | seq a b iha ihb =>
    intro l rest h
    simp only [findLabel] at h
    split at h
    · rename_i r hr
      simp only [Option.some.injEq] at h
      subst h
      obtain ⟨h1, h2⟩ := iha hr
      refine ⟨by simp only [csz]; omega, fun hl => ?_⟩
      simp only [lexOk, Bool.and_eq_true] at hl ⊢
      exact ⟨h2 hl.1, hl.2⟩
    · obtain ⟨h1, h2⟩ := ihb h
      refine ⟨by simp only [csz]; omega, fun hl => ?_⟩
      simp only [lexOk, Bool.and_eq_true] at hl
      exact h2 hl.2
  | label l' =>
    intro l rest h
    simp only [findLabel] at h
    split at h
    · simp only [Option.some.injEq] at h
      subst h
      exact ⟨Nat.le_refl _, fun _ => rfl⟩
    · cases h
  | _ => intro l rest h; simp [findLabel] at h

section
variable {P : Program} {w0 : Base} {cold0 : Nat → Prop} {N : Nat} {C : Nat → Option Summary}

/-- where code leads -/
def QX (w0 : Base) (cold0 : Nat → Prop) (N : Nat) {R : Type} (k : X → St → Option R) (r : R) : Exit → Act → World → Prop
  | .normal, a, w => ∃ s, k .normal s = some r ∧ Is w0 cold0 N s a w
  | .exit id, a, w => ∃ s, k (.exit id) s = some r ∧ Is w0 cold0 N s a w
  | .goto l, a, w => ∃ s, k (.goto l) s = some r ∧ Is w0 cold0 N s a w
  | .ret, a, w => ∃ s, k .ret s = some r ∧ Is w0 cold0 N s a w
  | _, _, _ => False

/-- as long as passes from a label end: 'wp_scope_jumps', by rounds -/
def passes (P : Program) (c : Code) (Q : Exit → Act → World → Prop) : Nat → Nat → Act → World → Prop
  | 0, _, _, _ => False
  | n + 1, l, a, w => ∃ rest, findLabel c l = some rest ∧ rest.wp P (fun e a w => match e with
      | .goto l' => passes P c Q n l' a w
      | e => Q e a w) a w
theorem wp_scope_passes {c : Code} {n : Nat} {a : Act} {w : World} {Q : Exit → Act → World → Prop} (h : c.wp P (fun e a w => match e with
      | .goto l' => passes P c Q n l' a w
      | e => Q e a w) a w) : (Code.scope c).wp P Q a w := by
  intro b k cs
  have key : ∀ n l a w, passes P c Q n l a w → ∃ rest, gotoIn l (.inScope c :: k) = some (.code rest :: .inScope c :: k) ∧ ∃ e a' w', Q e a' w' ∧ Arrives P (lone (b.at a (.code rest :: .inScope c :: k)) cs w) b k cs e a' w' := by
    intro n
    induction n with
    | zero => intro l a w h; exact h.elim
    | succ n ih =>
      intro l a w ⟨rest, hf, h⟩
      have hg : gotoIn l (.inScope c :: k) = some (.code rest :: .inScope c :: k) := by simp [gotoIn, hf]
      refine ⟨rest, hg, ?_⟩
      obtain ⟨e, a₁, w₁, hq, harr⟩ := h b (.inScope c :: k) cs
      cases e with
      | normal => exact ⟨.normal, a₁, w₁, hq, Steps.trans harr (.one step_inScope)⟩
      | exit id => exact ⟨.exit id, a₁, w₁, hq, fun k' hk => harr k' (by simp [exitTo, hk])⟩
      | goto l' =>
        obtain ⟨rest', hg', e₂, a₂, w₂, hq₂, harr₂⟩ := ih l' a₁ w₁ hq
        exact ⟨e₂, a₂, w₂, hq₂, .of_steps (harr _ hg') harr₂⟩
      | ret => exact ⟨_, a₁, w₁, hq, harr⟩
      | panic ch => exact ⟨_, a₁, w₁, hq, harr⟩
      | outgrown => exact ⟨_, a₁, w₁, hq, harr⟩
  obtain ⟨e, a₁, w₁, hq, harr⟩ := h b (.inScope c :: k) cs
  cases e with
  | normal => exact ⟨.normal, a₁, w₁, hq, .head step_scope (Steps.trans harr (.one step_inScope))⟩
  | exit id => exact ⟨.exit id, a₁, w₁, hq, fun k' hk => .head step_scope (harr k' (by simp [exitTo, hk]))⟩
  | goto l' =>
    obtain ⟨rest', hg', e₂, a₂, w₂, hq₂, harr₂⟩ := key n l' a₁ w₁ hq
    exact ⟨e₂, a₂, w₂, hq₂, .of_steps (.head step_scope (harr _ hg')) harr₂⟩
  | ret => exact ⟨_, a₁, w₁, hq, .of_steps (.one step_scope) harr⟩
  | panic ch => exact ⟨_, a₁, w₁, hq, .of_steps (.one step_scope) harr⟩
  | outgrown => exact ⟨_, a₁, w₁, hq, .of_steps (.one step_scope) harr⟩

theorem Is.bool {s : St} {a : Act} {w : World} {c : Operand} {q : Bool} (h : Is w0 cold0 N s a w) (hc : (s.val c).asBool = some q) : a.eval c = .bool q := by
  obtain ⟨cx, _, hR⟩ := h
  have := hR.val c
  rw [asBoolV hc] at this
  have this : TRep cx.w cx.cold (.bool q) (a.eval c) := this
  generalize a.eval c = y at this
  cases this
  rfl
theorem labK_some {n : Nat} {R : Type} : ∀ {labs : Ann R} {j : Nat} {s : St} {r : R} {c : Code} {k : Nat → X → St → Option R} {fuel : Nat}, labK n labs j s = some r → Ok P N C fuel labs c k →
    ∃ (sh : List It) (L : Nat → Pay sh → Option R) (x : Ann R) (rest : Code), prS sh s (fun p => L n p) = some r ∧ findLabel c j = some rest ∧ (∀ p, L 0 p = none) ∧
      ∀ n, (∀ p, L (n + 1) p = ev P N C fuel rest R x (inSh sh p) (k n)) ∧ Ok P N C fuel x rest (fun _ => k n) := by
  intro labs
  induction labs with
  | lab l sh L x more _ ih =>
    intro j s r c k fuel h hok
    simp only [labK] at h
    simp only [Ok] at hok
    cases hb : Nat.beq j l with
    | true =>
      rw [hb] at h
      have := nbeq hb; subst this
      obtain ⟨hok, _⟩ := hok
      split at hok
      · rename_i rest hf
        exact ⟨sh, L, x, rest, h, hf, hok.1, hok.2⟩
      · exact hok.elim
    | false => rw [hb] at h; exact ih h hok.2
  | _ => intro j s r c k fuel h; simp [labK] at h
theorem QX.other {R R' : Type} {k : X → St → Option R} {k' : X → St → Option R'} {r : R} {r' : R'} {e : Exit} {a : Act} {w : World} (h : QX w0 cold0 N k r e a w) (hk : ∀ x s, k x s = some r → k' x s = some r') : QX w0 cold0 N k' r' e a w := by
  cases e with
  | normal => obtain ⟨s, h1, h2⟩ := h; exact ⟨s, hk _ _ h1, h2⟩
  | exit id => obtain ⟨s, h1, h2⟩ := h; exact ⟨s, hk _ _ h1, h2⟩
  | goto l => obtain ⟨s, h1, h2⟩ := h; exact ⟨s, hk _ _ h1, h2⟩
  | ret => obtain ⟨s, h1, h2⟩ := h; exact ⟨s, hk _ _ h1, h2⟩
  | _ => exact h.elim

/-- CODE: what the executor says of it is so. -/
theorem ev_sound (hC : OrcSound P w0.g C) (hm : P.follows .mixedOrders = true) {fuel : Nat} : ∀ (sz : Nat) (c : Code), csz c ≤ sz → ∀ (R : Type) (an : Ann R) (k : Nat → X → St → Option R) (s : St) (a : Act) (w : World) (r : R),
    lexOk c = true → Ok P N C fuel an c k → ev P N C fuel c R an s (k 0) = some r → Is w0 cold0 N s a w → c.wp P (QX w0 cold0 N (k 0) r) a w := by
  intro sz
  induction sz with
  | zero => intro c hz; cases c <;> simp [csz] at hz
  | succ sz ih =>
  intro c hz R an k s a w r hl hok h hs
  cases c with
  | skip => simp only [ev] at h; exact wp_skip ⟨s, h, hs⟩
  | label l => simp only [ev] at h; exact wp_label ⟨s, h, hs⟩
  | exit id => simp only [ev] at h; exact wp_exit ⟨s, h, hs⟩
  | goto l => simp only [ev] at h; exact wp_goto ⟨s, h, hs⟩
  | ret => simp only [ev] at h; exact wp_ret ⟨s, h, hs⟩
  | rangeFunc f ps x y => simp [ev] at h
  | refuse why => simp [ev] at h
  | region id ops dr =>
    simp only [ev] at h
    cases dr with
    | false =>
      exact wp_region_list (evOps_sound hC (k := k 0 .normal) (fun s a w hk hs => ⟨s, hk, hs⟩) _ _ _ _ _ h hs)
    | true =>
      have hB : lexOkB ops = true := by simpa [lexOk] using hl
      refine region_draw hC hm hB (evOps_bar _ _ 0 s R _ r (by simp) (by simp) h s (St.le_refl s)) hs ?_
      rintro s' a' w' ⟨s1, hle, hk⟩ hs'
      exact ⟨s1, hk, hs'.weaken hle⟩
  | seq x y =>
    simp only [csz] at hz
    simp only [lexOk, Bool.and_eq_true] at hl
    have plain : ∀ (u v : Ann R), ev P N C fuel x R u s (seqK (fun s' => ev P N C fuel y R v s' (k 0)) (k 0)) = some r → Ok P N C fuel u x (fun _ => seqK (fun s' => ev P N C fuel y R v s' (k 0)) (k 0)) →
        Ok P N C fuel v y k → (Code.seq x y).wp P (QX w0 cold0 N (k 0) r) a w := fun u v h h1 h2 => by
      refine wp_seq (Code.wp_mono ?_ (ih x (by omega) R u _ s a w r hl.1 h1 h hs))
      intro e a' w' hq
      cases e with
      | normal =>
        obtain ⟨s', hk, hs'⟩ := hq
        exact ih y (by omega) R v k s' a' w' r hl.2 h2 hk hs'
      | _ => exact hq
    cases an with
    | cut sh u v =>
      simp only [ev] at h
      obtain ⟨r1, h1, h⟩ := Option.bind_eq_some_iff.1 h
      simp only [Ok] at hok
      refine wp_seq (Code.wp_mono ?_ (ih x (by omega) (Pay sh ⊕ R) u _ s a w r1 hl.1 hok.1 h1 hs))
      have other : ∀ (e : X) (s' : St), (k 0 e s').map .inr = some r1 → k 0 e s' = some r := fun e s' he => by
        obtain ⟨r2, hr2, he⟩ := Option.map_eq_some_iff.1 he
        subst he
        simp only [Option.some.injEq] at h
        rw [hr2, h]
      intro e a' w' hq
      cases e with
      | normal =>
        obtain ⟨s', hk, hs'⟩ := hq
        obtain ⟨p, hp, hs2⟩ := prSh_sound hs' hk
        simp only [Option.some.injEq] at hp
        subst hp
        exact ih y (by omega) R v k _ a' w' r hl.2 hok.2 h hs2
      | exit id => obtain ⟨s', hk, hs'⟩ := hq; exact ⟨s', other _ _ hk, hs'⟩
      | goto id => obtain ⟨s', hk, hs'⟩ := hq; exact ⟨s', other _ _ hk, hs'⟩
      | ret => obtain ⟨s', hk, hs'⟩ := hq; exact ⟨s', other _ _ hk, hs'⟩
      | panic => exact hq.elim
      | outgrown => exact hq.elim
    | seq u v => simp only [ev] at h; simp only [Ok] at hok; exact plain u v h hok.1 hok.2
    | _ => simp only [ev] at h; exact plain .d .d h (by simp [Ok]) (by simp [Ok])
  | cond q x y =>
    simp only [csz] at hz
    simp only [lexOk, Bool.and_eq_true] at hl
    have plain : ∀ (u v : Ann R) (b : Bool), (s.val q).asBool = some b → (if b = true then ev P N C fuel x R u s (k 0) else ev P N C fuel y R v s (k 0)) = some r → Ok P N C fuel u x k → Ok P N C fuel v y k →
        (Code.cond q x y).wp P (QX w0 cold0 N (k 0) r) a w := fun u v b hb h h1 h2 => by
      refine wp_cond_split (hs.bool hb) (fun ht => ?_) (fun hf => ?_)
      · rw [if_pos ht] at h; exact ih x (by omega) R u k s a w r hl.1 h1 h hs
      · rw [if_neg (by simp [hf])] at h; exact ih y (by omega) R v k s a w r hl.2 h2 h hs
    simp only [ev] at h
    obtain ⟨b, hb, h⟩ := Option.bind_eq_some_iff.1 h
    cases an with
    | cond u v => simp only [Ok] at hok; exact plain u v b hb h hok.1 hok.2
    | _ => exact plain .d .d b hb h (by simp [Ok]) (by simp [Ok])
  | block id x =>
    simp only [csz] at hz
    simp only [lexOk] at hl
    have plain : ∀ u : Ann R, ev P N C fuel x R u s (blockK id (k 0)) = some r → Ok P N C fuel u x (fun _ => blockK id (k 0)) → (Code.block id x).wp P (QX w0 cold0 N (k 0) r) a w := fun u h h1 => by
      refine wp_block (Code.wp_mono ?_ (ih x (by omega) R u _ s a w r hl h1 h hs))
      intro e a' w' hq
      cases e with
      | exit j =>
        obtain ⟨s', hk, hs'⟩ := hq
        simp only [blockK] at hk
        simp only [Exit.inBlock]
        cases hj : Nat.beq j id with
        | true => rw [hj] at hk; rw [if_pos (nbeq hj)]; exact ⟨s', hk, hs'⟩
        | false => rw [hj] at hk; rw [if_neg (fun e => by rw [e] at hj; simp at hj)]; exact ⟨s', hk, hs'⟩
      | _ => exact hq
    cases an with
    | block u => simp only [ev] at h; simp only [Ok] at hok; exact plain u h hok
    | _ => simp only [ev] at h; exact plain .d h (by simp [Ok])
  | loop x =>
    simp only [csz] at hz
    simp only [lexOk] at hl
    cases an with
    | loop sh L u =>
      simp only [ev] at h
      simp only [Ok] at hok
      obtain ⟨p, hp, hs'⟩ := prSh_sound hs h
      refine wp_loop_rounds fuel ?_
      have key : ∀ (n : Nat) (p : Pay sh) (a : Act) (w : World), L n p = some r → Is w0 cold0 N (inSh sh p) a w → Code.rounds P x (QX w0 cold0 N (k 0) r) n a w := by
        intro n
        induction n with
        | zero => intro p a w hp; rw [hok.1] at hp; cases hp
        | succ n ihn =>
          intro p a w hp hs
          obtain ⟨h1, h2⟩ := hok.2 n
          rw [h1] at hp
          rw [rounds_succ]
          refine Code.wp_mono ?_ (ih x (by omega) R u _ _ a w r hl h2 hp hs)
          intro e a' w' hq
          cases e with
          | normal =>
            obtain ⟨s', hk, hs'⟩ := hq
            obtain ⟨p', hp', hs2⟩ := prSh_sound hs' hk
            exact ihn p' a' w' hp' hs2
          | _ => exact hq
      exact key fuel p a w hp hs'
    | _ => simp [ev] at h
  | scope x =>
    simp only [csz] at hz
    simp only [lexOk] at hl
    have plain : ∀ (u labs : Ann R), ev P N C fuel x R u s (scopeK fuel labs (k 0)) = some r → Ok P N C fuel u x (fun _ => scopeK fuel labs (k 0)) → Ok P N C fuel labs x (fun n => scopeK n labs (k 0)) →
        (Code.scope x).wp P (QX w0 cold0 N (k 0) r) a w := fun u labs h h1 h2 => by
      have key : ∀ (n j : Nat) (s : St) (a : Act) (w : World), labK n labs j s = some r → Is w0 cold0 N s a w → passes P x (QX w0 cold0 N (k 0) r) n j a w := by
        intro n
        induction n with
        | zero =>
          intro j s a w hk hs
          obtain ⟨sh, L, u', rest, hp, hf, h0, hn⟩ := labK_some hk h2
          obtain ⟨p, hp, _⟩ := prSh_sound hs hp
          rw [h0] at hp; cases hp
        | succ n ihn =>
          intro j s a w hk hs
          obtain ⟨sh, L, u', rest, hp, hf, h0, hn⟩ := labK_some hk h2
          obtain ⟨p, hp, hs'⟩ := prSh_sound hs hp
          obtain ⟨h3, h4⟩ := hn n
          rw [h3] at hp
          obtain ⟨hz', hl'⟩ := findLabel_sz hf
          refine ⟨rest, hf, Code.wp_mono ?_ (ih rest (by omega) R u' _ _ a w r (hl' hl) h4 hp hs')⟩
          intro e a' w' hq
          cases e with
          | goto j' => obtain ⟨s', hk, hs'⟩ := hq; exact ihn j' s' a' w' hk hs'
          | _ => exact hq
      refine wp_scope_passes (n := fuel) (Code.wp_mono ?_ (ih x (by omega) R u _ s a w r hl h1 h hs))
      intro e a' w' hq
      cases e with
      | goto j' => obtain ⟨s', hk, hs'⟩ := hq; exact key fuel j' s' a' w' hk hs'
      | _ => exact hq
    cases an with
    | scope u labs => simp only [ev] at h; simp only [Ok] at hok; exact plain u labs h hok.1 hok.2
    | block u => simp only [ev] at h; simp only [Ok] at hok; exact plain u .d h hok (by simp [Ok])
    | _ => simp only [ev] at h; exact plain .d .d h (by simp [Ok]) (by simp [Ok])
end
end Go.Ax
