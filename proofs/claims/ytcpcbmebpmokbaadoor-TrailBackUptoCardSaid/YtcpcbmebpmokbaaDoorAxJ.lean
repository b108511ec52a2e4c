/- Ax, part J: the operations, one by one: arithmetic, strings, slices' headers, calls. -/
import Derived.Test.YtcpcbmebpmokbaaDoorAxI
import Derived.WideLaws
import Derived.Laws.StructEq
set_option linter.unusedVariables false
set_option linter.unusedSimpArgs false
namespace Go.Ax
open Go Go.RowKit

section
variable {P : Program} {w0 : Base} {cold0 : Nat → Prop} {N : Nat} {s : St} {a : Act} {c : Cx} {R : Type} {r : R} {o : Oper} {Q : Exit → Act → World → Prop} {k : St → Option R} {ro : Bool}

theorem v3i (c : Cx) (q : IntKind) (n : Int) : c.v3 (.t (.int q n)) (.int q n) := TRep.int q n
theorem v3b (c : Cx) (b : Bool) : c.v3 (.t (.bool b)) (.bool b) := TRep.bool b
theorem v3s (c : Cx) (b : ByteArray) : c.v3 (.t (.str b)) (.string b) := TRep.str b
theorem run_equal_bool {t : TypeId} (hu : P.underlying t = some .bool) (m n : Bool) (w : World) : (Op.equal t (.bool m) (.bool n)).run P w = .ok (m == n) w := by
  show (Op.equalIn (9999 + 1) t (.bool m) (.bool n)).run P w = _
  rw [Op.equalIn]
  simp [run_underlying hu]
theorem evBin_run {op : BinOp} {t : TypeId} {x y : Operand} {u v : V} {p q : Value} (hu : c.v3 u p) (hv : c.v3 v q) {k : V → Option R} (h : evBin op u v k = some r) (w : World) :
    ∃ z zv, (do eqGuard op t x y p q; binOp op t p q : Sem Value).run P w = .ok z w ∧ c.v3 zv z ∧ k zv = some r := by
  unfold evBin at h
  split at h
  · rename_i k1 m k2 n
    have hp := v3_int hu rfl
    have hq := v3_int hv rfl
    subst hp; subst hq
    split at h
    · split at h
      · cases h
      · rename_i hb
        exact ⟨_, _, by simp [eqGuard_at_int, binOp_shl, Op.shift, hb], v3i _ _ _, h⟩
    · split at h
      · cases h
      · rename_i hb
        exact ⟨_, _, by simp [eqGuard_at_int, binOp_shr, Op.shift, hb], v3i _ _ _, h⟩
    · split at h
      · rename_i hk
        subst hk
        split at h
        · exact ⟨_, _, by simp [eqGuard_at_int, binOp_add, Op.intArith], v3i _ _ _, h⟩
        · exact ⟨_, _, by simp [eqGuard_at_int, binOp_sub, Op.intArith], v3i _ _ _, h⟩
        · exact ⟨_, _, by simp [eqGuard_at_int, binOp_mul, Op.intArith], v3i _ _ _, h⟩
        · split at h
          · cases h
          · rename_i hb; exact ⟨_, _, by simp [eqGuard_at_int, binOp_quo, Op.intDiv, hb], v3i _ _ _, h⟩
        · split at h
          · cases h
          · rename_i hb; exact ⟨_, _, by simp [eqGuard_at_int, binOp_rem, Op.intDiv, hb], v3i _ _ _, h⟩
        · exact ⟨_, _, by simp only [eqGuard_at_int, binOp_and, Op.intBits, Sem.run_bind, Sem.run_pure, Result.andThen_ok]; rfl, v3i _ _ _, h⟩
        · exact ⟨_, _, by simp only [eqGuard_at_int, binOp_or, Op.intBits, Sem.run_bind, Sem.run_pure, Result.andThen_ok]; rfl, v3i _ _ _, h⟩
        · exact ⟨_, _, by simp only [eqGuard_at_int, binOp_xor, Op.intBits, Sem.run_bind, Sem.run_pure, Result.andThen_ok]; rfl, v3i _ _ _, h⟩
        · exact ⟨_, _, by simp only [eqGuard_at_int, binOp_andNot, Op.intBits, Sem.run_bind, Sem.run_pure, Result.andThen_ok]; rfl, v3i _ _ _, h⟩
        · exact ⟨_, _, by simp [eqGuard_at_int, binOp_eql], v3b _ _, h⟩
        · exact ⟨_, _, by simp [eqGuard_at_int, binOp_neq], v3b _ _, h⟩
        · exact ⟨_, _, by simp [eqGuard_at_int, binOp_lss], v3b _ _, h⟩
        · exact ⟨_, _, by simp [eqGuard_at_int, binOp_leq], v3b _ _, h⟩
        · exact ⟨_, _, by simp [eqGuard_at_int, binOp_gtr], v3b _ _, h⟩
        · exact ⟨_, _, by simp [eqGuard_at_int, binOp_geq], v3b _ _, h⟩
        · cases h
      · cases h
  · rename_i m n
    have hp := v3_str hu rfl
    have hq := v3_str hv rfl
    subst hp; subst hq
    split at h
    · split at h
      · rename_i hle
        refine ⟨_, _, ?_, v3s _ _, h⟩
        have : ¬ (((m.size + n.size : Nat) : Int) > IntKind.i64.max) := by simp [IntKind.max_i64]; omega
        simp only [eqGuard_at_string, binOp, Op.stringOp, this, if_false, Sem.run_bind, Sem.run_pure, Result.andThen_ok]
      · cases h
    · exact ⟨_, _, by simp [eqGuard_at_string, binOp, Op.stringOp, strEq], v3b _ _, h⟩
    · exact ⟨_, _, by simp [eqGuard_at_string, binOp, Op.stringOp, strEq], v3b _ _, h⟩
    · cases h
  · cases h
theorem intsL_get : ∀ {ks : List IntKind} {xs : List T} {ns : List Int}, intsL ks xs = some ns → xs.length = ks.length ∧ ns.length = ks.length ∧ ∀ (j : Nat) (q : IntKind) (x : T) (n : Int), ks[j]? = some q → xs[j]? = some x → ns[j]? = some n → x = .int q n
  | [], [], ns, h => by simp only [intsL, Option.some.injEq] at h; subst h; exact ⟨rfl, rfl, fun j q x n hq => by simp at hq⟩
  | [], _ :: _, _, h => by simp [intsL] at h
  | _ :: _, [], _, h => by simp [intsL] at h
  | q :: qs, x :: xs, ns, h => by
    simp only [intsL] at h
    obtain ⟨n, hn, h⟩ := Option.bind_eq_some_iff.1 h
    obtain ⟨ms, hms, h⟩ := Option.bind_eq_some_iff.1 h
    simp only [Option.some.injEq] at h
    subst h
    obtain ⟨h1, h2, h3⟩ := intsL_get hms
    refine ⟨by simp [h1], by simp [h2], fun j q' x' n' hq hx hn' => ?_⟩
    cases j with
    | zero => simp at hq hx hn'; subst hq; subst hx; subst hn'; exact ckInt_some hn
    | succ j => simp at hq hx hn'; exact h3 j q' x' n' hq hx hn'
theorem eqFields_ints {P : Program} (w : World) (d : Nat) {cs ds : Array Value} : ∀ {fs : List Field} {i : Nat} {ks : List IntKind} {ns ms : List Int}, intKs P i fs = some ks → ns.length = ks.length → ms.length = ks.length →
    (∀ (j : Nat) (q : IntKind) (n : Int), ks[j]? = some q → ns[j]? = some n → cs[i + j]? = some (.int q n)) → (∀ (j : Nat) (q : IntKind) (n : Int), ks[j]? = some q → ms[j]? = some n → ds[i + j]? = some (.int q n)) →
    (Op.eqFields (d + 1) cs ds fs).run P w = .ok (ns == ms) w
  | [], i, ks, ns, ms, h, h1, h2, _, _ => by
    simp only [intKs, Option.some.injEq] at h
    subst h
    have := List.length_eq_zero_iff.1 h1; subst this
    have := List.length_eq_zero_iff.1 h2; subst this
    rfl
  | f :: fs, i, ks, ns, ms, h, h1, h2, hc, hd => by
    simp only [intKs] at h
    cases hg : ((f.name == "_") || !Nat.beq f.offset i) with
    | true => rw [hg] at h; cases h
    | false =>
    rw [hg] at h
    simp only [cond_false] at h
    simp only [Bool.or_eq_false_iff, Bool.not_eq_false'] at hg
    have hoff := Nat.eq_of_beq_eq_true hg.2
    have hname : f.name ≠ "_" := by simpa using hg.1
    split at h
    rotate_left
    · cases h
    rename_i q hq
    split at h
    rotate_left
    · cases h
    rename_i hsz
    obtain ⟨qs, hqs, h⟩ := Option.bind_eq_some_iff.1 h
    simp only [Option.some.injEq] at h
    subst h
    match ns, ms, h1, h2 with
    | n :: ns, m :: ms, h1, h2 =>
      have c0 := hc 0 q n rfl rfl
      have d0 := hd 0 q m rfl rfl
      have pc : ∀ (cs : Array Value) (n : Int), cs[i + 0]? = some (.int q n) → (part f.type cs f.offset).run P w = .ok (.int q n) w := fun cs n hcs => by
        rw [hoff]
        simp [part, isAgg, run_underlying hq, show cs[i]? = some (.int q n) from hcs]
      have ih := eqFields_ints w d (i := i + 1) (ks := qs) (ns := ns) (ms := ms) (cs := cs) (ds := ds) hqs (by simpa using h1) (by simpa using h2)
        (fun j q n h3 h4 => by have := hc (j + 1) q n (by simpa using h3) (by simpa using h4); rw [show i + 1 + j = i + (j + 1) by omega]; exact this)
        (fun j q n h3 h4 => by have := hd (j + 1) q n (by simpa using h3) (by simpa using h4); rw [show i + 1 + j = i + (j + 1) by omega]; exact this)
      simp only [Op.eqFields, hname, ne_eq, not_false_eq_true, if_true, Sem.run_bind, pc cs n c0, pc ds m d0, Result.andThen_ok, run_equalIn_int w d f.type q q n m hq]
      by_cases hnm : n = m
      · subst hnm
        simp only [beq_self_eq_true, Bool.not_true, Bool.false_eq_true, if_false]
        rw [ih]
        simp
      · have hb : (n == m) = false := by simpa using hnm
        simp only [hb, Bool.not_false, if_true, Sem.run_pure]
        have : ((n :: ns) == (m :: ms)) = false := by simp [hnm]
        rw [this]
theorem op_struct (h : Rel w0 cold0 N s a c) (hd : okDst N o = true) {op : BinOp} {t ty : TypeId} {x y : Operand} (ho : o.op = .binOp op t x y ty) {ks : List IntKind} (hks : structKs P t = some ks)
    (hk : evSt op ks (s.val x) (s.val y) (fun v => k (s.put o.dst v)) = some r) : o.wp P a c.w (Post w0 cold0 N k r c.w ro) Q := by
  unfold structKs at hks
  split at hks
  rotate_left
  · cases hks
  rename_i fs hu
  cases hg : (P.stoodInHeld t || P.eqGuardType P.depth t) with
  | true => rw [hg] at hks; cases hks
  | false =>
  rw [hg] at hks
  simp only [cond_false] at hks
  simp only [Bool.or_eq_false_iff] at hg
  unfold evSt at hk
  obtain ⟨p, hp, hk⟩ := Option.bind_eq_some_iff.1 hk
  obtain ⟨q, hq, hk⟩ := Option.bind_eq_some_iff.1 hk
  obtain ⟨ns, hns, hk⟩ := Option.bind_eq_some_iff.1 hk
  obtain ⟨ms, hms, hk⟩ := Option.bind_eq_some_iff.1 hk
  have kO : OutK s c (fun _ => .none) c.cold := ⟨fun d hd => absurd rfl hd, fun _ h => h, fun d _ hd => absurd rfl hd⟩
  have get : ∀ {v : V} {z : Value} {p : T} {ns : List Int}, c.v3 v z → v.out2 (fun _ => .none) = some p → p.ints ks = some ns → ∃ cs, z = .agg cs ∧ ns.length = ks.length ∧ ∀ (j : Nat) (q : IntKind) (n : Int), ks[j]? = some q → ns[j]? = some n → cs[0 + j]? = some (.int q n) := by
    intro v z p ns hv hp hns
    have hv2 : c.v2 v z := by
      cases v <;> first | exact hv | (simp [V.out2, V.out1] at hp; done)
    have hrep := out2_rep h kO hv2 hp
    cases p with
    | agg ls =>
      cases hrep with
      | agg _ cs hn h1 hr =>
        obtain ⟨l1, l2, l3⟩ := intsL_get (show intsL ks ls = some ns from hns)
        refine ⟨cs, rfl, l2, fun j q n hq hn' => ?_⟩
        have hj : j < ks.length := (List.getElem?_eq_some_iff.1 hq).1
        have hx : ls[j]? = some (ls[j]'(by omega)) := List.getElem?_eq_getElem _
        have hc : cs[j]? = some (cs[j]'(by omega)) := Array.getElem?_eq_getElem _
        have := hr j _ _ hx hc
        rw [l3 j q _ n hq hx hn'] at this
        rw [Nat.zero_add, hc]
        generalize cs[j]'_ = u at this
        cases this
        rfl
    | _ => simp [T.ints] at hns
  obtain ⟨cs, hcs, c1, c2⟩ := get (h.val x) hp hns
  obtain ⟨ds, hds, d1, d2⟩ := get (h.val y) hq hms
  have hfs : P.underlying t = some (.struct (P.fieldsOf t)) := by unfold Program.fieldsOf; rw [hu]
  have hfo : P.fieldsOf t = fs := by unfold Program.fieldsOf; rw [hu]
  have heq : (Op.equalIn 10000 t (.agg cs) (.agg ds)).run P c.w = .ok (ns == ms) c.w := by
    rw [run_equalIn_struct c.w 9999 t cs ds hfs hg.1, hfo]
    exact eqFields_ints c.w 9998 hks c1 d1 c2 d2
  split at hk
  · exact wp_val (v := .t (.bool (ns == ms))) (by simp [execOp, ho, hcs, hds, run_eqGuard_agg, hg.2, run_eql_struct, heq]) h hd (v3b _ _) hk
  · exact wp_val (v := .t (.bool (!(ns == ms)))) (by simp [execOp, ho, hcs, hds, run_eqGuard_agg, hg.2, run_neq_struct, heq]) h hd (v3b _ _) hk
  · cases hk
theorem op_binOp (h : Rel w0 cold0 N s a c) (hd : okDst N o = true) {op : BinOp} {t ty : TypeId} {x y : Operand} (ho : o.op = .binOp op t x y ty)
    (hk : (match structKs P t with
   | some ks => evSt op ks (s.val x) (s.val y) (fun v => k (s.put o.dst v))
   | none => match s.val x, s.val y with
    | .t (.bool a), .t (.bool b) => (match P.underlying t with | some .bool => evBinB op a b (fun v => k (s.put o.dst v)) | _ => none)
    | .t (.er b), .t .ni => (match P.underlying t with | some (.interface _) => (bif constO y then evBinB op b false (fun v => k (s.put o.dst v)) else none) | _ => none)
    | .t .ni, .t .ni => (match P.underlying t with | some (.interface _) => (bif constO y then evBinB op true true (fun v => k (s.put o.dst v)) else none) | _ => none)
    | u, v => evBin op u v (fun v => k (s.put o.dst v))) = some r) : o.wp P a c.w (Post w0 cold0 N k r c.w ro) Q := by
  split at hk
  · rename_i ks hks
    exact op_struct h hd ho hks hk
  split at hk
  · rename_i m n hm hn
    have hp := v3_bool (h.val x) hm
    have hq := v3_bool (h.val y) hn
    split at hk
    · rename_i hu
      unfold evBinB at hk
      split at hk
      · exact wp_val (v := .t (.bool (m == n))) (by simp [execOp, ho, hp, hq, eqGuard_at_bool, binOp, run_equal_bool hu]) h hd (v3b _ _) hk
      · exact wp_val (v := .t (.bool (!(m == n)))) (by simp [execOp, ho, hp, hq, eqGuard_at_bool, binOp, run_equal_bool hu]) h hd (v3b _ _) hk
      · cases hk
    · cases hk
  · rename_i b hm hn
    have hp : (b = true ∧ ∃ ti u, a.eval x = .iface ti u) ∨ (b = false ∧ a.eval x = .nilIface) := by
      have := h.val x
      rw [hm] at this
      have this : TRep c.w c.cold (.er b) (a.eval x) := this
      generalize a.eval x = p at this
      cases this with
      | ert ti u => exact .inl ⟨rfl, ti, u, rfl⟩
      | erf => exact .inr ⟨rfl, rfl⟩
    have hq : a.eval y = .nilIface := by
      have := h.val y
      rw [hn] at this
      have this : TRep c.w c.cold .ni (a.eval y) := this
      generalize a.eval y = p at this
      cases this; rfl
    split at hk
    · rename_i ms hu
      have hu' : P.underlying t = some (.interface (P.methodsAt t)) := by unfold Program.methodsAt; rw [hu]
      cases hc : constO y with
      | false => rw [hc] at hk; cases hk
      | true =>
      rw [hc] at hk
      obtain ⟨cv, hcv⟩ : ∃ cv, y = .const cv := by
        cases y <;> first | exact ⟨_, rfl⟩ | cases hc
      subst hcv
      simp only [cond_true] at hk
      unfold evBinB at hk
      rcases hp with ⟨rfl, ti, u, hp⟩ | ⟨rfl, hp⟩
      · split at hk
        · exact wp_val (v := .t (.bool (true == false))) (by simp [execOp, ho, hp, hq, eqGuard, binOp, run_equal_held_nil _ t ti u hu']) h hd (v3b _ _) hk
        · exact wp_val (v := .t (.bool (!(true == false)))) (by simp [execOp, ho, hp, hq, eqGuard, binOp, run_equal_held_nil _ t ti u hu']) h hd (v3b _ _) hk
        · cases hk
      · split at hk
        · exact wp_val (v := .t (.bool (false == false))) (by simp [execOp, ho, hp, hq, eqGuard, binOp, run_equal_nil_nil _ t hu']) h hd (v3b _ _) hk
        · exact wp_val (v := .t (.bool (!(false == false)))) (by simp [execOp, ho, hp, hq, eqGuard, binOp, run_equal_nil_nil _ t hu']) h hd (v3b _ _) hk
        · cases hk
    · cases hk
  · rename_i hm hn
    have get : ∀ z, s.val z = .t .ni → a.eval z = .nilIface := fun z hz => by
      have := h.val z
      rw [hz] at this
      have this : TRep c.w c.cold .ni (a.eval z) := this
      generalize a.eval z = p at this
      cases this; rfl
    have hp := get x hm
    have hq := get y hn
    split at hk
    · rename_i ms hu
      have hu' : P.underlying t = some (.interface (P.methodsAt t)) := by unfold Program.methodsAt; rw [hu]
      cases hc : constO y with
      | false => rw [hc] at hk; cases hk
      | true =>
      rw [hc] at hk
      obtain ⟨cv, hcv⟩ : ∃ cv, y = .const cv := by
        cases y <;> first | exact ⟨_, rfl⟩ | cases hc
      subst hcv
      simp only [cond_true] at hk
      unfold evBinB at hk
      split at hk
      · exact wp_val (v := .t (.bool (true == true))) (by simp [execOp, ho, hp, hq, eqGuard, binOp, run_equal_nil_nil _ t hu']) h hd (v3b _ _) hk
      · exact wp_val (v := .t (.bool (!(true == true)))) (by simp [execOp, ho, hp, hq, eqGuard, binOp, run_equal_nil_nil _ t hu']) h hd (v3b _ _) hk
      · cases hk
    · cases hk
  · obtain ⟨z, zv, hrun, hz, hk⟩ := evBin_run (P := P) (t := t) (x := x) (y := y) (h.val x) (h.val y) hk c.w
    refine wp_val ?_ h hd hz hk
    have : (execOp a.eval o) = (do let z ← (do eqGuard op t x y (a.eval x) (a.eval y); binOp op t (a.eval x) (a.eval y) : Sem Value); pure (.value z)) := by simp [execOp, ho]
    rw [this, Sem.run_bind, hrun]
    rfl
theorem op_unOp (h : Rel w0 cold0 N s a c) (hd : okDst N o = true) {op : UnOp} {t : TypeId} {x : Operand} (ho : o.op = .unOp op t x)
    (hk : (match (generalizing := false) op, s.val x with
    | .not, .t (.bool b) => k (s.put o.dst (.t (.bool (!b))))
    | .neg, .t (.int q n) => k (s.put o.dst (.t (.int q (q.wrap (0 - n)))))
    | .xor, .t (.int q n) => k (s.put o.dst (.t (.int q (bitOp .xor q (if q.signed = true then -1 else q.max) n))))
    | _, _ => none) = some r) : o.wp P a c.w (Post w0 cold0 N k r c.w ro) Q := by
  have hv := h.val x
  revert hk hv
  generalize s.val x = u
  intro hk hv
  split at hk
  · have hp := v3_bool hv rfl
    rename_i b
    exact wp_val (v := .t (.bool (!b))) (by simp [execOp, ho, hp, Op.unary]) h hd (v3b _ _) hk
  · have hp := v3_int hv rfl
    rename_i q n
    exact wp_val (v := .t (.int q (q.wrap (0 - n)))) (by simp [execOp, ho, hp, Op.unary, Op.intArith]) h hd (v3i _ _ _) hk
  · have hp := v3_int hv rfl
    rename_i q n
    refine wp_val (v := .t (.int q (bitOp .xor q (if q.signed = true then -1 else q.max) n))) ?_ h hd (v3i _ _ _) hk
    simp only [execOp, ho, hp, Op.unary, Op.intBits, bitOp, Sem.run_bind, Sem.run_pure, Result.andThen_ok]
  · cases hk
theorem numsT_get : ∀ {xs : List T} {ns : List Int}, numsT xs = some ns → ns.length = xs.length ∧ ∀ (i : Nat) (x : T), xs[i]? = some x → x = .int .u8 (ns.getD i 0)
  | [], ns, h => by simp only [numsT, Option.some.injEq] at h; subst h; exact ⟨rfl, fun i x hx => by simp at hx⟩
  | y :: xs, ns, h => by
    simp only [numsT] at h
    obtain ⟨n, hn, h⟩ := Option.bind_eq_some_iff.1 h
    obtain ⟨ms, hms, h⟩ := Option.bind_eq_some_iff.1 h
    simp only [Option.some.injEq] at h
    subst h
    obtain ⟨h1, h2⟩ := numsT_get hms
    refine ⟨by simp [h1], fun i x hx => ?_⟩
    cases i with
    | zero => simp at hx; subst hx; exact asInt_eq hn
    | succ i => exact h2 i x (by simpa using hx)
theorem empty_string {src dst e : TypeId} (hs : P.underlying src = some (.slice e)) (he : P.underlying e = some (.int .u8)) (hd : P.underlying dst = some .string) (a : Option Addr) (cap : Nat) (w : World) :
    (convert src dst (.slice a 0 cap)).run P w = .ok (.string (strOfNums [])) w := by
  cases a with
  | none => exact run_convert_bytes_nil w src e hs he 0 cap dst hd
  | some a =>
    have h := run_convert_bytes_string w src dst e (some a) 0 cap hs he hd
    rw [h, run_bytesToString w a 0 cap [] (by simpa using run_loadCells w a 0 (fun _ => undef) (fun j hj => by omega))]
    rfl
theorem cells_string {src dst e : TypeId} (hs : P.underlying src = some (.slice e)) (he : P.underlying e = some (.int .u8)) (hd : P.underlying dst = some .string) {w : World} {cold : Nat → Prop} {xs : List T} {ns : List Int} (hns : numsT xs = some ns) (b off cap : Nat)
    (hc : ∀ (i : Nat) (x : T), xs[i]? = some x → ∃ v, w.cell? ⟨b, off + i, none⟩ = some v ∧ TRep w cold x v) :
    (convert src dst (.slice (some ⟨b, off, none⟩) xs.length cap)).run P w = .ok (.string (strOfNums ns)) w := by
  obtain ⟨h1, h2⟩ := numsT_get hns
  refine run_convert_bytes_arg w src e hs he b off xs.length cap ns h1 (fun i hi => ?_) dst hd
  have hx : xs[i]? = some xs[i] := by simp [hi]
  obtain ⟨v, hv, hr⟩ := hc i _ hx
  rw [h2 i _ hx] at hr
  cases hr
  exact hv
theorem row_string (h : Rel w0 cold0 N s a c) {src dst e : TypeId} (hs : P.underlying src = some (.slice e)) (he : P.underlying e = some (.int .u8)) (hd : P.underlying dst = some .string) {u : V} {xs : List T} {ns : List Int} (hxs : rowOf s.objs u = some xs) (hns : numsT xs = some ns) {v : Value} (hv : c.v3 u v) :
    (convert src dst v).run P c.w = .ok (.string (strOfNums ns)) c.w := by
  have one : ∀ {sz : Nat} {ys : List T} {x : T} {i : Nat}, (∀ y, y ∈ ys → y.width = sz) → x ∈ ys → xs[i]? = some x → sz = 1 := fun {sz ys x i} hw hm hx => by
    have := hw x hm
    rw [(numsT_get hns).2 i x hx] at this
    exact this.symm
  unfold rowOf at hxs
  split at hxs
  · simp only [Option.some.injEq] at hxs
    subst hxs
    have hv : TRep c.w c.cold (.lst _) v := hv
    cases hv with
    | lst0 a cap =>
      simp only [numsT, Option.some.injEq] at hns
      subst hns
      exact empty_string hs he hd a cap _
    | lst _ b off cap sz cv hcap hcold hw hcell h1 hr =>
      refine cells_string hs he hd (cold := c.cold) hns b off cap fun i x hx => ?_
      have hsz := one hw (List.mem_of_getElem? hx) hx
      subst hsz
      have hi := (List.getElem?_eq_some_iff.1 hx).1
      have hc := hcell i 0 hi (by omega)
      rw [Nat.mul_one, Nat.add_zero] at hc
      refine ⟨_, hc, ?_⟩
      have := hr i x 0 hx (by omega)
      rw [(numsT_get hns).2 i x hx] at this ⊢
      exact this
  · simp only [Option.some.injEq] at hxs
    subst hxs
    have hv : v = .slice none 0 0 := hv
    subst hv
    simp only [numsT, Option.some.injEq] at hns
    subst hns
    exact empty_string hs he hd none 0 _
  · rename_i d
    split at hxs
    · rename_i sz ys ho
      simp only [Option.some.injEq] at hxs
      subst hxs
      obtain ⟨sz2, xs2, ho2, hr⟩ : ∃ sz xs, c.objs d = .row sz xs ∧ _ := hv
      rw [h.objs, ho] at ho2
      simp only [Ob.row.injEq] at ho2
      obtain ⟨rfl, rfl⟩ := ho2
      rcases hr with ⟨_, hx0, rfl⟩ | ⟨b, cap, cs, E, heta, rfl, hcap, hh, _⟩
      · subst hx0
        simp only [numsT, Option.some.injEq] at hns
        subst hns
        exact empty_string hs he hd none 0 _
      · have hob := h.ob d
        rw [ho] at hob
        rcases hob with ⟨h0, _⟩ | ⟨b', cs', E', he', hh', hle, hw, hrep⟩
        · rw [heta] at h0; cases h0
        rw [heta] at he'
        simp only [Option.some.injEq] at he'
        subst he'
        refine cells_string hs he hd (cold := c.cold) hns b 0 cap fun i x hx => ?_
        have hsz := one hw (List.mem_of_getElem? hx) hx
        subst hsz
        have hi := (List.getElem?_eq_some_iff.1 hx).1
        have hg : cs'[i]? = some (cs'[i]'(by omega)) := Array.getElem?_eq_getElem _
        have hr2 := (hrep i 0 x _ hx (by omega) (by rw [show i * 1 + 0 = i by omega]; exact hg)).1
        refine ⟨_, by rw [Nat.zero_add, cell_block hh']; exact hg, ?_⟩
        rw [(numsT_get hns).2 i x hx] at hr2 ⊢
        exact hr2
    · cases hxs
  · rename_i d off len
    split at hxs
    · rename_i sz ys ho
      simp only [Option.some.injEq] at hxs
      obtain ⟨sz2, xs2, ho2, hle0, hr⟩ : ∃ sz xs, c.objs d = .row sz xs ∧ _ := hv
      rw [h.objs, ho] at ho2
      simp only [Ob.row.injEq] at ho2
      obtain ⟨rfl, rfl⟩ := ho2
      have hlen : xs.length = len := by rw [← hxs, List.length_take, List.length_drop]; omega
      rcases hr with ⟨h0, ad, cap, rfl⟩ | ⟨b, cap, heta, rfl, hcap⟩
      · subst h0
        have : xs = [] := List.length_eq_zero_iff.1 hlen
        subst this
        simp only [numsT, Option.some.injEq] at hns
        subst hns
        exact empty_string hs he hd ad cap _
      · have hob := h.ob d
        rw [ho] at hob
        rcases hob with ⟨h0, _⟩ | ⟨b', cs', E', he', hh', hle, hw, hrep⟩
        · rw [heta] at h0; cases h0
        rw [heta] at he'
        simp only [Option.some.injEq] at he'
        subst he'
        rcases Nat.eq_zero_or_pos len with hl0 | hl0
        · subst hl0
          have : xs = [] := List.length_eq_zero_iff.1 hlen
          subst this
          simp only [numsT, Option.some.injEq] at hns
          subst hns
          exact empty_string hs he hd _ cap _
        · have h00 : xs[0]? = some (xs[0]'(by omega)) := List.getElem?_eq_getElem _
          have hmem : ∀ (i : Nat) (x : T), xs[i]? = some x → ys[off + i]? = some x := fun i x hx => by
            have hi := (List.getElem?_eq_some_iff.1 hx).1
            rw [← hxs, List.getElem?_take_of_lt (by omega), List.getElem?_drop] at hx
            exact hx
          have hsz := one hw (List.mem_of_getElem? (hmem 0 _ h00)) h00
          subst hsz
          have hgoal := cells_string hs he hd (w := c.w) (cold := c.cold) hns b (off * 1) cap fun i x hx => by
            have hy := hmem i x hx
            have hi := (List.getElem?_eq_some_iff.1 hy).1
            have hg : cs'[off + i]? = some (cs'[off + i]'(by omega)) := Array.getElem?_eq_getElem _
            have hr2 := (hrep (off + i) 0 x _ hy (by omega) (by rw [show (off + i) * 1 + 0 = off + i by omega]; exact hg)).1
            refine ⟨_, by rw [Nat.mul_one, cell_block hh']; exact hg, ?_⟩
            rw [(numsT_get hns).2 i x hx] at hr2 ⊢
            exact hr2
          rw [hlen] at hgoal
          exact hgoal
    · cases hxs
  · cases hxs
theorem op_convert (h : Rel w0 cold0 N s a c) (hd : okDst N o = true) {src dst : TypeId} {x : Operand} (ho : o.op = .convert src dst x)
    (hk : (match P.underlying src, P.underlying dst, s.val x with
    | some _, some (.int q), .t (.int _ n) => k (s.put o.dst (.t (.int q (q.wrap n))))
    | some .string, some .string, .t (.str b) => k (s.put o.dst (.t (.str b)))
    | some (.slice e), some .string, v => (match P.underlying e with
      | some (.int .u8) => (rowOf s.objs v).bind fun xs => (numsT xs).bind fun ns => k (s.put o.dst (.t (.str (strOfNums ns))))
      | _ => none)
    | _, _, _ => none) = some r) : o.wp P a c.w (Post w0 cold0 N k r c.w ro) Q := by
  split at hk
  · rename_i d q q' n h1 h2 hn
    have hp := v3_int (h.val x) hn
    exact wp_val (v := .t (.int q (q.wrap n))) (by simp [execOp, ho, hp, convert, run_underlying h1, run_underlying h2, Conv.intToInt]) h hd (v3i _ _ _) hk
  · rename_i b h1 h2 hn
    have hp := v3_str (h.val x) hn
    exact wp_val (v := .t (.str b)) (by simp [execOp, ho, hp, convert, run_underlying h1, run_underlying h2]) h hd (v3s _ _) hk
  · rename_i e h1 h2
    split at hk
    · rename_i he
      obtain ⟨xs, hxs, hk⟩ := Option.bind_eq_some_iff.1 hk
      obtain ⟨ns, hns, hk⟩ := Option.bind_eq_some_iff.1 hk
      have hrun := row_string h h1 he h2 hxs hns (h.val x)
      exact wp_val (v := .t (.str (strOfNums ns))) (by simp [execOp, ho, hrun]) h hd (v3s _ _) hk
    · cases hk
  · cases hk
theorem byteAt_some {b : ByteArray} {i n : Int} (h : byteAt b i = some n) : ∃ u : UInt8, 0 ≤ i ∧ b[i.toNat]? = some u ∧ n = u.toNat := by
  unfold byteAt at h
  split at h
  · obtain ⟨u, hu, rfl⟩ := Option.map_eq_some_iff.1 h
    exact ⟨u, by assumption, hu, rfl⟩
  · cases h
theorem op_extract (h : Rel w0 cold0 N s a c) (hd : okDst N o = true) {x : Operand} {i : Nat} (ho : o.op = .extract x i)
    (hk : (match s.val x with
    | .tup vs => (vs[i]?).bind fun v => k (s.put o.dst v)
    | _ => none) = some r) : o.wp P a c.w (Post w0 cold0 N k r c.w ro) Q := by
  have hx := h.val x
  split at hk
  · rename_i vs hq
    rw [hq] at hx
    obtain ⟨cs, hy, hn, hr⟩ := hx
    obtain ⟨v, hv, hk⟩ := Option.bind_eq_some_iff.1 hk
    have hi : i < cs.size := by have := (List.getElem?_eq_some_iff.1 hv).1; omega
    have hc : cs[i]? = some cs[i] := by simp [hi]
    exact wp_val (v := v) (x := cs[i]) (by simp [execOp, ho, hy, Instr.extract, hc]) h hd (Cx.v3_of_v2 (hr i v _ hv hc)) hk
  · cases hk

/-- a bound of a slice expression -/
theorem bound_some {lo : Option Operand} {l d : Int} (h : (match lo with | some l => (s.val l).asInt | none => some d) = some l) (hR : Rel w0 cold0 N s a c) :
    (lo = none ∧ l = d) ∨ ∃ x q, lo = some x ∧ a.eval x = .int q l := by
  split at h
  · rename_i x
    obtain ⟨q, hq⟩ := asInt_some h
    exact .inr ⟨x, q, rfl, v3_int (hR.val x) hq⟩
  · simp only [Option.some.injEq] at h; exact .inl ⟨rfl, h.symm⟩
theorem run_sliceBound {q : IntKind} {i : Int} {y : Nat} {code : BoundsCode} (h0 : 0 ≤ i) (h1 : i ≤ y) (w : World) : (Instr.sliceBound (.int q i) y code).run P w = .ok i.toNat w := by
  simp [Instr.sliceBound, asIntOf, h0, h1]
theorem run_sliceBounds {isS : Bool} {len cap : Nat} {lo hi : Option Value} {l h : Int} (hlo : (lo = none ∧ l = 0) ∨ ∃ q, lo = some (.int q l)) (hhi : (hi = none ∧ h = len) ∨ ∃ q, hi = some (.int q h))
    (h0 : 0 ≤ l) (h1 : l ≤ h) (h2 : h ≤ len) (h3 : len ≤ cap) (w : World) : (Instr.sliceBounds isS len cap lo hi none).run P w = .ok (l.toNat, h.toNat, cap) w := by
  have hm : (Instr.sliceBound (.int .i64 0) 0 .index : Sem Nat) = Instr.sliceBound (.int .i64 0) 0 .index := rfl
  rcases hlo with ⟨rfl, rfl⟩ | ⟨q1, rfl⟩ <;> rcases hhi with ⟨rfl, rfl⟩ | ⟨q2, rfl⟩
  · simp [Instr.sliceBounds]
  · simp [Instr.sliceBounds, run_sliceBound (P := P) (q := q2) (i := h) (y := cap) (by omega) (by omega)]
  · have : l ≤ (len : Nat) := by omega
    simp [Instr.sliceBounds, run_sliceBound (P := P) (q := q1) (i := l) (y := len) h0 this]
  · have : l ≤ (h.toNat : Nat) := by omega
    simp [Instr.sliceBounds, run_sliceBound (P := P) (q := q2) (i := h) (y := cap) (by omega) (by omega), run_sliceBound (P := P) (q := q1) (i := l) (y := h.toNat) h0 this]
theorem optMap {lo : Option Operand} {l d : Int} (h : (lo = none ∧ l = d) ∨ ∃ x q, lo = some x ∧ a.eval x = .int q l) :
    (lo.map a.eval = none ∧ l = d) ∨ ∃ q, lo.map a.eval = some (.int q l) := by
  rcases h with ⟨rfl, rfl⟩ | ⟨x, q, rfl, hx⟩
  · exact .inl ⟨rfl, rfl⟩
  · exact .inr ⟨q, by simp [hx]⟩
theorem substr_some {b x : ByteArray} {l h : Int} (hs : substr b l h = some x) : 0 ≤ l ∧ l ≤ h ∧ h ≤ b.size ∧ x = b.extract l.toNat h.toNat := by
  unfold substr at hs
  split at hs
  · rename_i hc; simp only [Option.some.injEq] at hs; exact ⟨hc.1, hc.2.1, hc.2.2, hs.symm⟩
  · cases hs
/-- the header of a slice of a slice -/
theorem run_slice_sl {t E : TypeId} (hu : P.underlying t = some (.slice E)) {sz : Nat} (hsz : (sizeOf E).run P c.w = .ok sz c.w) (ad : Option Addr) (len cap : Nat) {lo hi : Option Value} {l h : Int}
    (hlo : (lo = none ∧ l = 0) ∨ ∃ q, lo = some (.int q l)) (hhi : (hi = none ∧ h = len) ∨ ∃ q, hi = some (.int q h)) (h0 : 0 ≤ l) (h1 : l ≤ h) (h2 : h ≤ len) (h3 : len ≤ cap) :
    (Instr.sliceAt t (.slice ad len cap) lo hi none).run P c.w = .ok (.slice (if cap = l.toNat then ad else ad.map (·.add (l.toNat * sz))) (h.toNat - l.toNat) (cap - l.toNat)) c.w := by
  simp [Instr.sliceAt, run_underlying hu, Instr.slice, run_sliceBounds (P := P) (isS := true) hlo hhi h0 h1 h2 h3 c.w, hsz]
theorem op_slice (h : Rel w0 cold0 N s a c) (hd : okDst N o = true) {t : TypeId} {x : Operand} {lo hi mx : Option Operand} (ho : o.op = .slice t x lo hi mx)
    (hk : (match (generalizing := false) mx with
    | some _ => none
    | none => match P.underlying t, s.val x with
      | some .string, .t (.str b) =>
        (match lo with | some l => (s.val l).asInt | none => some 0).bind fun l =>
        (match hi with | some h => (s.val h).asInt | none => some (b.size : Int)).bind fun h =>
        (substr b l h).bind fun r => k (s.put o.dst (.t (.str r)))
      | some (.slice E), .t (.lst xs) =>
        (match lo with | some l => (s.val l).asInt | none => some 0).bind fun l =>
        (match hi with | some h => (s.val h).asInt | none => some (xs.length : Int)).bind fun h =>
        if (szOf P E).isSome = true ∧ 0 ≤ l ∧ l ≤ h ∧ h ≤ xs.length then (chk xs ((szOf P E).getD 0)).bind fun xs => k (s.put o.dst (.t (.lst ((xs.drop l.toNat).take (h.toNat - l.toNat))))) else none
      | some (.slice E), .full d => match s.objs d with
        | .row sz xs =>
          (match lo with | some l => (s.val l).asInt | none => some 0).bind fun l =>
          (match hi with | some h => (s.val h).asInt | none => some (xs.length : Int)).bind fun h =>
          if szOf P E = some sz then if 0 ≤ l ∧ l ≤ h ∧ h ≤ xs.length then k (s.put o.dst (.rv d l.toNat (h.toNat - l.toNat))) else none else none
        | _ => none
      | some (.slice E), .rv d off len => match s.objs d with
        | .row sz _ =>
          (match lo with | some l => (s.val l).asInt | none => some 0).bind fun l =>
          (match hi with | some h => (s.val h).asInt | none => some (len : Int)).bind fun h =>
          if szOf P E = some sz then if 0 ≤ l ∧ l ≤ h ∧ h ≤ len then k (s.put o.dst (.rv d (off + l.toNat) (h.toNat - l.toNat))) else none else none
        | _ => none
      | _, _ => none) = some r) : o.wp P a c.w (Post w0 cold0 N k r c.w ro) Q := by
  have hx := h.val x
  cases mx with
  | some m => cases hk
  | none =>
  simp only at hk
  have hexec : ∀ z, (Instr.sliceAt t (a.eval x) (lo.map a.eval) (hi.map a.eval) none).run P c.w = .ok z c.w → (execOp a.eval o).run P c.w = .ok (.value z) c.w := fun z hz => by
    simp [execOp, ho, hz]
  split at hk
  · rename_i b hu hb
    have hp := v3_str hx hb
    obtain ⟨l, hl, hk⟩ := Option.bind_eq_some_iff.1 hk
    obtain ⟨g, hg, hk⟩ := Option.bind_eq_some_iff.1 hk
    obtain ⟨z, hz, hk⟩ := Option.bind_eq_some_iff.1 hk
    obtain ⟨h0, h1, h2, rfl⟩ := substr_some hz
    refine wp_val (v := .t (.str _)) (hexec _ ?_) h hd (.str _) hk
    simp [Instr.sliceAt, run_underlying hu, Instr.slice, hp, run_sliceBounds (P := P) (isS := false) (optMap (bound_some hl h)) (optMap (bound_some hg h)) h0 h1 h2 (Nat.le_refl _) c.w]
  · rename_i E xs hu hb
    rw [hb] at hx
    obtain ⟨l, hl, hk⟩ := Option.bind_eq_some_iff.1 hk
    obtain ⟨g, hg, hk⟩ := Option.bind_eq_some_iff.1 hk
    split at hk
    · rename_i hc
      obtain ⟨hs, h0, h1, h2⟩ := hc
      obtain ⟨ys, hys, hk⟩ := Option.bind_eq_some_iff.1 hk
      obtain ⟨sz, hsz⟩ := Option.isSome_iff_exists.1 hs
      rw [hsz, Option.getD_some] at hys
      unfold chk at hys
      split at hys
      · rename_i hall
        simp only [Option.some.injEq] at hys
        subst hys
        have hwd : ∀ y, y ∈ xs → y.width = sz := fun y hy => by simpa using List.all_eq_true.1 hall y hy
        generalize hy : a.eval x = y at hx
        have hlo := optMap (bound_some hl h)
        have hhi := optMap (bound_some hg h)
        cases hx with
        | lst0 ad cap =>
          simp at h2
          have : l = 0 := by omega
          subst this
          have : g = 0 := by omega
          subst this
          refine wp_val (v := .t (.lst _)) (hexec _ (by rw [hy]; exact run_slice_sl hu (run_sizeOf' hsz c.w) ad 0 cap hlo hhi (by omega) (by omega) (by omega) (by omega))) h hd ?_ hk
          simp only [Int.toNat_zero, List.drop_nil, List.take_nil, Nat.sub_self]
          exact .lst0 _ _
        | lst _ b off cap sz' cv hcap hcold hw hcell ho1 hr =>
          refine wp_val (v := .t (.lst _)) (hexec _ (by rw [hy]; exact run_slice_sl hu (run_sizeOf' hsz c.w) _ xs.length cap hlo hhi h0 h1 h2 hcap)) h hd ?_ hk
          have hlen : ((xs.drop l.toNat).take (g.toNat - l.toNat)).length = g.toNat - l.toNat := by simp; omega
          by_cases hz : g.toNat - l.toNat = 0
          · rw [hz, List.take_zero]
            exact .lst0 _ _
          · have hne : cap ≠ l.toNat := by omega
            have hcap' : g.toNat - l.toNat ≤ cap - l.toNat := by omega
            have hss : sz' = sz := by
              have hm : xs[l.toNat]'(by omega) ∈ xs := List.getElem_mem _
              rw [← hw _ hm, hwd _ hm]
            subst hss
            simp only [hne, if_false, Option.map_some, add_lit]
            have key : TRep c.w c.cold (.lst ((xs.drop l.toNat).take (g.toNat - l.toNat))) (.slice (some ⟨b, off + l.toNat * sz', none⟩) ((xs.drop l.toNat).take (g.toNat - l.toNat)).length (cap - l.toNat)) := by
             refine TRep.lst _ b (off + l.toNat * sz') (cap - l.toNat) sz' (fun i j => cv (l.toNat + i) j) (by omega) hcold (fun y hy => hw y (List.mem_of_mem_drop (List.mem_of_mem_take hy))) (fun i j hi hj => ?_) (fun i j hi hj => ?_) (fun i y j hi hj => ?_)
             · rw [show off + l.toNat * sz' + i * sz' + j = off + (l.toNat + i) * sz' + j by rw [Nat.add_mul]; omega]
               exact hcell _ _ (by omega) hj
             · exact ho1 _ _ (by omega) hj
             · have hi' : i < g.toNat - l.toNat := by have := (List.getElem?_eq_some_iff.1 hi).1; omega
               rw [List.getElem?_take_of_lt hi', List.getElem?_drop] at hi
               exact hr _ y j hi hj
            rw [hlen] at key
            exact key
      · cases hys
    · cases hk
  · rename_i E d hu hb
    rw [hb] at hx
    split at hk
    · rename_i sz xs hob
      obtain ⟨l, hl, hk⟩ := Option.bind_eq_some_iff.1 hk
      obtain ⟨g, hg, hk⟩ := Option.bind_eq_some_iff.1 hk
      split at hk
      · rename_i hsz
        split at hk
        · rename_i hc
          obtain ⟨h0, h1, h2⟩ := hc
          have hlo := optMap (bound_some hl h)
          have hhi := optMap (bound_some hg h)
          obtain ⟨sz2, xs2, ho2, hr⟩ := hx
          rw [h.objs, hob] at ho2
          simp only [Ob.row.injEq] at ho2
          obtain ⟨rfl, rfl⟩ := ho2
          rcases hr with ⟨he, hxs, hy⟩ | ⟨b, cap, cs, F, he, hy, hcap, hh, hszc⟩
          · have hx0 : xs.length = 0 := by rw [hxs]; rfl
            rw [hx0] at hhi h2
            have hz : g.toNat - l.toNat = 0 := by omega
            refine wp_val (v := .rv d l.toNat (g.toNat - l.toNat)) (hexec _ (by rw [hy]; exact run_slice_sl hu (run_sizeOf' hsz c.w) none 0 0 hlo hhi h0 h1 h2 (by omega))) h hd ⟨sz, xs, by rw [h.objs]; exact hob, by omega, .inl ⟨hz, _, _, by rw [hz]⟩⟩ hk
          · refine wp_val (v := .rv d l.toNat (g.toNat - l.toNat)) (hexec _ (by rw [hy]; exact run_slice_sl hu (run_sizeOf' hsz c.w) _ xs.length cap hlo hhi h0 h1 h2 hcap)) h hd ⟨sz, xs, by rw [h.objs]; exact hob, by omega, ?_⟩ hk
            by_cases hz : g.toNat - l.toNat = 0
            · exact .inl ⟨hz, _, _, by rw [hz]⟩
            · have hne : cap ≠ l.toNat := by omega
              exact .inr ⟨b, cap - l.toNat, he, by simp [hne, add_lit], by omega⟩
        · cases hk
      · cases hk
    · cases hk
  · rename_i E d off len hu hb
    rw [hb] at hx
    split at hk
    · rename_i sz xs hob
      obtain ⟨l, hl, hk⟩ := Option.bind_eq_some_iff.1 hk
      obtain ⟨g, hg, hk⟩ := Option.bind_eq_some_iff.1 hk
      split at hk
      · rename_i hsz
        split at hk
        · rename_i hc
          obtain ⟨h0, h1, h2⟩ := hc
          have hlo := optMap (bound_some hl h)
          have hhi := optMap (bound_some hg h)
          obtain ⟨sz2, xs2, ho2, hle, hr⟩ := hx
          rw [h.objs, hob] at ho2
          simp only [Ob.row.injEq] at ho2
          obtain ⟨rfl, rfl⟩ := ho2
          rcases hr with ⟨rfl, ad, cap, hy⟩ | ⟨b, cap, he, hy, hcap⟩
          · have hl0 : l = 0 := by simp at h2; omega
            have hg0 : g = 0 := by simp at h2; omega
            subst hl0; subst hg0
            refine wp_val (v := .rv d (off + (0 : Int).toNat) ((0 : Int).toNat - (0 : Int).toNat)) (hexec _ (by rw [hy]; exact run_slice_sl hu (run_sizeOf' hsz c.w) ad 0 cap hlo hhi (by omega) (by omega) (by omega) (by omega))) h hd ⟨sz, xs, by rw [h.objs]; exact hob, by simp; omega, .inl ⟨rfl, _, _, rfl⟩⟩ hk
          · refine wp_val (v := .rv d (off + l.toNat) (g.toNat - l.toNat)) (hexec _ (by rw [hy]; exact run_slice_sl hu (run_sizeOf' hsz c.w) _ len cap hlo hhi h0 h1 h2 hcap)) h hd ⟨sz, xs, by rw [h.objs]; exact hob, by omega, ?_⟩ hk
            by_cases hz : g.toNat - l.toNat = 0
            · exact .inl ⟨hz, _, _, by rw [hz]⟩
            · have hne : cap ≠ l.toNat := by omega
              exact .inr ⟨b, cap - l.toNat, he, by simp [hne, add_lit, Nat.add_mul], by omega⟩
        · cases hk
      · cases hk
    · cases hk
  · cases hk
end
end Go.Ax
