/- Ax, part J: the operations, one by one: arithmetic, strings, slices' headers, calls. -/
import Derived.Test.YtbiooiikejcgbaaDoorAxI
set_option linter.unusedVariables false
set_option linter.unusedSimpArgs false
namespace Go.Ax
open Go Go.RowKit

section
variable {P : Program} {w0 : Base} {cold0 : Nat → Prop} {N : Nat} {s : St} {a : Act} {c : Cx} {R : Type} {r : R} {o : Oper} {Q : Exit → Act → World → Prop} {k : St → Option R} {ro : Bool}

theorem v3i (c : Cx) (q : IntKind) (n : Int) : c.v3 (.t (.int q n)) (.int q n) := TRep.int q n
theorem v3b (c : Cx) (b : Bool) : c.v3 (.t (.bool b)) (.bool b) := TRep.bool b
theorem v3s (c : Cx) (b : ByteArray) : c.v3 (.t (.str b)) (.string b) := TRep.str b
theorem run_equal_bool {t : TypeId} (hu : P.underlying t = some .bool) (m n : Bool) (w : World) : (Op.equal t (.bool m) (.bool n)).run P w = .ok (m == n) w := by
  show (Op.equalIn (9999 + 1) t (.bool m) (.bool n)).run P w = _
  rw [Op.equalIn]
  simp [run_underlying hu]
theorem evBin_run {op : BinOp} {t : TypeId} {x y : Operand} {u v : V} {p q : Value} (hu : c.v3 u p) (hv : c.v3 v q) {k : V → Option R} (h : evBin op u v k = some r) (w : World) :
    ∃ z zv, (do eqGuard op t x y p q; binOp op t p q : Sem Value).run P w = .ok z w ∧ c.v3 zv z ∧ k zv = some r := by
  unfold evBin at h
  split at h
  · rename_i k1 m k2 n
    have hp := v3_int hu rfl
    have hq := v3_int hv rfl
    subst hp; subst hq
    split at h
    · split at h
      · cases h
      · rename_i hb
        exact ⟨_, _, by simp [eqGuard_at_int, binOp_shl, Op.shift, hb], v3i _ _ _, h⟩
    · split at h
      · cases h
      · rename_i hb
        exact ⟨_, _, by simp [eqGuard_at_int, binOp_shr, Op.shift, hb], v3i _ _ _, h⟩
    · split at h
      · rename_i hk
        subst hk
        split at h
        · exact ⟨_, _, by simp [eqGuard_at_int, binOp_add, Op.intArith], v3i _ _ _, h⟩
        · exact ⟨_, _, by simp [eqGuard_at_int, binOp_sub, Op.intArith], v3i _ _ _, h⟩
        · exact ⟨_, _, by simp [eqGuard_at_int, binOp_mul, Op.intArith], v3i _ _ _, h⟩
        · split at h
          · cases h
          · rename_i hb; exact ⟨_, _, by simp [eqGuard_at_int, binOp_quo, Op.intDiv, hb], v3i _ _ _, h⟩
        · split at h
          · cases h
          · rename_i hb; exact ⟨_, _, by simp [eqGuard_at_int, binOp_rem, Op.intDiv, hb], v3i _ _ _, h⟩
        · exact ⟨_, _, by simp only [eqGuard_at_int, binOp_and, Op.intBits, Sem.run_bind, Sem.run_pure, Result.andThen_ok]; rfl, v3i _ _ _, h⟩
        · exact ⟨_, _, by simp only [eqGuard_at_int, binOp_or, Op.intBits, Sem.run_bind, Sem.run_pure, Result.andThen_ok]; rfl, v3i _ _ _, h⟩
        · exact ⟨_, _, by simp only [eqGuard_at_int, binOp_xor, Op.intBits, Sem.run_bind, Sem.run_pure, Result.andThen_ok]; rfl, v3i _ _ _, h⟩
        · exact ⟨_, _, by simp only [eqGuard_at_int, binOp_andNot, Op.intBits, Sem.run_bind, Sem.run_pure, Result.andThen_ok]; rfl, v3i _ _ _, h⟩
        · exact ⟨_, _, by simp [eqGuard_at_int, binOp_eql], v3b _ _, h⟩
        · exact ⟨_, _, by simp [eqGuard_at_int, binOp_neq], v3b _ _, h⟩
        · exact ⟨_, _, by simp [eqGuard_at_int, binOp_lss], v3b _ _, h⟩
        · exact ⟨_, _, by simp [eqGuard_at_int, binOp_leq], v3b _ _, h⟩
        · exact ⟨_, _, by simp [eqGuard_at_int, binOp_gtr], v3b _ _, h⟩
        · exact ⟨_, _, by simp [eqGuard_at_int, binOp_geq], v3b _ _, h⟩
        · cases h
      · cases h
  · rename_i m n
    have hp := v3_str hu rfl
    have hq := v3_str hv rfl
    subst hp; subst hq
    split at h
    · split at h
      · rename_i hle
        refine ⟨_, _, ?_, v3s _ _, h⟩
        have : ¬ (((m.size + n.size : Nat) : Int) > IntKind.i64.max) := by simp [IntKind.max_i64]; omega
        simp only [eqGuard_at_string, binOp, Op.stringOp, this, if_false, Sem.run_bind, Sem.run_pure, Result.andThen_ok]
      · cases h
    · exact ⟨_, _, by simp [eqGuard_at_string, binOp, Op.stringOp, strEq], v3b _ _, h⟩
    · exact ⟨_, _, by simp [eqGuard_at_string, binOp, Op.stringOp, strEq], v3b _ _, h⟩
    · cases h
  · cases h
theorem op_binOp (h : Rel w0 cold0 N s a c) (hd : okDst N o = true) {op : BinOp} {t ty : TypeId} {x y : Operand} (ho : o.op = .binOp op t x y ty)
    (hk : (match s.val x, s.val y with
    | .t (.bool a), .t (.bool b) => (match P.underlying t with | some .bool => evBinB op a b (fun v => k (s.put o.dst v)) | _ => none)
    | u, v => evBin op u v (fun v => k (s.put o.dst v))) = some r) : o.wp P a c.w (Post w0 cold0 N k r c.w ro) Q := by
  split at hk
  · rename_i m n hm hn
    have hp := v3_bool (h.val x) hm
    have hq := v3_bool (h.val y) hn
    split at hk
    · rename_i hu
      unfold evBinB at hk
      split at hk
      · exact wp_val (v := .t (.bool (m == n))) (by simp [execOp, ho, hp, hq, eqGuard_at_bool, binOp, run_equal_bool hu]) h hd (v3b _ _) hk
      · exact wp_val (v := .t (.bool (!(m == n)))) (by simp [execOp, ho, hp, hq, eqGuard_at_bool, binOp, run_equal_bool hu]) h hd (v3b _ _) hk
      · cases hk
    · cases hk
  · obtain ⟨z, zv, hrun, hz, hk⟩ := evBin_run (P := P) (t := t) (x := x) (y := y) (h.val x) (h.val y) hk c.w
    refine wp_val ?_ h hd hz hk
    have : (execOp a.eval o) = (do let z ← (do eqGuard op t x y (a.eval x) (a.eval y); binOp op t (a.eval x) (a.eval y) : Sem Value); pure (.value z)) := by simp [execOp, ho]
    rw [this, Sem.run_bind, hrun]
    rfl
theorem op_unOp (h : Rel w0 cold0 N s a c) (hd : okDst N o = true) {op : UnOp} {t : TypeId} {x : Operand} (ho : o.op = .unOp op t x)
    (hk : (match (generalizing := false) op, s.val x with
    | .not, .t (.bool b) => k (s.put o.dst (.t (.bool (!b))))
    | .neg, .t (.int q n) => k (s.put o.dst (.t (.int q (q.wrap (0 - n)))))
    | .xor, .t (.int q n) => k (s.put o.dst (.t (.int q (bitOp .xor q (if q.signed = true then -1 else q.max) n))))
    | _, _ => none) = some r) : o.wp P a c.w (Post w0 cold0 N k r c.w ro) Q := by
  have hv := h.val x
  revert hk hv
  generalize s.val x = u
  intro hk hv
  split at hk
  · have hp := v3_bool hv rfl
    rename_i b
    exact wp_val (v := .t (.bool (!b))) (by simp [execOp, ho, hp, Op.unary]) h hd (v3b _ _) hk
  · have hp := v3_int hv rfl
    rename_i q n
    exact wp_val (v := .t (.int q (q.wrap (0 - n)))) (by simp [execOp, ho, hp, Op.unary, Op.intArith]) h hd (v3i _ _ _) hk
  · have hp := v3_int hv rfl
    rename_i q n
    refine wp_val (v := .t (.int q (bitOp .xor q (if q.signed = true then -1 else q.max) n))) ?_ h hd (v3i _ _ _) hk
    simp only [execOp, ho, hp, Op.unary, Op.intBits, bitOp, Sem.run_bind, Sem.run_pure, Result.andThen_ok]
  · cases hk
theorem op_convert (h : Rel w0 cold0 N s a c) (hd : okDst N o = true) {src dst : TypeId} {x : Operand} (ho : o.op = .convert src dst x)
    (hk : (match P.underlying src, P.underlying dst, s.val x with
    | some _, some (.int q), .t (.int _ n) => k (s.put o.dst (.t (.int q (q.wrap n))))
    | some .string, some .string, .t (.str b) => k (s.put o.dst (.t (.str b)))
    | _, _, _ => none) = some r) : o.wp P a c.w (Post w0 cold0 N k r c.w ro) Q := by
  split at hk
  · rename_i d q q' n h1 h2 hn
    have hp := v3_int (h.val x) hn
    exact wp_val (v := .t (.int q (q.wrap n))) (by simp [execOp, ho, hp, convert, run_underlying h1, run_underlying h2, Conv.intToInt]) h hd (v3i _ _ _) hk
  · rename_i b h1 h2 hn
    have hp := v3_str (h.val x) hn
    exact wp_val (v := .t (.str b)) (by simp [execOp, ho, hp, convert, run_underlying h1, run_underlying h2]) h hd (v3s _ _) hk
  · cases hk
theorem byteAt_some {b : ByteArray} {i n : Int} (h : byteAt b i = some n) : ∃ u : UInt8, 0 ≤ i ∧ b[i.toNat]? = some u ∧ n = u.toNat := by
  unfold byteAt at h
  split at h
  · obtain ⟨u, hu, rfl⟩ := Option.map_eq_some_iff.1 h
    exact ⟨u, by assumption, hu, rfl⟩
  · cases h
theorem op_extract (h : Rel w0 cold0 N s a c) (hd : okDst N o = true) {x : Operand} {i : Nat} (ho : o.op = .extract x i)
    (hk : (match s.val x with
    | .tup vs => (vs[i]?).bind fun v => k (s.put o.dst v)
    | _ => none) = some r) : o.wp P a c.w (Post w0 cold0 N k r c.w ro) Q := by
  have hx := h.val x
  split at hk
  · rename_i vs hq
    rw [hq] at hx
    obtain ⟨cs, hy, hn, hr⟩ := hx
    obtain ⟨v, hv, hk⟩ := Option.bind_eq_some_iff.1 hk
    have hi : i < cs.size := by have := (List.getElem?_eq_some_iff.1 hv).1; omega
    have hc : cs[i]? = some cs[i] := by simp [hi]
    exact wp_val (v := v) (x := cs[i]) (by simp [execOp, ho, hy, Instr.extract, hc]) h hd (Cx.v3_of_v2 (hr i v _ hv hc)) hk
  · cases hk

/-- a bound of a slice expression -/
theorem bound_some {lo : Option Operand} {l d : Int} (h : (match lo with | some l => (s.val l).asInt | none => some d) = some l) (hR : Rel w0 cold0 N s a c) :
    (lo = none ∧ l = d) ∨ ∃ x q, lo = some x ∧ a.eval x = .int q l := by
  split at h
  · rename_i x
    obtain ⟨q, hq⟩ := asInt_some h
    exact .inr ⟨x, q, rfl, v3_int (hR.val x) hq⟩
  · simp only [Option.some.injEq] at h; exact .inl ⟨rfl, h.symm⟩
theorem run_sliceBound {q : IntKind} {i : Int} {y : Nat} {code : BoundsCode} (h0 : 0 ≤ i) (h1 : i ≤ y) (w : World) : (Instr.sliceBound (.int q i) y code).run P w = .ok i.toNat w := by
  simp [Instr.sliceBound, asIntOf, h0, h1]
theorem run_sliceBounds {isS : Bool} {len cap : Nat} {lo hi : Option Value} {l h : Int} (hlo : (lo = none ∧ l = 0) ∨ ∃ q, lo = some (.int q l)) (hhi : (hi = none ∧ h = len) ∨ ∃ q, hi = some (.int q h))
    (h0 : 0 ≤ l) (h1 : l ≤ h) (h2 : h ≤ len) (h3 : len ≤ cap) (w : World) : (Instr.sliceBounds isS len cap lo hi none).run P w = .ok (l.toNat, h.toNat, cap) w := by
  have hm : (Instr.sliceBound (.int .i64 0) 0 .index : Sem Nat) = Instr.sliceBound (.int .i64 0) 0 .index := rfl
  rcases hlo with ⟨rfl, rfl⟩ | ⟨q1, rfl⟩ <;> rcases hhi with ⟨rfl, rfl⟩ | ⟨q2, rfl⟩
  · simp [Instr.sliceBounds]
  · simp [Instr.sliceBounds, run_sliceBound (P := P) (q := q2) (i := h) (y := cap) (by omega) (by omega)]
  · have : l ≤ (len : Nat) := by omega
    simp [Instr.sliceBounds, run_sliceBound (P := P) (q := q1) (i := l) (y := len) h0 this]
  · have : l ≤ (h.toNat : Nat) := by omega
    simp [Instr.sliceBounds, run_sliceBound (P := P) (q := q2) (i := h) (y := cap) (by omega) (by omega), run_sliceBound (P := P) (q := q1) (i := l) (y := h.toNat) h0 this]
theorem optMap {lo : Option Operand} {l d : Int} (h : (lo = none ∧ l = d) ∨ ∃ x q, lo = some x ∧ a.eval x = .int q l) :
    (lo.map a.eval = none ∧ l = d) ∨ ∃ q, lo.map a.eval = some (.int q l) := by
  rcases h with ⟨rfl, rfl⟩ | ⟨x, q, rfl, hx⟩
  · exact .inl ⟨rfl, rfl⟩
  · exact .inr ⟨q, by simp [hx]⟩
theorem substr_some {b x : ByteArray} {l h : Int} (hs : substr b l h = some x) : 0 ≤ l ∧ l ≤ h ∧ h ≤ b.size ∧ x = b.extract l.toNat h.toNat := by
  unfold substr at hs
  split at hs
  · rename_i hc; simp only [Option.some.injEq] at hs; exact ⟨hc.1, hc.2.1, hc.2.2, hs.symm⟩
  · cases hs
/-- the header of a slice of a slice -/
theorem run_slice_sl {t E : TypeId} (hu : P.underlying t = some (.slice E)) {sz : Nat} (hsz : (sizeOf E).run P c.w = .ok sz c.w) (ad : Option Addr) (len cap : Nat) {lo hi : Option Value} {l h : Int}
    (hlo : (lo = none ∧ l = 0) ∨ ∃ q, lo = some (.int q l)) (hhi : (hi = none ∧ h = len) ∨ ∃ q, hi = some (.int q h)) (h0 : 0 ≤ l) (h1 : l ≤ h) (h2 : h ≤ len) (h3 : len ≤ cap) :
    (Instr.sliceAt t (.slice ad len cap) lo hi none).run P c.w = .ok (.slice (if cap = l.toNat then ad else ad.map (·.add (l.toNat * sz))) (h.toNat - l.toNat) (cap - l.toNat)) c.w := by
  simp [Instr.sliceAt, run_underlying hu, Instr.slice, run_sliceBounds (P := P) (isS := true) hlo hhi h0 h1 h2 h3 c.w, hsz]
theorem op_slice (h : Rel w0 cold0 N s a c) (hd : okDst N o = true) {t : TypeId} {x : Operand} {lo hi mx : Option Operand} (ho : o.op = .slice t x lo hi mx)
    (hk : (match (generalizing := false) mx with
    | some _ => none
    | none => match P.underlying t, s.val x with
      | some .string, .t (.str b) =>
        (match lo with | some l => (s.val l).asInt | none => some 0).bind fun l =>
        (match hi with | some h => (s.val h).asInt | none => some (b.size : Int)).bind fun h =>
        (substr b l h).bind fun r => k (s.put o.dst (.t (.str r)))
      | some (.slice E), .t (.lst xs) =>
        (match lo with | some l => (s.val l).asInt | none => some 0).bind fun l =>
        (match hi with | some h => (s.val h).asInt | none => some (xs.length : Int)).bind fun h =>
        if (szOf P E).isSome = true ∧ 0 ≤ l ∧ l ≤ h ∧ h ≤ xs.length then (chk xs ((szOf P E).getD 0)).bind fun xs => k (s.put o.dst (.t (.lst ((xs.drop l.toNat).take (h.toNat - l.toNat))))) else none
      | some (.slice E), .full d => match s.objs d with
        | .row sz xs =>
          (match lo with | some l => (s.val l).asInt | none => some 0).bind fun l =>
          (match hi with | some h => (s.val h).asInt | none => some (xs.length : Int)).bind fun h =>
          if szOf P E = some sz then if 0 ≤ l ∧ l ≤ h ∧ h ≤ xs.length then k (s.put o.dst (.rv d l.toNat (h.toNat - l.toNat))) else none else none
        | _ => none
      | some (.slice E), .rv d off len => match s.objs d with
        | .row sz _ =>
          (match lo with | some l => (s.val l).asInt | none => some 0).bind fun l =>
          (match hi with | some h => (s.val h).asInt | none => some (len : Int)).bind fun h =>
          if szOf P E = some sz then if 0 ≤ l ∧ l ≤ h ∧ h ≤ len then k (s.put o.dst (.rv d (off + l.toNat) (h.toNat - l.toNat))) else none else none
        | _ => none
      | _, _ => none) = some r) : o.wp P a c.w (Post w0 cold0 N k r c.w ro) Q := by
  have hx := h.val x
  cases mx with
  | some m => cases hk
  | none =>
  simp only at hk
  have hexec : ∀ z, (Instr.sliceAt t (a.eval x) (lo.map a.eval) (hi.map a.eval) none).run P c.w = .ok z c.w → (execOp a.eval o).run P c.w = .ok (.value z) c.w := fun z hz => by
    simp [execOp, ho, hz]
  split at hk
  · rename_i b hu hb
    have hp := v3_str hx hb
    obtain ⟨l, hl, hk⟩ := Option.bind_eq_some_iff.1 hk
    obtain ⟨g, hg, hk⟩ := Option.bind_eq_some_iff.1 hk
    obtain ⟨z, hz, hk⟩ := Option.bind_eq_some_iff.1 hk
    obtain ⟨h0, h1, h2, rfl⟩ := substr_some hz
    refine wp_val (v := .t (.str _)) (hexec _ ?_) h hd (.str _) hk
    simp [Instr.sliceAt, run_underlying hu, Instr.slice, hp, run_sliceBounds (P := P) (isS := false) (optMap (bound_some hl h)) (optMap (bound_some hg h)) h0 h1 h2 (Nat.le_refl _) c.w]
  · rename_i E xs hu hb
    rw [hb] at hx
    obtain ⟨l, hl, hk⟩ := Option.bind_eq_some_iff.1 hk
    obtain ⟨g, hg, hk⟩ := Option.bind_eq_some_iff.1 hk
    split at hk
    · rename_i hc
      obtain ⟨hs, h0, h1, h2⟩ := hc
      obtain ⟨ys, hys, hk⟩ := Option.bind_eq_some_iff.1 hk
      obtain ⟨sz, hsz⟩ := Option.isSome_iff_exists.1 hs
      rw [hsz, Option.getD_some] at hys
      unfold chk at hys
      split at hys
      · rename_i hall
        simp only [Option.some.injEq] at hys
        subst hys
        have hwd : ∀ y, y ∈ xs → y.width = sz := fun y hy => by simpa using List.all_eq_true.1 hall y hy
        generalize hy : a.eval x = y at hx
        have hlo := optMap (bound_some hl h)
        have hhi := optMap (bound_some hg h)
        cases hx with
        | lst0 ad cap =>
          simp at h2
          have : l = 0 := by omega
          subst this
          have : g = 0 := by omega
          subst this
          refine wp_val (v := .t (.lst _)) (hexec _ (by rw [hy]; exact run_slice_sl hu (run_sizeOf' hsz c.w) ad 0 cap hlo hhi (by omega) (by omega) (by omega) (by omega))) h hd ?_ hk
          simp only [Int.toNat_zero, List.drop_nil, List.take_nil, Nat.sub_self]
          exact .lst0 _ _
        | lst _ b off cap sz' cv hcap hcold hw hcell ho1 hr =>
          refine wp_val (v := .t (.lst _)) (hexec _ (by rw [hy]; exact run_slice_sl hu (run_sizeOf' hsz c.w) _ xs.length cap hlo hhi h0 h1 h2 hcap)) h hd ?_ hk
          have hlen : ((xs.drop l.toNat).take (g.toNat - l.toNat)).length = g.toNat - l.toNat := by simp; omega
          by_cases hz : g.toNat - l.toNat = 0
          · rw [hz, List.take_zero]
            exact .lst0 _ _
          · have hne : cap ≠ l.toNat := by omega
            have hcap' : g.toNat - l.toNat ≤ cap - l.toNat := by omega
            have hss : sz' = sz := by
              have hm : xs[l.toNat]'(by omega) ∈ xs := List.getElem_mem _
              rw [← hw _ hm, hwd _ hm]
            subst hss
            simp only [hne, if_false, Option.map_some, add_lit]
            have key : TRep c.w c.cold (.lst ((xs.drop l.toNat).take (g.toNat - l.toNat))) (.slice (some ⟨b, off + l.toNat * sz', none⟩) ((xs.drop l.toNat).take (g.toNat - l.toNat)).length (cap - l.toNat)) := by
             refine TRep.lst _ b (off + l.toNat * sz') (cap - l.toNat) sz' (fun i j => cv (l.toNat + i) j) (by omega) hcold (fun y hy => hw y (List.mem_of_mem_drop (List.mem_of_mem_take hy))) (fun i j hi hj => ?_) (fun i j hi hj => ?_) (fun i y j hi hj => ?_)
             · rw [show off + l.toNat * sz' + i * sz' + j = off + (l.toNat + i) * sz' + j by rw [Nat.add_mul]; omega]
               exact hcell _ _ (by omega) hj
             · exact ho1 _ _ (by omega) hj
             · have hi' : i < g.toNat - l.toNat := by have := (List.getElem?_eq_some_iff.1 hi).1; omega
               rw [List.getElem?_take_of_lt hi', List.getElem?_drop] at hi
               exact hr _ y j hi hj
            rw [hlen] at key
            exact key
      · cases hys
    · cases hk
  · rename_i E d hu hb
    rw [hb] at hx
    split at hk
    · rename_i sz xs hob
      obtain ⟨l, hl, hk⟩ := Option.bind_eq_some_iff.1 hk
      obtain ⟨g, hg, hk⟩ := Option.bind_eq_some_iff.1 hk
      split at hk
      · rename_i hsz
        split at hk
        · rename_i hc
          obtain ⟨h0, h1, h2⟩ := hc
          have hlo := optMap (bound_some hl h)
          have hhi := optMap (bound_some hg h)
          obtain ⟨sz2, xs2, ho2, hr⟩ := hx
          rw [h.objs, hob] at ho2
          simp only [Ob.row.injEq] at ho2
          obtain ⟨rfl, rfl⟩ := ho2
          rcases hr with ⟨he, hxs, hy⟩ | ⟨b, cap, cs, F, he, hy, hcap, hh, hszc⟩
          · have hx0 : xs.length = 0 := by rw [hxs]; rfl
            rw [hx0] at hhi h2
            have hz : g.toNat - l.toNat = 0 := by omega
            refine wp_val (v := .rv d l.toNat (g.toNat - l.toNat)) (hexec _ (by rw [hy]; exact run_slice_sl hu (run_sizeOf' hsz c.w) none 0 0 hlo hhi h0 h1 h2 (by omega))) h hd ⟨sz, xs, by rw [h.objs]; exact hob, by omega, .inl ⟨hz, _, _, by rw [hz]⟩⟩ hk
          · refine wp_val (v := .rv d l.toNat (g.toNat - l.toNat)) (hexec _ (by rw [hy]; exact run_slice_sl hu (run_sizeOf' hsz c.w) _ xs.length cap hlo hhi h0 h1 h2 hcap)) h hd ⟨sz, xs, by rw [h.objs]; exact hob, by omega, ?_⟩ hk
            by_cases hz : g.toNat - l.toNat = 0
            · exact .inl ⟨hz, _, _, by rw [hz]⟩
            · have hne : cap ≠ l.toNat := by omega
              exact .inr ⟨b, cap - l.toNat, he, by simp [hne, add_lit], by omega⟩
        · cases hk
      · cases hk
    · cases hk
  · rename_i E d off len hu hb
    rw [hb] at hx
    split at hk
    · rename_i sz xs hob
      obtain ⟨l, hl, hk⟩ := Option.bind_eq_some_iff.1 hk
      obtain ⟨g, hg, hk⟩ := Option.bind_eq_some_iff.1 hk
      split at hk
      · rename_i hsz
        split at hk
        · rename_i hc
          obtain ⟨h0, h1, h2⟩ := hc
          have hlo := optMap (bound_some hl h)
          have hhi := optMap (bound_some hg h)
          obtain ⟨sz2, xs2, ho2, hle, hr⟩ := hx
          rw [h.objs, hob] at ho2
          simp only [Ob.row.injEq] at ho2
          obtain ⟨rfl, rfl⟩ := ho2
          rcases hr with ⟨rfl, ad, cap, hy⟩ | ⟨b, cap, he, hy, hcap⟩
          · have hl0 : l = 0 := by simp at h2; omega
            have hg0 : g = 0 := by simp at h2; omega
            subst hl0; subst hg0
            refine wp_val (v := .rv d (off + (0 : Int).toNat) ((0 : Int).toNat - (0 : Int).toNat)) (hexec _ (by rw [hy]; exact run_slice_sl hu (run_sizeOf' hsz c.w) ad 0 cap hlo hhi (by omega) (by omega) (by omega) (by omega))) h hd ⟨sz, xs, by rw [h.objs]; exact hob, by simp; omega, .inl ⟨rfl, _, _, rfl⟩⟩ hk
          · refine wp_val (v := .rv d (off + l.toNat) (g.toNat - l.toNat)) (hexec _ (by rw [hy]; exact run_slice_sl hu (run_sizeOf' hsz c.w) _ len cap hlo hhi h0 h1 h2 hcap)) h hd ⟨sz, xs, by rw [h.objs]; exact hob, by omega, ?_⟩ hk
            by_cases hz : g.toNat - l.toNat = 0
            · exact .inl ⟨hz, _, _, by rw [hz]⟩
            · have hne : cap ≠ l.toNat := by omega
              exact .inr ⟨b, cap - l.toNat, he, by simp [hne, add_lit, Nat.add_mul], by omega⟩
        · cases hk
      · cases hk
    · cases hk
  · cases hk
end
end Go.Ax
