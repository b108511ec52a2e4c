/- Ax, part K: the operations, one by one: structs as values, closures, builtins on headers, calls. -/
import Derived.Test.YtcpcbmebpmokbaaDoorAxJ
set_option linter.unusedVariables false
set_option linter.unusedSimpArgs false
namespace Go.Ax
open Go Go.RowKit

section
variable {P : Program} {w0 : Base} {cold0 : Nat → Prop} {N : Nat} {s : St} {a : Act} {c : Cx} {R : Type} {r : R} {o : Oper} {Q : Exit → Act → World → Prop} {k : St → Option R} {ro : Bool}

theorem one_v1 {v : V} {y : Value} (h : c.v3 v y) (h1 : v.one = true) : c.v1 v y ∧ y.oneCell' = true := by
  cases v with
  | t x =>
    refine ⟨h, ?_⟩
    have h : TRep c.w c.cold x y := h
    cases h <;> first | rfl | assumption | simp [V.one, T.one] at h1
  | full d => exact ⟨h, by obtain ⟨sz, xs, ho, hr⟩ := h; rcases hr with ⟨_, _, rfl⟩ | ⟨_, _, _, _, _, rfl, _⟩ <;> rfl⟩
  | rv d o l => exact ⟨h, by obtain ⟨sz, xs, ho, _, hr⟩ := h; rcases hr with ⟨_, _, _, rfl⟩ | ⟨_, _, _, rfl, _⟩ <;> rfl⟩
  | bp d o => exact ⟨h, by obtain ⟨_, _, _, _, _, rfl⟩ := h; rfl⟩
  | rp d i o => exact ⟨h, by obtain ⟨_, _, _, _, _, _, rfl⟩ := h; rfl⟩
  | fb d y => exact ⟨h, by obtain ⟨sz, xs, ho, hr⟩ := h; rcases hr with ⟨_, _, rfl⟩ | ⟨_, _, _, _, rfl, _⟩ <;> rfl⟩
  | nilv => exact ⟨h, by rw [show y = .slice none 0 0 from h]; rfl⟩
  | _ => simp [V.one] at h1

/-- leaves and the cells that stand for them -/
def Cx.repL (c : Cx) (ls : List V) (cs : Array Value) : Prop :=
  cs.size = ls.length ∧ (∀ (j : Nat) (x : Value), cs[j]? = some x → x.oneCell' = true) ∧ ∀ (j : Nat) (l : V) (x : Value), ls[j]? = some l → cs[j]? = some x → c.v1 l x
theorem aggN_some {n : Nat} {e x : T} (h : e.aggN n = some x) : ∃ l, e = .agg l ∧ l.length = n ∧ x = .agg l := by
  unfold T.aggN at h
  split at h
  · split at h
    · simp only [Option.some.injEq] at h; exact ⟨_, rfl, by assumption, h.symm⟩
    · cases h
  · cases h
theorem leaves_rep {n : Nat} {v : V} {y : Value} (h : c.v3 v y) {ls : List V} (hl : v.leaves n = some ls) : ∃ cs, y = .agg cs ∧ cs.size = n ∧ c.repL ls cs := by
  unfold V.leaves at hl
  split at hl
  · rename_i l
    split at hl
    · simp only [Option.some.injEq] at hl
      subst hl
      obtain ⟨cs, h0, h1, h2, h3⟩ := h
      exact ⟨cs, h0, by omega, h1, h2, h3⟩
    · cases hl
  · rename_i e
    obtain ⟨x, hx, hl⟩ := Option.bind_eq_some_iff.1 hl
    simp only [Option.some.injEq] at hl
    subst hl
    obtain ⟨l, rfl, hln, rfl⟩ := aggN_some hx
    have h : TRep c.w c.cold (.agg l) y := h
    cases h with
    | agg _ cs hcs h1 hr =>
      refine ⟨cs, rfl, by omega, by simp; omega, h1, fun j u x hu hx => ?_⟩
      simp only [List.getElem?_map] at hu
      obtain ⟨i, hi, rfl⟩ := Option.map_eq_some_iff.1 hu
      obtain ⟨hlt, rfl⟩ := List.getElem?_eq_some_iff.1 hi
      simp at hlt
      simp only [List.getElem_range]
      have hlj : l[j]? = some (l[j]'(by omega)) := List.getElem?_eq_getElem (by omega)
      show TRep c.w c.cold (T.leaf (.agg l) j) x
      simp only [T.leaf, List.getD_eq_getElem?_getD, hlj, Option.getD_some]
      exact hr j _ x hlj hx
  · cases hl
theorem Cx.repL_v2 {ls : List V} {cs : Array Value} (h : c.repL ls cs) : c.v2 (.agg ls) (.agg cs) := ⟨cs, rfl, h.1, h.2.1, h.2.2⟩

theorem run_asAgg (cs : Array Value) (w : World) : (asAgg (.agg cs)).run P w = .ok cs w := rfl
/-- a part of a struct's value -/
theorem ldV_part {t : TypeId} {u : V} {cs : Array Value} (hv : c.v3 u (.agg cs)) {o' : Nat} {k : V → Option R} (h : ldV P t u o' k = some r) (hu : (∃ ls, u = .agg ls) ∨ ∃ ls, u = .t (.agg ls)) :
    ∃ x v, (part t cs o').run P c.w = .ok x c.w ∧ c.v3 v x ∧ k v = some r := by
  obtain ⟨ls, rfl⟩ | ⟨ls, rfl⟩ := hu
  · obtain ⟨cs', hcs, hn, h1, hr⟩ := hv
    simp only [Value.agg.injEq] at hcs
    subst hcs
    simp only [ldV] at h
    split at h
    · rename_i ht
      split at h
      · rename_i m hm
        split at h
        · rename_i hle
          refine ⟨.agg (cs.extract o' (o' + m)), _, by simp [part, run_isAgg_true ht, run_sizeOf' hm], Cx.v3_of_v2 ?_, h⟩
          have hrep : c.v2 (.agg ((ls.drop o').take m)) (.agg (cs.extract o' (o' + m))) := by
            refine ⟨_, rfl, by simp; omega, fun j u hu => ?_, fun j l u hl hu => ?_⟩
            · rw [Array.getElem?_extract] at hu
              split at hu
              · exact h1 _ _ hu
              · cases hu
            · rw [Array.getElem?_extract] at hu
              split at hu
              · rename_i hlt
                rw [List.getElem?_take_of_lt (by omega), List.getElem?_drop] at hl
                exact hr _ l u hl hu
              · cases hu
          split
          · rename_i hml
            have h0 : o' = 0 := by omega
            subst h0; subst hml
            rw [List.drop_zero, List.take_length] at hrep
            exact hrep
          · exact hrep
        · cases h
      · cases h
    · split at h
      · rename_i x hx
        obtain ⟨hj, hk, d, hu, hd⟩ := ldLeaf_some h
        have hlt := (List.getElem?_eq_some_iff.1 hx).1
        have hc : cs[o']? = some (cs[o']'(by omega)) := Array.getElem?_eq_getElem (by omega)
        exact ⟨_, .t x, by simp [part, run_isAgg_false hu hd, hc], hr o' _ _ hx hc, hk⟩
      · rename_i v hv hx
        split at h
        · rename_i hlf
          obtain ⟨d, hu, hd⟩ := isLeafT_iff hlf
          have hlt := (List.getElem?_eq_some_iff.1 hx).1
          have hc : cs[o']? = some (cs[o']'(by omega)) := Array.getElem?_eq_getElem (by omega)
          exact ⟨_, v, by simp [part, run_isAgg_false hu hd, hc], Cx.v3_of_v1 (hr o' _ _ hx hc), h⟩
        · cases h
      · cases h
  · have hv : TRep c.w c.cold (.agg ls) (.agg cs) := hv
    cases hv with
    | agg _ _ hn h1 hr =>
    simp only [ldV, ldT] at h
    split at h
    · rename_i ht
      split at h
      · rename_i m hm
        obtain ⟨x, hx, hk⟩ := Option.bind_eq_some_iff.1 h
        simp only [T.part] at hx
        split at hx
        · rename_i hle
          refine ⟨.agg (cs.extract o' (o' + m)), .t x, by simp [part, run_isAgg_true ht, run_sizeOf' hm], ?_, hk⟩
          have hrep : TRep c.w c.cold (.agg ((ls.drop o').take m)) (.agg (cs.extract o' (o' + m))) := by
            refine .agg _ _ (by simp; omega) (fun j u hu => ?_) (fun j l u hl hu => ?_)
            · rw [Array.getElem?_extract] at hu
              split at hu
              · exact h1 _ _ hu
              · cases hu
            · rw [Array.getElem?_extract] at hu
              split at hu
              · rename_i hlt
                rw [List.getElem?_take_of_lt (by omega), List.getElem?_drop] at hl
                exact hr _ l u hl hu
              · cases hu
          simp only [Option.some.injEq] at hx
          subst hx
          split
          · rename_i hml
            have h0 : o' = 0 := by omega
            subst h0; subst hml
            rw [List.drop_zero, List.take_length] at hrep
            exact hrep
          · exact hrep
        · cases hx
      · cases h
    · obtain ⟨hj, hk, d, hu, hd⟩ := ldLeaf_some h
      have hlt : o' < ls.length := T.leaf_lt hj
      have hc : cs[o']? = some (cs[o']'(by omega)) := Array.getElem?_eq_getElem (by omega)
      have hl : ls[o']? = some ls[o'] := by simp [hlt]
      refine ⟨cs[o']'(by omega), .t _, by simp [part, run_isAgg_false hu hd, hc], ?_, hk⟩
      have := hr o' _ _ hl hc
      show TRep c.w c.cold (T.leaf (.agg ls) o') _
      simpa [T.leaf, List.getD_eq_getElem?_getD, hl] using this
theorem asAggV_some {u v : V} {y : Value} (h : asAggV u = some v) (hv : c.v3 u y) : v = u ∧ ((∃ ls, u = .agg ls) ∨ ∃ ls, u = .t (.agg ls)) ∧ ∃ cs, y = .agg cs := by
  unfold asAggV at h
  split at h
  · rename_i ls
    simp only [Option.some.injEq] at h
    obtain ⟨cs, hy, _⟩ := hv
    exact ⟨h.symm, .inl ⟨ls, rfl⟩, cs, hy⟩
  · split at h
    · rename_i ls
      simp only [Option.some.injEq] at h
      have hv : TRep c.w c.cold (.agg ls) y := hv
      cases hv with
      | agg _ cs _ _ _ => exact ⟨h.symm, .inr ⟨ls, rfl⟩, cs, rfl⟩
    · cases h
  · cases h
theorem op_field (h : Rel w0 cold0 N s a c) (hd : okDst N o = true) {t : TypeId} {x : Operand} {f : Nat} (ho : o.op = .field t x f)
    (hk : (match P.underlying t with
    | some (.struct fs) => match fs[f]? with
      | some fd => (asAggV (s.val x)).bind fun u => ldV P fd.type u fd.offset (fun v => k (s.put o.dst v))
      | none => none
    | _ => none) = some r) : o.wp P a c.w (Post w0 cold0 N k r c.w ro) Q := by
  have hx := h.val x
  split at hk
  · rename_i fs hu
    split at hk
    · rename_i fd hf
      obtain ⟨u, hu', hk⟩ := Option.bind_eq_some_iff.1 hk
      obtain ⟨rfl, hls, cs, hy⟩ := asAggV_some hu' hx
      rw [hy] at hx
      obtain ⟨y, v, hrun, hv, hk⟩ := ldV_part hx hk hls
      exact wp_val (by simp [execOp, ho, hy, Instr.field, run_underlying hu, hf, run_asAgg, hrun]) h hd hv hk
    · cases hk
  · cases hk
theorem outs1_none : ∀ {vs : List V} {xs : List T}, outs1 (fun _ => .none) vs = some xs → vs.any V.hot1 = false
  | [], _, _ => rfl
  | v :: vs, xs, h => by
    simp only [outs1] at h
    obtain ⟨x, hx, h⟩ := Option.bind_eq_some_iff.1 h
    obtain ⟨y, hy, _⟩ := Option.bind_eq_some_iff.1 h
    simp only [List.any_cons, outs1_none hy, Bool.or_false]
    cases v <;> first | rfl | simp [V.outJ, V.out1] at hx
theorem outN_agg {v : V} {e e' : T} (h : v.out (fun _ => .none) = some e) (ha : e.aggO = some e') : v.hot = false ∧ e' = e ∧ ∃ ls, e = .agg ls := by
  have he : e' = e ∧ ∃ ls, e = .agg ls := by
    cases e <;> simp [T.aggO] at ha
    exact ⟨ha.symm, _, rfl⟩
  refine ⟨?_, he⟩
  obtain ⟨rfl, ls, rfl⟩ := he
  cases v with
  | t x => rfl
  | agg vs =>
    simp only [V.out, V.out3, V.out2] at h
    obtain ⟨xs, hx, _⟩ := Option.bind_eq_some_iff.1 h
    exact outs1_none hx
  | nilv => rfl
  | junk => rfl
  | full d => simp [V.out, V.out3, V.out2, V.out1] at h
  | rv d o l => simp [V.out, V.out3, V.out2, V.out1] at h
  | bp d o => simp [V.out, V.out3] at h
  | rp d i o => simp [V.out, V.out3] at h
  | sp d o => simp [V.out, V.out3, V.out2, V.out1] at h
  | fb d o => simp [V.out, V.out3, V.out2, V.out1] at h
  | fn g cs =>
    simp only [V.out] at h
    obtain ⟨xs, _, h⟩ := Option.bind_eq_some_iff.1 h
    cases h
  | tup vs => simp [V.out, V.out3, V.out2, V.out1] at h
theorem op_index (h : Rel w0 cold0 N s a c) (hd : okDst N o = true) {t : TypeId} {x ix : Operand} (ho : o.op = .index t x ix)
    (hk : ((s.val ix).asInt.bind fun i => match P.underlying t, s.val x with
    | some .string, .t (.str b) => (byteAt b i).bind fun n => k (s.put o.dst (.t (.int .u8 n)))
    | some (.array n E), v => match szOf P E with
      | some sz => if 0 ≤ i ∧ i < n then (v.out (fun _ => .none)).bind fun e => e.aggO.bind fun e => ldT P E e (i.toNat * sz) (fun v => k (s.put o.dst v)) else none
      | none => none
    | _, _ => none) = some r) : o.wp P a c.w (Post w0 cold0 N k r c.w ro) Q := by
  obtain ⟨i, hi, hk⟩ := Option.bind_eq_some_iff.1 hk
  obtain ⟨q, hi⟩ := asInt_some hi
  have hix := v3_int (h.val ix) hi
  split at hk
  · rename_i b hu hb
    have hp := v3_str (h.val x) hb
    obtain ⟨n, hn, hk⟩ := Option.bind_eq_some_iff.1 hk
    obtain ⟨u, h0, hu8, rfl⟩ := byteAt_some hn
    refine wp_val (v := .t (.int .u8 u.toNat)) ?_ h hd (.int _ _) hk
    simp [execOp, ho, hp, hix, Instr.index, run_underlying hu, asIntOf, h0, hu8]
  · rename_i n E hu
    split at hk
    · rename_i sz hsz
      split at hk
      · rename_i hin
        obtain ⟨e, he, hk⟩ := Option.bind_eq_some_iff.1 hk
        obtain ⟨e', he', hk⟩ := Option.bind_eq_some_iff.1 hk
        obtain ⟨hh, rfl, ls, rfl⟩ := outN_agg he he'
        have hx := h.val x
        have hrep := out_cold hx hh he
        obtain ⟨cs, hy⟩ : ∃ cs, a.eval x = .agg cs := by
          generalize a.eval x = y at hrep
          cases hrep with
          | agg _ cs _ _ _ => exact ⟨cs, rfl⟩
        rw [hy] at hrep
        obtain ⟨y, v, hrun, hv, hk⟩ := ldV_part (c := c) (u := .t (.agg ls)) hrep (k := fun v => k (s.put o.dst v)) hk (.inr ⟨ls, rfl⟩)
        refine wp_val (v := v) (x := y) ?_ h hd hv hk
        simp [execOp, ho, hy, hix, Instr.index, run_underlying hu, asIntOf, hin.1, hin.2, run_sizeOf' hsz, hrun]
      · cases hk
    · cases hk
  · cases hk
theorem op_makeFunc (h : Rel w0 cold0 N s a c) (hd : okDst N o = true) {g : Nat} {first captured : Array Operand} (ho : o.op = .makeFunc (.func g) first captured)
    (hk : (if first.size = 0 ∧ (captured.toList.map s.val).all V.one = true then k (s.put o.dst (.fn g (captured.toList.map s.val))) else none) = some r) : o.wp P a c.w (Post w0 cold0 N k r c.w ro) Q := by
  split at hk
  · rename_i hc
    have hf : first = #[] := Array.eq_empty_of_size_eq_zero hc.1
    refine wp_val (v := .fn g (captured.toList.map s.val)) (x := .func (.func g) #[] (captured.map a.eval)) (by simp [execOp, ho, hf, Instr.makeFunc]) h hd ⟨_, rfl, by simp, fun j l x hl hx => ?_⟩ hk
    simp only [List.getElem?_map, Array.getElem?_toList] at hl
    obtain ⟨y, hy, rfl⟩ := Option.map_eq_some_iff.1 hl
    simp only [Array.getElem?_map, hy, Option.map_some, Option.some.injEq] at hx
    subst hx
    have : (s.val y).one = true := by
      refine List.all_eq_true.1 hc.2 _ (List.mem_map.2 ⟨y, ?_, rfl⟩)
      rw [Array.mem_toList_iff]
      exact Array.mem_of_getElem? hy
    exact (one_v1 (h.val y) this).1
  · cases hk
theorem callB_run {cl : Call} {b : Builtin} (ho : o.op = .call cl) (hb : cl.callee = .builtin b) (w : World) :
    ∃ cs, (execOp a.eval o).run P w = (builtin b cl.argTypes o.type cs (cl.args.map a.eval)).run P w := by
  apply Exists.intro
  simp only [execOp, ho, resolve, hb, invoke, Sem.run_bind, Sem.run_pure, Result.andThen_ok]
  rfl
theorem op_len (h : Rel w0 cold0 N s a c) (hd : okDst N o = true) {cl : Call} (ho : o.op = .call cl) (hb : cl.callee = .builtin .len)
    (hk : (match cl.args.toList, cl.argTypes[0]? with
      | [x], some t => evLen P t s.objs (s.val x) (fun v => k (s.put o.dst v))
      | _, _ => none) = some r) : o.wp P a c.w (Post w0 cold0 N k r c.w ro) Q := by
  split at hk
  · rename_i x t hargs ht
    have hx := h.val x
    have hargs' : cl.args = #[x] := by
      rcases hca : cl.args with ⟨l⟩
      rw [hca] at hargs
      simp at hargs
      rw [hargs]
    have hrun : ∀ n : Int, (Builtin.len_ cl.argTypes o.type #[a.eval x]).run P c.w = .ok (.int .i64 n) c.w → (execOp a.eval o).run P c.w = .ok (.value (.int .i64 n)) c.w := fun n hn => by
      obtain ⟨cs, hcs⟩ := callB_run (P := P) (a := a) ho hb c.w
      rw [hcs, hargs']
      simp [builtin, hn]
    unfold evLen at hk
    split at hk
    · rename_i hu
      split at hk
      · rename_i b hq
        rw [hq] at hx
        have hp := v3_str hx rfl
        exact wp_val (hrun b.size (by simp [Builtin.len_, ht, run_underlying hu, hp, goInt])) h hd (v3i _ _ _) hk
      · cases hk
    · rename_i n E hu
      exact wp_val (hrun n (by
        simp only [Builtin.len_, ht]
        simp [run_underlying hu, goInt])) h hd (v3i _ _ _) hk
    · rename_i E hu
      have slen : ∀ (ad : Option Addr) (n cap : Nat), a.eval x = .slice ad n cap → (Builtin.len_ cl.argTypes o.type #[a.eval x]).run P c.w = .ok (.int .i64 n) c.w := fun ad n cap hy => by
        simp [Builtin.len_, ht, run_underlying hu, hy, goInt]
      split at hk
      · rename_i xs hq
        rw [hq] at hx
        generalize hy : a.eval x = y at hx
        have hx : TRep c.w c.cold (.lst xs) y := hx
        cases hx with
        | lst0 ad cap => exact wp_val (hrun (([] : List T).length) (slen ad 0 cap hy)) h hd (v3i _ _ _) hk
        | lst _ b off cap sz cv hcap => exact wp_val (hrun xs.length (slen _ xs.length cap hy)) h hd (v3i _ _ _) hk
      · rename_i hq
        rw [hq] at hx
        exact wp_val (hrun 0 (slen none 0 0 hx)) h hd (v3i _ _ _) hk
      · rename_i d hq
        rw [hq] at hx
        split at hk
        · rename_i sz xs hob
          obtain ⟨sz2, xs2, ho2, hr⟩ := hx
          rw [h.objs, hob] at ho2
          simp only [Ob.row.injEq] at ho2
          obtain ⟨rfl, rfl⟩ := ho2
          rcases hr with ⟨_, hxs, hy⟩ | ⟨b, cap, cs, F, he, hy, hcap, hh, hszc⟩
          · exact wp_val (hrun xs.length (by rw [hxs]; exact slen none 0 0 hy)) h hd (v3i _ _ _) hk
          · exact wp_val (hrun xs.length (slen _ xs.length cap hy)) h hd (v3i _ _ _) hk
        · cases hk
      · rename_i d off len hq
        rw [hq] at hx
        obtain ⟨sz, xs, ho2, hle, hr⟩ := hx
        rcases hr with ⟨hl, ad, cap, hy⟩ | ⟨b, cap, he, hy, hcap⟩
        · exact wp_val (hrun len (by rw [hl]; exact slen ad 0 cap hy)) h hd (v3i _ _ _) hk
        · exact wp_val (hrun len (slen _ len cap hy)) h hd (v3i _ _ _) hk
      · cases hk
    · cases hk
  · cases hk
theorem op_minmax (h : Rel w0 cold0 N s a c) (hd : okDst N o = true) {cl : Call} (ho : o.op = .call cl) {mx : Bool} (hb : cl.callee = .builtin (if mx then .max else .min))
    (hk : (match cl.args.toList.map s.val with
      | [.t (.int q a), .t (.int _ b)] => k (s.put o.dst (.t (.int q (if mx then (if b > a then b else a) else (if b < a then b else a)))))
      | _ => none) = some r) : o.wp P a c.w (Post w0 cold0 N k r c.w ro) Q := by
  split at hk
  · rename_i q m q' n hv
    obtain ⟨x, y, hargs, hm, hn⟩ : ∃ x y, cl.args = #[x, y] ∧ s.val x = .t (.int q m) ∧ s.val y = .t (.int q' n) := by
      rcases hca : cl.args with ⟨l⟩
      rw [hca] at hv
      match l, hv with
      | [x, y], hv => simp at hv; exact ⟨x, y, rfl, hv.1, hv.2⟩
      | [], hv => simp at hv
      | [_], hv => simp at hv
      | _ :: _ :: _ :: _, hv => simp at hv
    have hx := v3_int (h.val x) hm
    have hy := v3_int (h.val y) hn
    cases mx
    · refine wp_val (v := .t (.int q (if n < m then n else m))) ?_ h hd (v3i _ _ _) hk
      obtain ⟨cs, hcs⟩ := callB_run (P := P) (a := a) ho hb c.w
      rw [hcs, hargs]
      simp [builtin, Builtin.min_, hx, hy, Builtin.min2]
    · refine wp_val (v := .t (.int q (if n > m then n else m))) ?_ h hd (v3i _ _ _) hk
      obtain ⟨cs, hcs⟩ := callB_run (P := P) (a := a) ho hb c.w
      rw [hcs, hargs]
      simp [builtin, Builtin.max_, hx, hy, Builtin.max2]
  · cases hk
/-- a call of a function value -/
theorem op_call {C : Nat → Option Summary} (hC : OrcSound P w0.g C) (h : Rel w0 cold0 N s a c) (hd : okDst N o = true) {cl : Call} {f : Operand} (ho : o.op = .call cl) (hf : cl.callee = .value f)
    (hk : (match s.val f with
      | .fn g caps => evCall ro N C o.dst s g (vals s cl.args.toList ++ caps) k
      | .t (.fn g caps) => evCall ro N C o.dst s g (vals s cl.args.toList ++ caps.map .t) k
      | _ => none) = some r) : o.wp P a c.w (Post w0 cold0 N k r c.w ro) Q := by
  have hx := h.val f
  have main : ∀ (g : Nat) (us : List V) (cs : Array Value), a.eval f = .func (.func g) #[] cs → cs.size = us.length → (∀ (j : Nat) (l : V) (x : Value), us[j]? = some l → cs[j]? = some x → c.v3 l x) →
      evCall ro N C o.dst s g (vals s cl.args.toList ++ us) k = some r → o.wp P a c.w (Post w0 cold0 N k r c.w ro) Q := by
    intro g us cs hy hsz hv hk
    obtain ⟨⟨fn, hfn, hname, hbody⟩, hcalls⟩ := evCall_sound hC hk h (okDst_lt hd) (ys := cl.args.map a.eval ++ cs) (by simp [vals, hsz]) (fun j u y hu hy => by
      rw [List.getElem?_append] at hu
      rw [Array.getElem?_append] at hy
      simp only [vals, List.length_map, Array.length_toList] at hu
      simp only [Array.size_map] at hy
      split at hu
      · rename_i hlt
        rw [if_pos hlt] at hy
        simp only [List.getElem?_map, Array.getElem?_toList] at hu
        obtain ⟨z, hz, rfl⟩ := Option.map_eq_some_iff.1 hu
        simp only [Array.getElem?_map, hz, Option.map_some, Option.some.injEq] at hy
        subst hy
        exact h.val z
      · rename_i hlt
        rw [if_neg hlt] at hy
        exact hv _ u y hu hy)
    unfold Oper.wp
    have hrun : (execOp a.eval o).run P c.w = .ok (.enter g (cl.args.map a.eval ++ cs)) c.w := by
      have hb' : fn.body ≠ none := fun e => by rw [e] at hbody; cases hbody
      have hn' : ¬ fn.name = "runtime.NumGoroutine" := by simpa using hname
      simp [execOp, ho, resolve, hf, hy, Deferred.ofValue, invoke, callFunc, hfn, hn', hb']
    rw [hrun]
    exact hcalls.mono fun e w' ⟨v, he, hp⟩ => by subst he; exact hp
  split at hk
  · rename_i g caps hq
    rw [hq] at hx
    obtain ⟨cs, hy, hn, hr⟩ := hx
    exact main g caps cs hy hn (fun j l x hl hx => Cx.v3_of_v1 (hr j l x hl hx)) hk
  · rename_i g caps hq
    rw [hq] at hx
    generalize hy : a.eval f = y at hx
    have hx : TRep c.w c.cold (.fn g caps) y := hx
    cases hx with
    | fn _ _ cs hn hr =>
      refine main g (caps.map .t) cs hy (by simp [hn]) (fun j l x hl hx => ?_) hk
      simp only [List.getElem?_map] at hl
      obtain ⟨z, hz, rfl⟩ := Option.map_eq_some_iff.1 hl
      exact hr j z x hz hx
  · cases hk
end
end Go.Ax
