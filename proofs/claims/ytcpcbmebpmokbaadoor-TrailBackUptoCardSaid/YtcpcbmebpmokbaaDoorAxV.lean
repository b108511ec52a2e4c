/- Ax, part V: what is read out of the arguments of a law stands for a typed cold value. -/
import Derived.Test.YtcpcbmebpmokbaaDoorAxU
import Derived.ProofKit
import Derived.OpenShut
import Derived.SizedLaws
set_option linter.unusedVariables false
set_option linter.unusedSimpArgs false
namespace Go.Ax
open Go Go.RowKit

def wrapT (agg : Bool) (ls : List T) : T := bif agg then .agg ls else ls.headD .junk
def fieldsP (Q : TypeId → List T → Prop) : List Field → List T → Prop
  | [], xs => xs = []
  | f :: fs, xs => ∃ p q, xs = p ++ q ∧ Q f.type p ∧ fieldsP Q fs q
def partsP (Q : List T → Prop) : Nat → List T → Prop
  | 0, xs => xs = []
  | n + 1, xs => ∃ p q, xs = p ++ q ∧ Q p ∧ partsP Q n q
mutual
/-- how long the slices and the strings are -/
def lensD {H : Type} : DataW H → List Nat
  | .lit (.string bytes) => [bytes.length]
  | .lit _ => []
  | .nil => []
  | .ptr _ => []
  | .slice elems _ => elems.length :: lensAll elems
  | .agg parts => lensAll parts
  | .iface _ _ => []
  | .map _ => []
  | .held _ => []
def lensAll {H : Type} : List (DataW H) → List Nat
  | [] => []
  | d :: r => lensD d ++ lensAll r
end
theorem lensAll_mem {H : Type} : ∀ {ds : List (DataW H)} {d : DataW H}, d ∈ ds → ∀ k ∈ lensD d, k ∈ lensAll ds
  | x :: ds, d, h, k, hk => by
    unfold lensAll
    rcases List.mem_cons.1 h with rfl | h
    · exact List.mem_append_left _ hk
    · exact List.mem_append_right _ (lensAll_mem h k hk)
  | [], _, h, _, _ => by cases h
/-- the leaves of a value of type t -/
def Typed (P : Program) (K : Nat → Prop) : Nat → TypeId → List T → Prop
  | 0, _, _ => False
  | n + 1, t, xs => match P.underlying t with
    | some .bool => ∃ b, xs = [.bool b]
    | some (.int k) => ∃ v, xs = [.int k v] ∧ (Lit.int k v).wf = true
    | some .string => ∃ s, xs = [.str s] ∧ s.size ≤ reachBytes ∧ K s.size
    | some (.slice e) => ∃ es, xs = [.lst es] ∧ (es.length ≤ maxLen ∧ es.length * P.bytesOf e ≤ reachBytes ∧ K es.length) ∧ ∀ x ∈ es, ∃ ls, x = wrapT (isAggT P e) ls ∧ Typed P K n e ls
    | some (.struct fs) => fieldsP (Typed P K n) fs.toList xs
    | some (.array m e) => partsP (Typed P K n e) m xs
    | _ => False
def layB (P : Program) : Nat → List Field → Option Nat
  | o, [] => some o
  | o, f :: fs => if f.offset = o then layB P (o + P.cellsOf f.type) fs else none
def okTy (P : Program) : Nat → TypeId → Bool
  | 0, _ => false
  | n + 1, t => match P.underlying t with
    | some .bool => P.cellsOf t == 1
    | some (.int _) => P.cellsOf t == 1
    | some .string => P.cellsOf t == 1
    | some (.slice e) => P.cellsOf t == 1 && Nat.blt 0 (P.cellsOf e) && okTy P n e
    | some (.struct fs) => layB P 0 fs.toList == some (P.cellsOf t) && fs.toList.all fun f => okTy P n f.type
    | some (.array m e) => P.cellsOf t == m * P.cellsOf e && okTy P n e
    | _ => false
/-- leaf by leaf -/
def LRep (w : World) (cold : Nat → Prop) : List T → List Value → Prop
  | [], [] => True
  | x :: xs, v :: vs => (TRep w cold x v ∧ v.oneCell' = true ∧ ∀ ls, x ≠ .agg ls) ∧ LRep w cold xs vs
  | _, _ => False
theorem LRep.len {w : World} {cold : Nat → Prop} : ∀ {xs : List T} {vs : List Value}, LRep w cold xs vs → xs.length = vs.length
  | [], [], _ => rfl
  | _ :: _, _ :: _, h => by simp [LRep.len h.2]
  | [], _ :: _, h => h.elim
  | _ :: _, [], h => h.elim
theorem LRep.append {w : World} {cold : Nat → Prop} : ∀ {xs ys : List T} {vs us : List Value}, LRep w cold xs vs → LRep w cold ys us → LRep w cold (xs ++ ys) (vs ++ us)
  | [], _, [], _, _, h => h
  | _ :: _, _, _ :: _, _, h, h' => ⟨h.1, LRep.append h.2 h'⟩
  | [], _, _ :: _, _, h, _ => h.elim
  | _ :: _, _, [], _, h, _ => h.elim
theorem LRep.get {w : World} {cold : Nat → Prop} : ∀ {xs : List T} {vs : List Value}, LRep w cold xs vs → ∀ (j : Nat) (x : T) (v : Value), xs[j]? = some x → vs[j]? = some v → TRep w cold x v ∧ v.oneCell' = true ∧ ∀ ls, x ≠ .agg ls
  | [], [], _, j, x, v, h, _ => by simp at h
  | _ :: _, _ :: _, h, 0, x, v, h1, h2 => by simp at h1 h2; subst h1; subst h2; exact h.1
  | _ :: _, _ :: _, h, j + 1, x, v, h1, h2 => LRep.get h.2 j x v (by simpa using h1) (by simpa using h2)
  | [], _ :: _, h, _, _, _, _, _ => h.elim
  | _ :: _, [], h, _, _, _, _, _ => h.elim

section
variable {H : Type} {enc : TypeId × Value → H} {P : Program} {K : Nat → Prop} {w : World} {spare : Nat → Bool} {held : Bool}

theorem fields_rep {n fuel : Nat} {cs : List Value} {fs0 : Array Field} {xs : List (DataW H × List MemPlace)}
    (hx : ∀ (i : Nat) (f : Field), fs0[i]? = some f → DataW.trod enc P w 0 spare held fuel f.type ((cs.drop f.offset).take (P.cellsOf f.type)) = xs[i]?) (hlen : xs.length = fs0.size)
    (hwt : ∀ (i : Nat) (f : Field) x, fs0[i]? = some f → xs[i]? = some x → (∀ k ∈ x.1.weights P f.type, k ≤ reachBytes) ∧ ∀ k ∈ lensD x.1, K k)
    (ih : ∀ (t : TypeId) (cs : List Value) (d : DataW H × List MemPlace), okTy P n t = true → ((∀ k ∈ d.1.weights P t, k ≤ reachBytes) ∧ ∀ k ∈ lensD d.1, K k) → DataW.trod enc P w 0 spare held fuel t cs = some d → cs.length = P.cellsOf t ∧ ∃ ys, Typed P K n t ys ∧ LRep w (fun b => b < w.heap.size) ys cs) :
    ∀ (fs : List Field) (o i : Nat), (∀ j, fs[j]? = fs0[i + j]?) → layB P o fs = some cs.length → fs.all (fun f => okTy P n f.type) = true → o ≤ cs.length →
      ∃ ys, fieldsP (Typed P K n) fs ys ∧ LRep w (fun b => b < w.heap.size) ys (cs.drop o)
  | [], o, i, _, hl, _, _ => by
    simp only [layB, Option.some.injEq] at hl
    subst hl
    exact ⟨[], rfl, by rw [List.drop_length]; trivial⟩
  | f :: fs, o, i, hf, hl, hok, hle => by
    simp only [layB] at hl
    split at hl
    · rename_i ho
      simp only [List.all_cons, Bool.and_eq_true] at hok
      have h0 : fs0[i]? = some f := by simpa using (hf 0).symm
      have h1 := hx i f h0
      have hi : i < xs.length := by rw [hlen]; exact (Array.getElem?_eq_some_iff.1 h0).1
      have h2 : xs[i]? = some xs[i] := by simp [hi]
      rw [h2, ho] at h1
      obtain ⟨hc, ys, hy1, hy2⟩ := ih f.type _ _ hok.1 (hwt i f _ h0 h2) h1
      have hle2 : o + P.cellsOf f.type ≤ cs.length := by
        rw [List.length_take, List.length_drop] at hc
        omega
      obtain ⟨zs, hz1, hz2⟩ := fields_rep hx hlen hwt ih fs (o + P.cellsOf f.type) (i + 1) (fun j => by have := hf (j + 1); simpa [Nat.add_assoc, Nat.add_comm 1 j] using this) hl hok.2 hle2
      refine ⟨ys ++ zs, ⟨ys, zs, rfl, hy1, hz1⟩, ?_⟩
      have hsplit : cs.drop o = (cs.drop o).take (P.cellsOf f.type) ++ cs.drop (o + P.cellsOf f.type) := by
        rw [← List.drop_drop]; exact (List.take_append_drop _ _).symm
      rw [hsplit]
      exact hy2.append hz2
    · cases hl
theorem parts_rep {n fuel m : Nat} {e : TypeId} {cs : List Value} {xs : List (DataW H × List MemPlace)}
    (hx : ∀ (i : Nat), i < m → DataW.trod enc P w 0 spare held fuel e ((cs.drop (i * P.cellsOf e)).take (P.cellsOf e)) = xs[i]?) (hlen : xs.length = m) (hok : okTy P n e = true)
    (hwt : ∀ (i : Nat) x, xs[i]? = some x → (∀ k ∈ x.1.weights P e, k ≤ reachBytes) ∧ ∀ k ∈ lensD x.1, K k)
    (ih : ∀ (t : TypeId) (cs : List Value) (d : DataW H × List MemPlace), okTy P n t = true → ((∀ k ∈ d.1.weights P t, k ≤ reachBytes) ∧ ∀ k ∈ lensD d.1, K k) → DataW.trod enc P w 0 spare held fuel t cs = some d → cs.length = P.cellsOf t ∧ ∃ ys, Typed P K n t ys ∧ LRep w (fun b => b < w.heap.size) ys cs) :
    ∀ (k i : Nat), i + k = m → cs.length = m * P.cellsOf e → ∃ ys, partsP (Typed P K n e) k ys ∧ LRep w (fun b => b < w.heap.size) ys (cs.drop (i * P.cellsOf e))
  | 0, i, hi, hl => by
    have hi : i = m := by omega
    subst hi
    exact ⟨[], rfl, by rw [List.drop_eq_nil_of_le (by rw [hl]; exact Nat.le_refl _)]; trivial⟩
  | k + 1, i, hi, hl => by
    have h1 := hx i (by omega)
    have h2 : xs[i]? = some (xs[i]'(by omega)) := List.getElem?_eq_getElem _
    rw [h2] at h1
    obtain ⟨hc, ys, hy1, hy2⟩ := ih e _ _ hok (hwt i _ h2) h1
    obtain ⟨zs, hz1, hz2⟩ := parts_rep hx hlen hok hwt ih k (i + 1) (by omega) hl
    refine ⟨ys ++ zs, ⟨ys, zs, rfl, hy1, hz1⟩, ?_⟩
    have hsplit : cs.drop (i * P.cellsOf e) = (cs.drop (i * P.cellsOf e)).take (P.cellsOf e) ++ cs.drop ((i + 1) * P.cellsOf e) := by
      rw [Nat.add_mul, Nat.one_mul, ← List.drop_drop]; exact (List.take_append_drop _ _).symm
    rw [hsplit]
    exact hy2.append hz2
theorem cellsOf_sz {t : TypeId} (h : 0 < P.cellsOf t) : szOf P t = some (P.cellsOf t) := by
  unfold szOf Program.cellsOf at *
  cases hi : P.info? t with
  | none => rw [hi] at h; simp at h
  | some i => rfl
theorem weightsAll_mem {e : TypeId} : ∀ {ds : List (DataW H)} {d : DataW H}, d ∈ ds → ∀ k ∈ d.weights P e, k ∈ DataW.weightsAll P e ds
  | x :: ds, d, h, k, hk => by
    unfold DataW.weightsAll
    rcases List.mem_cons.1 h with rfl | h
    · exact List.mem_append_left _ hk
    · exact List.mem_append_right _ (weightsAll_mem h k hk)
  | [], _, h, _, _ => by cases h
/-- WHAT IS READ STANDS FOR A TYPED VALUE. -/
theorem trod_rep (hK0 : K 0) : ∀ (n : Nat) (t : TypeId) (fuel : Nat) (cs : List Value) (d : DataW H × List MemPlace), okTy P n t = true → ((∀ k ∈ d.1.weights P t, k ≤ reachBytes) ∧ ∀ k ∈ lensD d.1, K k) → DataW.trod enc P w 0 spare held fuel t cs = some d →
    cs.length = P.cellsOf t ∧ ∃ xs, Typed P K n t xs ∧ LRep w (fun b => b < w.heap.size) xs cs
  | 0, _, _, _, _, h, _, _ => by cases h
  | n + 1, t, fuel, cs, d, hok, hwt, h => by
    unfold okTy at hok
    split at hok
    · rename_i hu
      obtain ⟨b, rfl, _⟩ := DataW.trod_bool hu h
      exact ⟨(by simpa using (beq_iff_eq.1 hok).symm), [.bool b], by unfold Typed; rw [hu]; exact ⟨b, rfl⟩, ⟨.bool b, rfl, by simp⟩, trivial⟩
    · rename_i k hu
      obtain ⟨v, rfl, _, hw⟩ := DataW.trod_int hu h
      exact ⟨(by simpa using (beq_iff_eq.1 hok).symm), [.int k v], by unfold Typed; rw [hu]; exact ⟨v, rfl, hw⟩, ⟨.int k v, rfl, by simp⟩, trivial⟩
    · rename_i hu
      obtain ⟨s, rfl, rfl, hs⟩ := DataW.trod_string hu h
      have hs : s.size ≤ reachBytes := hwt.1 s.size (by simp [DataW.weights])
      have hks : K s.size := hwt.2 s.size (by simp [lensD])
      exact ⟨(by simpa using (beq_iff_eq.1 hok).symm), [.str s], by unfold Typed; rw [hu]; exact ⟨s, rfl, hs, hks⟩, ⟨.str s, rfl, by simp⟩, trivial⟩
    · rename_i e hu
      simp only [Bool.and_eq_true, beq_iff_eq] at hok
      obtain ⟨⟨h1, hpos⟩, hoke⟩ := hok
      have hpos : 0 < P.cellsOf e := by simpa [Nat.blt_eq] using hpos
      rcases DataW.trod_slice hu h with ⟨rfl, _⟩ | ⟨a, len, cap, elems, rest, m, hfu, rfl, hxd, _, hcap, hmax, hel, hget, _⟩
      · exact ⟨h1.symm, [.lst []], by unfold Typed; rw [hu]; exact ⟨[], rfl, ⟨Nat.zero_le _, by simp, hK0⟩, by simp⟩, ⟨.lst0 none 0, rfl, by simp⟩, trivial⟩
      · -- the elements
        have elem : ∀ i, i < len → ∃ cs', w.cells? 0 (a.add (i * P.cellsOf e)) (P.cellsOf e) = some cs' ∧ ∃ ls, Typed P K n e ls ∧ LRep w (fun b => b < w.heap.size) ls cs' ∧ cs'.length = P.cellsOf e := fun i hi => by
          have hg := hget i hi
          have : elems[i]? = some (elems[i]'(by omega)) := List.getElem?_eq_getElem _
          rw [this] at hg
          obtain ⟨cs', hc, ht⟩ := Option.bind_eq_some_iff.1 hg
          obtain ⟨hl, ls, hl1, hl2⟩ := trod_rep hK0 n e m cs' _ hoke ⟨fun k hk => hwt.1 k (by rw [hxd]; simp only [DataW.weights, hu]; exact List.mem_cons_of_mem _ (List.mem_append_left _ (weightsAll_mem (List.mem_map.2 ⟨_, List.getElem_mem (by omega), rfl⟩) k hk))), fun k hk => hwt.2 k (by rw [hxd]; simp only [lensD]; exact List.mem_cons_of_mem _ (lensAll_mem (List.mem_map.2 ⟨_, List.getElem_mem (by omega), rfl⟩) k hk))⟩ ht
          exact ⟨cs', hc, ls, hl1, hl2, hl⟩
        cases len with
        | zero => exact ⟨h1.symm, [.lst []], by unfold Typed; rw [hu]; exact ⟨[], rfl, ⟨Nat.zero_le _, by simp, hK0⟩, by simp⟩, ⟨.lst0 _ _, rfl, by simp⟩, trivial⟩
        | succ len =>
        obtain ⟨bb, off, spot⟩ := a
        have hcell : ∀ i j, i < len + 1 → j < P.cellsOf e → ∃ cs', w.cells? 0 (Addr.add ⟨bb, off, spot⟩ (i * P.cellsOf e)) (P.cellsOf e) = some cs' ∧ w.cell? ((Addr.add ⟨bb, off, spot⟩ (i * P.cellsOf e)).add j) = cs'[j]? ∧ j < cs'.length := fun i j hi hj => by
          obtain ⟨cs', hc, _, _, _, hl⟩ := elem i hi
          obtain ⟨_, hl', hg⟩ := World.cells?_some hc
          exact ⟨cs', hc, hg j hj, by omega⟩
        have hspot : spot = none := by
          obtain ⟨cs', _, hg, hl⟩ := hcell 0 0 (by omega) hpos
          have : cs'[0]? = some cs'[0] := by simp [hl]
          rw [this] at hg
          simpa [Addr.add] using World.cell?_spot hg
        subst hspot
        have hblk : bb < w.heap.size := by
          obtain ⟨cs', _, hg, hl⟩ := hcell 0 0 (by omega) hpos
          have : cs'[0]? = some cs'[0] := by simp [hl]
          rw [this] at hg
          simpa [Addr.add] using World.block_lt_of_cell? _ _ hg
        have addr : ∀ i j, (Addr.add ⟨bb, off, none⟩ (i * P.cellsOf e)).add j = ⟨bb, off + i * P.cellsOf e + j, none⟩ := fun i j => by
          unfold Addr.add
          split <;> split <;> simp_all <;> omega
        -- choose
        have hch : ∀ i, ∃ ls, i < len + 1 → Typed P K n e ls ∧ ls.length = P.cellsOf e ∧ ∀ j, j < P.cellsOf e → ∃ v x, w.cell? ⟨bb, off + i * P.cellsOf e + j, none⟩ = some v ∧ ls[j]? = some x ∧ TRep w (fun b => b < w.heap.size) x v ∧ v.oneCell' = true ∧ ∀ ls', x ≠ .agg ls' := fun i => by
          by_cases hi : i < len + 1
          · obtain ⟨cs', hc, ls, hl1, hl2, hl3⟩ := elem i hi
            refine ⟨ls, fun _ => ⟨hl1, by rw [hl2.len]; exact hl3, fun j hj => ?_⟩⟩
            obtain ⟨_, hl', hg⟩ := World.cells?_some hc
            have hgj := hg j hj
            rw [addr] at hgj
            have hv : cs'[j]? = some (cs'[j]'(by omega)) := List.getElem?_eq_getElem _
            have hx : ls[j]? = some (ls[j]'(by rw [hl2.len]; omega)) := List.getElem?_eq_getElem _
            exact ⟨_, _, hgj.trans hv, hx, hl2.get j _ _ hx hv⟩
          · exact ⟨[], fun h => absurd h hi⟩
        obtain ⟨ls, hls⟩ := Classical.axiomOfChoice hch
        obtain ⟨cv, hcv⟩ : ∃ cv : Nat → Nat → Value, ∀ i j, cv i j = (w.cell? ⟨bb, off + i * P.cellsOf e + j, none⟩).getD undef := ⟨_, fun _ _ => rfl⟩
        obtain ⟨es, hes⟩ : ∃ es : List T, es = (List.range (len + 1)).map fun i => wrapT (isAggT P e) (ls i) := ⟨_, rfl⟩
        have hesl : es.length = len + 1 := by simp [hes]
        have hwidth : ∀ i, i < len + 1 → (wrapT (isAggT P e) (ls i)).width = P.cellsOf e ∧ ∀ j x, j < P.cellsOf e → (ls i)[j]? = some x → (wrapT (isAggT P e) (ls i)).leaf j = x := fun i hi => by
          obtain ⟨ht, hl, hr⟩ := hls i hi
          unfold wrapT
          cases ha : isAggT P e with
          | true => exact ⟨hl, fun j x hj hx => by show ((ls i).getD j .junk) = x; rw [List.getD_eq_getElem?_getD, hx]; rfl⟩
          | false =>
            have h1 : P.cellsOf e = 1 := by
              cases n with
              | zero => cases hoke
              | succ n =>
                unfold okTy at hoke
                unfold isAggT at ha
                split at hoke <;> simp_all
            obtain ⟨v, x, hv, hx, hrep, ho, hna⟩ := hr 0 hpos
            have hll : ls i = [x] := by
              have : (ls i).length = 1 := by rw [hl, h1]
              obtain ⟨y, hy⟩ := List.length_eq_one_iff.1 this
              rw [hy] at hx; simp at hx; rw [hy, hx]
            rw [hll]
            refine ⟨by rw [h1]; cases x <;> first | rfl | exact absurd rfl (hna _), fun j y hj hy => ?_⟩
            have : j = 0 := by omega
            subst this
            simp at hy
            subst hy
            show x.leaf 0 = x
            cases x <;> first | rfl | exact absurd rfl (hna _)
        have hbytes : es.length * P.bytesOf e ≤ reachBytes := by
          have := hwt.1 ((elems.length + rest.length) * P.bytesOf e) (by rw [hxd]; simp only [DataW.weights, hu]; simp)
          rw [hesl, ← hel]
          exact Nat.le_trans (Nat.mul_le_mul_right _ (by omega)) this
        have hlen : K es.length := by
          have := hwt.2 elems.length (by rw [hxd]; simp [lensD])
          rw [hesl, ← hel]; exact this
        have htyped : ∀ x ∈ es, ∃ ls, x = wrapT (isAggT P e) ls ∧ Typed P K n e ls := fun x hx => by
          simp only [hes, List.mem_map, List.mem_range] at hx
          obtain ⟨i, hi, rfl⟩ := hx
          exact ⟨ls i, rfl, (hls i hi).1⟩
        refine ⟨h1.symm, [.lst es], by unfold Typed; rw [hu]; exact ⟨es, rfl, ⟨by omega, hbytes, hlen⟩, htyped⟩, ⟨?_, rfl, by simp⟩, trivial⟩
        · have hrep := TRep.lst (w := w) (cold := fun b => b < w.heap.size) es bb off cap (P.cellsOf e) cv (by omega) hblk (fun x hx => by
              simp only [hes, List.mem_map, List.mem_range] at hx
              obtain ⟨i, hi, rfl⟩ := hx
              exact (hwidth i hi).1) (fun i j hi hj => by
              obtain ⟨v, x, hv, _⟩ := (hls i (by omega)).2.2 j hj
              rw [hcv, hv]; rfl) (fun i j hi hj => by
              obtain ⟨v, x, hv, _, _, ho, _⟩ := (hls i (by omega)).2.2 j hj
              rw [hcv, hv]; exact ho) (fun i x j hx hj => by
              have hi : i < len + 1 := by have := (List.getElem?_eq_some_iff.1 hx).1; omega
              simp only [hes, List.getElem?_map, Option.map_eq_some_iff] at hx
              obtain ⟨i', hi', rfl⟩ := hx
              have : i' = i := by
                obtain ⟨_, h⟩ := List.getElem?_eq_some_iff.1 hi'
                simpa using h.symm
              subst this
              obtain ⟨v, x, hv, hxl, hr, _, _⟩ := (hls i' hi).2.2 j hj
              rw [(hwidth i' hi).2 j x hj hxl]
              rw [hcv, hv]; exact hr)
          rw [hesl] at hrep
          exact hrep
    · rename_i fs hu
      simp only [Bool.and_eq_true, beq_iff_eq] at hok
      obtain ⟨xs, m, hfu, hxd, hl, hxl, hx⟩ := DataW.trod_struct hu h
      obtain ⟨ys, h1, h2⟩ := fields_rep (n := n) hx hxl (fun i f x hf hx => ⟨fun k hk => hwt.1 k (by rw [hxd]; simp only [DataW.weights, hu]; exact DataW.weights_mem_each (j := i) (t := f.type) (d := x.1) (by simp [hf]) (by simp [hx]) k hk), fun k hk => hwt.2 k (by rw [hxd]; simp only [lensD]; exact lensAll_mem (List.mem_map.2 ⟨x, List.mem_of_getElem? hx, rfl⟩) k hk)⟩) (fun t cs d h1 h2 h3 => trod_rep hK0 n t m cs d h1 h2 h3) fs.toList 0 0 (by simp) (by rw [hl]; exact hok.1) hok.2 (Nat.zero_le _)
      exact ⟨hl, ys, by unfold Typed; rw [hu]; exact h1, by simpa using h2⟩
    · rename_i m e hu
      simp only [Bool.and_eq_true, beq_iff_eq] at hok
      obtain ⟨xs, fu, hfu, hxd, hl, hxl, hx⟩ := DataW.trod_array hu h
      obtain ⟨ys, h1, h2⟩ := parts_rep (n := n) hx hxl hok.2 (fun i x hx => ⟨fun k hk => hwt.1 k (by rw [hxd]; simp only [DataW.weights, hu]; exact weightsAll_mem (List.mem_map.2 ⟨x, List.mem_of_getElem? hx, rfl⟩) k hk), fun k hk => hwt.2 k (by rw [hxd]; simp only [lensD]; exact lensAll_mem (List.mem_map.2 ⟨x, List.mem_of_getElem? hx, rfl⟩) k hk)⟩) (fun t cs d h1 h2 h3 => trod_rep hK0 n t fu cs d h1 h2 h3) m 0 (by omega) (by rw [hl]; exact hok.1)
      exact ⟨hl, ys, by unfold Typed; rw [hu]; exact h1, by simpa using h2⟩
    · cases hok
end
end Go.Ax
