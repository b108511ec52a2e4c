/- Ax, builders: what strings.Builder's methods do to the caller's memory, block by block; their summaries. -/
import Derived.Test.YtcpcbmebpmokbaaDoorAxZ
import Derived.Shelf.Strings.Builder1
set_option linter.unusedVariables false
set_option linter.unusedSimpArgs false
namespace Go.Ax
open Go Go.Proofs Go.Shelf Go.RowKit

theorem setCell_at {w : World} {b j k : Nat} {cs : Array Value} {E : TypeId} {fz : Nat × Nat} (v : Value) (h : w.heap[b]? = some (.cells cs E fz)) :
    (w.setCell ⟨b, j, none⟩ v).heap[k]? = if k = b then some (.cells (cs.setIfInBounds j v) E fz) else w.heap[k]? := by
  have hb := (Array.getElem?_eq_some_iff.1 h).1
  simp only [World.setCell, Array.getElem?_modify]
  by_cases hk : b = k
  · subst hk; simp [h]
  · rw [if_neg hk, if_neg (fun e => hk e.symm)]

def bldSub : List V → (Nat → Ob) → List (Nat × Nat)
  | [.bp d _], objs => (2000000, d) :: (match objs d with
    | .box _ (.agg [_, .fb e _]) => [(2000001, e)]
    | _ => [])
  | _, _ => []
def bldRun (T : Nat) {R : Type} (se : St) (k : V → Option R) : Option R :=
  match se.env 0, se.objs 2000000 with
  | .bp d o, .box n (.agg [.sp e t, l]) => bif Nat.beq d 2000000 && Nat.beq o 0 && Nat.beq n 2 && Nat.beq e 2000000 && Nat.beq t T then k l else none
  | _, _ => none
theorem bldRun_nat {T : Nat} {R : Type} {se : St} {k : V → Option R} : bldRun T se k = (bldRun T se some).bind k := by
  unfold bldRun
  split
  · rename_i d o n e t l _ _
    cases (Nat.beq d 2000000 && Nat.beq o 0 && Nat.beq n 2 && Nat.beq e 2000000 && Nat.beq t T) <;> rfl
  · rfl
theorem bldRun_some {T : Nat} {se : St} {l : V} (h : bldRun T se some = some l) : se.env 0 = .bp 2000000 0 ∧ se.objs 2000000 = .box 2 (.agg [.sp 2000000 T, l]) := by
  unfold bldRun at h
  split at h
  · rename_i d o n e t l' h1 h2
    cases hb : (Nat.beq d 2000000 && Nat.beq o 0 && Nat.beq n 2 && Nat.beq e 2000000 && Nat.beq t T) with
    | false => rw [hb] at h; cases h
    | true =>
      rw [hb] at h
      simp only [cond_true, Option.some.injEq] at h
      subst h
      simp only [Bool.and_eq_true] at hb
      obtain ⟨⟨⟨⟨a1, a2⟩, a3⟩, a4⟩, a5⟩ := hb
      have a1 := Nat.eq_of_beq_eq_true a1; have a2 := Nat.eq_of_beq_eq_true a2; have a3 := Nat.eq_of_beq_eq_true a3; have a4 := Nat.eq_of_beq_eq_true a4; have a5 := Nat.eq_of_beq_eq_true a5
      subst a1; subst a2; subst a3; subst a4; subst a5
      exact ⟨h1, h2⟩
  · cases h
/-- (*strings.Builder).copyCheck: as far as the executor goes, nothing -/
def copyCheckM (T : Nat) : Mut :=
  { nargs := 1, sub := bldSub, run := fun R se k => bldRun T se fun _ => k { env := fun _ => .junk, objs := se.objs }, nres := 0, outs := [], flat := false }
/-- what a builder handed over is -/
theorem bld_enter {G : World} {se : St} {ce : Cx} {args : List Value} {T : Nat} {l : V} (hen : Enter G se ce args) (hl : args.length = 1 ∨ 1 ≤ args.length) (h0 : se.env 0 = .bp 2000000 0) (h1 : se.objs 2000000 = .box 2 (.agg [.sp 2000000 T, l])) :
    ∃ b p v, ce.eta 2000000 = some b ∧ args[0]? = some (.pointer (some ⟨b, 0, none⟩)) ∧ ce.w.heap[b]? = some (.cells #[p, v] T (0, 0)) ∧ (p = .pointer none ∨ p = .pointer (some ⟨b, 0, none⟩)) ∧ ce.v1 l v ∧ v.oneCell' = true := by
  have hl1 : 0 < args.length := by omega
  have hv : args[0]? = some args[0] := by simp [hl1]
  have harg := hen.env 0 _ hv
  rw [h0] at harg
  obtain ⟨n, u, b, ho, he, hp⟩ : ∃ n u b, ce.objs 2000000 = .box n u ∧ ce.eta 2000000 = some b ∧ args[0] = .pointer (some ⟨b, 0, none⟩) := harg
  have hob := hen.ob 2000000
  rw [h1] at hob
  obtain ⟨b', cs, E, he', hh, hsz, hone, hbx⟩ := hob
  rw [he] at he'
  cases he'
  obtain ⟨p, v, rfl⟩ : ∃ p v, cs = #[p, v] := by
    rcases cs with ⟨l⟩
    match l, hsz with
    | [p, v], _ => exact ⟨p, v, rfl⟩
  have q0 := hbx.2 0 (.sp 2000000 T) p rfl rfl
  obtain ⟨n', u', b', cs', _, he', hh', hpp⟩ : ∃ n u b cs, ce.objs 2000000 = .box n u ∧ ce.eta 2000000 = some b ∧ ce.w.heap[b]? = some (.cells cs T (0, 0)) ∧ (p = .pointer none ∨ p = .pointer (some ⟨b, 0, none⟩)) := q0
  rw [he] at he'
  cases he'
  rw [hh] at hh'
  cases hh'
  exact ⟨b, p, v, he, by rw [hv, hp], hh, hpp, hbx.2 1 l v rfl rfl, hone 1 v rfl⟩
/-- the same memory -/
theorem leave_refl {G : World} {se : St} {ce : Cx} {args : List Value} (hen : Enter G se ce args) : Leave se { env := fun _ => .junk, objs := se.objs } ce ce 0 [] :=
  { objs := hen.objs, os := rfl, tape := rfl, output := rfl, size := Nat.le_refl _, ty := fun k cs E fz h => ⟨cs, fz, h⟩, kept := fun _ _ _ => rfl, c0 := fun _ h => h, c1 := fun _ h => .inl h, clt := hen.clt
    hot := fun d b hd he => ⟨(hen.hot d b hd he).1, .inl ⟨d, hd, he⟩, (hen.hot d b hd he).2.2⟩
    inj := hen.inj, ob := hen.ob, pin := fun _ _ _ _ _ _ _ _ => rfl, len := rfl, res := fun i v h => by simp at h }
theorem copyCheck_sound {P : Program} {G : World} {T f : Nat}
    (used : ∀ (b : Nat) (w : World), w.cell? ⟨b, 0, none⟩ = some (.pointer (some ⟨b, 0, none⟩)) → Calls P f #[.pointer (some ⟨b, 0, none⟩)] w fun e w' => e = .returned (.tuple #[]) ∧ w' = w)
    (fresh : ∀ (b : Nat) (w : World), w.cell? ⟨b, 0, none⟩ = some (.pointer none) → w.shape? b = some (T, 2) → w.frozen? ⟨b, 0, none⟩ = false → Calls P f #[.pointer (some ⟨b, 0, none⟩)] w fun e w' => e = .returned (.tuple #[]) ∧ w' = w.setCell ⟨b, 0, none⟩ (.pointer (some ⟨b, 0, none⟩))) : MutSound P G f (copyCheckM T) := by
  refine ⟨fun R se k => ?_, fun se x ce args hx hsz hen => ?_⟩
  · show bldRun _ se (fun _ => k { env := fun _ => .junk, objs := se.objs }) = (bldRun _ se (fun _ => some { env := fun _ => .junk, objs := se.objs })).bind k
    exact (bldRun_nat (k := fun _ => k (St.mk (fun _ => .junk) se.objs))).trans ((by cases bldRun T se some <;> rfl : (bldRun T se some).bind (fun _ => k (St.mk (fun _ => .junk) se.objs)) = ((bldRun T se some).bind fun _ => some (St.mk (fun _ => .junk) se.objs)).bind k).trans (congrArg (fun x => Option.bind x k) (bldRun_nat (k := fun _ => some (St.mk (fun _ => .junk) se.objs))).symm))
  · have hx : bldRun T se (fun _ => some { env := fun _ => .junk, objs := se.objs }) = some x := hx
    rw [bldRun_nat] at hx
    obtain ⟨l, hl, hx⟩ := Option.bind_eq_some_iff.1 hx
    simp only [Option.some.injEq] at hx
    subst hx
    refine ⟨fun h => (by cases h), ?_⟩
    obtain ⟨h0, h1⟩ := bldRun_some hl
    obtain ⟨b, p, v, he, ha, hh, hp, hv, hv1⟩ := bld_enter hen (.inl (by have h : args.size = 1 := hsz; simpa using h)) h0 h1
    have hargs : args = #[.pointer (some ⟨b, 0, none⟩)] := by
      rcases args with ⟨l⟩
      match l, hsz, ha with
      | [y], _, ha => simp at ha; rw [ha]
    subst hargs
    rcases hp with hp | hp
    · subst hp
      refine (fresh b ce.w (by rw [Lib.cell_of_heap hh]; rfl) (by simp [World.shape?, hh]) (Lib.frozen_of_heap hh 0)).mono ?_
      rintro e w' ⟨rfl, rfl⟩
      have hw : ∀ k, (ce.w.setCell ⟨b, 0, none⟩ (.pointer (some ⟨b, 0, none⟩))).heap[k]? = if k = b then some (.cells #[.pointer (some ⟨b, 0, none⟩), v] T (0, 0)) else ce.w.heap[k]? := fun k => setCell_at _ hh
      have hne : ∀ d b', se.objs d ≠ .none → ce.eta d = some b' → d ≠ 2000000 → b' ≠ b := fun d b' hd hd' hne e => hne (hen.inj d 2000000 b hd (by rw [h1]; simp) (e ▸ hd') he)
      have hcold : ∀ k, ce.cold k → k ≠ b := fun k hk e => (hen.hot 2000000 b (by rw [h1]; simp) he).1 (e ▸ hk)
      obtain ⟨cx, hcx⟩ : ∃ cx : Cx, cx = { ce with w := ce.w.setCell ⟨b, 0, none⟩ (.pointer (some ⟨b, 0, none⟩)) } := ⟨_, rfl⟩
      have cw : cx.w = ce.w.setCell ⟨b, 0, none⟩ (.pointer (some ⟨b, 0, none⟩)) := by subst hcx; rfl
      have sim : ce.Sim cx := by
        subst hcx
        refine ⟨fun k hk => by show (World.setCell _ _ _).heap[k]? = _; rw [hw, if_neg (hcold k hk)], fun _ h => h, fun _ _ => rfl, fun _ _ xs h => ⟨xs, h, rfl⟩, fun _ _ u h => ⟨u, h⟩, fun d k cs E hd hk hc => ?_⟩
        show ∃ cs', (World.setCell _ _ _).heap[k]? = _ ∧ _
        rw [hw]
        split
        · rename_i e
          subst e
          rw [hh] at hc
          cases hc
          exact ⟨_, rfl, rfl⟩
        · exact ⟨cs, hc, rfl⟩
      refine ⟨[], cx, rfl, cw, ?_⟩
      refine { objs := by subst hcx; exact hen.objs, os := by rw [cw]; rfl, tape := by rw [cw]; rfl, output := by rw [cw]; rfl, size := by rw [cw]; simp [World.setCell], ty := fun k cs E fz h => ?_, kept := fun k hk hf => ?_, c0 := fun _ h => by subst hcx; exact h, c1 := fun _ h => by subst hcx; exact .inl h, clt := fun k hk => ?_, hot := fun d k hd hk => ?_, inj := by subst hcx; exact hen.inj, ob := fun d => ?_, pin := fun _ _ _ _ _ _ _ _ => by subst hcx; rfl, len := rfl, res := fun i v h => by simp at h }
      · rw [cw, hw]
        split
        · rename_i e; subst e; rw [hh] at h; cases h; exact ⟨_, _, rfl⟩
        · exact ⟨cs, fz, h⟩
      · rw [cw, hw, if_neg fun e => hf 2000000 (by rw [h1]; simp) (by rw [he, e])]
      · rw [cw]; subst hcx; simpa [World.setCell] using hen.clt k hk
      · rw [cw]
        subst hcx
        obtain ⟨g1, g2, g3⟩ := hen.hot d k hd hk
        exact ⟨g1, .inl ⟨d, hd, hk⟩, by simpa [World.setCell] using g3⟩
      · show cx.ob d (se.objs d)
        have eta : cx.eta = ce.eta := by subst hcx; rfl
        by_cases hd : d = 2000000
        · subst hd
          rw [h1]
          refine ⟨b, #[.pointer (some ⟨b, 0, none⟩), v], T, by rw [eta]; exact he, by rw [cw, hw, if_pos rfl], rfl, fun j y hy => ?_, rfl, fun j u y hu hy => ?_⟩
          · match j, hy with
            | 0, hy => simp at hy; subst hy; rfl
            | 1, hy => simp at hy; subst hy; exact hv1
            | j + 2, hy => simp at hy
          · match j, hu, hy with
            | 0, hu, hy =>
              simp at hu hy; subst hu; subst hy
              exact ⟨2, .agg [.sp 2000000 T, l], b, _, by subst hcx; rw [show ce.objs 2000000 = _ from congrFun hen.objs 2000000]; exact h1, by rw [eta]; exact he, by rw [cw, hw, if_pos rfl], .inr rfl⟩
            | 1, hu, hy => simp at hu hy; subst hu; subst hy; exact sim.v1 hv
            | j + 2, hu, hy => simp at hu
        · have := hen.ob d
          have hne' := hne d
          revert this hne'
          generalize se.objs d = o
          intro this hne'
          have blk : ∀ k, o ≠ .none → ce.eta d = some k → cx.w.heap[k]? = ce.w.heap[k]? := fun k ho hk => by rw [cw, hw, if_neg (hne' k ho hk hd)]
          cases o with
          | none => trivial
          | box n u => obtain ⟨k, cs, E, g1, g2, g3, g4, g5⟩ := this; exact ⟨k, cs, E, by rw [eta]; exact g1, by rw [blk k (by simp) g1]; exact g2, g3, g4, sim.bx g5⟩
          | row sz xs =>
            rcases this with g1 | ⟨k, cs, E, g1, g2, g3⟩
            · exact .inl ⟨by rw [eta]; exact g1.1, g1.2⟩
            · exact .inr ⟨k, cs, E, by rw [eta]; exact g1, by rw [blk k (by simp) g1]; exact g2, sim.rowCells g3⟩
    · subst hp
      refine (used b ce.w (by rw [Lib.cell_of_heap hh]; rfl)).mono ?_
      rintro e w' ⟨rfl, rfl⟩
      exact ⟨[], ce, rfl, rfl, leave_refl hen⟩
/-! ### String -/
def bytesOf : List T → Option (List UInt8)
  | [] => some []
  | x :: xs => (x.asInt .u8).bind fun n => if 0 ≤ n ∧ n < 256 then (bytesOf xs).bind fun l => some (n.toNat.toUInt8 :: l) else none
/-- the bytes of a builder as a string -/
def bldStr (xs : List T) : Option ByteArray := if xs.length ≤ 140737488355328 then (bytesOf xs).bind fun l => some ⟨l.toArray⟩ else none
def bytesT (s : ByteArray) : List T := s.data.toList.map fun b => .int .u8 b.toNat
theorem bytesOf_map : ∀ l : List UInt8, bytesOf (l.map fun b => T.int .u8 b.toNat) = some l
  | [] => rfl
  | b :: l => by
    have h : b.toNat < 256 := b.toNat_lt
    simp only [List.map_cons, bytesOf, T.asInt, if_true, Option.bind_some, bytesOf_map l]
    rw [if_pos ⟨by omega, by omega⟩]
    simp
theorem bldStr_bytesT {s : ByteArray} (h : s.size ≤ 140737488355328) : bldStr (bytesT s) = some s := by
  unfold bldStr bytesT
  rw [if_pos (by simpa using h), bytesOf_map]
  rfl
theorem bytesOf_get : ∀ {xs : List T} {l : List UInt8}, bytesOf xs = some l → l.length = xs.length ∧ ∀ (j : Nat) (b : UInt8) (x : T), l[j]? = some b → xs[j]? = some x → x = .int .u8 b.toNat
  | [], l, h => by simp only [bytesOf, Option.some.injEq] at h; subst h; exact ⟨rfl, fun j b x hb => by simp at hb⟩
  | x :: xs, l, h => by
    simp only [bytesOf] at h
    obtain ⟨n, hn, h⟩ := Option.bind_eq_some_iff.1 h
    split at h
    · rename_i hb
      obtain ⟨l', hl', h⟩ := Option.bind_eq_some_iff.1 h
      simp only [Option.some.injEq] at h
      subst h
      obtain ⟨h1, h2⟩ := bytesOf_get hl'
      refine ⟨by simp [h1], fun j b y hj hy => ?_⟩
      cases j with
      | zero =>
        simp at hj hy
        subst hj; subst hy
        rw [ckInt_some hn]
        congr 1
        have : n.toNat < 256 := by omega
        simp only [Nat.toUInt8, UInt8.toNat_ofNat', Nat.reducePow]
        rw [Nat.mod_eq_of_lt this]
        omega
      | succ j => simp at hj hy; exact h2 j b y hj hy
    · cases h
def bldEnd (T : Nat) (s : ByteArray) : St :=
  { env := fun t => match t with | 0 => .t (.str s) | _ + 1 => .junk, objs := fun d => bif Nat.beq d 2000000 then .box 2 (.agg [.sp 2000000 T, .junk]) else .none }
def bldText (E : Nat) (se : St) (l : V) {R : Type} (k : ByteArray → Option R) : Option R :=
  match l with
  | .nilv => k emp
  | .fb e t => bif Nat.beq t E then (match se.objs e with
    | .row sz xs => bif Nat.beq sz 1 then (bldStr xs).bind k else none
    | _ => none) else none
  | _ => none
theorem bldText_nat {E : Nat} {se : St} {l : V} {R : Type} {k : ByteArray → Option R} : bldText E se l k = (bldText E se l some).bind k := by
  unfold bldText
  split
  · rfl
  · rename_i e t
    cases Nat.beq t E
    · rfl
    · simp only [cond_true]
      split
      · rename_i sz xs _
        cases Nat.beq sz 1
        · rfl
        · simp only [cond_true]; rw [Option.bind_assoc]; rfl
      · rfl
  · rfl
def bldStringM (T E : Nat) : Mut :=
  { nargs := 1, sub := bldSub, run := fun R se k => bldRun T se fun l => bldText E se l fun s => k (bldEnd T s), nres := 1, outs := [], flat := false }
section
variable {P : Program} {ρ : Ren}
set_option maxHeartbeats 1000000 in
set_option maxRecDepth 100000 in
/-- what String does where there are bytes -/
theorem bld_string_main (L : Lays.n169 P ρ) (X : Builder.Extra P ρ) (b g cap : Nat) (p : Value) (cur : Array Value) (l : List UInt8) (w : World) (h0 : l ≠ [])
    (hbk : w.heap[b]? = some (.cells #[p, .slice (some ⟨g, 0, none⟩) l.length cap] (ρ.t 72) (0, 0))) (hg : w.heap[g]? = some (.cells cur (ρ.t 5) (0, 0))) (hcap : l.length ≤ cap) (hcs : l.length ≤ cur.size)
    (h63 : l.length ≤ 9223372036854775807) (hcell : ∀ (j : Nat) (x : UInt8), l[j]? = some x → cur[j]? = some (Value.int .u8 x.toNat)) :
    Calls P (ρ.f 169) #[.pointer (some ⟨b, 0, none⟩)] w fun e w' => e = .returned (.string ⟨l.toArray⟩) ∧ w' = w.drew.freeze ⟨g, 0, none⟩ l.length := by
  have hl0 : l.length ≠ 0 := by simpa using h0
  have c1 : w.drew.cell? ⟨b, 1, none⟩ = some (.slice (some ⟨g, 0, none⟩) l.length cap) := by
    have : w.drew.heap[b]? = some (.cells #[p, .slice (some ⟨g, 0, none⟩) l.length cap] (ρ.t 72) (0, 0)) := hbk
    rw [Lib.cell_of_heap this]; rfl
  have hSD : (Builtin.unsafeSliceData_ #[(ρ.t 37)] (ρ.t 127) #[.slice (some ⟨g, 0, none⟩) l.length cap]).run P w.drew = .ok (.pointer (some ⟨g, 0, none⟩)) w.drew :=
    Lib.run_unsafeSliceData_row _ _ _ _ _ _ (by omega)
  have hUS : (Builtin.unsafeString_ #[(ρ.t 127), (ρ.t 3)] (ρ.t 9) #[.pointer (some ⟨g, 0, none⟩), .int .i64 l.length]).run P w.drew = .ok (.string ⟨l.toArray⟩) (w.drew.freeze ⟨g, 0, none⟩ l.length) := by
    refine Lib.run_unsafeString_row w.drew (ρ.t 127) (ρ.t 3) (ρ.t 9) (ρ.t 5) L.t127 X.cellsByte g cur.size (by have hg' : w.drew.heap[g]? = some (.cells cur (ρ.t 5) (0, 0)) := hg; simp [World.shape?, hg']) l h0 hcs h63 ?_
    intro j x hx
    have hg' : w.drew.heap[g]? = some (.cells cur (ρ.t 5) (0, 0)) := hg
    have : (⟨g, 0, none⟩ : Addr).add j = ⟨g, j, none⟩ := by rw [Addr.add_lit, Nat.zero_add]
    rw [this, Lib.cell_of_heap hg']
    exact hcell j x hx
  have mixed := L.mixed
  have t72 := L.t72; have a72 := L.a72; have z72 := L.z72; have v72 := L.v72; have u72 := run_underlying L.t72
  have t70 := L.t70; have a70 := L.a70; have z70 := L.z70; have v70 := L.v70; have u70 := run_underlying L.t70
  have t37 := L.t37; have a37 := L.a37; have z37 := L.z37; have v37 := L.v37; have u37 := run_underlying L.t37
  have t9 := L.t9; have a9 := L.a9; have z9 := L.z9; have v9 := L.v9; have u9 := run_underlying L.t9
  have t3 := L.t3; have a3 := L.a3; have z3 := L.z3; have v3 := L.v3; have u3 := run_underlying L.t3
  have t127 := L.t127; have a127 := L.a127; have z127 := L.z127; have v127 := L.v127; have u127 := run_underlying L.t127
  have t5 := X.t5; have a5 := X.a5; have z5 := X.z5; have v5 := X.v5; have u5 := run_underlying X.t5
  go_enter L.f169, Body.n169_ntmps ρ
  go_wp2
  go_region_o
  all_goals (go_wp2; go_ret; exact ⟨rfl, rfl⟩)
theorem freeze_at {w : World} {g n k : Nat} {cs : Array Value} {E : TypeId} (hn : n ≠ 0) (h : w.heap[g]? = some (.cells cs E (0, 0))) :
    (w.freeze ⟨g, 0, none⟩ n).heap[k]? = if k = g then some (.cells cs E (0, n)) else w.heap[k]? := by
  have hb := (Array.getElem?_eq_some_iff.1 h).1
  simp only [World.freeze, hn, if_false, Array.getElem?_modify]
  by_cases hk : g = k
  · subst hk; simp [h]
  · rw [if_neg hk, if_neg (fun e => hk e.symm)]
/-- behind String: one block is frozen at most -/
theorem bld_leave {G : World} {se : St} {ce : Cx} {args : List Value} {T b : Nat} {p v : Value} {l : V} {s : ByteArray} (hen : Enter G se ce args) (h1 : se.objs 2000000 = .box 2 (.agg [.sp 2000000 T, l])) (he : ce.eta 2000000 = some b)
    (hh : ce.w.heap[b]? = some (.cells #[p, v] T (0, 0))) (hp : p = .pointer none ∨ p = .pointer (some ⟨b, 0, none⟩)) (hv1 : v.oneCell' = true) {w' : World} (hos : w'.os = ce.w.os) (ht : w'.tape = ce.w.tape) (ho : w'.output = ce.w.output) (hs : ce.w.heap.size ≤ w'.heap.size)
    (hk : ∀ k, k < ce.w.heap.size → (∀ d, d ≠ 2000000 → se.objs d ≠ .none → ce.eta d ≠ some k) → w'.heap[k]? = ce.w.heap[k]?)
    (hty : ∀ (k : Nat) (cs : Array Value) (E : TypeId) (fz : Nat × Nat), ce.w.heap[k]? = some (Obj.cells cs E fz) → ∃ (cs' : Array Value) (fz' : Nat × Nat), w'.heap[k]? = some (Obj.cells cs' E fz')) :
    Leave se (bldEnd T s) ce { ce with w := w', objs := (bldEnd T s).objs } 1 [.string s] := by
  have hb : ∀ k, k < ce.w.heap.size → (∀ d, se.objs d ≠ .none → ce.eta d ≠ some k) → w'.heap[k]? = ce.w.heap[k]? := fun k hlt hf => hk k hlt fun d _ => hf d
  have hbb : w'.heap[b]? = some (.cells #[p, v] T (0, 0)) := by
    rw [hk b (Array.getElem?_eq_some_iff.1 hh).1 fun d hd ho he' => hd (hen.inj d 2000000 b ho (by rw [h1]; simp) he' he)]
    exact hh
  have only : ∀ d, (bldEnd T s).objs d ≠ .none → d = 2000000 := fun d hd => by
    by_cases e : d = 2000000
    · exact e
    · have : (bldEnd T s).objs d = .none := by simp [bldEnd, beq_ne e]
      exact absurd this hd
  refine { objs := rfl, os := hos, tape := ht, output := ho, size := hs, ty := hty, kept := hb, c0 := fun _ h => h, c1 := fun _ h => .inl h, clt := fun k hk' => Nat.lt_of_lt_of_le (hen.clt k hk') hs
           hot := fun d k hd hd' => ?_, inj := fun d e k hd hd' _ _ => by rw [only d hd, only e hd'], ob := fun d => ?_, pin := fun _ _ _ _ _ _ _ _ => rfl, len := rfl, res := fun i y hy => ?_ }
  · have := only d hd
    subst this
    obtain ⟨g1, g2, g3⟩ := hen.hot 2000000 k (by rw [h1]; simp) hd'
    exact ⟨g1, .inl ⟨2000000, by rw [h1]; simp, hd'⟩, Nat.lt_of_lt_of_le g3 hs⟩
  · by_cases e : d = 2000000
    · subst e
      refine ⟨b, #[p, v], T, he, hbb, rfl, fun j y hy => ?_, rfl, fun j u y hu hy => ?_⟩
      · match j, hy with
        | 0, hy => simp at hy; subst hy; rcases hp with rfl | rfl <;> rfl
        | 1, hy => simp at hy; subst hy; exact hv1
        | j + 2, hy => simp at hy
      · match j, hu, hy with
        | 0, hu, hy =>
          simp at hu hy; subst hu; subst hy
          exact ⟨2, .agg [.sp 2000000 T, .junk], b, _, rfl, he, hbb, hp⟩
        | 1, hu, hy => simp at hu hy; subst hu; subst hy; trivial
        | j + 2, hu, hy => simp at hu
    · have : (bldEnd T s).objs d = .none := by simp [bldEnd, beq_ne e]
      rw [this]
      trivial
  · cases i with
    | zero => simp at hy; subst hy; exact TRep.str s
    | succ i => simp at hy
theorem bldString_sound (L : Lays.n169 P ρ) (X : Builder.Extra P ρ) {G : World} {T E : Nat} (hT : ρ.t 72 = T) (hE : ρ.t 5 = E) {f : Nat} (hf : ρ.f 169 = f) : MutSound P G f (bldStringM T E) := by
  subst hT; subst hE; subst hf
  have nat : ∀ (R : Type) (se : St) (k : St → Option R), (bldRun (ρ.t 72) se fun l => bldText (ρ.t 5) se l fun s => k (bldEnd (ρ.t 72) s)) = (bldRun (ρ.t 72) se some).bind fun l => (bldText (ρ.t 5) se l some).bind fun s => k (bldEnd (ρ.t 72) s) := fun R se k => by
    rw [bldRun_nat]
    congr 1; funext l
    exact bldText_nat
  refine ⟨fun R se k => ?_, fun se x ce args hx hsz hen => ?_⟩
  · show (bldRun (ρ.t 72) se fun l => bldText (ρ.t 5) se l fun s => k (bldEnd (ρ.t 72) s)) = (bldRun (ρ.t 72) se fun l => bldText (ρ.t 5) se l fun s => some (bldEnd (ρ.t 72) s)).bind k
    rw [nat, nat St se some, Option.bind_assoc]
    congr 1; funext l
    rw [Option.bind_assoc]; rfl
  · have hx : (bldRun (ρ.t 72) se fun l => bldText (ρ.t 5) se l fun s => some (bldEnd (ρ.t 72) s)) = some x := hx
    rw [nat St se some] at hx
    obtain ⟨l, hl, hx⟩ := Option.bind_eq_some_iff.1 hx
    obtain ⟨s, hs, hx⟩ := Option.bind_eq_some_iff.1 hx
    simp only [Option.some.injEq] at hx
    subst hx
    refine ⟨fun h => (by cases h), ?_⟩
    obtain ⟨h0, h1⟩ := bldRun_some hl
    obtain ⟨b, p, v, he, ha, hh, hp, hv, hv1⟩ := bld_enter hen (.inl (by have h : args.size = 1 := hsz; simpa using h)) h0 h1
    have hargs : args = #[.pointer (some ⟨b, 0, none⟩)] := by
      rcases args with ⟨l⟩
      match l, hsz, ha with
      | [y], _, ha => simp at ha; rw [ha]
    subst hargs
    have hlt : b < ce.w.heap.size := (Array.getElem?_eq_some_iff.1 hh).1
    -- where the world only grows
    have grown : ∀ (v0 : Value), v = v0 → (Calls P (ρ.f 169) #[.pointer (some ⟨b, 0, none⟩)] ce.w fun e w' => e = .returned (.string ⟨#[]⟩) ∧ Below ce.w.heap.size ce.w w') → s = emp →
        Calls P (ρ.f 169) #[.pointer (some ⟨b, 0, none⟩)] ce.w fun e w' => ∃ (vs : List Value) (cx : Cx), e = .returned (valOf vs) ∧ cx.w = w' ∧ Leave se (bldEnd (ρ.t 72) s) ce cx 1 vs := fun v0 _ hc hse => by
      refine hc.mono ?_
      rintro e w' ⟨rfl, hb⟩
      subst hse
      exact ⟨[.string emp], _, rfl, rfl, bld_leave hen h1 he hh hp hv1 hb.os hb.tape hb.output hb.size (fun k hk _ => hb.block k hk) (fun k cs E fz hk => ⟨cs, fz, by rw [hb.block k (Array.getElem?_eq_some_iff.1 hk).1]; exact hk⟩)⟩
    unfold bldText at hs
    split at hs
    · simp only [Option.some.injEq] at hs
      have hv0 : v = .slice none 0 0 := hv
      rw [hv0] at hh
      exact grown _ hv0 (Any.Builder_String_nil L X ce.w.heap.size b p ce.w hh) hs.symm
    · rename_i e t
      cases hte : Nat.beq t (ρ.t 5) with
      | false => rw [hte] at hs; cases hs
      | true =>
      rw [hte] at hs
      simp only [cond_true] at hs
      have := Nat.eq_of_beq_eq_true hte
      subst this
      split at hs
      rotate_left
      · cases hs
      rename_i sz xs hoe
      cases hsz1 : Nat.beq sz 1 with
      | false => rw [hsz1] at hs; cases hs
      | true =>
      rw [hsz1] at hs
      simp only [cond_true] at hs
      have := Nat.eq_of_beq_eq_true hsz1
      subst this
      have hs : bldStr xs = some s := by
        cases hq : bldStr xs with
        | none => rw [hq] at hs; cases hs
        | some v => rw [hq] at hs; exact hs
      unfold bldStr at hs
      split at hs
      rotate_left
      · cases hs
      rename_i h63
      obtain ⟨bs, hbs, hs⟩ := Option.bind_eq_some_iff.1 hs
      simp only [Option.some.injEq] at hs
      subst hs
      obtain ⟨hbl, hbg⟩ := bytesOf_get hbs
      obtain ⟨sz', xs', ho', hr⟩ : ∃ sz xs, ce.objs e = .row sz xs ∧ _ := hv
      rw [show ce.objs e = _ from congrFun hen.objs e, hoe] at ho'
      cases ho'
      rcases hr with ⟨_, hxs, hv0⟩ | ⟨g, cap, cs, heg, hv0, hcap, hhg, hcs⟩
      · subst hxs
        rw [hv0] at hh
        have hbs0 : bs = [] := List.length_eq_zero_iff.1 (by simpa using hbl)
        subst hbs0
        exact grown _ hv0 (Any.Builder_String_nil L X ce.w.heap.size b p ce.w hh) rfl
      · have hne : e ≠ 2000000 := fun h => by subst h; rw [h1] at hoe; cases hoe
        by_cases hz : xs.length = 0
        · have hbs0 : bs = [] := List.length_eq_zero_iff.1 (by omega)
          subst hbs0
          rw [hv0, hz] at hh
          by_cases hc0 : cap = 0
          · subst hc0
            exact grown _ hv0 (Any.Builder_String_noroom L X ce.w.heap.size b g p cs ce.w (Nat.le_refl _) hh hhg) rfl
          · exact grown _ hv0 (Any.Builder_String_room L X ce.w.heap.size b g cap p ce.w hc0 hh) rfl
        · have hob := hen.ob e
          rw [hoe] at hob
          rcases hob with ⟨hn, _⟩ | ⟨g', cs', E', hg', hh', hrow⟩
          · rw [heg] at hn; cases hn
          rw [heg] at hg'
          cases hg'
          rw [hhg] at hh'
          cases hh'
          have hv0' := hv0
          rw [hv0, ← hbl] at hh
          rw [Nat.mul_one] at hcs
          refine (bld_string_main L X b g cap p cs bs ce.w (fun h => hz (by rw [← hbl, h]; rfl)) hh hhg (by omega) (by omega) (by omega) (fun j x hx => ?_)).mono ?_
          · have hj : j < xs.length := by rw [← hbl]; exact (List.getElem?_eq_some_iff.1 hx).1
            have hxj : xs[j]? = some xs[j] := by simp [hj]
            have hcj : cs[j]? = some (cs[j]'(by omega)) := by
              have : j < cs.size := by omega
              simp [this]
            have hrep := (hrow.2.2 j 0 _ _ hxj (by omega) (by rw [Nat.mul_one, Nat.add_zero]; exact hcj)).1
            rw [hbg j x _ hx hxj] at hrep
            rw [hcj]
            generalize cs[j]'_ = y at hrep
            have hrep : TRep ce.w ce.cold (.int .u8 x.toNat) y := hrep
            cases hrep
            rfl
          · rintro e2 w' ⟨rfl, rfl⟩
            have hfr : ∀ k, (ce.w.drew.freeze ⟨g, 0, none⟩ bs.length).heap[k]? = if k = g then some (.cells cs (ρ.t 5) (0, bs.length)) else ce.w.heap[k]? := fun k => freeze_at (by omega) (show ce.w.drew.heap[g]? = _ from hhg)
            have hfs : (ce.w.drew.freeze ⟨g, 0, none⟩ bs.length).heap.size = ce.w.heap.size := by
              simp only [World.freeze]
              split
              · rfl
              · rw [Array.size_modify]; rfl
            have hfo : (ce.w.drew.freeze ⟨g, 0, none⟩ bs.length).os = ce.w.os ∧ (ce.w.drew.freeze ⟨g, 0, none⟩ bs.length).tape = ce.w.tape ∧ (ce.w.drew.freeze ⟨g, 0, none⟩ bs.length).output = ce.w.output := by
              simp only [World.freeze]
              split <;> exact ⟨rfl, rfl, rfl⟩
            refine ⟨[.string ⟨bs.toArray⟩], _, rfl, rfl, bld_leave hen h1 he hh hp (by rw [hv0'] at hv1; rw [hbl]; exact hv1) hfo.1 hfo.2.1 hfo.2.2 (Nat.le_of_eq hfs.symm) (fun k hk hf => ?_) (fun k cs1 E fz hk => ?_)⟩
            · rw [hfr, if_neg fun h => hf e hne (by rw [hoe]; simp) (by rw [h]; exact heg)]
            · rw [hfr]
              split
              · rename_i h
                subst h
                rw [hhg] at hk
                cases hk
                exact ⟨_, _, rfl⟩
              · exact ⟨cs1, fz, hk⟩
    · cases hs
end
end Go.Ax
