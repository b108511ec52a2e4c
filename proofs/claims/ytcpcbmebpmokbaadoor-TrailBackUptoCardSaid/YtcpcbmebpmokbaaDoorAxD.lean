/- Ax, part D: what stands for what: cold values, frame values, objects, frames; how these outlive a change of the world. -/
import Derived.Test.YtcpcbmebpmokbaaDoorAxC
import Derived.Below
import Derived.Laws.Tables
import Derived.Laws.CopyRow
set_option linter.unusedVariables false
set_option linter.unusedSimpArgs false
namespace Go.Ax
open Go Go.RowKit

/-- The value v stands for the cold value x in the world w; whatever memory it leads to lies in cold blocks. -/
inductive TRep (w : World) (cold : Nat → Prop) : T → Value → Prop
  | bool (b : Bool) : TRep w cold (.bool b) (.bool b)
  | int (k : IntKind) (n : Int) : TRep w cold (.int k n) (.int k n)
  | str (s : ByteArray) : TRep w cold (.str s) (.string s)
  | agg (ls : List T) (cs : Array Value) (hn : cs.size = ls.length)
      (h1 : ∀ (j : Nat) (c : Value), cs[j]? = some c → c.oneCell' = true)
      (h : ∀ (j : Nat) (l : T) (c : Value), ls[j]? = some l → cs[j]? = some c → TRep w cold l c) : TRep w cold (.agg ls) (.agg cs)
  | lst0 (a : Option Addr) (cap : Nat) : TRep w cold (.lst []) (.slice a 0 cap)
  | lst (xs : List T) (b off cap sz : Nat) (cv : Nat → Nat → Value) (hcap : xs.length ≤ cap) (hc : cold b)
      (hw : ∀ x, x ∈ xs → x.width = sz)
      (hcell : ∀ i j, i < xs.length → j < sz → w.cell? ⟨b, off + i * sz + j, none⟩ = some (cv i j))
      (h1 : ∀ i j, i < xs.length → j < sz → (cv i j).oneCell' = true)
      (h : ∀ (i : Nat) (x : T) (j : Nat), xs[i]? = some x → j < sz → TRep w cold (x.leaf j) (cv i j)) :
      TRep w cold (.lst xs) (.slice (some ⟨b, off, none⟩) xs.length cap)
  | cp (e : T) (o b off : Nat) (cv : Nat → Value) (hc : cold b)
      (hcell : ∀ j, j < e.width → w.cell? ⟨b, off + j, none⟩ = some (cv j))
      (h1 : ∀ j, j < e.width → (cv j).oneCell' = true)
      (h : ∀ j, j < e.width → TRep w cold (e.leaf j) (cv j)) :
      TRep w cold (.cp e o) (.pointer (some ⟨b, off + o, none⟩))
  | fn (g : Nat) (caps : List T) (cs : Array Value) (hn : cs.size = caps.length)
      (h : ∀ (j : Nat) (l : T) (c : Value), caps[j]? = some l → cs[j]? = some c → TRep w cold l c) : TRep w cold (.fn g caps) (.func (.func g) #[] cs)
  | np : TRep w cold .np (.pointer none)
  | nf : TRep w cold .nf .nilFunc
  | ni : TRep w cold .ni .nilIface
  | ert (t : TypeId) (u : Value) : TRep w cold (.er true) (.iface t u)
  | erf : TRep w cold (.er false) .nilIface
  | junk (v : Value) (h : v.oneCell' = true) : TRep w cold .junk v

theorem TRep.mono {w w' : World} {cold cold' : Nat → Prop} (hb : ∀ b, cold b → w'.heap[b]? = w.heap[b]?) (hc : ∀ b, cold b → cold' b) {x : T} {v : Value}
    (h : TRep w cold x v) : TRep w' cold' x v := by
  induction h with
  | bool b => exact .bool b
  | int k n => exact .int k n
  | str s => exact .str s
  | agg ls cs hn h1 _ ih => exact .agg ls cs hn h1 ih
  | lst0 a cap => exact .lst0 a cap
  | lst xs b off cap sz cv hcap hc' hw hcell h1 _ ih =>
    exact .lst xs b off cap sz cv hcap (hc b hc') hw (fun i j hi hj => by rw [World.cell?_of_block (w := w) (hb b hc')]; exact hcell i j hi hj) h1 ih
  | cp e o b off cv hc' hcell h1 _ ih =>
    exact .cp e o b off cv (hc b hc') (fun j hj => by rw [World.cell?_of_block (w := w) (hb b hc')]; exact hcell j hj) h1 ih
  | fn g caps cs hn _ ih => exact .fn g caps cs hn ih
  | np => exact .np
  | nf => exact .nf
  | ni => exact .ni
  | ert t u => exact .ert t u
  | erf => exact .erf
  | junk v h => exact .junk v h

/-- A frame's memory: the world, its cold blocks, where the objects lie, the objects. -/
structure Cx where
  w : World
  cold : Nat → Prop
  eta : Nat → Option Nat
  objs : Nat → Ob

def Cx.v1 (c : Cx) : V → Value → Prop
  | .t x, v => TRep c.w c.cold x v
  | .nilv, v => v = .slice none 0 0
  | .junk, _ => True
  | .full d, v => ∃ sz xs, c.objs d = .row sz xs ∧ ((c.eta d = none ∧ xs = [] ∧ v = .slice none 0 0) ∨
      ∃ b cap cs E, c.eta d = some b ∧ v = .slice (some ⟨b, 0, none⟩) xs.length cap ∧ xs.length ≤ cap ∧ c.w.heap[b]? = some (.cells cs E (0, 0)) ∧ cap * sz ≤ cs.size)
  | .rv d off len, v => ∃ sz xs, c.objs d = .row sz xs ∧ off + len ≤ xs.length ∧ ((len = 0 ∧ ∃ a cap, v = .slice a 0 cap) ∨
      ∃ b cap, c.eta d = some b ∧ v = .slice (some ⟨b, off * sz, none⟩) len cap ∧ len ≤ cap)
  | .bp d o, v => ∃ n u b, c.objs d = .box n u ∧ c.eta d = some b ∧ v = .pointer (some ⟨b, o, none⟩)
  | .rp d i o, v => ∃ sz xs b, c.objs d = .row sz xs ∧ i < xs.length ∧ c.eta d = some b ∧ v = .pointer (some ⟨b, i * sz + o, none⟩)
  | .sp d t, v => ∃ n u b cs, c.objs d = .box n u ∧ c.eta d = some b ∧ c.w.heap[b]? = some (.cells cs t (0, 0)) ∧ (v = .pointer none ∨ v = .pointer (some ⟨b, 0, none⟩))
  | .fb d t, v => ∃ sz xs, c.objs d = .row sz xs ∧ ((c.eta d = none ∧ xs = [] ∧ v = .slice none 0 0) ∨
      ∃ b cap cs, c.eta d = some b ∧ v = .slice (some ⟨b, 0, none⟩) xs.length cap ∧ xs.length ≤ cap ∧ c.w.heap[b]? = some (.cells cs t (0, 0)) ∧ cap * sz ≤ cs.size)
  | _, _ => False
def Cx.v2 (c : Cx) : V → Value → Prop
  | .agg ls, v => ∃ cs, v = .agg cs ∧ cs.size = ls.length ∧ (∀ (j : Nat) (x : Value), cs[j]? = some x → x.oneCell' = true) ∧
      ∀ (j : Nat) (l : V) (x : Value), ls[j]? = some l → cs[j]? = some x → c.v1 l x
  | .fn g caps, v => ∃ cs, v = .func (.func g) #[] cs ∧ cs.size = caps.length ∧
      ∀ (j : Nat) (l : V) (x : Value), caps[j]? = some l → cs[j]? = some x → c.v1 l x
  | u, v => c.v1 u v
def Cx.v3 (c : Cx) : V → Value → Prop
  | .tup ls, v => ∃ cs, v = .tuple cs ∧ cs.size = ls.length ∧ ∀ (j : Nat) (l : V) (x : Value), ls[j]? = some l → cs[j]? = some x → c.v2 l x
  | u, v => c.v2 u v

def Cx.bx (c : Cx) (n : Nat) (u : V) (cs : Array Value) : Prop :=
  match u with
  | .t e => e.width = n ∧ ∀ (j : Nat) (x : Value), cs[j]? = some x → TRep c.w c.cold (e.leaf j) x
  | .agg ls => ls.length = n ∧ ∀ (j : Nat) (l : V) (x : Value), ls[j]? = some l → cs[j]? = some x → c.v1 l x
  | u => n = 1 ∧ ∀ x, cs[0]? = some x → c.v2 u x
def Cx.rowCells (c : Cx) (sz : Nat) (xs : List T) (cs : Array Value) : Prop :=
  xs.length * sz ≤ cs.size ∧ (∀ x, x ∈ xs → x.width = sz) ∧
  (∀ (i j : Nat) (x : T) (y : Value), xs[i]? = some x → j < sz → cs[i * sz + j]? = some y → TRep c.w c.cold (x.leaf j) y ∧ y.oneCell' = true)
def Cx.ob (c : Cx) (d : Nat) : Ob → Prop
  | .none => True
  | .box n u => ∃ b cs E, c.eta d = some b ∧ c.w.heap[b]? = some (.cells cs E (0, 0)) ∧ cs.size = n ∧ (∀ (j : Nat) (x : Value), cs[j]? = some x → x.oneCell' = true) ∧ c.bx n u cs
  | .row sz xs => (c.eta d = none ∧ xs = []) ∨ ∃ b cs E, c.eta d = some b ∧ c.w.heap[b]? = some (.cells cs E (0, 0)) ∧ c.rowCells sz xs cs

/-- Where a frame begins: g: the world in which the law's call began (what it held is never written); w: the frame's own first world; F: the blocks of w that the frame may not write. -/
structure Base where
  g : World
  w : World
  F : Nat → Prop
  gle : Below g.heap.size g w
  gF : ∀ b, b < g.heap.size → F b
  Flt : ∀ b, F b → b < w.heap.size
  /-- boxes that lie where they lay, as long as they are there -/
  pin : Nat → Option Nat
  pinN : ∀ d b, pin d = some b → 2000000 ≤ d
/-- What the frame may not write is as it was. -/
structure Kept (B : Base) (w' : World) : Prop where
  os : w'.os = B.w.os
  tape : w'.tape = B.w.tape
  output : w'.output = B.w.output
  size : B.w.heap.size ≤ w'.heap.size
  block : ∀ k, B.F k → w'.heap[k]? = B.w.heap[k]?
  ty : ∀ (k : Nat) (cs : Array Value) (E : TypeId) (fz : Nat × Nat), B.w.heap[k]? = some (Obj.cells cs E fz) → ∃ (cs' : Array Value) (fz' : Nat × Nat), w'.heap[k]? = some (Obj.cells cs' E fz')
theorem Kept.refl {B : Base} : Kept B B.w := ⟨rfl, rfl, rfl, Nat.le_refl _, fun _ _ => rfl, fun k cs E fz h => ⟨cs, fz, h⟩⟩
theorem Kept.below {B : Base} {w w' : World} (h : Kept B w) (hb : Below w.heap.size w w') : Kept B w' :=
  ⟨hb.os.trans h.os, hb.tape.trans h.tape, hb.output.trans h.output, Nat.le_trans h.size hb.size, fun k hk => (hb.block k (Nat.lt_of_lt_of_le (B.Flt k hk) h.size)).trans (h.block k hk), fun k cs E fz hk => by
    obtain ⟨cs', fz', h'⟩ := h.ty k cs E fz hk
    exact ⟨cs', fz', (hb.block k (Array.getElem?_eq_some_iff.1 h').1).trans h'⟩⟩
theorem Kept.gbelow {B : Base} {w : World} (h : Kept B w) : Below B.g.heap.size B.g w :=
  ⟨h.os.trans B.gle.os, h.tape.trans B.gle.tape, h.output.trans B.gle.output, Nat.le_trans B.gle.size h.size, fun k hk => (h.block k (B.gF k hk)).trans (B.gle.block k hk)⟩
theorem Kept.new {B : Base} {w : World} (h : Kept B w) {b : Nat} (hb : w.heap.size ≤ b) : ¬ B.F b := fun hF => by
  have := B.Flt b hF; have := h.size; omega

/-- The state s stands for the frame's temporaries and memory. B: the heap's size when the frame began (w0 its world); cold0: what was cold then. -/
structure Rel (w0 : Base) (cold0 : Nat → Prop) (N : Nat) (s : St) (a : Act) (c : Cx) : Prop where
  objs : c.objs = s.objs
  below : Kept w0 c.w
  size : a.tmps.size = N
  defers : a.defers = []
  c0 : ∀ b, cold0 b → c.cold b
  c1 : ∀ b, c.cold b → cold0 b ∨ ¬ w0.F b
  clt : ∀ b, c.cold b → b < c.w.heap.size
  hot : ∀ d b, s.objs d ≠ .none → c.eta d = some b → ¬ c.cold b ∧ ¬ w0.F b ∧ b < c.w.heap.size
  inj : ∀ d e b, s.objs d ≠ .none → s.objs e ≠ .none → c.eta d = some b → c.eta e = some b → d = e
  ob : ∀ d, c.ob d (s.objs d)
  tmp : ∀ t, c.v3 (s.env t) (a.tmps.getD t undef)
  nle : N ≤ 2000000
  pin : ∀ d b n u, w0.pin d = some b → s.objs d = .box n u → c.eta d = some b

/-- What a change of the memory leaves as it was. -/
structure Cx.Sim (c c' : Cx) : Prop where
  blk : ∀ b, c.cold b → c'.w.heap[b]? = c.w.heap[b]?
  cold : ∀ b, c.cold b → c'.cold b
  eta : ∀ d, c.objs d ≠ .none → c'.eta d = c.eta d
  row : ∀ d sz xs, c.objs d = .row sz xs → ∃ xs', c'.objs d = .row sz xs' ∧ xs'.length = xs.length
  box : ∀ d n u, c.objs d = .box n u → ∃ u', c'.objs d = .box n u'
  cells : ∀ d b cs E, c.objs d ≠ .none → c.eta d = some b → c.w.heap[b]? = some (.cells cs E (0, 0)) → ∃ cs', c'.w.heap[b]? = some (.cells cs' E (0, 0)) ∧ cs'.size = cs.size

theorem Cx.Sim.v1 {c c' : Cx} (h : c.Sim c') : ∀ {u : V} {v : Value}, c.v1 u v → c'.v1 u v := by
  intro u v hv
  cases u with
  | t x => exact TRep.mono h.blk h.cold hv
  | nilv => exact hv
  | junk => exact hv
  | full d =>
    obtain ⟨sz, xs, ho, hr⟩ := hv
    obtain ⟨xs', ho', hl⟩ := h.row d sz xs ho
    have hn : c.objs d ≠ .none := by rw [ho]; simp
    refine ⟨sz, xs', ho', ?_⟩
    rcases hr with ⟨he, hx, hv⟩ | ⟨b, cap, cs, E, he, hv, hcap, hh, hsz⟩
    · exact .inl ⟨by rw [h.eta d hn]; exact he, by subst hx; exact List.length_eq_zero_iff.1 (by simpa using hl), hv⟩
    · obtain ⟨cs', hh', hs'⟩ := h.cells d b cs E hn he hh
      exact .inr ⟨b, cap, cs', E, by rw [h.eta d hn]; exact he, by rw [hl]; exact hv, by omega, hh', by omega⟩
  | rv d off len =>
    obtain ⟨sz, xs, ho, hle, hr⟩ := hv
    obtain ⟨xs', ho', hl⟩ := h.row d sz xs ho
    have hn : c.objs d ≠ .none := by rw [ho]; simp
    refine ⟨sz, xs', ho', by omega, ?_⟩
    rcases hr with hr | ⟨b, cap, he, hr⟩
    · exact .inl hr
    · exact .inr ⟨b, cap, by rw [h.eta d hn]; exact he, hr⟩
  | bp d o =>
    obtain ⟨n, u, b, ho, he, hv⟩ := hv
    obtain ⟨u', ho'⟩ := h.box d n u ho
    have hn : c.objs d ≠ .none := by rw [ho]; simp
    exact ⟨n, u', b, ho', by rw [h.eta d hn]; exact he, hv⟩
  | rp d i o =>
    obtain ⟨sz, xs, b, ho, hi, he, hv⟩ := hv
    obtain ⟨xs', ho', hl⟩ := h.row d sz xs ho
    have hn : c.objs d ≠ .none := by rw [ho]; simp
    exact ⟨sz, xs', b, ho', by omega, by rw [h.eta d hn]; exact he, hv⟩
  | sp d t =>
    obtain ⟨n, u, b, cs, ho, he, hh, hv⟩ := hv
    obtain ⟨u', ho'⟩ := h.box d n u ho
    have hn : c.objs d ≠ .none := by rw [ho]; simp
    obtain ⟨cs', hh', _⟩ := h.cells d b cs t hn he hh
    exact ⟨n, u', b, cs', ho', by rw [h.eta d hn]; exact he, hh', hv⟩
  | fb d t =>
    obtain ⟨sz, xs, ho, hr⟩ := hv
    obtain ⟨xs', ho', hl⟩ := h.row d sz xs ho
    have hn : c.objs d ≠ .none := by rw [ho]; simp
    refine ⟨sz, xs', ho', ?_⟩
    rcases hr with ⟨he, hx, hv⟩ | ⟨b, cap, cs, he, hv, hcap, hh, hsz⟩
    · exact .inl ⟨by rw [h.eta d hn]; exact he, by subst hx; exact List.length_eq_zero_iff.1 (by simpa using hl), hv⟩
    · obtain ⟨cs', hh', hs'⟩ := h.cells d b cs t hn he hh
      exact .inr ⟨b, cap, cs', by rw [h.eta d hn]; exact he, by rw [hl]; exact hv, by omega, hh', by omega⟩
  | _ => exact hv.elim
theorem Cx.Sim.v2 {c c' : Cx} (h : c.Sim c') {u : V} {v : Value} (hv : c.v2 u v) : c'.v2 u v := by
  cases u with
  | agg ls => obtain ⟨cs, h0, h1, h2, h3⟩ := hv; exact ⟨cs, h0, h1, h2, fun j l x hl hx => h.v1 (h3 j l x hl hx)⟩
  | fn g caps => obtain ⟨cs, h0, h1, h3⟩ := hv; exact ⟨cs, h0, h1, fun j l x hl hx => h.v1 (h3 j l x hl hx)⟩
  | tup _ => exact hv.elim
  | t x => exact h.v1 (u := .t x) hv
  | full d => exact h.v1 (u := .full d) hv
  | rv d a b => exact h.v1 (u := .rv d a b) hv
  | bp d o => exact h.v1 (u := .bp d o) hv
  | rp d i o => exact h.v1 (u := .rp d i o) hv
  | sp d t => exact h.v1 (u := .sp d t) hv
  | fb d t => exact h.v1 (u := .fb d t) hv
  | nilv => exact h.v1 (u := .nilv) hv
  | junk => trivial
theorem Cx.Sim.v3 {c c' : Cx} (h : c.Sim c') {u : V} {v : Value} (hv : c.v3 u v) : c'.v3 u v := by
  cases u with
  | tup ls => obtain ⟨cs, h0, h1, h3⟩ := hv; exact ⟨cs, h0, h1, fun j l x hl hx => h.v2 (h3 j l x hl hx)⟩
  | t x => exact h.v2 (u := .t x) hv
  | full d => exact h.v2 (u := .full d) hv
  | rv d a b => exact h.v2 (u := .rv d a b) hv
  | bp d o => exact h.v2 (u := .bp d o) hv
  | rp d i o => exact h.v2 (u := .rp d i o) hv
  | sp d t => exact h.v2 (u := .sp d t) hv
  | fb d t => exact h.v2 (u := .fb d t) hv
  | nilv => exact h.v2 (u := .nilv) hv
  | junk => trivial
  | agg ls => exact h.v2 (u := .agg ls) hv
  | fn g cs => exact h.v2 (u := .fn g cs) hv
theorem Cx.Sim.bx {c c' : Cx} (h : c.Sim c') {n : Nat} {u : V} {cs : Array Value} (hv : c.bx n u cs) : c'.bx n u cs := by
  cases u with
  | t e => exact ⟨hv.1, fun j x hx => (hv.2 j x hx).mono h.blk h.cold⟩
  | agg ls => exact ⟨hv.1, fun j l x hl hx => h.v1 (hv.2 j l x hl hx)⟩
  | full d => exact ⟨hv.1, fun x hx => h.v2 (u := .full d) (hv.2 x hx)⟩
  | rv d a b => exact ⟨hv.1, fun x hx => h.v2 (u := .rv d a b) (hv.2 x hx)⟩
  | bp d o => exact ⟨hv.1, fun x hx => h.v2 (u := .bp d o) (hv.2 x hx)⟩
  | rp d i o => exact ⟨hv.1, fun x hx => h.v2 (u := .rp d i o) (hv.2 x hx)⟩
  | sp d t => exact ⟨hv.1, fun x hx => h.v2 (u := .sp d t) (hv.2 x hx)⟩
  | fb d t => exact ⟨hv.1, fun x hx => h.v2 (u := .fb d t) (hv.2 x hx)⟩
  | nilv => exact ⟨hv.1, fun x hx => h.v2 (u := .nilv) (hv.2 x hx)⟩
  | junk => exact ⟨hv.1, fun x hx => trivial⟩
  | fn g cs => exact ⟨hv.1, fun x hx => h.v2 (u := .fn g cs) (hv.2 x hx)⟩
  | tup ls => exact ⟨hv.1, fun x hx => (hv.2 x hx).elim⟩
theorem Cx.Sim.rowCells {c c' : Cx} (h : c.Sim c') {sz : Nat} {xs : List T} {cs : Array Value} (hv : c.rowCells sz xs cs) : c'.rowCells sz xs cs :=
  ⟨hv.1, hv.2.1, fun i j x y h1 h2 h3 => ⟨(hv.2.2 i j x y h1 h2 h3).1.mono h.blk h.cold, (hv.2.2 i j x y h1 h2 h3).2⟩⟩

end Go.Ax
