/- Layer 23: the text that a found is written as, and how a text is read, in plain Lean: no program. -/
import Derived.Test.YtcpcbmebpmokbaaDoorTrailBackTrA
import Derived.Test.YtcpcbmebpmokbaaDoorTrailBackTy
set_option linter.unusedVariables false
set_option linter.unusedSimpArgs false
namespace Go.Ax
open Go
def wFound : List UInt8 := [102, 111, 117, 110, 100]
def wMove : List UInt8 := [109, 111, 118, 101]
def wCycle : List UInt8 := [99, 121, 99, 108, 101]
def numsL (ns : List Int) : List UInt8 := ns.flatMap fun n => 32 :: Lib.itoa n
theorem numsL_cons (n : Int) (ns : List Int) : numsL (n :: ns) = 32 :: Lib.itoa n ++ numsL ns := rfl
def lineS (w : List UInt8) (ns : List Int) : List UInt8 := w ++ numsL ns ++ [10]
theorem numsL_len : ∀ {ns : List Int}, (∀ n ∈ ns, okI n) → (numsL ns).length ≤ ns.length * 22
  | [], _ => Nat.le_refl _
  | n :: ns, h => by
    have h1 := Lib.itoa_length_le n (h n (List.mem_cons_self ..)).1 (h n (List.mem_cons_self ..)).2
    have h2 := numsL_len (ns := ns) fun m hm => h m (List.mem_cons_of_mem _ hm)
    rw [numsL_cons]
    simp only [List.length_append, List.length_cons]
    omega
def MMove.nums (m : MMove) : List Int := [m.Pid, m.Esc, m.Way, m.With, m.WithEsc, m.WithWay, m.Claim]
def MFound.nums (f : MFound) : List Int := [f.Kind, f.What, f.Err, f.At, f.States, f.Steps]
theorem MMove.nums_ok {K : Nat → Prop} {m : MMove} (h : m.ok K) : ∀ n ∈ m.nums, okI n := by
  obtain ⟨h0, h1, h2, h3, h4, h5, h6⟩ := h
  intro n hn
  simp only [MMove.nums, List.mem_cons, List.not_mem_nil, or_false] at hn
  rcases hn with rfl | rfl | rfl | rfl | rfl | rfl | rfl <;> assumption
theorem MFound.nums_ok {K : Nat → Prop} {m : MFound} (h : m.ok K) : ∀ n ∈ m.nums, okI n := by
  obtain ⟨h0, h1, h2, h3, h4, h5, h6, h7⟩ := h
  intro n hn
  simp only [MFound.nums, List.mem_cons, List.not_mem_nil, or_false] at hn
  rcases hn with rfl | rfl | rfl | rfl | rfl | rfl <;> assumption
def moveS (c : Int) (i : Nat) (v : MMove) : List UInt8 := (if (i : Int) = c then wCycle ++ [10] else []) ++ lineS wMove v.nums
def movesS (c : Int) : Nat → List MMove → List UInt8
  | _, [] => []
  | i, v :: l => moveS c i v ++ movesS c (i + 1) l
def printS (f : MFound) : List UInt8 := lineS wFound f.nums ++ movesS f.Cycle 0 f.Trail
def printOk (f : MFound) : Bool := !(decide (f.Kind < 1) || decide (f.Kind > 4) || decide (f.Cycle < -1) || decide (f.Cycle ≥ (f.Trail.length : Int)))
theorem moveS_len {K : Nat → Prop} {c : Int} {i : Nat} {v : MMove} (h : v.ok K) : (moveS c i v).length ≤ 165 := by
  have := numsL_len (MMove.nums_ok h)
  have e : v.nums.length = 7 := rfl
  unfold moveS lineS
  split <;> simp only [List.length_append, wCycle, wMove, List.length_cons, List.length_nil] at this ⊢ <;> omega
/-! ### reading -/
def stepP (t : List UInt8) (first due : Bool) (f : MFound) : Option (Bool × MFound) :=
  if first = true then (numbersS (bl t) (bl wFound) 6).bind fun a =>
    if 1 ≤ a.getD 0 0 ∧ a.getD 0 0 ≤ 4 then some (due, { f with Kind := a.getD 0 0, What := a.getD 1 0, Err := a.getD 2 0, At := a.getD 3 0, States := a.getD 4 0, Steps := a.getD 5 0 }) else none
  else if t = wCycle ∧ f.Cycle < 0 then some (true, { f with Cycle := (f.Trail.length : Int) })
  else (numbersS (bl t) (bl wMove) 7).bind fun a => some (false, { f with Trail := f.Trail ++ [⟨a.getD 0 0, a.getD 1 0, a.getD 2 0, a.getD 3 0, a.getD 4 0, a.getD 5 0, a.getD 6 0⟩] })
def parseP (at' : Nat) (cur : List UInt8) : List UInt8 → Bool → Bool → MFound → Except Nat MFound
  | [], first, due, f => if cur = [] ∧ first = false ∧ due = false then .ok f else .error at'
  | b :: r, first, due, f => if b = 10 then (match stepP cur first due f with
      | some (d, g) => parseP (at' + cur.length + 1) [] r false d g
      | none => .error at')
    else parseP at' (cur ++ [b]) r first due f
theorem parseP_none : ∀ (l : List UInt8) (a : Nat) (p : List UInt8) (fi du : Bool) (f : MFound), (10 : UInt8) ∉ l → parseP a p l fi du f = if p ++ l = [] ∧ fi = false ∧ du = false then .ok f else .error a
  | [], a, p, fi, du, f, _ => by rw [parseP, List.append_nil]
  | b :: l, a, p, fi, du, f, h => by
    have hb : b ≠ 10 := fun e => h (e ▸ List.mem_cons_self ..)
    rw [parseP, if_neg hb, parseP_none l _ _ _ _ _ fun e => h (List.mem_cons_of_mem _ e), List.append_assoc]
    rfl
theorem parseP_line : ∀ (l r : List UInt8) (a : Nat) (p : List UInt8) (fi du : Bool) (f : MFound), (10 : UInt8) ∉ l → parseP a p (l ++ 10 :: r) fi du f = match stepP (p ++ l) fi du f with
      | some (d, g) => parseP (a + (p ++ l).length + 1) [] r false d g
      | none => .error a
  | [], r, a, p, fi, du, f, _ => by rw [List.nil_append, parseP, if_pos rfl, List.append_nil]
  | b :: l, r, a, p, fi, du, f, h => by
    have hb : b ≠ 10 := fun e => h (e ▸ List.mem_cons_self ..)
    rw [List.cons_append, parseP, if_neg hb, parseP_line l r _ _ _ _ _ fun e => h (List.mem_cons_of_mem _ e)]
    rw [List.append_assoc]
    rfl
def zFound : MFound := ⟨0, 0, 0, 0, [], -1, 0, 0⟩
def parseS (s : ByteArray) : Except Nat MFound := parseP 0 [] s.data.toList true false zFound
/-- where a byte stands first -/
theorem index_parts (c : UInt8) : ∀ (l : List UInt8), (Lib.indexByte l c = -1 ∧ c ∉ l) ∨ ∃ a r : List UInt8, l = a ++ c :: r ∧ c ∉ a ∧ Lib.indexByte l c = (a.length : Int)
  | [] => .inl ⟨rfl, by simp⟩
  | b :: l => by
    unfold Lib.indexByte
    by_cases hb : b = c
    · subst hb
      exact .inr ⟨[], l, rfl, by simp, by simp⟩
    · have e1 : (b == c) = false := by simpa using hb
      rw [e1]
      simp only [Bool.false_eq_true, if_false]
      rcases index_parts c l with ⟨h1, h2⟩ | ⟨a, r, h1, h2, h3⟩
      · rw [h1]
        exact .inl ⟨rfl, by simp [h2, Ne.symm hb]⟩
      · refine .inr ⟨b :: a, r, by rw [h1]; rfl, by simp [h2, Ne.symm hb], ?_⟩
        rw [h3]
        have : ((a.length : Int) == -1) = false := by rw [beq_eq_false_iff_ne]; omega
        rw [this]
        simp
/-- what a found is as what the program hands back -/
def encF (f : MFound) : Int × Int × Int × Int × List T × Int × Int × Int × Unit := (f.Kind, f.What, f.Err, f.At, f.Trail.map MMove.enc, f.Cycle, f.States, f.Steps, ())
def encP : Except Nat MFound → (Int × Int × Int × Int × List T × Int × Int × Int × Unit) × Int × Int × Unit
  | .ok f => (encF f, 0, 0, ())
  | .error a => ((0, 0, 0, 0, [], 0, 0, 0, ()), 43, (a : Int), ())
theorem list6 {a : List Int} (h : a.length = 6) : ∃ a0 a1 a2 a3 a4 a5, a = [a0, a1, a2, a3, a4, a5] := by
  match a, h with
  | [a0, a1, a2, a3, a4, a5], _ => exact ⟨_, _, _, _, _, _, rfl⟩
theorem list7 {a : List Int} (h : a.length = 7) : ∃ a0 a1 a2 a3 a4 a5 a6, a = [a0, a1, a2, a3, a4, a5, a6] := by
  match a, h with
  | [a0, a1, a2, a3, a4, a5, a6], _ => exact ⟨_, _, _, _, _, _, _, rfl⟩
end Go.Ax
