/- Ax, part Q: the quiet operations: what they yield does not hang on who asks, and hangs on their operands alone. -/
import Derived.Test.YtcpcbmebpmokbaaDoorAxP
import Derived.Still
set_option linter.unusedVariables false
set_option linter.unusedSimpArgs false
namespace Go.Ax
open Go Go.RowKit

section
variable {P : Program} {R : Type} {kv : V → Option R}
theorem ldLeaf_nat {t : TypeId} {x : T} : ldLeaf P t x kv = (ldLeaf P t x some).bind kv := by
  unfold ldLeaf
  split <;> simp [Option.bind_assoc]
theorem ldT_nat {t : TypeId} {e : T} {o : Nat} : ldT P t e o kv = (ldT P t e o some).bind kv := by
  unfold ldT
  split
  · split <;> simp [Option.bind_assoc]
  · exact ldLeaf_nat
theorem ldV_nat {t : TypeId} {v : V} {o : Nat} : ldV P t v o kv = (ldV P t v o some).bind kv := by
  unfold ldV
  split
  · exact ldT_nat
  · split
    · split
      · split <;> simp
      · simp
    · split
      · exact ldLeaf_nat
      · split <;> simp
      · simp
  · split
    · split <;> simp
    · simp
theorem ld_nat {t : TypeId} {objs : Nat → Ob} {a : V} : ld P t objs a kv = (ld P t objs a some).bind kv := by
  unfold ld
  split
  · split
    · exact ldV_nat
    · rfl
  · split
    · rw [Option.bind_assoc]
      congr 1; funext e; exact ldT_nat
    · rfl
  · exact ldT_nat
  · rfl
theorem evBin_nat {op : BinOp} {x y : V} : evBin op x y kv = (evBin op x y some).bind kv := by
  unfold evBin
  split
  · split
    · split <;> simp
    · split <;> simp
    · split
      · split <;> first | rfl | (split <;> simp)
      · rfl
  · split <;> first | rfl | (split <;> simp)
  · rfl
theorem evBinB_nat {op : BinOp} {x y : Bool} : evBinB op x y kv = (evBinB op x y some).bind kv := by
  unfold evBinB
  split <;> rfl
theorem evSt_nat {op : BinOp} {ks : List IntKind} {x y : V} : evSt op ks x y kv = (evSt op ks x y some).bind kv := by
  unfold evSt
  simp only [Option.bind_assoc]
  congr 1; funext a; congr 1; funext b; congr 1; funext ns; congr 1; funext ms
  cases op <;> rfl
theorem evLen_nat {t : TypeId} {objs : Nat → Ob} {x : V} : evLen P t objs x kv = (evLen P t objs x some).bind kv := by
  unfold evLen
  split
  · split <;> rfl
  · rfl
  · split <;> first | rfl | (split <;> rfl)
  · rfl
theorem evCallQ_nat {C : Nat → Option Summary} {objs : Nat → Ob} {g : Nat} {vs : List V} : evCallQ C objs g vs kv = (evCallQ C objs g vs some).bind kv := by
  unfold evCallQ
  split
  · rfl
  · split
    · rfl
    simp only [Option.bind_assoc]
    congr 1; funext ts; congr 1; funext a
    split
    · rfl
    · simp only [Option.bind_assoc]
      congr 1; funext b
      cases (ownSites 0 0 0 _).isEmpty <;> rfl
theorem cond_bind {b : Bool} {α : Type} {x : Option α} {k : α → Option R} : (bif b then x else none).bind k = bif b then x.bind k else none := by cases b <;> rfl
theorem evQ_nat {C : Nat → Option Summary} {o : Oper} {ρ : Operand → V} {objs : Nat → Ob} : evQ P C o ρ objs kv = (evQ P C o ρ objs some).bind kv := by
  unfold evQ
  split
  · rfl
  · rfl
  · split
    · split
      · rfl
      · split <;> rfl
    · rfl
  · exact ld_nat
  · split <;> rfl
  · split
    · exact evSt_nat
    split
    · split
      · exact evBinB_nat
      · rfl
    · split
      · rw [cond_bind, ← evBinB_nat]
      · rfl
    · split
      · rw [cond_bind, ← evBinB_nat]
      · rfl
    · exact evBin_nat
  · split <;> rfl
  · split
    · rfl
    · rfl
    · split
      · simp only [Option.bind_assoc]; rfl
      · rfl
    · rfl
  · split
    · split
      · split
        · split <;> rfl
        · rfl
      · rfl
    · rfl
  · split
    · split
      · rw [fieldK_eq, fieldK_eq, Option.bind_assoc]; congr 1; funext u; exact ldV_nat
      · rfl
    · rfl
  · rw [Option.bind_assoc]; congr 1; funext i
    split
    · split
      · split
        · rw [Option.bind_assoc]; rfl
        · split
          · split
            · split <;> rfl
            · rfl
          · rfl
        · split
          · split
            · split <;> rfl
            · rfl
          · rfl
        · rfl
      · rfl
    · split
      · split
        · split <;> rfl
        · rfl
      · rfl
    · rfl
  · rw [Option.bind_assoc]; congr 1; funext i
    split
    · rw [Option.bind_assoc]; rfl
    · split
      · split
        · rw [Option.bind_assoc]; congr 1; funext e; rw [Option.bind_assoc]; congr 1; funext e; exact ldT_nat
        · rfl
      · rfl
    · rfl
  · split
    · rw [Option.bind_assoc]; congr 1
    · rfl
  · split
    · rfl
    · split
      · simp only [Option.bind_assoc]; congr 1
      · simp only [Option.bind_assoc]
        congr 1; funext l; congr 1; funext h
        split
        · rw [Option.bind_assoc]; rfl
        · rfl
      · split
        · simp only [Option.bind_assoc]
          congr 1; funext l; congr 1; funext h
          split
          · split <;> rfl
          · rfl
        · rfl
      · split
        · simp only [Option.bind_assoc]
          congr 1; funext l; congr 1; funext h
          split
          · split <;> rfl
          · rfl
        · rfl
      · rfl
  · split
    · split
      · rw [bldStructK_eq, bldStructK_eq, Option.bind_assoc]; rfl
      · rfl
    · split
      · rw [bldArrK_eq, bldArrK_eq, Option.bind_assoc]; rfl
      · rfl
    · rfl
  · split
    · split
      · split
        · rfl
        · rw [Option.bind_assoc]; congr 1; funext z
          split
          · rw [Option.bind_assoc]; congr 1; funext xs; rw [Option.bind_assoc]; congr 1; funext ys
            split <;> rfl
          · rfl
      · rfl
    · rfl
  · split <;> rfl
  · split
    · split
      · exact evLen_nat
      · rfl
    · split <;> rfl
    · split <;> rfl
    · split
      · exact evCallQ_nat
      · exact evCallQ_nat
      · rfl
    · rfl
  · rfl

theorem map_agree {ρ ρ' : Operand → V} {xs : Array Operand} (h : ∀ x ∈ xs, ρ x = ρ' x) : xs.toList.map ρ = xs.toList.map ρ' :=
  List.map_congr_left fun x hx => h x (by simpa using hx)
/-- a quiet operation looks at its operands alone -/
theorem evQ_congr {C : Nat → Option Summary} {o : Oper} {ρ ρ' : Operand → V} {objs : Nat → Ob} (h : ∀ x ∈ o.op.operands, ρ x = ρ' x) : evQ P C o ρ objs kv = evQ P C o ρ' objs kv := by
  obtain ⟨dst, op, type, pos, after, guard⟩ := o
  have pairs : ∀ ps : Array (Nat × Operand), (∀ x ∈ (ps.toList.map (·.2)).toArray, ρ x = ρ' x) → (ps.toList.map fun p => (p.1, ρ p.2)) = (ps.toList.map fun p => (p.1, ρ' p.2)) := fun ps hp =>
    List.map_congr_left fun p hm => by rw [hp p.2 (by simp only [List.mem_toArray, List.mem_map]; exact ⟨p, hm, rfl⟩)]
  cases op <;> simp only [Op.operands] at h <;> simp only [evQ]
  case build t ps => rw [pairs ps h]
  case buildSlice t n ps =>
    have : (ps.toList.map fun p => ρ p.2) = (ps.toList.map fun p => ρ' p.2) := List.map_congr_left fun p hm => h p.2 (by simp only [List.mem_toArray, List.mem_map]; exact ⟨p, hm, rfl⟩)
    simp only [this]
  case makeFunc fn first captured => 
    have : captured.toList.map ρ = captured.toList.map ρ' := map_agree fun x hx => h x (by simp [hx])
    cases fn <;> first | rfl | simp only [this]
  case call c =>
    have hargs : c.args.toList.map ρ = c.args.toList.map ρ' := map_agree fun x hx => h x (by simp [Call.operands, hx])
    simp only [hargs]
    cases hc : c.callee with
    | value f => have hf : ρ f = ρ' f := h f (by simp [Call.operands, hc]); simp only [hf]
    | invoke r m => rfl
    | builtin b =>
      cases b
      case len =>
        cases hl : c.args.toList with
        | nil => rfl
        | cons x xs =>
          cases xs with
          | nil =>
            have hx : ρ x = ρ' x := h x (by
              have : x ∈ c.args := by rw [← Array.mem_toList_iff, hl]; simp
              simp [Call.operands, this])
            cases c.argTypes[0]? with
            | none => rfl
            | some t => simp only [hx]
          | cons y ys => rfl
      all_goals rfl
  case slice t x lo hi mx => cases lo <;> cases hi <;> cases mx <;> simp_all
  all_goals (first | rfl | (simp_all; done))
end
end Go.Ax
