/- Layer 23: how long what is read may be. -/
import Derived.Test.YtcpcbmebpmokbaaDoorTrailBackTrF
set_option linter.unusedVariables false
set_option linter.unusedSimpArgs false
namespace Go.Ax
open Go
theorem parseP_trail : ∀ (rest : List UInt8) (a : Nat) (cur : List UInt8) (fi du : Bool) (f g : MFound), parseP a cur rest fi du f = .ok g → g.Trail.length ≤ f.Trail.length + rest.length
  | [], a, cur, fi, du, f, g, h => by
    unfold parseP at h
    split at h
    · cases h; simp
    · cases h
  | b :: r, a, cur, fi, du, f, g, h => by
    unfold parseP at h
    rw [List.length_cons]
    split at h
    · split at h
      · rename_i d f' hs
        have h1 := stepP_grow hs
        have h2 := parseP_trail r _ _ _ _ _ _ h
        omega
      · cases h
    · have h2 := parseP_trail r _ _ _ _ _ _ h
      omega
theorem parseS_trail {s : ByteArray} {f : MFound} (h : parseS s = .ok f) : f.Trail.length ≤ s.size := by
  have := parseP_trail _ _ _ _ _ _ _ h
  have e : zFound.Trail.length = 0 := rfl
  have e2 : s.data.toList.length = s.size := rfl
  omega
end Go.Ax
