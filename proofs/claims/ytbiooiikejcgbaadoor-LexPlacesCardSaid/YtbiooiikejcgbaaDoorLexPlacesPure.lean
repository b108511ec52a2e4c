/- Layer 1: LexPlaces: the plain law. -/
import Derived.Test.YtbiooiikejcgbaaDoorLexPlacesLexH
set_option linter.unusedVariables false
namespace Go.Ax
open Go
theorem pure_LexPlaces (x0 : ByteArray) (o0 : okS ktrue x0) : ∃ q, law01_LexPlaces q x0 = some (true, ()) := ⟨70010, law01_LexPlaces_is 70010 x0 (Nat.le_refl _)⟩
end Go.Ax
