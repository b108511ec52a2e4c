/- Layer 1: LexFirst: the plain law. -/
import Derived.Test.YtbiooiikejcgbaaDoorLexFirstLexI
set_option linter.unusedVariables false
namespace Go.Ax
open Go
theorem pure_LexFirst (x0 x1 : ByteArray) (o0 : okS ktrue x0) (o1 : okS ktrue x1) : ∃ q, law01_LexFirst q x0 x1 = some (true, ()) := ⟨70010, law01_LexFirst_is 70010 x0 x1 (Nat.le_refl _)⟩
end Go.Ax
