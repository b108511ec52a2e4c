/-
  No cell of these rows narrows 'for every input' (looked for: loops, veiled, ifaces, maps, wideKeys, modest, calm, conditions, laid).
  DERIVED. THE GIVEN ROWS OF THIS SEAT. 3 by the template 'for every input the law returns true; each argument reads behind the call as it read before'; 0 by the template 'total and deterministic' (their statements: YtkbbhfamjkjblaaTotals.lean).
  GIVEN WITH THE SEED: the statements are not yours to turn. If you find one false, say at which input.
  Laid BY PROGRAM, IN A SANDBOX (cutbox-rows.mjs): the forced cells as the released guide's own fill.sh prints them over the translation 6ca5ea41e55a53da… (all of the seat's roots in one cut). By AI agents, Wed Nov 11 2026. No macro, syntax, notation, axiom, sorry.
-/
import Derived.Test.YtkbbhfamjkjblaaChecked
import GoSem.Claim
import GoSem.ClaimJoined
import GoSem.ClaimMapViews
import Derived.JoinedTies
import Derived.KernelRfl
namespace Go.Proofs.Ytkbbhfamjkjblaa
/- THE CELL 'sum', in the pinned program and in every row, IS THE sha256 OF THE DUMP (.gsa) THAT YtkbbhfamjkjblaaProg.lean LOADS. Nothing in Lean hashes anything: it is a label: what it is worth is what the hold of that sum in a sandbox is worth. -/
noncomputable def Try.pinned : Pinned := { name := "ytkbbhfamjkjblaa", sum := "6ca5ea41e55a53da137127271aa5438cbcb3a4caed62bbb1b85e17b48ca067e6", checked := Try.checked }
namespace Rows
def none {H : Type} : Left H := { results := [], args := [] }

/-- 'spinneretlaw11.GoodTypes': WHATEVER THE INPUT: true; the input reads as it did. -/
def goodTypesSpec : ChangeSpec := { name := "goodTypes", fn := fun _ => fun
  | [d1, d2, d3] => { results := [.lit (.bool true)], args := [d1, d2, d3] }
  | _ => none }
def goodTypesRow : OpenClaim := { program := "ytkbbhfamjkjblaa", sum := "6ca5ea41e55a53da137127271aa5438cbcb3a4caed62bbb1b85e17b48ca067e6", func := "spinneret/spinneretlaw11.GoodTypes", spec := "goodTypes", apart := false }
def GoodTypesSaid : Prop := goodTypesRow.holds Try.pinned (OpenSpec.ofChange goodTypesSpec)

/-- ITS FALSE NEIGHBOUR: 'it returns false'. Refute it at one input. -/
def goodTypesWrong : ChangeSpec := { name := "goodTypes", fn := fun _ => fun
  | [d1, d2, d3] => { results := [.lit (.bool false)], args := [d1, d2, d3] }
  | _ => none }
def GoodTypesWrongFalsely : Prop := goodTypesRow.holds Try.pinned (OpenSpec.ofChange goodTypesWrong)

/-- 'spinneretlaw11.GoodStill': WHATEVER THE INPUT: true; the input reads as it did. -/
def goodStillSpec : ChangeSpec := { name := "goodStill", fn := fun _ => fun
  | [d] => { results := [.lit (.bool true)], args := [d] }
  | _ => none }
def goodStillRow : OpenClaim := { program := "ytkbbhfamjkjblaa", sum := "6ca5ea41e55a53da137127271aa5438cbcb3a4caed62bbb1b85e17b48ca067e6", func := "spinneret/spinneretlaw11.GoodStill", spec := "goodStill", apart := false }
def GoodStillSaid : Prop := goodStillRow.holds Try.pinned (OpenSpec.ofChange goodStillSpec)

/-- ITS FALSE NEIGHBOUR: 'it returns false'. Refute it at one input. -/
def goodStillWrong : ChangeSpec := { name := "goodStill", fn := fun _ => fun
  | [d] => { results := [.lit (.bool false)], args := [d] }
  | _ => none }
def GoodStillWrongFalsely : Prop := goodStillRow.holds Try.pinned (OpenSpec.ofChange goodStillWrong)

/-- 'spinneretlaw19.PorSafe': WHATEVER THE INPUT: true; the input reads as it did. -/
def porSafeSpec : ChangeSpec := { name := "porSafe", fn := fun _ => fun
  | [d] => { results := [.lit (.bool true)], args := [d] }
  | _ => none }
def porSafeRow : OpenClaim := { program := "ytkbbhfamjkjblaa", sum := "6ca5ea41e55a53da137127271aa5438cbcb3a4caed62bbb1b85e17b48ca067e6", func := "spinneret/spinneretlaw19.PorSafe", spec := "porSafe", unfollowed := true, recurses := true, apart := false }
def PorSafeSaid : Prop := porSafeRow.holds Try.pinned (OpenSpec.ofChange porSafeSpec)

/-- ITS FALSE NEIGHBOUR: 'it returns false'. Refute it at one input. -/
def porSafeWrong : ChangeSpec := { name := "porSafe", fn := fun _ => fun
  | [d] => { results := [.lit (.bool false)], args := [d] }
  | _ => none }
def PorSafeWrongFalsely : Prop := porSafeRow.holds Try.pinned (OpenSpec.ofChange porSafeWrong)

/- THE SECOND FORM. 'bulk': how many values and letters a reading holds, each counted each time it is reached (what is shared counts as often as it is met; a slice's spare places count too). A statement '..UptoSaid' is the law's where the arguments, and the package variables that the reading takes, are together of bulk at most 1048576: NARROWER than '..Said'. Prove '..Said' where nothing that the law and all that it calls make is longer than what came in: it says more and counts as full. Else prove '..UptoSaid'. A law counts once. -/
mutual
def uptoBulk {H : Type} : DataW H → Nat
  | .lit (.string bytes) => bytes.length + 1
  | .lit _ => 1
  | .nil => 1
  | .ptr d => uptoBulk d + 1
  | .slice elems spare => uptoBulkAll elems + uptoBulkAll spare + 1
  | .agg parts => uptoBulkAll parts + 1
  | .iface _ d => uptoBulk d + 1
  | .map entries => uptoBulkEntries entries + 1
  | .held _ => 1
def uptoBulkAll {H : Type} : List (DataW H) → Nat
  | [] => 0
  | d :: r => uptoBulk d + uptoBulkAll r
def uptoBulkEntries {H : Type} : List (Lit × DataW H) → Nat
  | [] => 0
  | x :: r => uptoBulkEntry x + uptoBulkEntries r
def uptoBulkEntry {H : Type} : Lit × DataW H → Nat
  | (.string bytes, d) => bytes.length + uptoBulk d + 1
  | (_, d) => uptoBulk d + 1
 end
def uptoSmall : (H : Type) → List (DataW H) → Bool := fun _ ds => decide (uptoBulkAll ds ≤ 1048576)
def OpenSpec.upto (s : _root_.Go.ChangeSpec) : _root_.Go.OpenSpec := { _root_.Go.OpenSpec.ofChange s with cond := some uptoSmall }

/-- 'spinneretlaw11.GoodTypes', WHERE WHAT IT READS IS OF BULK AT MOST 1048576: true; the input reads as it did. -/
def goodTypesUptoRow : OpenClaim := { program := "ytkbbhfamjkjblaa", sum := "6ca5ea41e55a53da137127271aa5438cbcb3a4caed62bbb1b85e17b48ca067e6", func := "spinneret/spinneretlaw11.GoodTypes", spec := "goodTypes", apart := false, narrowed := true }
def GoodTypesUptoSaid : Prop := goodTypesUptoRow.holds Try.pinned (OpenSpec.upto goodTypesSpec)

/-- 'spinneretlaw11.GoodStill', WHERE WHAT IT READS IS OF BULK AT MOST 1048576: true; the input reads as it did. -/
def goodStillUptoRow : OpenClaim := { program := "ytkbbhfamjkjblaa", sum := "6ca5ea41e55a53da137127271aa5438cbcb3a4caed62bbb1b85e17b48ca067e6", func := "spinneret/spinneretlaw11.GoodStill", spec := "goodStill", apart := false, narrowed := true }
def GoodStillUptoSaid : Prop := goodStillUptoRow.holds Try.pinned (OpenSpec.upto goodStillSpec)

/-- 'spinneretlaw19.PorSafe', WHERE WHAT IT READS IS OF BULK AT MOST 1048576: true; the input reads as it did. -/
def porSafeUptoRow : OpenClaim := { program := "ytkbbhfamjkjblaa", sum := "6ca5ea41e55a53da137127271aa5438cbcb3a4caed62bbb1b85e17b48ca067e6", func := "spinneret/spinneretlaw19.PorSafe", spec := "porSafe", unfollowed := true, recurses := true, apart := false, narrowed := true }
def PorSafeUptoSaid : Prop := porSafeUptoRow.holds Try.pinned (OpenSpec.upto porSafeSpec)

end Rows
end Go.Proofs.Ytkbbhfamjkjblaa
