/-
  DERIVED. GIVEN WITH THE SEED: THE CARDS: each row of YtcpcbmebpmokbaaDoorRows.lean that lists a variable, with what it lists TIED to the program's text (the seventh form; the later family's looks); each row that meets fmt, with fmt's text TOLD by the authors' own Lean function (tested against real Go, not proved from fmt's source: count such statements apart). THE CARD IS WHAT COUNTS. Prove the row's statement (the work); the ties are given (YtcpcbmebpmokbaaDoorTie.lean); close each card by the builder's one call (the guide's Derived/Test/ToyasCard.lean, 'card_holds'). Laid BY PROGRAM, IN A SANDBOX (cutbox-door.mjs). By AI agents, Wed Nov 11 2026. No macro, syntax, notation, axiom, sorry.
-/
import Derived.Test.YtcpcbmebpmokbaaDoorRows
import GoSem.ClaimSeven
namespace Go.Proofs.YtcpcbmebpmokbaaDoor
namespace Rows

/-- THE TIED CARD OF 'spinneretlaw23.TrailTexts'. -/
def trailTextsCard : Claim7 := { stood := { row := trailTextsRow, standIns := [], harness := (true, "162c9baf6255c39a9293e3545665d1a4121a478fba45047914b03c7d6ee48a34"), looks := true }, kinds := [], alts := [], laidByText := true, laidKinds := [.data, .data, .data, .data, .sentinel, .sentinel, .pinned], laidTests := true, laidLooks := .later }
def TrailTextsCardSaid : Prop := Claim7.holds Tryd.pinned (.plain (OpenSpec.ofChange trailTextsSpec)) trailTextsCard

/-- THE TIED CARD OF 'spinneretlaw23.TrailBack'. -/
def trailBackCard : Claim7 := { stood := { row := trailBackRow, standIns := [], harness := (true, "162c9baf6255c39a9293e3545665d1a4121a478fba45047914b03c7d6ee48a34"), looks := true }, kinds := [], alts := [], laidByText := true, laidKinds := [.data, .data, .data, .data, .sentinel, .sentinel, .pinned], laidTests := true, laidLooks := .later }
def TrailBackCardSaid : Prop := Claim7.holds Tryd.pinned (.plain (OpenSpec.ofChange trailBackSpec)) trailBackCard

/-- THE SECOND FORM's CARD OF 'spinneretlaw23.TrailTexts'. -/
def trailTextsUptoCard : Claim7 := { stood := { row := trailTextsUptoRow, standIns := [], harness := (true, "162c9baf6255c39a9293e3545665d1a4121a478fba45047914b03c7d6ee48a34"), looks := true }, kinds := [], alts := [], laidByText := true, laidKinds := [.data, .data, .data, .data, .sentinel, .sentinel, .pinned], laidTests := true, laidLooks := .later }
def TrailTextsUptoCardSaid : Prop := Claim7.holds Tryd.pinned (.plain (OpenSpec.upto trailTextsSpec)) trailTextsUptoCard

/-- THE SECOND FORM's CARD OF 'spinneretlaw23.TrailBack'. -/
def trailBackUptoCard : Claim7 := { stood := { row := trailBackUptoRow, standIns := [], harness := (true, "162c9baf6255c39a9293e3545665d1a4121a478fba45047914b03c7d6ee48a34"), looks := true }, kinds := [], alts := [], laidByText := true, laidKinds := [.data, .data, .data, .data, .sentinel, .sentinel, .pinned], laidTests := true, laidLooks := .later }
def TrailBackUptoCardSaid : Prop := Claim7.holds Tryd.pinned (.plain (OpenSpec.upto trailBackSpec)) trailBackUptoCard
end Rows
end Go.Proofs.YtcpcbmebpmokbaaDoor
