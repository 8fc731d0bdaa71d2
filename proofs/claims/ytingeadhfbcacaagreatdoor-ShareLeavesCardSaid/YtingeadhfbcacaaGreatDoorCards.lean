/-
  DERIVED. GIVEN WITH THE SEED: THE CARDS: each row of YtingeadhfbcacaaGreatDoorRows.lean that lists a variable, with what it lists TIED to the program's text (the seventh form; the later family's looks); each row that meets fmt, with fmt's text TOLD by the authors' own Lean function (tested against real Go, not proved from fmt's source: count such statements apart). THE CARD IS WHAT COUNTS. Prove the row's statement (the work); the ties are given (YtingeadhfbcacaaGreatDoorTie.lean); close each card by the builder's one call (the guide's Derived/Test/ToyasCard.lean, 'card_holds'). Laid BY PROGRAM, IN A SANDBOX (cutbox-door.mjs). By AI agents, Wed Nov 11 2026. No macro, syntax, notation, axiom, sorry.
-/
import Derived.Test.YtingeadhfbcacaaGreatDoorRows
import GoSem.ClaimSeven
namespace Go.Proofs.YtingeadhfbcacaaGreatDoor
namespace Rows

/-- THE TIED CARD OF 'isthmuslaw17.ShareLeaves'. -/
def shareLeavesCard : Claim7 := { stood := { row := shareLeavesRow, standIns := [], harness := (true, "62f2a4b3be3db9e0a9c451500fefa42f46d87b417eaa62c686069ee3c28f93e9"), looks := true }, kinds := [], alts := [], laidByText := true, laidKinds := [.data, .data, .data], laidTests := true, laidLooks := .later }
def ShareLeavesCardSaid : Prop := Claim7.holds Tryz.pinned (.plain (OpenSpec.ofChange shareLeavesSpec)) shareLeavesCard

/-- THE TIED CARD OF 'isthmuslaw17.RepsLeaves'. -/
def repsLeavesCard : Claim7 := { stood := { row := repsLeavesRow, standIns := [], harness := (true, "62f2a4b3be3db9e0a9c451500fefa42f46d87b417eaa62c686069ee3c28f93e9"), looks := true }, kinds := [], alts := [], laidByText := true, laidKinds := [.data, .data, .data], laidTests := true, laidLooks := .later }
def RepsLeavesCardSaid : Prop := Claim7.holds Tryz.pinned (.plain (OpenSpec.ofChange repsLeavesSpec)) repsLeavesCard

/-- THE SECOND FORM's CARD OF 'isthmuslaw17.ShareLeaves'. -/
def shareLeavesUptoCard : Claim7 := { stood := { row := shareLeavesUptoRow, standIns := [], harness := (true, "62f2a4b3be3db9e0a9c451500fefa42f46d87b417eaa62c686069ee3c28f93e9"), looks := true }, kinds := [], alts := [], laidByText := true, laidKinds := [.data, .data, .data], laidTests := true, laidLooks := .later }
def ShareLeavesUptoCardSaid : Prop := Claim7.holds Tryz.pinned (.plain (OpenSpec.upto shareLeavesSpec)) shareLeavesUptoCard

/-- THE SECOND FORM's CARD OF 'isthmuslaw17.RepsLeaves'. -/
def repsLeavesUptoCard : Claim7 := { stood := { row := repsLeavesUptoRow, standIns := [], harness := (true, "62f2a4b3be3db9e0a9c451500fefa42f46d87b417eaa62c686069ee3c28f93e9"), looks := true }, kinds := [], alts := [], laidByText := true, laidKinds := [.data, .data, .data], laidTests := true, laidLooks := .later }
def RepsLeavesUptoCardSaid : Prop := Claim7.holds Tryz.pinned (.plain (OpenSpec.upto repsLeavesSpec)) repsLeavesUptoCard
end Rows
end Go.Proofs.YtingeadhfbcacaaGreatDoor
