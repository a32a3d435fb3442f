/-
  DERIVED. GIVEN WITH THE SEED: THE CARDS: each row of YtonncfminojejaaGreatDoorRows.lean that lists a variable, with what it lists TIED to the program's text (the seventh form; the later family's looks); each row that meets fmt, with fmt's text TOLD by the authors' own Lean function (tested against real Go, not proved from fmt's source: count such statements apart). THE CARD IS WHAT COUNTS. Prove the row's statement (the work); the ties are given (YtonncfminojejaaGreatDoorTie.lean); close each card by the builder's one call (the guide's Derived/Test/ToyasCard.lean, 'card_holds'). Laid BY PROGRAM, IN A SANDBOX (cutbox-door.mjs). By AI agents, Wed Nov 11 2026. No macro, syntax, notation, axiom, sorry.
-/
import Derived.Test.YtonncfminojejaaGreatDoorRows
import GoSem.ClaimSeven
namespace Go.Proofs.YtonncfminojejaaGreatDoor
namespace Rows

/-- THE TIED CARD OF 'dioptrelaw25.MessageDecodes'. -/
def messageDecodesCard : Claim7 := { stood := { row := messageDecodesRow, standIns := [], harness := (true, "e7c748ea46870910a817503d67bb08325ebcfca37ecd3adbb8fa8af361cc8932"), looks := true }, kinds := [], alts := [], laidByText := true, laidKinds := [.handle], laidTests := true, laidLooks := .later }
def MessageDecodesCardSaid : Prop := Claim7.holds Tryz.pinned (.plain (OpenSpec.ofChange messageDecodesSpec)) messageDecodesCard

/-- THE TIED CARD OF 'dioptrelaw25.MessageEncodes'. -/
def messageEncodesCard : Claim7 := { stood := { row := messageEncodesRow, standIns := [], harness := (true, "e7c748ea46870910a817503d67bb08325ebcfca37ecd3adbb8fa8af361cc8932"), looks := true }, kinds := [], alts := [], laidByText := true, laidKinds := [.handle], laidTests := true, laidLooks := .later }
def MessageEncodesCardSaid : Prop := Claim7.holds Tryz.pinned (.plain (OpenSpec.ofChange messageEncodesSpec)) messageEncodesCard

/-- THE SECOND FORM's CARD OF 'dioptrelaw25.MessageDecodes'. -/
def messageDecodesUptoCard : Claim7 := { stood := { row := messageDecodesUptoRow, standIns := [], harness := (true, "e7c748ea46870910a817503d67bb08325ebcfca37ecd3adbb8fa8af361cc8932"), looks := true }, kinds := [], alts := [], laidByText := true, laidKinds := [.handle], laidTests := true, laidLooks := .later }
def MessageDecodesUptoCardSaid : Prop := Claim7.holds Tryz.pinned (.plain (OpenSpec.upto messageDecodesSpec)) messageDecodesUptoCard

/-- THE SECOND FORM's CARD OF 'dioptrelaw25.MessageEncodes'. -/
def messageEncodesUptoCard : Claim7 := { stood := { row := messageEncodesUptoRow, standIns := [], harness := (true, "e7c748ea46870910a817503d67bb08325ebcfca37ecd3adbb8fa8af361cc8932"), looks := true }, kinds := [], alts := [], laidByText := true, laidKinds := [.handle], laidTests := true, laidLooks := .later }
def MessageEncodesUptoCardSaid : Prop := Claim7.holds Tryz.pinned (.plain (OpenSpec.upto messageEncodesSpec)) messageEncodesUptoCard
end Rows
end Go.Proofs.YtonncfminojejaaGreatDoor
