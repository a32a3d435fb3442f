/-
  DERIVED. GIVEN WITH THE SEED: THE CARDS: each row of YtjjhjhjphhpeiaaGreatDoorRows.lean that lists a variable, with what it lists TIED to the program's text (the seventh form; the later family's looks); each row that meets fmt, with fmt's text TOLD by the authors' own Lean function (tested against real Go, not proved from fmt's source: count such statements apart). THE CARD IS WHAT COUNTS. Prove the row's statement (the work); the ties are given (YtjjhjhjphhpeiaaGreatDoorTie.lean); close each card by the builder's one call (the guide's Derived/Test/ToyasCard.lean, 'card_holds'). Laid BY PROGRAM, IN A SANDBOX (cutbox-door.mjs). By AI agents, Wed Nov 11 2026. No macro, syntax, notation, axiom, sorry.
-/
import Derived.Test.YtjjhjhjphhpeiaaGreatDoorRows
import GoSem.ClaimSeven
namespace Go.Proofs.YtjjhjhjphhpeiaaGreatDoor
namespace Rows

/-- THE TIED CARD OF 'dioptrelaw13.DeltaLeads'. -/
def deltaLeadsCard : Claim7 := { stood := { row := deltaLeadsRow, standIns := [], harness := (true, "c740eb04fdfd7acd85f9f9476558f858626cb98bc9dfd7934c35ffae060c8b02"), looks := true }, kinds := [], alts := [], laidByText := true, laidKinds := [.handle], laidTests := true, laidLooks := .later }
def DeltaLeadsCardSaid : Prop := Claim7.holds Tryz.pinned (.plain (OpenSpec.ofChange deltaLeadsSpec)) deltaLeadsCard

/-- THE TIED CARD OF 'dioptrelaw12.OpChecks'. -/
def opChecksCard : Claim7 := { stood := { row := opChecksRow, standIns := [], harness := (true, "c740eb04fdfd7acd85f9f9476558f858626cb98bc9dfd7934c35ffae060c8b02"), looks := true }, kinds := [], alts := [], laidByText := true, laidKinds := [.handle], laidTests := true, laidLooks := .later }
def OpChecksCardSaid : Prop := Claim7.holds Tryz.pinned (.plain (OpenSpec.ofChange opChecksSpec)) opChecksCard

/-- THE TIED CARD OF 'dioptrelaw12.OpEncodes'. -/
def opEncodesCard : Claim7 := { stood := { row := opEncodesRow, standIns := [], harness := (true, "c740eb04fdfd7acd85f9f9476558f858626cb98bc9dfd7934c35ffae060c8b02"), looks := true }, kinds := [], alts := [], laidByText := true, laidKinds := [.handle], laidTests := true, laidLooks := .later }
def OpEncodesCardSaid : Prop := Claim7.holds Tryz.pinned (.plain (OpenSpec.ofChange opEncodesSpec)) opEncodesCard

/-- THE SECOND FORM's CARD OF 'dioptrelaw13.DeltaLeads'. -/
def deltaLeadsUptoCard : Claim7 := { stood := { row := deltaLeadsUptoRow, standIns := [], harness := (true, "c740eb04fdfd7acd85f9f9476558f858626cb98bc9dfd7934c35ffae060c8b02"), looks := true }, kinds := [], alts := [], laidByText := true, laidKinds := [.handle], laidTests := true, laidLooks := .later }
def DeltaLeadsUptoCardSaid : Prop := Claim7.holds Tryz.pinned (.plain (OpenSpec.upto deltaLeadsSpec)) deltaLeadsUptoCard

/-- THE SECOND FORM's CARD OF 'dioptrelaw12.OpChecks'. -/
def opChecksUptoCard : Claim7 := { stood := { row := opChecksUptoRow, standIns := [], harness := (true, "c740eb04fdfd7acd85f9f9476558f858626cb98bc9dfd7934c35ffae060c8b02"), looks := true }, kinds := [], alts := [], laidByText := true, laidKinds := [.handle], laidTests := true, laidLooks := .later }
def OpChecksUptoCardSaid : Prop := Claim7.holds Tryz.pinned (.plain (OpenSpec.upto opChecksSpec)) opChecksUptoCard

/-- THE SECOND FORM's CARD OF 'dioptrelaw12.OpEncodes'. -/
def opEncodesUptoCard : Claim7 := { stood := { row := opEncodesUptoRow, standIns := [], harness := (true, "c740eb04fdfd7acd85f9f9476558f858626cb98bc9dfd7934c35ffae060c8b02"), looks := true }, kinds := [], alts := [], laidByText := true, laidKinds := [.handle], laidTests := true, laidLooks := .later }
def OpEncodesUptoCardSaid : Prop := Claim7.holds Tryz.pinned (.plain (OpenSpec.upto opEncodesSpec)) opEncodesUptoCard
end Rows
end Go.Proofs.YtjjhjhjphhpeiaaGreatDoor
