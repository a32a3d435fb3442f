/-
  DERIVED. GIVEN WITH THE SEED: THE CARDS: each row of YtonncfminojejaaDoorRows.lean that lists a variable, with what it lists TIED to the program's text (the seventh form; the later family's looks); each row that meets fmt, with fmt's text TOLD by the authors' own Lean function (tested against real Go, not proved from fmt's source: count such statements apart). THE CARD IS WHAT COUNTS. Prove the row's statement (the work); the ties are given (YtonncfminojejaaDoorTie.lean); close each card by the builder's one call (the guide's Derived/Test/ToyasCard.lean, 'card_holds'). Laid BY PROGRAM, IN A SANDBOX (cutbox-door.mjs). By AI agents, Wed Nov 11 2026. No macro, syntax, notation, axiom, sorry.
-/
import Derived.Test.YtonncfminojejaaDoorRows
import GoSem.ClaimSeven
namespace Go.Proofs.YtonncfminojejaaDoor
namespace Rows

/-- THE TIED CARD OF 'dioptrelaw26.WaitingKeeps'. -/
def waitingKeepsCard : Claim7 := { stood := { row := waitingKeepsRow, standIns := [], harness := (true, "d1ac147c676c53b52e8e1657ced1aedd57f1addb14244fb43c9434e9644d42ea"), looks := true }, kinds := [], alts := [], laidByText := true, laidKinds := [.handle], laidTests := true, laidLooks := .later }
def WaitingKeepsCardSaid : Prop := Claim7.holds Tryd.pinned (.plain (OpenSpec.ofChange waitingKeepsSpec)) waitingKeepsCard

/-- THE TIED CARD OF 'dioptrelaw26.WaitingPlays'. -/
def waitingPlaysCard : Claim7 := { stood := { row := waitingPlaysRow, standIns := [], harness := (true, "d1ac147c676c53b52e8e1657ced1aedd57f1addb14244fb43c9434e9644d42ea"), looks := true }, kinds := [], alts := [], laidByText := true, laidKinds := [.handle], laidTests := true, laidLooks := .later }
def WaitingPlaysCardSaid : Prop := Claim7.holds Tryd.pinned (.plain (OpenSpec.ofChange waitingPlaysSpec)) waitingPlaysCard

/-- THE TIED CARD OF 'dioptrelaw26.WaitingNone'. -/
def waitingNoneCard : Claim7 := { stood := { row := waitingNoneRow, standIns := [], harness := (true, "d1ac147c676c53b52e8e1657ced1aedd57f1addb14244fb43c9434e9644d42ea"), looks := true }, kinds := [], alts := [], laidByText := true, laidKinds := [.handle], laidTests := true, laidLooks := .later }
def WaitingNoneCardSaid : Prop := Claim7.holds Tryd.pinned (.plain (OpenSpec.ofChange waitingNoneSpec)) waitingNoneCard

/-- THE SECOND FORM's CARD OF 'dioptrelaw26.WaitingKeeps'. -/
def waitingKeepsUptoCard : Claim7 := { stood := { row := waitingKeepsUptoRow, standIns := [], harness := (true, "d1ac147c676c53b52e8e1657ced1aedd57f1addb14244fb43c9434e9644d42ea"), looks := true }, kinds := [], alts := [], laidByText := true, laidKinds := [.handle], laidTests := true, laidLooks := .later }
def WaitingKeepsUptoCardSaid : Prop := Claim7.holds Tryd.pinned (.plain (OpenSpec.upto waitingKeepsSpec)) waitingKeepsUptoCard

/-- THE SECOND FORM's CARD OF 'dioptrelaw26.WaitingPlays'. -/
def waitingPlaysUptoCard : Claim7 := { stood := { row := waitingPlaysUptoRow, standIns := [], harness := (true, "d1ac147c676c53b52e8e1657ced1aedd57f1addb14244fb43c9434e9644d42ea"), looks := true }, kinds := [], alts := [], laidByText := true, laidKinds := [.handle], laidTests := true, laidLooks := .later }
def WaitingPlaysUptoCardSaid : Prop := Claim7.holds Tryd.pinned (.plain (OpenSpec.upto waitingPlaysSpec)) waitingPlaysUptoCard

/-- THE SECOND FORM's CARD OF 'dioptrelaw26.WaitingNone'. -/
def waitingNoneUptoCard : Claim7 := { stood := { row := waitingNoneUptoRow, standIns := [], harness := (true, "d1ac147c676c53b52e8e1657ced1aedd57f1addb14244fb43c9434e9644d42ea"), looks := true }, kinds := [], alts := [], laidByText := true, laidKinds := [.handle], laidTests := true, laidLooks := .later }
def WaitingNoneUptoCardSaid : Prop := Claim7.holds Tryd.pinned (.plain (OpenSpec.upto waitingNoneSpec)) waitingNoneUptoCard
end Rows
end Go.Proofs.YtonncfminojejaaDoor
