/-
  DERIVED. GIVEN WITH THE SEED: THE CARDS: each row of YtogbklnkpjjkoaaGreatDoorRows.lean that lists a variable, with what it lists TIED to the program's text (the seventh form; the later family's looks); each row that meets fmt, with fmt's text TOLD by the authors' own Lean function (tested against real Go, not proved from fmt's source: count such statements apart). THE CARD IS WHAT COUNTS. Prove the row's statement (the work); the ties are given (YtogbklnkpjjkoaaGreatDoorTie.lean); close each card by the builder's one call (the guide's Derived/Test/ToyasCard.lean, 'card_holds'). Laid BY PROGRAM, IN A SANDBOX (cutbox-door.mjs). By AI agents, Wed Nov 11 2026. No macro, syntax, notation, axiom, sorry.
-/
import Derived.Test.YtogbklnkpjjkoaaGreatDoorRows
import GoSem.ClaimSeven
namespace Go.Proofs.YtogbklnkpjjkoaaGreatDoor
namespace Rows

/-- THE TIED CARD OF 'dioptrelaw20.RegistryPaths'. -/
def registryPathsCard : Claim7 := { stood := { row := registryPathsRow, standIns := [], harness := (true, "8e1e9bf1caf993f9b59b45c7c48bbea0a1f7fcf5a0ea021cbe59d602a18fc508"), looks := true }, kinds := [], alts := [], laidByText := true, laidKinds := [.handle], laidTests := true, laidLooks := .later }
def RegistryPathsCardSaid : Prop := Claim7.holds Tryz.pinned (.plain (OpenSpec.ofChange registryPathsSpec)) registryPathsCard

/-- THE TIED CARD OF 'dioptrelaw20.RegistryTurned'. -/
def registryTurnedCard : Claim7 := { stood := { row := registryTurnedRow, standIns := [], harness := (true, "8e1e9bf1caf993f9b59b45c7c48bbea0a1f7fcf5a0ea021cbe59d602a18fc508"), looks := true }, kinds := [], alts := [], laidByText := true, laidKinds := [.handle], laidTests := true, laidLooks := .later }
def RegistryTurnedCardSaid : Prop := Claim7.holds Tryz.pinned (.plain (OpenSpec.ofChange registryTurnedSpec)) registryTurnedCard

/-- THE TIED CARD OF 'dioptrelaw20.RegistryCopies'. -/
def registryCopiesCard : Claim7 := { stood := { row := registryCopiesRow, standIns := [], harness := (true, "8e1e9bf1caf993f9b59b45c7c48bbea0a1f7fcf5a0ea021cbe59d602a18fc508"), looks := true }, kinds := [], alts := [], laidByText := true, laidKinds := [.handle], laidTests := true, laidLooks := .later }
def RegistryCopiesCardSaid : Prop := Claim7.holds Tryz.pinned (.plain (OpenSpec.ofChange registryCopiesSpec)) registryCopiesCard

/-- THE TIED CARD OF 'dioptrelaw20.RegistryAdds'. -/
def registryAddsCard : Claim7 := { stood := { row := registryAddsRow, standIns := [], harness := (true, "8e1e9bf1caf993f9b59b45c7c48bbea0a1f7fcf5a0ea021cbe59d602a18fc508"), looks := true }, kinds := [], alts := [], laidByText := true, laidKinds := [.handle], laidTests := true, laidLooks := .later }
def RegistryAddsCardSaid : Prop := Claim7.holds Tryz.pinned (.plain (OpenSpec.ofChange registryAddsSpec)) registryAddsCard

/-- THE TIED CARD OF 'dioptrelaw20.RegistryNone'. -/
def registryNoneCard : Claim7 := { stood := { row := registryNoneRow, standIns := [], harness := (true, "8e1e9bf1caf993f9b59b45c7c48bbea0a1f7fcf5a0ea021cbe59d602a18fc508"), looks := true }, kinds := [], alts := [], laidByText := true, laidKinds := [.handle], laidTests := true, laidLooks := .later }
def RegistryNoneCardSaid : Prop := Claim7.holds Tryz.pinned (.plain (OpenSpec.ofChange registryNoneSpec)) registryNoneCard

/-- THE SECOND FORM's CARD OF 'dioptrelaw20.RegistryPaths'. -/
def registryPathsUptoCard : Claim7 := { stood := { row := registryPathsUptoRow, standIns := [], harness := (true, "8e1e9bf1caf993f9b59b45c7c48bbea0a1f7fcf5a0ea021cbe59d602a18fc508"), looks := true }, kinds := [], alts := [], laidByText := true, laidKinds := [.handle], laidTests := true, laidLooks := .later }
def RegistryPathsUptoCardSaid : Prop := Claim7.holds Tryz.pinned (.plain (OpenSpec.upto registryPathsSpec)) registryPathsUptoCard

/-- THE SECOND FORM's CARD OF 'dioptrelaw20.RegistryTurned'. -/
def registryTurnedUptoCard : Claim7 := { stood := { row := registryTurnedUptoRow, standIns := [], harness := (true, "8e1e9bf1caf993f9b59b45c7c48bbea0a1f7fcf5a0ea021cbe59d602a18fc508"), looks := true }, kinds := [], alts := [], laidByText := true, laidKinds := [.handle], laidTests := true, laidLooks := .later }
def RegistryTurnedUptoCardSaid : Prop := Claim7.holds Tryz.pinned (.plain (OpenSpec.upto registryTurnedSpec)) registryTurnedUptoCard

/-- THE SECOND FORM's CARD OF 'dioptrelaw20.RegistryCopies'. -/
def registryCopiesUptoCard : Claim7 := { stood := { row := registryCopiesUptoRow, standIns := [], harness := (true, "8e1e9bf1caf993f9b59b45c7c48bbea0a1f7fcf5a0ea021cbe59d602a18fc508"), looks := true }, kinds := [], alts := [], laidByText := true, laidKinds := [.handle], laidTests := true, laidLooks := .later }
def RegistryCopiesUptoCardSaid : Prop := Claim7.holds Tryz.pinned (.plain (OpenSpec.upto registryCopiesSpec)) registryCopiesUptoCard

/-- THE SECOND FORM's CARD OF 'dioptrelaw20.RegistryAdds'. -/
def registryAddsUptoCard : Claim7 := { stood := { row := registryAddsUptoRow, standIns := [], harness := (true, "8e1e9bf1caf993f9b59b45c7c48bbea0a1f7fcf5a0ea021cbe59d602a18fc508"), looks := true }, kinds := [], alts := [], laidByText := true, laidKinds := [.handle], laidTests := true, laidLooks := .later }
def RegistryAddsUptoCardSaid : Prop := Claim7.holds Tryz.pinned (.plain (OpenSpec.upto registryAddsSpec)) registryAddsUptoCard

/-- THE SECOND FORM's CARD OF 'dioptrelaw20.RegistryNone'. -/
def registryNoneUptoCard : Claim7 := { stood := { row := registryNoneUptoRow, standIns := [], harness := (true, "8e1e9bf1caf993f9b59b45c7c48bbea0a1f7fcf5a0ea021cbe59d602a18fc508"), looks := true }, kinds := [], alts := [], laidByText := true, laidKinds := [.handle], laidTests := true, laidLooks := .later }
def RegistryNoneUptoCardSaid : Prop := Claim7.holds Tryz.pinned (.plain (OpenSpec.upto registryNoneSpec)) registryNoneUptoCard
end Rows
end Go.Proofs.YtogbklnkpjjkoaaGreatDoor
