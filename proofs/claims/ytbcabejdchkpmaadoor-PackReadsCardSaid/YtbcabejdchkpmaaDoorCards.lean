/-
  DERIVED. GIVEN WITH THE SEED: THE CARDS: each row of YtbcabejdchkpmaaDoorRows.lean that lists a variable, with what it lists TIED to the program's text (the seventh form; the later family's looks); each row that meets fmt, with fmt's text TOLD by the authors' own Lean function (tested against real Go, not proved from fmt's source: count such statements apart). THE CARD IS WHAT COUNTS. Prove the row's statement (the work); the ties are given (YtbcabejdchkpmaaDoorTie.lean); close each card by the builder's one call (the guide's Derived/Test/ToyasCard.lean, 'card_holds'). Laid BY PROGRAM, IN A SANDBOX (cutbox-door.mjs). By AI agents, Wed Nov 11 2026. No macro, syntax, notation, axiom, sorry.
-/
import Derived.Test.YtbcabejdchkpmaaDoorRows
import GoSem.ClaimSeven
namespace Go.Proofs.YtbcabejdchkpmaaDoor
namespace Rows

/-- THE TIED CARD OF 'dioptrelaw02.PackNone'. -/
def packNoneCard : Claim7 := { stood := { row := packNoneRow, standIns := [], harness := (true, "0a2fd4c68c17ccfc94f0d10e5c6b911ba50bf358827fe6f05e4c4ea179673e86"), looks := true }, kinds := [], alts := [], laidByText := true, laidKinds := [.handle], laidTests := true, laidLooks := .later }
def PackNoneCardSaid : Prop := Claim7.holds Tryd.pinned (.plain (OpenSpec.ofChange packNoneSpec)) packNoneCard

/-- THE TIED CARD OF 'dioptrelaw02.PackReads'. -/
def packReadsCard : Claim7 := { stood := { row := packReadsRow, standIns := [], harness := (true, "0a2fd4c68c17ccfc94f0d10e5c6b911ba50bf358827fe6f05e4c4ea179673e86"), looks := true }, kinds := [], alts := [], laidByText := true, laidKinds := [.handle], laidTests := true, laidLooks := .later }
def PackReadsCardSaid : Prop := Claim7.holds Tryd.pinned (.plain (OpenSpec.ofChange packReadsSpec)) packReadsCard

/-- THE TIED CARD OF 'dioptrelaw09.SchemaEncodes'. -/
def schemaEncodesCard : Claim7 := { stood := { row := schemaEncodesRow, standIns := [], harness := (true, "0a2fd4c68c17ccfc94f0d10e5c6b911ba50bf358827fe6f05e4c4ea179673e86"), looks := true }, kinds := [], alts := [], laidByText := true, laidKinds := [.handle], laidTests := true, laidLooks := .later }
def SchemaEncodesCardSaid : Prop := Claim7.holds Tryd.pinned (.plain (OpenSpec.ofChange schemaEncodesSpec)) schemaEncodesCard

/-- THE SECOND FORM's CARD OF 'dioptrelaw02.PackNone'. -/
def packNoneUptoCard : Claim7 := { stood := { row := packNoneUptoRow, standIns := [], harness := (true, "0a2fd4c68c17ccfc94f0d10e5c6b911ba50bf358827fe6f05e4c4ea179673e86"), looks := true }, kinds := [], alts := [], laidByText := true, laidKinds := [.handle], laidTests := true, laidLooks := .later }
def PackNoneUptoCardSaid : Prop := Claim7.holds Tryd.pinned (.plain (OpenSpec.upto packNoneSpec)) packNoneUptoCard

/-- THE SECOND FORM's CARD OF 'dioptrelaw02.PackReads'. -/
def packReadsUptoCard : Claim7 := { stood := { row := packReadsUptoRow, standIns := [], harness := (true, "0a2fd4c68c17ccfc94f0d10e5c6b911ba50bf358827fe6f05e4c4ea179673e86"), looks := true }, kinds := [], alts := [], laidByText := true, laidKinds := [.handle], laidTests := true, laidLooks := .later }
def PackReadsUptoCardSaid : Prop := Claim7.holds Tryd.pinned (.plain (OpenSpec.upto packReadsSpec)) packReadsUptoCard

/-- THE SECOND FORM's CARD OF 'dioptrelaw09.SchemaEncodes'. -/
def schemaEncodesUptoCard : Claim7 := { stood := { row := schemaEncodesUptoRow, standIns := [], harness := (true, "0a2fd4c68c17ccfc94f0d10e5c6b911ba50bf358827fe6f05e4c4ea179673e86"), looks := true }, kinds := [], alts := [], laidByText := true, laidKinds := [.handle], laidTests := true, laidLooks := .later }
def SchemaEncodesUptoCardSaid : Prop := Claim7.holds Tryd.pinned (.plain (OpenSpec.upto schemaEncodesSpec)) schemaEncodesUptoCard
end Rows
end Go.Proofs.YtbcabejdchkpmaaDoor
