/-
  No cell of these rows narrows 'for every input' (looked for: loops, veiled, ifaces, maps, wideKeys, modest, calm, conditions, laid).
  DERIVED. THE GIVEN ROWS OF THIS SEAT. 4 by the template 'for every input the law returns true; each argument reads behind the call as it read before'; 0 by the template 'total and deterministic' (their statements: YtonncfminojejaaTotals.lean).
  GIVEN WITH THE SEED: the statements are not yours to turn. If you find one false, say at which input.
  Laid BY PROGRAM, IN A SANDBOX (cutbox-rows.mjs): the forced cells as the released guide's own fill.sh prints them over the translation 6bd9ad5348bcb448… (all of the seat's roots in one cut). By AI agents, Wed Nov 11 2026. No macro, syntax, notation, axiom, sorry.
-/
import Derived.Test.YtonncfminojejaaChecked
import GoSem.Claim
import GoSem.ClaimJoined
import GoSem.ClaimMapViews
import Derived.JoinedTies
import Derived.KernelRfl
namespace Go.Proofs.Ytonncfminojejaa
/- THE CELL 'sum', in the pinned program and in every row, IS THE sha256 OF THE DUMP (.gsa) THAT YtonncfminojejaaProg.lean LOADS. Nothing in Lean hashes anything: it is a label: what it is worth is what the hold of that sum in a sandbox is worth. -/
noncomputable def Try.pinned : Pinned := { name := "ytonncfminojejaa", sum := "6bd9ad5348bcb448824ffa55b882546a559dd148a30853e88223c5271f879472", checked := Try.checked }
namespace Rows
def none {H : Type} : Left H := { results := [], args := [] }

/-- 'dioptrelaw25.MessageApart': WHATEVER THE INPUT: true; the input reads as it did. -/
def messageApartSpec : ChangeSpec := { name := "messageApart", fn := fun _ => fun
  | [d1, d2] => { results := [.lit (.bool true)], args := [d1, d2] }
  | _ => none }
def messageApartRow : OpenClaim := { program := "ytonncfminojejaa", sum := "6bd9ad5348bcb448824ffa55b882546a559dd148a30853e88223c5271f879472", func := "dioptre/dioptrelaw25.MessageApart", spec := "messageApart", unfollowed := true, recurses := true, apart := false }
def MessageApartSaid : Prop := messageApartRow.holds Try.pinned (OpenSpec.ofChange messageApartSpec)

/-- ITS FALSE NEIGHBOUR: 'it returns false'. Refute it at one input. -/
def messageApartWrong : ChangeSpec := { name := "messageApart", fn := fun _ => fun
  | [d1, d2] => { results := [.lit (.bool false)], args := [d1, d2] }
  | _ => none }
def MessageApartWrongFalsely : Prop := messageApartRow.holds Try.pinned (OpenSpec.ofChange messageApartWrong)

/-- 'dioptrelaw25.MessageParts': WHATEVER THE INPUT: true; the input reads as it did. -/
def messagePartsSpec : ChangeSpec := { name := "messageParts", fn := fun _ => fun
  | [d1, d2] => { results := [.lit (.bool true)], args := [d1, d2] }
  | _ => none }
def messagePartsRow : OpenClaim := { program := "ytonncfminojejaa", sum := "6bd9ad5348bcb448824ffa55b882546a559dd148a30853e88223c5271f879472", func := "dioptre/dioptrelaw25.MessageParts", spec := "messageParts", unfollowed := true, recurses := true, apart := false }
def MessagePartsSaid : Prop := messagePartsRow.holds Try.pinned (OpenSpec.ofChange messagePartsSpec)

/-- ITS FALSE NEIGHBOUR: 'it returns false'. Refute it at one input. -/
def messagePartsWrong : ChangeSpec := { name := "messageParts", fn := fun _ => fun
  | [d1, d2] => { results := [.lit (.bool false)], args := [d1, d2] }
  | _ => none }
def MessagePartsWrongFalsely : Prop := messagePartsRow.holds Try.pinned (OpenSpec.ofChange messagePartsWrong)

/-- 'dioptrelaw25.MessageOwn': WHATEVER THE INPUT: true; the input reads as it did. -/
def messageOwnSpec : ChangeSpec := { name := "messageOwn", fn := fun _ => fun
  | [d1, d2] => { results := [.lit (.bool true)], args := [d1, d2] }
  | _ => none }
def messageOwnRow : OpenClaim := { program := "ytonncfminojejaa", sum := "6bd9ad5348bcb448824ffa55b882546a559dd148a30853e88223c5271f879472", func := "dioptre/dioptrelaw25.MessageOwn", spec := "messageOwn", unfollowed := true, recurses := true, apart := false }
def MessageOwnSaid : Prop := messageOwnRow.holds Try.pinned (OpenSpec.ofChange messageOwnSpec)

/-- ITS FALSE NEIGHBOUR: 'it returns false'. Refute it at one input. -/
def messageOwnWrong : ChangeSpec := { name := "messageOwn", fn := fun _ => fun
  | [d1, d2] => { results := [.lit (.bool false)], args := [d1, d2] }
  | _ => none }
def MessageOwnWrongFalsely : Prop := messageOwnRow.holds Try.pinned (OpenSpec.ofChange messageOwnWrong)

/-- 'dioptrelaw26.WaitingOwn': WHATEVER THE INPUT: true; the input reads as it did. -/
def waitingOwnSpec : ChangeSpec := { name := "waitingOwn", fn := fun _ => fun
  | [d1, d2, d3] => { results := [.lit (.bool true)], args := [d1, d2, d3] }
  | _ => none }
def waitingOwnRow : OpenClaim := { program := "ytonncfminojejaa", sum := "6bd9ad5348bcb448824ffa55b882546a559dd148a30853e88223c5271f879472", func := "dioptre/dioptrelaw26.WaitingOwn", spec := "waitingOwn", unfollowed := true, recurses := true, apart := false }
def WaitingOwnSaid : Prop := waitingOwnRow.holds Try.pinned (OpenSpec.ofChange waitingOwnSpec)

/-- ITS FALSE NEIGHBOUR: 'it returns false'. Refute it at one input. -/
def waitingOwnWrong : ChangeSpec := { name := "waitingOwn", fn := fun _ => fun
  | [d1, d2, d3] => { results := [.lit (.bool false)], args := [d1, d2, d3] }
  | _ => none }
def WaitingOwnWrongFalsely : Prop := waitingOwnRow.holds Try.pinned (OpenSpec.ofChange waitingOwnWrong)

/- THE SECOND FORM. 'bulk': how many values and letters a reading holds, each counted each time it is reached (what is shared counts as often as it is met; a slice's spare places count too). A statement '..UptoSaid' is the law's where the arguments, and the package variables that the reading takes, are together of bulk at most 1048576: NARROWER than '..Said'. Prove '..Said' where nothing that the law and all that it calls make is longer than what came in: it says more and counts as full. Else prove '..UptoSaid'. A law counts once. -/
mutual
def uptoBulk {H : Type} : DataW H → Nat
  | .lit (.string bytes) => bytes.length + 1
  | .lit _ => 1
  | .nil => 1
  | .ptr d => uptoBulk d + 1
  | .slice elems spare => uptoBulkAll elems + uptoBulkAll spare + 1
  | .agg parts => uptoBulkAll parts + 1
  | .iface _ d => uptoBulk d + 1
  | .map entries => uptoBulkEntries entries + 1
  | .held _ => 1
def uptoBulkAll {H : Type} : List (DataW H) → Nat
  | [] => 0
  | d :: r => uptoBulk d + uptoBulkAll r
def uptoBulkEntries {H : Type} : List (Lit × DataW H) → Nat
  | [] => 0
  | x :: r => uptoBulkEntry x + uptoBulkEntries r
def uptoBulkEntry {H : Type} : Lit × DataW H → Nat
  | (.string bytes, d) => bytes.length + uptoBulk d + 1
  | (_, d) => uptoBulk d + 1
 end
def uptoSmall : (H : Type) → List (DataW H) → Bool := fun _ ds => decide (uptoBulkAll ds ≤ 1048576)
def OpenSpec.upto (s : _root_.Go.ChangeSpec) : _root_.Go.OpenSpec := { _root_.Go.OpenSpec.ofChange s with cond := some uptoSmall }

/-- 'dioptrelaw25.MessageApart', WHERE WHAT IT READS IS OF BULK AT MOST 1048576: true; the input reads as it did. -/
def messageApartUptoRow : OpenClaim := { program := "ytonncfminojejaa", sum := "6bd9ad5348bcb448824ffa55b882546a559dd148a30853e88223c5271f879472", func := "dioptre/dioptrelaw25.MessageApart", spec := "messageApart", unfollowed := true, recurses := true, apart := false, narrowed := true }
def MessageApartUptoSaid : Prop := messageApartUptoRow.holds Try.pinned (OpenSpec.upto messageApartSpec)

/-- 'dioptrelaw25.MessageParts', WHERE WHAT IT READS IS OF BULK AT MOST 1048576: true; the input reads as it did. -/
def messagePartsUptoRow : OpenClaim := { program := "ytonncfminojejaa", sum := "6bd9ad5348bcb448824ffa55b882546a559dd148a30853e88223c5271f879472", func := "dioptre/dioptrelaw25.MessageParts", spec := "messageParts", unfollowed := true, recurses := true, apart := false, narrowed := true }
def MessagePartsUptoSaid : Prop := messagePartsUptoRow.holds Try.pinned (OpenSpec.upto messagePartsSpec)

/-- 'dioptrelaw25.MessageOwn', WHERE WHAT IT READS IS OF BULK AT MOST 1048576: true; the input reads as it did. -/
def messageOwnUptoRow : OpenClaim := { program := "ytonncfminojejaa", sum := "6bd9ad5348bcb448824ffa55b882546a559dd148a30853e88223c5271f879472", func := "dioptre/dioptrelaw25.MessageOwn", spec := "messageOwn", unfollowed := true, recurses := true, apart := false, narrowed := true }
def MessageOwnUptoSaid : Prop := messageOwnUptoRow.holds Try.pinned (OpenSpec.upto messageOwnSpec)

/-- 'dioptrelaw26.WaitingOwn', WHERE WHAT IT READS IS OF BULK AT MOST 1048576: true; the input reads as it did. -/
def waitingOwnUptoRow : OpenClaim := { program := "ytonncfminojejaa", sum := "6bd9ad5348bcb448824ffa55b882546a559dd148a30853e88223c5271f879472", func := "dioptre/dioptrelaw26.WaitingOwn", spec := "waitingOwn", unfollowed := true, recurses := true, apart := false, narrowed := true }
def WaitingOwnUptoSaid : Prop := waitingOwnUptoRow.holds Try.pinned (OpenSpec.upto waitingOwnSpec)

end Rows
end Go.Proofs.Ytonncfminojejaa
