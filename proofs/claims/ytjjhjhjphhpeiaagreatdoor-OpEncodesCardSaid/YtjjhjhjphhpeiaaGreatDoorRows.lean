/-
  NARROWER THAN 'FOR EVERY INPUT', by the rows' own cells (each row's printed sentence says how): DeltaLeads: loops, laid · OpChecks: loops, laid · OpEncodes: loops, laid.
  DERIVED. THE GIVEN ROWS OF THIS SEAT. 3 by the template 'for every input the law returns true; each argument reads behind the call as it read before'; 0 by the template 'total and deterministic' (their statements: YtjjhjhjphhpeiaaGreatDoorTotals.lean).
  GIVEN WITH THE SEED: the statements are not yours to turn. If you find one false, say at which input.
  Laid BY PROGRAM, IN A SANDBOX (cutbox-rows.mjs): the forced cells as the released guide's own fill.sh prints them over the translation e54c4f74fdfd8e41… (all of the seat's roots in one cut). By AI agents, Wed Nov 11 2026. No macro, syntax, notation, axiom, sorry.
-/
import Derived.Test.YtjjhjhjphhpeiaaGreatDoorChecked
import GoSem.Claim
import GoSem.ClaimJoined
import GoSem.ClaimMapViews
import Derived.JoinedTies
import Derived.KernelRfl
namespace Go.Proofs.YtjjhjhjphhpeiaaGreatDoor
/- THE CELL 'sum', in the pinned program and in every row, IS THE sha256 OF THE DUMP (.gsa) THAT YtjjhjhjphhpeiaaGreatDoorProg.lean LOADS. Nothing in Lean hashes anything: it is a label: what it is worth is what the hold of that sum in a sandbox is worth. -/
noncomputable def Tryz.pinned : Pinned := { name := "ytjjhjhjphhpeiaagreatdoor", sum := "e54c4f74fdfd8e4122a8600ba61b2c081585bcbe267fca4be6ba15650f1cef93", checked := Tryz.checked }
namespace Rows
def none {H : Type} : Left H := { results := [], args := [] }

/- WHAT THE LISTED PACKAGE-LEVEL VARIABLES READ AS WHEN THE CALL BEGINS. Each datum BY PROGRAM (the guide's laid-datum.mjs) off the statement by which the dump's own 'gosem.cut.vars' lays the variable. In a bare row this is a premise. The card (YtjjhjhjphhpeiaaGreatDoorCards.lean) ties it to the program's text. -/
def laid_errors_errorType {H : Type} : DataW H := .iface "internal/reflectlite.rtype" (.agg [.ptr (.lit (.string [101, 114, 114, 111, 114]))])

/-- 'dioptrelaw13.DeltaLeads': WHATEVER THE INPUT: true; the input reads as it did. -/
def deltaLeadsSpec : ChangeSpec := { name := "deltaLeads", fn := fun _ => fun
  | [d1, d2, d3] => { results := [.lit (.bool true)], args := [d1, d2, d3] }
  | _ => none }
def deltaLeadsRow : OpenClaim := { program := "ytjjhjhjphhpeiaagreatdoor", sum := "e54c4f74fdfd8e4122a8600ba61b2c081585bcbe267fca4be6ba15650f1cef93", func := "dioptre/dioptrelaw13.DeltaLeads", spec := "deltaLeads", inPlace := ["slices.overlaps[uint64]", "internal/reflectlite.ValueOf", "(internal/reflectlite.Value).Type", "(internal/reflectlite.Value).IsNil", "internal/reflectlite.TypeOf", "(internal/reflectlite.Value).Elem", "(internal/reflectlite.Value).Set"], unfollowed := true, recurses := true, named := ["errors.errorType"], loops := true, apart := false, laid := [("errors.errorType", laid_errors_errorType)] }
def DeltaLeadsSaid : Prop := deltaLeadsRow.holds Tryz.pinned (OpenSpec.ofChange deltaLeadsSpec)

/-- ITS FALSE NEIGHBOUR: 'it returns false'. Refute it at one input. -/
def deltaLeadsWrong : ChangeSpec := { name := "deltaLeads", fn := fun _ => fun
  | [d1, d2, d3] => { results := [.lit (.bool false)], args := [d1, d2, d3] }
  | _ => none }
def DeltaLeadsWrongFalsely : Prop := deltaLeadsRow.holds Tryz.pinned (OpenSpec.ofChange deltaLeadsWrong)

/-- 'dioptrelaw12.OpChecks': WHATEVER THE INPUT: true; the input reads as it did. -/
def opChecksSpec : ChangeSpec := { name := "opChecks", fn := fun _ => fun
  | [d1, d2, d3] => { results := [.lit (.bool true)], args := [d1, d2, d3] }
  | _ => none }
def opChecksRow : OpenClaim := { program := "ytjjhjhjphhpeiaagreatdoor", sum := "e54c4f74fdfd8e4122a8600ba61b2c081585bcbe267fca4be6ba15650f1cef93", func := "dioptre/dioptrelaw12.OpChecks", spec := "opChecks", inPlace := ["slices.overlaps[uint64]", "slices.overlaps[dioptre/api.Value]", "internal/reflectlite.ValueOf", "(internal/reflectlite.Value).Type", "(internal/reflectlite.Value).IsNil", "internal/reflectlite.TypeOf", "(internal/reflectlite.Value).Elem", "(internal/reflectlite.Value).Set"], unfollowed := true, recurses := true, named := ["errors.errorType"], loops := true, apart := false, laid := [("errors.errorType", laid_errors_errorType)] }
def OpChecksSaid : Prop := opChecksRow.holds Tryz.pinned (OpenSpec.ofChange opChecksSpec)

/-- ITS FALSE NEIGHBOUR: 'it returns false'. Refute it at one input. -/
def opChecksWrong : ChangeSpec := { name := "opChecks", fn := fun _ => fun
  | [d1, d2, d3] => { results := [.lit (.bool false)], args := [d1, d2, d3] }
  | _ => none }
def OpChecksWrongFalsely : Prop := opChecksRow.holds Tryz.pinned (OpenSpec.ofChange opChecksWrong)

/-- 'dioptrelaw12.OpEncodes': WHATEVER THE INPUT: true; the input reads as it did. -/
def opEncodesSpec : ChangeSpec := { name := "opEncodes", fn := fun _ => fun
  | [d] => { results := [.lit (.bool true)], args := [d] }
  | _ => none }
def opEncodesRow : OpenClaim := { program := "ytjjhjhjphhpeiaagreatdoor", sum := "e54c4f74fdfd8e4122a8600ba61b2c081585bcbe267fca4be6ba15650f1cef93", func := "dioptre/dioptrelaw12.OpEncodes", spec := "opEncodes", inPlace := ["slices.overlaps[uint64]", "slices.overlaps[dioptre/api.Value]", "internal/reflectlite.ValueOf", "(internal/reflectlite.Value).Type", "(internal/reflectlite.Value).IsNil", "internal/reflectlite.TypeOf", "(internal/reflectlite.Value).Elem", "(internal/reflectlite.Value).Set"], unfollowed := true, recurses := true, named := ["errors.errorType"], loops := true, apart := false, laid := [("errors.errorType", laid_errors_errorType)] }
def OpEncodesSaid : Prop := opEncodesRow.holds Tryz.pinned (OpenSpec.ofChange opEncodesSpec)

/-- ITS FALSE NEIGHBOUR: 'it returns false'. Refute it at one input. -/
def opEncodesWrong : ChangeSpec := { name := "opEncodes", fn := fun _ => fun
  | [d] => { results := [.lit (.bool false)], args := [d] }
  | _ => none }
def OpEncodesWrongFalsely : Prop := opEncodesRow.holds Tryz.pinned (OpenSpec.ofChange opEncodesWrong)

/- THE SECOND FORM. 'bulk': how many values and letters a reading holds, each counted each time it is reached (what is shared counts as often as it is met; a slice's spare places count too). A statement '..UptoSaid' is the law's where the arguments, and the package variables that the reading takes, are together of bulk at most 1048576: NARROWER than '..Said'. Prove '..Said' where nothing that the law and all that it calls make is longer than what came in: it says more and counts as full. Else prove '..UptoSaid'. A law counts once. -/
mutual
def uptoBulk {H : Type} : DataW H → Nat
  | .lit (.string bytes) => bytes.length + 1
  | .lit _ => 1
  | .nil => 1
  | .ptr d => uptoBulk d + 1
  | .slice elems spare => uptoBulkAll elems + uptoBulkAll spare + 1
  | .agg parts => uptoBulkAll parts + 1
  | .iface _ d => uptoBulk d + 1
  | .map entries => uptoBulkEntries entries + 1
  | .held _ => 1
def uptoBulkAll {H : Type} : List (DataW H) → Nat
  | [] => 0
  | d :: r => uptoBulk d + uptoBulkAll r
def uptoBulkEntries {H : Type} : List (Lit × DataW H) → Nat
  | [] => 0
  | x :: r => uptoBulkEntry x + uptoBulkEntries r
def uptoBulkEntry {H : Type} : Lit × DataW H → Nat
  | (.string bytes, d) => bytes.length + uptoBulk d + 1
  | (_, d) => uptoBulk d + 1
 end
def uptoSmall : (H : Type) → List (DataW H) → Bool := fun _ ds => decide (uptoBulkAll ds ≤ 1048576)
def OpenSpec.upto (s : _root_.Go.ChangeSpec) : _root_.Go.OpenSpec := { _root_.Go.OpenSpec.ofChange s with cond := some uptoSmall }

/-- 'dioptrelaw13.DeltaLeads', WHERE WHAT IT READS IS OF BULK AT MOST 1048576: true; the input reads as it did. -/
def deltaLeadsUptoRow : OpenClaim := { program := "ytjjhjhjphhpeiaagreatdoor", sum := "e54c4f74fdfd8e4122a8600ba61b2c081585bcbe267fca4be6ba15650f1cef93", func := "dioptre/dioptrelaw13.DeltaLeads", spec := "deltaLeads", inPlace := ["slices.overlaps[uint64]", "internal/reflectlite.ValueOf", "(internal/reflectlite.Value).Type", "(internal/reflectlite.Value).IsNil", "internal/reflectlite.TypeOf", "(internal/reflectlite.Value).Elem", "(internal/reflectlite.Value).Set"], unfollowed := true, recurses := true, named := ["errors.errorType"], loops := true, apart := false, laid := [("errors.errorType", laid_errors_errorType)], narrowed := true }
def DeltaLeadsUptoSaid : Prop := deltaLeadsUptoRow.holds Tryz.pinned (OpenSpec.upto deltaLeadsSpec)

/-- 'dioptrelaw12.OpChecks', WHERE WHAT IT READS IS OF BULK AT MOST 1048576: true; the input reads as it did. -/
def opChecksUptoRow : OpenClaim := { program := "ytjjhjhjphhpeiaagreatdoor", sum := "e54c4f74fdfd8e4122a8600ba61b2c081585bcbe267fca4be6ba15650f1cef93", func := "dioptre/dioptrelaw12.OpChecks", spec := "opChecks", inPlace := ["slices.overlaps[uint64]", "slices.overlaps[dioptre/api.Value]", "internal/reflectlite.ValueOf", "(internal/reflectlite.Value).Type", "(internal/reflectlite.Value).IsNil", "internal/reflectlite.TypeOf", "(internal/reflectlite.Value).Elem", "(internal/reflectlite.Value).Set"], unfollowed := true, recurses := true, named := ["errors.errorType"], loops := true, apart := false, laid := [("errors.errorType", laid_errors_errorType)], narrowed := true }
def OpChecksUptoSaid : Prop := opChecksUptoRow.holds Tryz.pinned (OpenSpec.upto opChecksSpec)

/-- 'dioptrelaw12.OpEncodes', WHERE WHAT IT READS IS OF BULK AT MOST 1048576: true; the input reads as it did. -/
def opEncodesUptoRow : OpenClaim := { program := "ytjjhjhjphhpeiaagreatdoor", sum := "e54c4f74fdfd8e4122a8600ba61b2c081585bcbe267fca4be6ba15650f1cef93", func := "dioptre/dioptrelaw12.OpEncodes", spec := "opEncodes", inPlace := ["slices.overlaps[uint64]", "slices.overlaps[dioptre/api.Value]", "internal/reflectlite.ValueOf", "(internal/reflectlite.Value).Type", "(internal/reflectlite.Value).IsNil", "internal/reflectlite.TypeOf", "(internal/reflectlite.Value).Elem", "(internal/reflectlite.Value).Set"], unfollowed := true, recurses := true, named := ["errors.errorType"], loops := true, apart := false, laid := [("errors.errorType", laid_errors_errorType)], narrowed := true }
def OpEncodesUptoSaid : Prop := opEncodesUptoRow.holds Tryz.pinned (OpenSpec.upto opEncodesSpec)

end Rows
end Go.Proofs.YtjjhjhjphhpeiaaGreatDoor
