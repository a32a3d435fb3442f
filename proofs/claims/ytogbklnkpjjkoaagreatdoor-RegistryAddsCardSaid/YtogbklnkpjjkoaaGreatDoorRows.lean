/-
  NARROWER THAN 'FOR EVERY INPUT', by the rows' own cells (each row's printed sentence says how): RegistryPaths: loops, laid · RegistryTurned: loops, laid · RegistryCopies: loops, laid · RegistryAdds: loops, laid · RegistryNone: loops, laid.
  DERIVED. THE GIVEN ROWS OF THIS SEAT. 5 by the template 'for every input the law returns true; each argument reads behind the call as it read before'; 0 by the template 'total and deterministic' (their statements: YtogbklnkpjjkoaaGreatDoorTotals.lean).
  GIVEN WITH THE SEED: the statements are not yours to turn. If you find one false, say at which input.
  Laid BY PROGRAM, IN A SANDBOX (cutbox-rows.mjs): the forced cells as the released guide's own fill.sh prints them over the translation 60dba99636216ad9… (all of the seat's roots in one cut). By AI agents, Wed Nov 11 2026. No macro, syntax, notation, axiom, sorry.
-/
import Derived.Test.YtogbklnkpjjkoaaGreatDoorChecked
import GoSem.Claim
import GoSem.ClaimJoined
import GoSem.ClaimMapViews
import Derived.JoinedTies
import Derived.KernelRfl
namespace Go.Proofs.YtogbklnkpjjkoaaGreatDoor
/- THE CELL 'sum', in the pinned program and in every row, IS THE sha256 OF THE DUMP (.gsa) THAT YtogbklnkpjjkoaaGreatDoorProg.lean LOADS. Nothing in Lean hashes anything: it is a label: what it is worth is what the hold of that sum in a sandbox is worth. -/
noncomputable def Tryz.pinned : Pinned := { name := "ytogbklnkpjjkoaagreatdoor", sum := "60dba99636216ad9ce7618d767801b4ce4e732337a0f08a9873d086a2c958667", checked := Tryz.checked }
namespace Rows
def none {H : Type} : Left H := { results := [], args := [] }

/- WHAT THE LISTED PACKAGE-LEVEL VARIABLES READ AS WHEN THE CALL BEGINS. Each datum BY PROGRAM (the guide's laid-datum.mjs) off the statement by which the dump's own 'gosem.cut.vars' lays the variable. In a bare row this is a premise. The card (YtogbklnkpjjkoaaGreatDoorCards.lean) ties it to the program's text. -/
def laid_errors_errorType {H : Type} : DataW H := .iface "internal/reflectlite.rtype" (.agg [.ptr (.lit (.string [101, 114, 114, 111, 114]))])

/-- 'dioptrelaw20.RegistryPaths': WHATEVER THE INPUT: true; the input reads as it did. -/
def registryPathsSpec : ChangeSpec := { name := "registryPaths", fn := fun _ => fun
  | [d1, d2] => { results := [.lit (.bool true)], args := [d1, d2] }
  | _ => none }
def registryPathsRow : OpenClaim := { program := "ytogbklnkpjjkoaagreatdoor", sum := "60dba99636216ad9ce7618d767801b4ce4e732337a0f08a9873d086a2c958667", func := "dioptre/dioptrelaw20.RegistryPaths", spec := "registryPaths", inPlace := ["slices.overlaps[string]", "slices.overlaps[dioptre/api.Schema]", "internal/reflectlite.ValueOf", "(internal/reflectlite.Value).Type", "(internal/reflectlite.Value).IsNil", "internal/reflectlite.TypeOf", "(internal/reflectlite.Value).Elem", "(internal/reflectlite.Value).Set"], unfollowed := true, recurses := true, named := ["errors.errorType"], loops := true, plainKeys := false, apart := false, laid := [("errors.errorType", laid_errors_errorType)] }
def RegistryPathsSaid : Prop := registryPathsRow.holds Tryz.pinned (OpenSpec.ofChange registryPathsSpec)

/-- ITS FALSE NEIGHBOUR: 'it returns false'. Refute it at one input. -/
def registryPathsWrong : ChangeSpec := { name := "registryPaths", fn := fun _ => fun
  | [d1, d2] => { results := [.lit (.bool false)], args := [d1, d2] }
  | _ => none }
def RegistryPathsWrongFalsely : Prop := registryPathsRow.holds Tryz.pinned (OpenSpec.ofChange registryPathsWrong)

/-- 'dioptrelaw20.RegistryTurned': WHATEVER THE INPUT: true; the input reads as it did. -/
def registryTurnedSpec : ChangeSpec := { name := "registryTurned", fn := fun _ => fun
  | [d1, d2] => { results := [.lit (.bool true)], args := [d1, d2] }
  | _ => none }
def registryTurnedRow : OpenClaim := { program := "ytogbklnkpjjkoaagreatdoor", sum := "60dba99636216ad9ce7618d767801b4ce4e732337a0f08a9873d086a2c958667", func := "dioptre/dioptrelaw20.RegistryTurned", spec := "registryTurned", inPlace := ["slices.overlaps[string]", "slices.overlaps[dioptre/api.Schema]", "internal/reflectlite.ValueOf", "(internal/reflectlite.Value).Type", "(internal/reflectlite.Value).IsNil", "internal/reflectlite.TypeOf", "(internal/reflectlite.Value).Elem", "(internal/reflectlite.Value).Set"], unfollowed := true, recurses := true, named := ["errors.errorType"], loops := true, plainKeys := false, apart := false, laid := [("errors.errorType", laid_errors_errorType)] }
def RegistryTurnedSaid : Prop := registryTurnedRow.holds Tryz.pinned (OpenSpec.ofChange registryTurnedSpec)

/-- ITS FALSE NEIGHBOUR: 'it returns false'. Refute it at one input. -/
def registryTurnedWrong : ChangeSpec := { name := "registryTurned", fn := fun _ => fun
  | [d1, d2] => { results := [.lit (.bool false)], args := [d1, d2] }
  | _ => none }
def RegistryTurnedWrongFalsely : Prop := registryTurnedRow.holds Tryz.pinned (OpenSpec.ofChange registryTurnedWrong)

/-- 'dioptrelaw20.RegistryCopies': WHATEVER THE INPUT: true; the input reads as it did. -/
def registryCopiesSpec : ChangeSpec := { name := "registryCopies", fn := fun _ => fun
  | [d1, d2, d3] => { results := [.lit (.bool true)], args := [d1, d2, d3] }
  | _ => none }
def registryCopiesRow : OpenClaim := { program := "ytogbklnkpjjkoaagreatdoor", sum := "60dba99636216ad9ce7618d767801b4ce4e732337a0f08a9873d086a2c958667", func := "dioptre/dioptrelaw20.RegistryCopies", spec := "registryCopies", inPlace := ["slices.overlaps[string]", "slices.overlaps[dioptre/api.Schema]", "internal/reflectlite.ValueOf", "(internal/reflectlite.Value).Type", "(internal/reflectlite.Value).IsNil", "internal/reflectlite.TypeOf", "(internal/reflectlite.Value).Elem", "(internal/reflectlite.Value).Set"], unfollowed := true, recurses := true, named := ["errors.errorType"], loops := true, plainKeys := false, apart := false, laid := [("errors.errorType", laid_errors_errorType)] }
def RegistryCopiesSaid : Prop := registryCopiesRow.holds Tryz.pinned (OpenSpec.ofChange registryCopiesSpec)

/-- ITS FALSE NEIGHBOUR: 'it returns false'. Refute it at one input. -/
def registryCopiesWrong : ChangeSpec := { name := "registryCopies", fn := fun _ => fun
  | [d1, d2, d3] => { results := [.lit (.bool false)], args := [d1, d2, d3] }
  | _ => none }
def RegistryCopiesWrongFalsely : Prop := registryCopiesRow.holds Tryz.pinned (OpenSpec.ofChange registryCopiesWrong)

/-- 'dioptrelaw20.RegistryAdds': WHATEVER THE INPUT: true; the input reads as it did. -/
def registryAddsSpec : ChangeSpec := { name := "registryAdds", fn := fun _ => fun
  | [d1, d2, d3] => { results := [.lit (.bool true)], args := [d1, d2, d3] }
  | _ => none }
def registryAddsRow : OpenClaim := { program := "ytogbklnkpjjkoaagreatdoor", sum := "60dba99636216ad9ce7618d767801b4ce4e732337a0f08a9873d086a2c958667", func := "dioptre/dioptrelaw20.RegistryAdds", spec := "registryAdds", inPlace := ["slices.overlaps[string]", "slices.overlaps[dioptre/api.Schema]", "internal/reflectlite.ValueOf", "(internal/reflectlite.Value).Type", "(internal/reflectlite.Value).IsNil", "internal/reflectlite.TypeOf", "(internal/reflectlite.Value).Elem", "(internal/reflectlite.Value).Set"], unfollowed := true, recurses := true, named := ["errors.errorType"], loops := true, plainKeys := false, apart := false, laid := [("errors.errorType", laid_errors_errorType)] }
def RegistryAddsSaid : Prop := registryAddsRow.holds Tryz.pinned (OpenSpec.ofChange registryAddsSpec)

/-- ITS FALSE NEIGHBOUR: 'it returns false'. Refute it at one input. -/
def registryAddsWrong : ChangeSpec := { name := "registryAdds", fn := fun _ => fun
  | [d1, d2, d3] => { results := [.lit (.bool false)], args := [d1, d2, d3] }
  | _ => none }
def RegistryAddsWrongFalsely : Prop := registryAddsRow.holds Tryz.pinned (OpenSpec.ofChange registryAddsWrong)

/-- 'dioptrelaw20.RegistryNone': WHATEVER THE INPUT: true; the input reads as it did. -/
def registryNoneSpec : ChangeSpec := { name := "registryNone", fn := fun _ => fun
  | [d1, d2, d3] => { results := [.lit (.bool true)], args := [d1, d2, d3] }
  | _ => none }
def registryNoneRow : OpenClaim := { program := "ytogbklnkpjjkoaagreatdoor", sum := "60dba99636216ad9ce7618d767801b4ce4e732337a0f08a9873d086a2c958667", func := "dioptre/dioptrelaw20.RegistryNone", spec := "registryNone", inPlace := ["slices.overlaps[string]", "slices.overlaps[dioptre/api.Schema]", "internal/reflectlite.ValueOf", "(internal/reflectlite.Value).Type", "(internal/reflectlite.Value).IsNil", "internal/reflectlite.TypeOf", "(internal/reflectlite.Value).Elem", "(internal/reflectlite.Value).Set"], unfollowed := true, recurses := true, named := ["errors.errorType"], loops := true, plainKeys := false, apart := false, laid := [("errors.errorType", laid_errors_errorType)] }
def RegistryNoneSaid : Prop := registryNoneRow.holds Tryz.pinned (OpenSpec.ofChange registryNoneSpec)

/-- ITS FALSE NEIGHBOUR: 'it returns false'. Refute it at one input. -/
def registryNoneWrong : ChangeSpec := { name := "registryNone", fn := fun _ => fun
  | [d1, d2, d3] => { results := [.lit (.bool false)], args := [d1, d2, d3] }
  | _ => none }
def RegistryNoneWrongFalsely : Prop := registryNoneRow.holds Tryz.pinned (OpenSpec.ofChange registryNoneWrong)

/- THE SECOND FORM. 'bulk': how many values and letters a reading holds, each counted each time it is reached (what is shared counts as often as it is met; a slice's spare places count too). A statement '..UptoSaid' is the law's where the arguments, and the package variables that the reading takes, are together of bulk at most 1048576: NARROWER than '..Said'. Prove '..Said' where nothing that the law and all that it calls make is longer than what came in: it says more and counts as full. Else prove '..UptoSaid'. A law counts once. -/
mutual
def uptoBulk {H : Type} : DataW H → Nat
  | .lit (.string bytes) => bytes.length + 1
  | .lit _ => 1
  | .nil => 1
  | .ptr d => uptoBulk d + 1
  | .slice elems spare => uptoBulkAll elems + uptoBulkAll spare + 1
  | .agg parts => uptoBulkAll parts + 1
  | .iface _ d => uptoBulk d + 1
  | .map entries => uptoBulkEntries entries + 1
  | .held _ => 1
def uptoBulkAll {H : Type} : List (DataW H) → Nat
  | [] => 0
  | d :: r => uptoBulk d + uptoBulkAll r
def uptoBulkEntries {H : Type} : List (Lit × DataW H) → Nat
  | [] => 0
  | x :: r => uptoBulkEntry x + uptoBulkEntries r
def uptoBulkEntry {H : Type} : Lit × DataW H → Nat
  | (.string bytes, d) => bytes.length + uptoBulk d + 1
  | (_, d) => uptoBulk d + 1
 end
def uptoSmall : (H : Type) → List (DataW H) → Bool := fun _ ds => decide (uptoBulkAll ds ≤ 1048576)
def OpenSpec.upto (s : _root_.Go.ChangeSpec) : _root_.Go.OpenSpec := { _root_.Go.OpenSpec.ofChange s with cond := some uptoSmall }

/-- 'dioptrelaw20.RegistryPaths', WHERE WHAT IT READS IS OF BULK AT MOST 1048576: true; the input reads as it did. -/
def registryPathsUptoRow : OpenClaim := { program := "ytogbklnkpjjkoaagreatdoor", sum := "60dba99636216ad9ce7618d767801b4ce4e732337a0f08a9873d086a2c958667", func := "dioptre/dioptrelaw20.RegistryPaths", spec := "registryPaths", inPlace := ["slices.overlaps[string]", "slices.overlaps[dioptre/api.Schema]", "internal/reflectlite.ValueOf", "(internal/reflectlite.Value).Type", "(internal/reflectlite.Value).IsNil", "internal/reflectlite.TypeOf", "(internal/reflectlite.Value).Elem", "(internal/reflectlite.Value).Set"], unfollowed := true, recurses := true, named := ["errors.errorType"], loops := true, plainKeys := false, apart := false, laid := [("errors.errorType", laid_errors_errorType)], narrowed := true }
def RegistryPathsUptoSaid : Prop := registryPathsUptoRow.holds Tryz.pinned (OpenSpec.upto registryPathsSpec)

/-- 'dioptrelaw20.RegistryTurned', WHERE WHAT IT READS IS OF BULK AT MOST 1048576: true; the input reads as it did. -/
def registryTurnedUptoRow : OpenClaim := { program := "ytogbklnkpjjkoaagreatdoor", sum := "60dba99636216ad9ce7618d767801b4ce4e732337a0f08a9873d086a2c958667", func := "dioptre/dioptrelaw20.RegistryTurned", spec := "registryTurned", inPlace := ["slices.overlaps[string]", "slices.overlaps[dioptre/api.Schema]", "internal/reflectlite.ValueOf", "(internal/reflectlite.Value).Type", "(internal/reflectlite.Value).IsNil", "internal/reflectlite.TypeOf", "(internal/reflectlite.Value).Elem", "(internal/reflectlite.Value).Set"], unfollowed := true, recurses := true, named := ["errors.errorType"], loops := true, plainKeys := false, apart := false, laid := [("errors.errorType", laid_errors_errorType)], narrowed := true }
def RegistryTurnedUptoSaid : Prop := registryTurnedUptoRow.holds Tryz.pinned (OpenSpec.upto registryTurnedSpec)

/-- 'dioptrelaw20.RegistryCopies', WHERE WHAT IT READS IS OF BULK AT MOST 1048576: true; the input reads as it did. -/
def registryCopiesUptoRow : OpenClaim := { program := "ytogbklnkpjjkoaagreatdoor", sum := "60dba99636216ad9ce7618d767801b4ce4e732337a0f08a9873d086a2c958667", func := "dioptre/dioptrelaw20.RegistryCopies", spec := "registryCopies", inPlace := ["slices.overlaps[string]", "slices.overlaps[dioptre/api.Schema]", "internal/reflectlite.ValueOf", "(internal/reflectlite.Value).Type", "(internal/reflectlite.Value).IsNil", "internal/reflectlite.TypeOf", "(internal/reflectlite.Value).Elem", "(internal/reflectlite.Value).Set"], unfollowed := true, recurses := true, named := ["errors.errorType"], loops := true, plainKeys := false, apart := false, laid := [("errors.errorType", laid_errors_errorType)], narrowed := true }
def RegistryCopiesUptoSaid : Prop := registryCopiesUptoRow.holds Tryz.pinned (OpenSpec.upto registryCopiesSpec)

/-- 'dioptrelaw20.RegistryAdds', WHERE WHAT IT READS IS OF BULK AT MOST 1048576: true; the input reads as it did. -/
def registryAddsUptoRow : OpenClaim := { program := "ytogbklnkpjjkoaagreatdoor", sum := "60dba99636216ad9ce7618d767801b4ce4e732337a0f08a9873d086a2c958667", func := "dioptre/dioptrelaw20.RegistryAdds", spec := "registryAdds", inPlace := ["slices.overlaps[string]", "slices.overlaps[dioptre/api.Schema]", "internal/reflectlite.ValueOf", "(internal/reflectlite.Value).Type", "(internal/reflectlite.Value).IsNil", "internal/reflectlite.TypeOf", "(internal/reflectlite.Value).Elem", "(internal/reflectlite.Value).Set"], unfollowed := true, recurses := true, named := ["errors.errorType"], loops := true, plainKeys := false, apart := false, laid := [("errors.errorType", laid_errors_errorType)], narrowed := true }
def RegistryAddsUptoSaid : Prop := registryAddsUptoRow.holds Tryz.pinned (OpenSpec.upto registryAddsSpec)

/-- 'dioptrelaw20.RegistryNone', WHERE WHAT IT READS IS OF BULK AT MOST 1048576: true; the input reads as it did. -/
def registryNoneUptoRow : OpenClaim := { program := "ytogbklnkpjjkoaagreatdoor", sum := "60dba99636216ad9ce7618d767801b4ce4e732337a0f08a9873d086a2c958667", func := "dioptre/dioptrelaw20.RegistryNone", spec := "registryNone", inPlace := ["slices.overlaps[string]", "slices.overlaps[dioptre/api.Schema]", "internal/reflectlite.ValueOf", "(internal/reflectlite.Value).Type", "(internal/reflectlite.Value).IsNil", "internal/reflectlite.TypeOf", "(internal/reflectlite.Value).Elem", "(internal/reflectlite.Value).Set"], unfollowed := true, recurses := true, named := ["errors.errorType"], loops := true, plainKeys := false, apart := false, laid := [("errors.errorType", laid_errors_errorType)], narrowed := true }
def RegistryNoneUptoSaid : Prop := registryNoneUptoRow.holds Tryz.pinned (OpenSpec.upto registryNoneSpec)

end Rows
end Go.Proofs.YtogbklnkpjjkoaaGreatDoor
