/-
  NARROWER THAN 'FOR EVERY INPUT', by the rows' own cells (each row's printed sentence says how): PackNone: laid · PackReads: laid · SchemaEncodes: loops, laid.
  DERIVED. THE GIVEN ROWS OF THIS SEAT. 3 by the template 'for every input the law returns true; each argument reads behind the call as it read before'; 0 by the template 'total and deterministic' (their statements: YtbcabejdchkpmaaDoorTotals.lean).
  GIVEN WITH THE SEED: the statements are not yours to turn. If you find one false, say at which input.
  Laid BY PROGRAM, IN A SANDBOX (cutbox-rows.mjs): the forced cells as the released guide's own fill.sh prints them over the translation 39c4d30efca814ff… (all of the seat's roots in one cut). By AI agents, Wed Nov 11 2026. No macro, syntax, notation, axiom, sorry.
-/
import Derived.Test.YtbcabejdchkpmaaDoorChecked
import GoSem.Claim
import GoSem.ClaimJoined
import GoSem.ClaimMapViews
import Derived.JoinedTies
import Derived.KernelRfl
namespace Go.Proofs.YtbcabejdchkpmaaDoor
/- THE CELL 'sum', in the pinned program and in every row, IS THE sha256 OF THE DUMP (.gsa) THAT YtbcabejdchkpmaaDoorProg.lean LOADS. Nothing in Lean hashes anything: it is a label: what it is worth is what the hold of that sum in a sandbox is worth. -/
noncomputable def Tryd.pinned : Pinned := { name := "ytbcabejdchkpmaadoor", sum := "39c4d30efca814ffd46122c47d0358a0d69a11bd7ecba7952bcc1f51c4dd16ec", checked := Tryd.checked }
namespace Rows
def none {H : Type} : Left H := { results := [], args := [] }

/- WHAT THE LISTED PACKAGE-LEVEL VARIABLES READ AS WHEN THE CALL BEGINS. Each datum BY PROGRAM (the guide's laid-datum.mjs) off the statement by which the dump's own 'gosem.cut.vars' lays the variable. In a bare row this is a premise. The card (YtbcabejdchkpmaaDoorCards.lean) ties it to the program's text. -/
def laid_errors_errorType {H : Type} : DataW H := .iface "internal/reflectlite.rtype" (.agg [.ptr (.lit (.string [101, 114, 114, 111, 114]))])

/-- 'dioptrelaw02.PackNone': WHATEVER THE INPUT: true; the input reads as it did. -/
def packNoneSpec : ChangeSpec := { name := "packNone", fn := fun _ => fun
  | [d1, d2] => { results := [.lit (.bool true)], args := [d1, d2] }
  | _ => none }
def packNoneRow : OpenClaim := { program := "ytbcabejdchkpmaadoor", sum := "39c4d30efca814ffd46122c47d0358a0d69a11bd7ecba7952bcc1f51c4dd16ec", func := "dioptre/dioptrelaw02.PackNone", spec := "packNone", inPlace := ["internal/reflectlite.ValueOf", "(internal/reflectlite.Value).Type", "(internal/reflectlite.Value).IsNil", "internal/reflectlite.TypeOf", "(internal/reflectlite.Value).Elem", "(internal/reflectlite.Value).Set"], unfollowed := true, recurses := true, named := ["errors.errorType"], apart := false, laid := [("errors.errorType", laid_errors_errorType)] }
def PackNoneSaid : Prop := packNoneRow.holds Tryd.pinned (OpenSpec.ofChange packNoneSpec)

/-- ITS FALSE NEIGHBOUR: 'it returns false'. Refute it at one input. -/
def packNoneWrong : ChangeSpec := { name := "packNone", fn := fun _ => fun
  | [d1, d2] => { results := [.lit (.bool false)], args := [d1, d2] }
  | _ => none }
def PackNoneWrongFalsely : Prop := packNoneRow.holds Tryd.pinned (OpenSpec.ofChange packNoneWrong)

/-- 'dioptrelaw02.PackReads': WHATEVER THE INPUT: true; the input reads as it did. -/
def packReadsSpec : ChangeSpec := { name := "packReads", fn := fun _ => fun
  | [d1, d2] => { results := [.lit (.bool true)], args := [d1, d2] }
  | _ => none }
def packReadsRow : OpenClaim := { program := "ytbcabejdchkpmaadoor", sum := "39c4d30efca814ffd46122c47d0358a0d69a11bd7ecba7952bcc1f51c4dd16ec", func := "dioptre/dioptrelaw02.PackReads", spec := "packReads", inPlace := ["internal/reflectlite.ValueOf", "(internal/reflectlite.Value).Type", "(internal/reflectlite.Value).IsNil", "internal/reflectlite.TypeOf", "(internal/reflectlite.Value).Elem", "(internal/reflectlite.Value).Set"], unfollowed := true, recurses := true, named := ["errors.errorType"], apart := false, laid := [("errors.errorType", laid_errors_errorType)] }
def PackReadsSaid : Prop := packReadsRow.holds Tryd.pinned (OpenSpec.ofChange packReadsSpec)

/-- ITS FALSE NEIGHBOUR: 'it returns false'. Refute it at one input. -/
def packReadsWrong : ChangeSpec := { name := "packReads", fn := fun _ => fun
  | [d1, d2] => { results := [.lit (.bool false)], args := [d1, d2] }
  | _ => none }
def PackReadsWrongFalsely : Prop := packReadsRow.holds Tryd.pinned (OpenSpec.ofChange packReadsWrong)

/-- 'dioptrelaw09.SchemaEncodes': WHATEVER THE INPUT: true; the input reads as it did. -/
def schemaEncodesSpec : ChangeSpec := { name := "schemaEncodes", fn := fun _ => fun
  | [d] => { results := [.lit (.bool true)], args := [d] }
  | _ => none }
def schemaEncodesRow : OpenClaim := { program := "ytbcabejdchkpmaadoor", sum := "39c4d30efca814ffd46122c47d0358a0d69a11bd7ecba7952bcc1f51c4dd16ec", func := "dioptre/dioptrelaw09.SchemaEncodes", spec := "schemaEncodes", inPlace := ["internal/reflectlite.ValueOf", "(internal/reflectlite.Value).Type", "(internal/reflectlite.Value).IsNil", "internal/reflectlite.TypeOf", "(internal/reflectlite.Value).Elem", "(internal/reflectlite.Value).Set"], unfollowed := true, recurses := true, named := ["errors.errorType"], loops := true, apart := false, laid := [("errors.errorType", laid_errors_errorType)] }
def SchemaEncodesSaid : Prop := schemaEncodesRow.holds Tryd.pinned (OpenSpec.ofChange schemaEncodesSpec)

/-- ITS FALSE NEIGHBOUR: 'it returns false'. Refute it at one input. -/
def schemaEncodesWrong : ChangeSpec := { name := "schemaEncodes", fn := fun _ => fun
  | [d] => { results := [.lit (.bool false)], args := [d] }
  | _ => none }
def SchemaEncodesWrongFalsely : Prop := schemaEncodesRow.holds Tryd.pinned (OpenSpec.ofChange schemaEncodesWrong)

/- THE SECOND FORM. 'bulk': how many values and letters a reading holds, each counted each time it is reached (what is shared counts as often as it is met; a slice's spare places count too). A statement '..UptoSaid' is the law's where the arguments, and the package variables that the reading takes, are together of bulk at most 1048576: NARROWER than '..Said'. Prove '..Said' where nothing that the law and all that it calls make is longer than what came in: it says more and counts as full. Else prove '..UptoSaid'. A law counts once. -/
mutual
def uptoBulk {H : Type} : DataW H → Nat
  | .lit (.string bytes) => bytes.length + 1
  | .lit _ => 1
  | .nil => 1
  | .ptr d => uptoBulk d + 1
  | .slice elems spare => uptoBulkAll elems + uptoBulkAll spare + 1
  | .agg parts => uptoBulkAll parts + 1
  | .iface _ d => uptoBulk d + 1
  | .map entries => uptoBulkEntries entries + 1
  | .held _ => 1
def uptoBulkAll {H : Type} : List (DataW H) → Nat
  | [] => 0
  | d :: r => uptoBulk d + uptoBulkAll r
def uptoBulkEntries {H : Type} : List (Lit × DataW H) → Nat
  | [] => 0
  | x :: r => uptoBulkEntry x + uptoBulkEntries r
def uptoBulkEntry {H : Type} : Lit × DataW H → Nat
  | (.string bytes, d) => bytes.length + uptoBulk d + 1
  | (_, d) => uptoBulk d + 1
 end
def uptoSmall : (H : Type) → List (DataW H) → Bool := fun _ ds => decide (uptoBulkAll ds ≤ 1048576)
def OpenSpec.upto (s : _root_.Go.ChangeSpec) : _root_.Go.OpenSpec := { _root_.Go.OpenSpec.ofChange s with cond := some uptoSmall }

/-- 'dioptrelaw02.PackNone', WHERE WHAT IT READS IS OF BULK AT MOST 1048576: true; the input reads as it did. -/
def packNoneUptoRow : OpenClaim := { program := "ytbcabejdchkpmaadoor", sum := "39c4d30efca814ffd46122c47d0358a0d69a11bd7ecba7952bcc1f51c4dd16ec", func := "dioptre/dioptrelaw02.PackNone", spec := "packNone", inPlace := ["internal/reflectlite.ValueOf", "(internal/reflectlite.Value).Type", "(internal/reflectlite.Value).IsNil", "internal/reflectlite.TypeOf", "(internal/reflectlite.Value).Elem", "(internal/reflectlite.Value).Set"], unfollowed := true, recurses := true, named := ["errors.errorType"], apart := false, laid := [("errors.errorType", laid_errors_errorType)], narrowed := true }
def PackNoneUptoSaid : Prop := packNoneUptoRow.holds Tryd.pinned (OpenSpec.upto packNoneSpec)

/-- 'dioptrelaw02.PackReads', WHERE WHAT IT READS IS OF BULK AT MOST 1048576: true; the input reads as it did. -/
def packReadsUptoRow : OpenClaim := { program := "ytbcabejdchkpmaadoor", sum := "39c4d30efca814ffd46122c47d0358a0d69a11bd7ecba7952bcc1f51c4dd16ec", func := "dioptre/dioptrelaw02.PackReads", spec := "packReads", inPlace := ["internal/reflectlite.ValueOf", "(internal/reflectlite.Value).Type", "(internal/reflectlite.Value).IsNil", "internal/reflectlite.TypeOf", "(internal/reflectlite.Value).Elem", "(internal/reflectlite.Value).Set"], unfollowed := true, recurses := true, named := ["errors.errorType"], apart := false, laid := [("errors.errorType", laid_errors_errorType)], narrowed := true }
def PackReadsUptoSaid : Prop := packReadsUptoRow.holds Tryd.pinned (OpenSpec.upto packReadsSpec)

/-- 'dioptrelaw09.SchemaEncodes', WHERE WHAT IT READS IS OF BULK AT MOST 1048576: true; the input reads as it did. -/
def schemaEncodesUptoRow : OpenClaim := { program := "ytbcabejdchkpmaadoor", sum := "39c4d30efca814ffd46122c47d0358a0d69a11bd7ecba7952bcc1f51c4dd16ec", func := "dioptre/dioptrelaw09.SchemaEncodes", spec := "schemaEncodes", inPlace := ["internal/reflectlite.ValueOf", "(internal/reflectlite.Value).Type", "(internal/reflectlite.Value).IsNil", "internal/reflectlite.TypeOf", "(internal/reflectlite.Value).Elem", "(internal/reflectlite.Value).Set"], unfollowed := true, recurses := true, named := ["errors.errorType"], loops := true, apart := false, laid := [("errors.errorType", laid_errors_errorType)], narrowed := true }
def SchemaEncodesUptoSaid : Prop := schemaEncodesUptoRow.holds Tryd.pinned (OpenSpec.upto schemaEncodesSpec)

end Rows
end Go.Proofs.YtbcabejdchkpmaaDoor
