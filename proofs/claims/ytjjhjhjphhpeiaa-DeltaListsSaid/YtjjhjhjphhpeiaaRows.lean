/-
  NARROWER THAN 'FOR EVERY INPUT', by the rows' own cells (each row's printed sentence says how): ValueParts: loops · DeltaPaths: loops · OpFits: loops · DeltaBack: loops.
  DERIVED. THE GIVEN ROWS OF THIS SEAT. 6 by the template 'for every input the law returns true; each argument reads behind the call as it read before'; 0 by the template 'total and deterministic' (their statements: YtjjhjhjphhpeiaaTotals.lean).
  GIVEN WITH THE SEED: the statements are not yours to turn. If you find one false, say at which input.
  Laid BY PROGRAM, IN A SANDBOX (cutbox-rows.mjs): the forced cells as the released guide's own fill.sh prints them over the translation 9ee23f060a70abbe… (all of the seat's roots in one cut). By AI agents, Wed Nov 11 2026. No macro, syntax, notation, axiom, sorry.
-/
import Derived.Test.YtjjhjhjphhpeiaaChecked
import GoSem.Claim
import GoSem.ClaimJoined
import GoSem.ClaimMapViews
import Derived.JoinedTies
import Derived.KernelRfl
namespace Go.Proofs.Ytjjhjhjphhpeiaa
/- THE CELL 'sum', in the pinned program and in every row, IS THE sha256 OF THE DUMP (.gsa) THAT YtjjhjhjphhpeiaaProg.lean LOADS. Nothing in Lean hashes anything: it is a label: what it is worth is what the hold of that sum in a sandbox is worth. -/
noncomputable def Try.pinned : Pinned := { name := "ytjjhjhjphhpeiaa", sum := "9ee23f060a70abbe685f2b3f5066e2859c0723b48acc24b88a3fbb698ac41ac8", checked := Try.checked }
namespace Rows
def none {H : Type} : Left H := { results := [], args := [] }

/-- 'dioptrelaw08.ValueParts': WHATEVER THE INPUT: true; the input reads as it did. -/
def valuePartsSpec : ChangeSpec := { name := "valueParts", fn := fun _ => fun
  | [d1, d2, d3] => { results := [.lit (.bool true)], args := [d1, d2, d3] }
  | _ => none }
def valuePartsRow : OpenClaim := { program := "ytjjhjhjphhpeiaa", sum := "9ee23f060a70abbe685f2b3f5066e2859c0723b48acc24b88a3fbb698ac41ac8", func := "dioptre/dioptrelaw08.ValueParts", spec := "valueParts", inPlace := ["slices.overlaps[string]", "slices.overlaps[dioptre/api.Value]"], unfollowed := true, recurses := true, loops := true, apart := false }
def ValuePartsSaid : Prop := valuePartsRow.holds Try.pinned (OpenSpec.ofChange valuePartsSpec)

/-- ITS FALSE NEIGHBOUR: 'it returns false'. Refute it at one input. -/
def valuePartsWrong : ChangeSpec := { name := "valueParts", fn := fun _ => fun
  | [d1, d2, d3] => { results := [.lit (.bool false)], args := [d1, d2, d3] }
  | _ => none }
def ValuePartsWrongFalsely : Prop := valuePartsRow.holds Try.pinned (OpenSpec.ofChange valuePartsWrong)

/-- 'dioptrelaw13.DeltaCommon': WHATEVER THE INPUT: true; the input reads as it did. -/
def deltaCommonSpec : ChangeSpec := { name := "deltaCommon", fn := fun _ => fun
  | [d1, d2] => { results := [.lit (.bool true)], args := [d1, d2] }
  | _ => none }
def deltaCommonRow : OpenClaim := { program := "ytjjhjhjphhpeiaa", sum := "9ee23f060a70abbe685f2b3f5066e2859c0723b48acc24b88a3fbb698ac41ac8", func := "dioptre/dioptrelaw13.DeltaCommon", spec := "deltaCommon", inPlace := ["slices.overlaps[uint64]"], unfollowed := true, recurses := true, apart := false }
def DeltaCommonSaid : Prop := deltaCommonRow.holds Try.pinned (OpenSpec.ofChange deltaCommonSpec)

/-- ITS FALSE NEIGHBOUR: 'it returns false'. Refute it at one input. -/
def deltaCommonWrong : ChangeSpec := { name := "deltaCommon", fn := fun _ => fun
  | [d1, d2] => { results := [.lit (.bool false)], args := [d1, d2] }
  | _ => none }
def DeltaCommonWrongFalsely : Prop := deltaCommonRow.holds Try.pinned (OpenSpec.ofChange deltaCommonWrong)

/-- 'dioptrelaw13.DeltaPaths': WHATEVER THE INPUT: true; the input reads as it did. -/
def deltaPathsSpec : ChangeSpec := { name := "deltaPaths", fn := fun _ => fun
  | [d1, d2] => { results := [.lit (.bool true)], args := [d1, d2] }
  | _ => none }
def deltaPathsRow : OpenClaim := { program := "ytjjhjhjphhpeiaa", sum := "9ee23f060a70abbe685f2b3f5066e2859c0723b48acc24b88a3fbb698ac41ac8", func := "dioptre/dioptrelaw13.DeltaPaths", spec := "deltaPaths", inPlace := ["slices.overlaps[uint64]"], unfollowed := true, recurses := true, loops := true, apart := false }
def DeltaPathsSaid : Prop := deltaPathsRow.holds Try.pinned (OpenSpec.ofChange deltaPathsSpec)

/-- ITS FALSE NEIGHBOUR: 'it returns false'. Refute it at one input. -/
def deltaPathsWrong : ChangeSpec := { name := "deltaPaths", fn := fun _ => fun
  | [d1, d2] => { results := [.lit (.bool false)], args := [d1, d2] }
  | _ => none }
def DeltaPathsWrongFalsely : Prop := deltaPathsRow.holds Try.pinned (OpenSpec.ofChange deltaPathsWrong)

/-- 'dioptrelaw12.OpFits': WHATEVER THE INPUT: true; the input reads as it did. -/
def opFitsSpec : ChangeSpec := { name := "opFits", fn := fun _ => fun
  | [d1, d2, d3] => { results := [.lit (.bool true)], args := [d1, d2, d3] }
  | _ => none }
def opFitsRow : OpenClaim := { program := "ytjjhjhjphhpeiaa", sum := "9ee23f060a70abbe685f2b3f5066e2859c0723b48acc24b88a3fbb698ac41ac8", func := "dioptre/dioptrelaw12.OpFits", spec := "opFits", inPlace := ["slices.overlaps[uint64]", "slices.overlaps[dioptre/api.Value]"], unfollowed := true, recurses := true, loops := true, apart := false }
def OpFitsSaid : Prop := opFitsRow.holds Try.pinned (OpenSpec.ofChange opFitsSpec)

/-- ITS FALSE NEIGHBOUR: 'it returns false'. Refute it at one input. -/
def opFitsWrong : ChangeSpec := { name := "opFits", fn := fun _ => fun
  | [d1, d2, d3] => { results := [.lit (.bool false)], args := [d1, d2, d3] }
  | _ => none }
def OpFitsWrongFalsely : Prop := opFitsRow.holds Try.pinned (OpenSpec.ofChange opFitsWrong)

/-- 'dioptrelaw13.DeltaBack': WHATEVER THE INPUT: true; the input reads as it did. -/
def deltaBackSpec : ChangeSpec := { name := "deltaBack", fn := fun _ => fun
  | [d1, d2, d3] => { results := [.lit (.bool true)], args := [d1, d2, d3] }
  | _ => none }
def deltaBackRow : OpenClaim := { program := "ytjjhjhjphhpeiaa", sum := "9ee23f060a70abbe685f2b3f5066e2859c0723b48acc24b88a3fbb698ac41ac8", func := "dioptre/dioptrelaw13.DeltaBack", spec := "deltaBack", inPlace := ["slices.overlaps[uint64]", "slices.overlaps[dioptre/api.Value]"], unfollowed := true, recurses := true, loops := true, apart := false }
def DeltaBackSaid : Prop := deltaBackRow.holds Try.pinned (OpenSpec.ofChange deltaBackSpec)

/-- ITS FALSE NEIGHBOUR: 'it returns false'. Refute it at one input. -/
def deltaBackWrong : ChangeSpec := { name := "deltaBack", fn := fun _ => fun
  | [d1, d2, d3] => { results := [.lit (.bool false)], args := [d1, d2, d3] }
  | _ => none }
def DeltaBackWrongFalsely : Prop := deltaBackRow.holds Try.pinned (OpenSpec.ofChange deltaBackWrong)

/-- 'dioptrelaw13.DeltaLists': WHATEVER THE INPUT: true; the input reads as it did. -/
def deltaListsSpec : ChangeSpec := { name := "deltaLists", fn := fun _ => fun
  | [d1, d2, d3] => { results := [.lit (.bool true)], args := [d1, d2, d3] }
  | _ => none }
def deltaListsRow : OpenClaim := { program := "ytjjhjhjphhpeiaa", sum := "9ee23f060a70abbe685f2b3f5066e2859c0723b48acc24b88a3fbb698ac41ac8", func := "dioptre/dioptrelaw13.DeltaLists", spec := "deltaLists", inPlace := ["slices.overlaps[uint64]", "slices.overlaps[dioptre/api.Value]"], unfollowed := true, recurses := true, apart := false }
def DeltaListsSaid : Prop := deltaListsRow.holds Try.pinned (OpenSpec.ofChange deltaListsSpec)

/-- ITS FALSE NEIGHBOUR: 'it returns false'. Refute it at one input. -/
def deltaListsWrong : ChangeSpec := { name := "deltaLists", fn := fun _ => fun
  | [d1, d2, d3] => { results := [.lit (.bool false)], args := [d1, d2, d3] }
  | _ => none }
def DeltaListsWrongFalsely : Prop := deltaListsRow.holds Try.pinned (OpenSpec.ofChange deltaListsWrong)

/- THE SECOND FORM. 'bulk': how many values and letters a reading holds, each counted each time it is reached (what is shared counts as often as it is met; a slice's spare places count too). A statement '..UptoSaid' is the law's where the arguments, and the package variables that the reading takes, are together of bulk at most 1048576: NARROWER than '..Said'. Prove '..Said' where nothing that the law and all that it calls make is longer than what came in: it says more and counts as full. Else prove '..UptoSaid'. A law counts once. -/
mutual
def uptoBulk {H : Type} : DataW H → Nat
  | .lit (.string bytes) => bytes.length + 1
  | .lit _ => 1
  | .nil => 1
  | .ptr d => uptoBulk d + 1
  | .slice elems spare => uptoBulkAll elems + uptoBulkAll spare + 1
  | .agg parts => uptoBulkAll parts + 1
  | .iface _ d => uptoBulk d + 1
  | .map entries => uptoBulkEntries entries + 1
  | .held _ => 1
def uptoBulkAll {H : Type} : List (DataW H) → Nat
  | [] => 0
  | d :: r => uptoBulk d + uptoBulkAll r
def uptoBulkEntries {H : Type} : List (Lit × DataW H) → Nat
  | [] => 0
  | x :: r => uptoBulkEntry x + uptoBulkEntries r
def uptoBulkEntry {H : Type} : Lit × DataW H → Nat
  | (.string bytes, d) => bytes.length + uptoBulk d + 1
  | (_, d) => uptoBulk d + 1
 end
def uptoSmall : (H : Type) → List (DataW H) → Bool := fun _ ds => decide (uptoBulkAll ds ≤ 1048576)
def OpenSpec.upto (s : _root_.Go.ChangeSpec) : _root_.Go.OpenSpec := { _root_.Go.OpenSpec.ofChange s with cond := some uptoSmall }

/-- 'dioptrelaw08.ValueParts', WHERE WHAT IT READS IS OF BULK AT MOST 1048576: true; the input reads as it did. -/
def valuePartsUptoRow : OpenClaim := { program := "ytjjhjhjphhpeiaa", sum := "9ee23f060a70abbe685f2b3f5066e2859c0723b48acc24b88a3fbb698ac41ac8", func := "dioptre/dioptrelaw08.ValueParts", spec := "valueParts", inPlace := ["slices.overlaps[string]", "slices.overlaps[dioptre/api.Value]"], unfollowed := true, recurses := true, loops := true, apart := false, narrowed := true }
def ValuePartsUptoSaid : Prop := valuePartsUptoRow.holds Try.pinned (OpenSpec.upto valuePartsSpec)

/-- 'dioptrelaw13.DeltaCommon', WHERE WHAT IT READS IS OF BULK AT MOST 1048576: true; the input reads as it did. -/
def deltaCommonUptoRow : OpenClaim := { program := "ytjjhjhjphhpeiaa", sum := "9ee23f060a70abbe685f2b3f5066e2859c0723b48acc24b88a3fbb698ac41ac8", func := "dioptre/dioptrelaw13.DeltaCommon", spec := "deltaCommon", inPlace := ["slices.overlaps[uint64]"], unfollowed := true, recurses := true, apart := false, narrowed := true }
def DeltaCommonUptoSaid : Prop := deltaCommonUptoRow.holds Try.pinned (OpenSpec.upto deltaCommonSpec)

/-- 'dioptrelaw13.DeltaPaths', WHERE WHAT IT READS IS OF BULK AT MOST 1048576: true; the input reads as it did. -/
def deltaPathsUptoRow : OpenClaim := { program := "ytjjhjhjphhpeiaa", sum := "9ee23f060a70abbe685f2b3f5066e2859c0723b48acc24b88a3fbb698ac41ac8", func := "dioptre/dioptrelaw13.DeltaPaths", spec := "deltaPaths", inPlace := ["slices.overlaps[uint64]"], unfollowed := true, recurses := true, loops := true, apart := false, narrowed := true }
def DeltaPathsUptoSaid : Prop := deltaPathsUptoRow.holds Try.pinned (OpenSpec.upto deltaPathsSpec)

/-- 'dioptrelaw12.OpFits', WHERE WHAT IT READS IS OF BULK AT MOST 1048576: true; the input reads as it did. -/
def opFitsUptoRow : OpenClaim := { program := "ytjjhjhjphhpeiaa", sum := "9ee23f060a70abbe685f2b3f5066e2859c0723b48acc24b88a3fbb698ac41ac8", func := "dioptre/dioptrelaw12.OpFits", spec := "opFits", inPlace := ["slices.overlaps[uint64]", "slices.overlaps[dioptre/api.Value]"], unfollowed := true, recurses := true, loops := true, apart := false, narrowed := true }
def OpFitsUptoSaid : Prop := opFitsUptoRow.holds Try.pinned (OpenSpec.upto opFitsSpec)

/-- 'dioptrelaw13.DeltaBack', WHERE WHAT IT READS IS OF BULK AT MOST 1048576: true; the input reads as it did. -/
def deltaBackUptoRow : OpenClaim := { program := "ytjjhjhjphhpeiaa", sum := "9ee23f060a70abbe685f2b3f5066e2859c0723b48acc24b88a3fbb698ac41ac8", func := "dioptre/dioptrelaw13.DeltaBack", spec := "deltaBack", inPlace := ["slices.overlaps[uint64]", "slices.overlaps[dioptre/api.Value]"], unfollowed := true, recurses := true, loops := true, apart := false, narrowed := true }
def DeltaBackUptoSaid : Prop := deltaBackUptoRow.holds Try.pinned (OpenSpec.upto deltaBackSpec)

/-- 'dioptrelaw13.DeltaLists', WHERE WHAT IT READS IS OF BULK AT MOST 1048576: true; the input reads as it did. -/
def deltaListsUptoRow : OpenClaim := { program := "ytjjhjhjphhpeiaa", sum := "9ee23f060a70abbe685f2b3f5066e2859c0723b48acc24b88a3fbb698ac41ac8", func := "dioptre/dioptrelaw13.DeltaLists", spec := "deltaLists", inPlace := ["slices.overlaps[uint64]", "slices.overlaps[dioptre/api.Value]"], unfollowed := true, recurses := true, apart := false, narrowed := true }
def DeltaListsUptoSaid : Prop := deltaListsUptoRow.holds Try.pinned (OpenSpec.upto deltaListsSpec)

end Rows
end Go.Proofs.Ytjjhjhjphhpeiaa
