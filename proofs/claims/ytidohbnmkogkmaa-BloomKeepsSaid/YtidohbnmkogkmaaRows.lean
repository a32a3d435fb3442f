/-
  No cell of these rows narrows 'for every input' (looked for: loops, veiled, ifaces, maps, wideKeys, modest, calm, conditions, laid).
  DERIVED. THE GIVEN ROWS OF THIS SEAT. 7 by the template 'for every input the law returns true; each argument reads behind the call as it read before'; 0 by the template 'total and deterministic' (their statements: YtidohbnmkogkmaaTotals.lean).
  GIVEN WITH THE SEED: the statements are not yours to turn. If you find one false, say at which input.
  Laid BY PROGRAM, IN A SANDBOX (cutbox-rows.mjs): the forced cells as the released guide's own fill.sh prints them over the translation 3508317fec399907… (all of the seat's roots in one cut). By AI agents, Wed Nov 11 2026. No macro, syntax, notation, axiom, sorry.
-/
import Derived.Test.YtidohbnmkogkmaaChecked
import GoSem.Claim
import GoSem.ClaimJoined
import GoSem.ClaimMapViews
import Derived.JoinedTies
import Derived.KernelRfl
namespace Go.Proofs.Ytidohbnmkogkmaa
/- THE CELL 'sum', in the pinned program and in every row, IS THE sha256 OF THE DUMP (.gsa) THAT YtidohbnmkogkmaaProg.lean LOADS. Nothing in Lean hashes anything: it is a label: what it is worth is what the hold of that sum in a sandbox is worth. -/
noncomputable def Try.pinned : Pinned := { name := "ytidohbnmkogkmaa", sum := "3508317fec3999078693ca2133dfafc9641aa9847835dec3afa4912d4e4e4de8", checked := Try.checked }
namespace Rows
def none {H : Type} : Left H := { results := [], args := [] }

/-- 'dioptrelaw24.BloomOrder': WHATEVER THE INPUT: true; the input reads as it did. -/
def bloomOrderSpec : ChangeSpec := { name := "bloomOrder", fn := fun _ => fun
  | [d1, d2] => { results := [.lit (.bool true)], args := [d1, d2] }
  | _ => none }
def bloomOrderRow : OpenClaim := { program := "ytidohbnmkogkmaa", sum := "3508317fec3999078693ca2133dfafc9641aa9847835dec3afa4912d4e4e4de8", func := "dioptre/dioptrelaw24.BloomOrder", spec := "bloomOrder", apart := false }
def BloomOrderSaid : Prop := bloomOrderRow.holds Try.pinned (OpenSpec.ofChange bloomOrderSpec)

/-- ITS FALSE NEIGHBOUR: 'it returns false'. Refute it at one input. -/
def bloomOrderWrong : ChangeSpec := { name := "bloomOrder", fn := fun _ => fun
  | [d1, d2] => { results := [.lit (.bool false)], args := [d1, d2] }
  | _ => none }
def BloomOrderWrongFalsely : Prop := bloomOrderRow.holds Try.pinned (OpenSpec.ofChange bloomOrderWrong)

/-- 'dioptrelaw02.PackWrites': WHATEVER THE INPUT: true; the input reads as it did. -/
def packWritesSpec : ChangeSpec := { name := "packWrites", fn := fun _ => fun
  | [d] => { results := [.lit (.bool true)], args := [d] }
  | _ => none }
def packWritesRow : OpenClaim := { program := "ytidohbnmkogkmaa", sum := "3508317fec3999078693ca2133dfafc9641aa9847835dec3afa4912d4e4e4de8", func := "dioptre/dioptrelaw02.PackWrites", spec := "packWrites", recurses := true, apart := false }
def PackWritesSaid : Prop := packWritesRow.holds Try.pinned (OpenSpec.ofChange packWritesSpec)

/-- ITS FALSE NEIGHBOUR: 'it returns false'. Refute it at one input. -/
def packWritesWrong : ChangeSpec := { name := "packWrites", fn := fun _ => fun
  | [d] => { results := [.lit (.bool false)], args := [d] }
  | _ => none }
def PackWritesWrongFalsely : Prop := packWritesRow.holds Try.pinned (OpenSpec.ofChange packWritesWrong)

/-- 'dioptrelaw24.BloomSets': WHATEVER THE INPUT: true; the input reads as it did. -/
def bloomSetsSpec : ChangeSpec := { name := "bloomSets", fn := fun _ => fun
  | [d1, d2] => { results := [.lit (.bool true)], args := [d1, d2] }
  | _ => none }
def bloomSetsRow : OpenClaim := { program := "ytidohbnmkogkmaa", sum := "3508317fec3999078693ca2133dfafc9641aa9847835dec3afa4912d4e4e4de8", func := "dioptre/dioptrelaw24.BloomSets", spec := "bloomSets", apart := false }
def BloomSetsSaid : Prop := bloomSetsRow.holds Try.pinned (OpenSpec.ofChange bloomSetsSpec)

/-- ITS FALSE NEIGHBOUR: 'it returns false'. Refute it at one input. -/
def bloomSetsWrong : ChangeSpec := { name := "bloomSets", fn := fun _ => fun
  | [d1, d2] => { results := [.lit (.bool false)], args := [d1, d2] }
  | _ => none }
def BloomSetsWrongFalsely : Prop := bloomSetsRow.holds Try.pinned (OpenSpec.ofChange bloomSetsWrong)

/-- 'dioptrelaw24.BloomAdds': WHATEVER THE INPUT: true; the input reads as it did. -/
def bloomAddsSpec : ChangeSpec := { name := "bloomAdds", fn := fun _ => fun
  | [d1, d2, d3] => { results := [.lit (.bool true)], args := [d1, d2, d3] }
  | _ => none }
def bloomAddsRow : OpenClaim := { program := "ytidohbnmkogkmaa", sum := "3508317fec3999078693ca2133dfafc9641aa9847835dec3afa4912d4e4e4de8", func := "dioptre/dioptrelaw24.BloomAdds", spec := "bloomAdds", unfollowed := true, recurses := true, apart := false }
def BloomAddsSaid : Prop := bloomAddsRow.holds Try.pinned (OpenSpec.ofChange bloomAddsSpec)

/-- ITS FALSE NEIGHBOUR: 'it returns false'. Refute it at one input. -/
def bloomAddsWrong : ChangeSpec := { name := "bloomAdds", fn := fun _ => fun
  | [d1, d2, d3] => { results := [.lit (.bool false)], args := [d1, d2, d3] }
  | _ => none }
def BloomAddsWrongFalsely : Prop := bloomAddsRow.holds Try.pinned (OpenSpec.ofChange bloomAddsWrong)

/-- 'dioptrelaw24.BloomKeeps': WHATEVER THE INPUT: true; the input reads as it did. -/
def bloomKeepsSpec : ChangeSpec := { name := "bloomKeeps", fn := fun _ => fun
  | [d1, d2, d3] => { results := [.lit (.bool true)], args := [d1, d2, d3] }
  | _ => none }
def bloomKeepsRow : OpenClaim := { program := "ytidohbnmkogkmaa", sum := "3508317fec3999078693ca2133dfafc9641aa9847835dec3afa4912d4e4e4de8", func := "dioptre/dioptrelaw24.BloomKeeps", spec := "bloomKeeps", unfollowed := true, recurses := true, apart := false }
def BloomKeepsSaid : Prop := bloomKeepsRow.holds Try.pinned (OpenSpec.ofChange bloomKeepsSpec)

/-- ITS FALSE NEIGHBOUR: 'it returns false'. Refute it at one input. -/
def bloomKeepsWrong : ChangeSpec := { name := "bloomKeeps", fn := fun _ => fun
  | [d1, d2, d3] => { results := [.lit (.bool false)], args := [d1, d2, d3] }
  | _ => none }
def BloomKeepsWrongFalsely : Prop := bloomKeepsRow.holds Try.pinned (OpenSpec.ofChange bloomKeepsWrong)

/-- 'dioptrelaw02.PackSole': WHATEVER THE INPUT: true; the input reads as it did. -/
def packSoleSpec : ChangeSpec := { name := "packSole", fn := fun _ => fun
  | [d] => { results := [.lit (.bool true)], args := [d] }
  | _ => none }
def packSoleRow : OpenClaim := { program := "ytidohbnmkogkmaa", sum := "3508317fec3999078693ca2133dfafc9641aa9847835dec3afa4912d4e4e4de8", func := "dioptre/dioptrelaw02.PackSole", spec := "packSole", unfollowed := true, recurses := true, apart := false }
def PackSoleSaid : Prop := packSoleRow.holds Try.pinned (OpenSpec.ofChange packSoleSpec)

/-- ITS FALSE NEIGHBOUR: 'it returns false'. Refute it at one input. -/
def packSoleWrong : ChangeSpec := { name := "packSole", fn := fun _ => fun
  | [d] => { results := [.lit (.bool false)], args := [d] }
  | _ => none }
def PackSoleWrongFalsely : Prop := packSoleRow.holds Try.pinned (OpenSpec.ofChange packSoleWrong)

/-- 'dioptrelaw02.PackBack': WHATEVER THE INPUT: true; the input reads as it did. -/
def packBackSpec : ChangeSpec := { name := "packBack", fn := fun _ => fun
  | [d] => { results := [.lit (.bool true)], args := [d] }
  | _ => none }
def packBackRow : OpenClaim := { program := "ytidohbnmkogkmaa", sum := "3508317fec3999078693ca2133dfafc9641aa9847835dec3afa4912d4e4e4de8", func := "dioptre/dioptrelaw02.PackBack", spec := "packBack", unfollowed := true, recurses := true, apart := false }
def PackBackSaid : Prop := packBackRow.holds Try.pinned (OpenSpec.ofChange packBackSpec)

/-- ITS FALSE NEIGHBOUR: 'it returns false'. Refute it at one input. -/
def packBackWrong : ChangeSpec := { name := "packBack", fn := fun _ => fun
  | [d] => { results := [.lit (.bool false)], args := [d] }
  | _ => none }
def PackBackWrongFalsely : Prop := packBackRow.holds Try.pinned (OpenSpec.ofChange packBackWrong)

/- THE SECOND FORM. 'bulk': how many values and letters a reading holds, each counted each time it is reached (what is shared counts as often as it is met; a slice's spare places count too). A statement '..UptoSaid' is the law's where the arguments, and the package variables that the reading takes, are together of bulk at most 1048576: NARROWER than '..Said'. Prove '..Said' where nothing that the law and all that it calls make is longer than what came in: it says more and counts as full. Else prove '..UptoSaid'. A law counts once. -/
mutual
def uptoBulk {H : Type} : DataW H → Nat
  | .lit (.string bytes) => bytes.length + 1
  | .lit _ => 1
  | .nil => 1
  | .ptr d => uptoBulk d + 1
  | .slice elems spare => uptoBulkAll elems + uptoBulkAll spare + 1
  | .agg parts => uptoBulkAll parts + 1
  | .iface _ d => uptoBulk d + 1
  | .map entries => uptoBulkEntries entries + 1
  | .held _ => 1
def uptoBulkAll {H : Type} : List (DataW H) → Nat
  | [] => 0
  | d :: r => uptoBulk d + uptoBulkAll r
def uptoBulkEntries {H : Type} : List (Lit × DataW H) → Nat
  | [] => 0
  | x :: r => uptoBulkEntry x + uptoBulkEntries r
def uptoBulkEntry {H : Type} : Lit × DataW H → Nat
  | (.string bytes, d) => bytes.length + uptoBulk d + 1
  | (_, d) => uptoBulk d + 1
 end
def uptoSmall : (H : Type) → List (DataW H) → Bool := fun _ ds => decide (uptoBulkAll ds ≤ 1048576)
def OpenSpec.upto (s : _root_.Go.ChangeSpec) : _root_.Go.OpenSpec := { _root_.Go.OpenSpec.ofChange s with cond := some uptoSmall }

/-- 'dioptrelaw24.BloomOrder', WHERE WHAT IT READS IS OF BULK AT MOST 1048576: true; the input reads as it did. -/
def bloomOrderUptoRow : OpenClaim := { program := "ytidohbnmkogkmaa", sum := "3508317fec3999078693ca2133dfafc9641aa9847835dec3afa4912d4e4e4de8", func := "dioptre/dioptrelaw24.BloomOrder", spec := "bloomOrder", apart := false, narrowed := true }
def BloomOrderUptoSaid : Prop := bloomOrderUptoRow.holds Try.pinned (OpenSpec.upto bloomOrderSpec)

/-- 'dioptrelaw02.PackWrites', WHERE WHAT IT READS IS OF BULK AT MOST 1048576: true; the input reads as it did. -/
def packWritesUptoRow : OpenClaim := { program := "ytidohbnmkogkmaa", sum := "3508317fec3999078693ca2133dfafc9641aa9847835dec3afa4912d4e4e4de8", func := "dioptre/dioptrelaw02.PackWrites", spec := "packWrites", recurses := true, apart := false, narrowed := true }
def PackWritesUptoSaid : Prop := packWritesUptoRow.holds Try.pinned (OpenSpec.upto packWritesSpec)

/-- 'dioptrelaw24.BloomSets', WHERE WHAT IT READS IS OF BULK AT MOST 1048576: true; the input reads as it did. -/
def bloomSetsUptoRow : OpenClaim := { program := "ytidohbnmkogkmaa", sum := "3508317fec3999078693ca2133dfafc9641aa9847835dec3afa4912d4e4e4de8", func := "dioptre/dioptrelaw24.BloomSets", spec := "bloomSets", apart := false, narrowed := true }
def BloomSetsUptoSaid : Prop := bloomSetsUptoRow.holds Try.pinned (OpenSpec.upto bloomSetsSpec)

/-- 'dioptrelaw24.BloomAdds', WHERE WHAT IT READS IS OF BULK AT MOST 1048576: true; the input reads as it did. -/
def bloomAddsUptoRow : OpenClaim := { program := "ytidohbnmkogkmaa", sum := "3508317fec3999078693ca2133dfafc9641aa9847835dec3afa4912d4e4e4de8", func := "dioptre/dioptrelaw24.BloomAdds", spec := "bloomAdds", unfollowed := true, recurses := true, apart := false, narrowed := true }
def BloomAddsUptoSaid : Prop := bloomAddsUptoRow.holds Try.pinned (OpenSpec.upto bloomAddsSpec)

/-- 'dioptrelaw24.BloomKeeps', WHERE WHAT IT READS IS OF BULK AT MOST 1048576: true; the input reads as it did. -/
def bloomKeepsUptoRow : OpenClaim := { program := "ytidohbnmkogkmaa", sum := "3508317fec3999078693ca2133dfafc9641aa9847835dec3afa4912d4e4e4de8", func := "dioptre/dioptrelaw24.BloomKeeps", spec := "bloomKeeps", unfollowed := true, recurses := true, apart := false, narrowed := true }
def BloomKeepsUptoSaid : Prop := bloomKeepsUptoRow.holds Try.pinned (OpenSpec.upto bloomKeepsSpec)

/-- 'dioptrelaw02.PackSole', WHERE WHAT IT READS IS OF BULK AT MOST 1048576: true; the input reads as it did. -/
def packSoleUptoRow : OpenClaim := { program := "ytidohbnmkogkmaa", sum := "3508317fec3999078693ca2133dfafc9641aa9847835dec3afa4912d4e4e4de8", func := "dioptre/dioptrelaw02.PackSole", spec := "packSole", unfollowed := true, recurses := true, apart := false, narrowed := true }
def PackSoleUptoSaid : Prop := packSoleUptoRow.holds Try.pinned (OpenSpec.upto packSoleSpec)

/-- 'dioptrelaw02.PackBack', WHERE WHAT IT READS IS OF BULK AT MOST 1048576: true; the input reads as it did. -/
def packBackUptoRow : OpenClaim := { program := "ytidohbnmkogkmaa", sum := "3508317fec3999078693ca2133dfafc9641aa9847835dec3afa4912d4e4e4de8", func := "dioptre/dioptrelaw02.PackBack", spec := "packBack", unfollowed := true, recurses := true, apart := false, narrowed := true }
def PackBackUptoSaid : Prop := packBackUptoRow.holds Try.pinned (OpenSpec.upto packBackSpec)

end Rows
end Go.Proofs.Ytidohbnmkogkmaa
