/- How lists of names and filters read that came in. Conditions: none. -/
import Derived.Test.YtidohbnmkogkmaaOpenRows
import Derived.Test.YtidohbnmkogkmaaBloomW
namespace Go.Proofs.Ytidohbnmkogkmaa
open Go.ChangeShapes Go.WideShapes Go.ChangeAt Go.RowKit Go.Deep Go.Joins
section
variable {H : Type} {enc : TypeId × Value → H} {w : World}
theorem open_hashes {v : Value} {d : DataW H} {p : List MemPlace} {W : World} {base : Nat} (h : DataW.Trod enc Try.prog w 0 (fun _ => true) true 22 v d p) (hs : Sized Try.prog 22 d) (hk : Value.okWide Try.prog W .any base 22 v) :
    ∃ (A : Option Addr) (c : Nat) (l : List (List UInt8)), v = .slice A l.length c ∧ IsHashes w w.heap.size A l ∧ l.length ≤ 140737488351232 := by
  obtain ⟨A, c, l, rfl, hlc, hr, hc⟩ := open_rows (P := Try.prog) (α := List UInt8) (size := 32) (bytes := 32) Try.underlying22 (by kernel_rfl) (by omega) (by kernel_rfl) (by omega)
    (fun b o h => h.length = 32 ∧ w.rangeAt b o (h.map bv)) (fun fuel cs x b o hb hx _ hlen hcell => by
      obtain ⟨l, hl, rfl⟩ := open_u8array Try.underlying29 Try.underlying5 (by kernel_rfl) (by kernel_rfl) hx
      exact ⟨l, hl, hcell⟩) h hs hk
  refine ⟨A, c, l, rfl, ⟨fun x hx => ?_, fun h0 => ?_⟩, by omega⟩
  · obtain ⟨i, hi, rfl⟩ := List.getElem_of_mem hx
    obtain ⟨b, o, _, _, hf⟩ := hr (by omega)
    exact (hf i _ (List.getElem?_eq_getElem hi)).1
  · obtain ⟨b, o, e, hb, hf⟩ := hr h0
    exact ⟨b, o, e, hb, fun i x hx => (hf i x hx).2⟩
theorem open_filter {v : Value} {d : DataW H} {p : List MemPlace} {W : World} {base : Nat} (h : DataW.Trod enc Try.prog w 0 (fun _ => true) true 25 v d p) (hk : Value.okWide Try.prog W .any base 25 v) :
    ∃ f : List UInt8, f.length = 64 ∧ v = .agg (FB f) :=
  open_u8arr Try.underlying25 Try.underlying5 (by kernel_rfl) (by kernel_rfl) h hk
end
end Go.Proofs.Ytidohbnmkogkmaa
