/- Contracts of the layer bloom: the library's IndexFunc, DeleteFunc at names; Lacks; whether two lists of names are the same. Conditions: none. -/
import Derived.Test.YtidohbnmkogkmaaBloomL
namespace Go.Proofs.Ytidohbnmkogkmaa
open Go.RowKit

/-- 'f.Has', as a value. -/
abbrev hasV (f : List UInt8) : Value := .func (.func 23) #[.agg (FB f)] #[]

/-- Where the first one is. -/
def idxP (p : List UInt8 → Bool) (l : List (List UInt8)) (e : Ending) : Prop :=
  (∃ k : Nat, ∃ hk : k < l.length, e = .returned (.int .i64 k) ∧ p l[k] = true ∧ ∀ r (hr : r < k), p (l[r]'(by omega)) = false) ∨ (e = .returned (.int .i64 (-1)) ∧ ∀ x ∈ l, p x = false)
def IdxPost (p : List UInt8 → Bool) (l : List (List UInt8)) (w : World) (e : Ending) (w' : World) : Prop := idxP p l e ∧ Below w.heap.size w w'

set_option maxHeartbeats 1000000 in
set_option maxRecDepth 20000 in
theorem indexFunc_calls (f : List UInt8) (hf : f.length = 64) (l : List (List UInt8)) (A : Option Addr) (c : Nat) (w : World) (hl : IsHashes w w.heap.size A l) (hn : l.length ≤ 140737488351232) :
    Calls Try.prog 62 #[.slice A l.length c, hasV f] w (IdxPost (hasB f) l w) := by
  have HI := hide hl
  have HL := hide hf
  clear hl hf
  have hKs : ∀ (x : Array Value) W, (callFunc 23 x).run Try.prog W = .ok (.enter 23 x) W := fun _ _ => by kernel_rfl
  go_enter Try.func62, Try.ntmps62
  go_wp2_with fail
  go_loopw [8] (fun i wr => ∃ (k : Nat), i = .int .i64 k ∧ k ≤ l.length ∧ (∀ x ∈ l.take k, hasB f x = false) ∧ Below w.heap.size w wr) (fun i _ => l.length - (intOf i).toNat)
  case atStart => exact ⟨0, rfl, Nat.zero_le _, by simp, Below.refl _ _⟩
  case round =>
    obtain ⟨k, rfl, hk, hno, hw⟩ := hrel
    obtain ⟨wo, rfl⟩ : ∃ wo : World, wo = wr := ⟨_, rfl⟩
    have GW := hide hw
    have GN := hide hno
    clear hw hno
    by_cases hlt : k < l.length
    · obtain ⟨b, o, rfl, hbl, hf'⟩ := (HI.out.below GW.out).2 (by omega)
      have HR := hide (hf' k _ (List.getElem?_eq_getElem hlt))
      have HJ := hide (HI.out.1 l[k] (List.getElem_mem _))
      have hih := info_hash l[k] HJ.out
      clear hf'
      go_wp2_with (first | (refine wpList_load_mid rfl 29 _ rfl b (o + k * 32) rfl (l[k].map bv) _ HR.out rfl rfl hih ?_) | fail)
      refine (has_calls _ _ f l[k] rfl rfl HL.out HJ.out _).mono ?_
      rintro e w1 ⟨rfl, hb1⟩
      have KW := hide (GW.out.trans (hb1.mono GW.out.size))
      clear hb1
      cases hx : hasB f l[k]
      · have HX := hide hx
        clear hx
        go_wp2_with fail
        exact ⟨⟨k + 1, by go_num, by omega, fun x hx => by
          rw [List.take_succ_eq_append_getElem hlt] at hx
          rcases List.mem_append.1 hx with h | h
          · exact GN.out x h
          · rw [List.mem_singleton.1 h]; exact HX.out, KW.out⟩, by simp [intOf]; omega⟩
      · have HX := hide hx
        clear hx
        go_wp2
        go_ret
        exact ⟨.inl ⟨k, hlt, rfl, HX.out, fun r hr => GN.out _ (by
          rw [← List.getElem_take (h := by rw [List.length_take]; omega) (i := r) (j := k)]
          exact List.getElem_mem _)⟩, KW.out⟩
    · obtain rfl : k = l.length := by omega
      rw [List.take_length] at GN
      go_wp2
      go_ret
      exact ⟨.inr ⟨rfl, GN.out⟩, GW.out⟩

/-- The cells of n elements cleared. -/
theorem run_clear_rows {P : Program} (w : World) (t e ty : TypeId) (z : Value) (size : Nat) (ht : P.underlying t = some (.slice e)) (hv : ∀ w, (zeroValue e).run P w = .ok z w) (hz : z.cells.size = size) (h1 : ∀ v ∈ z.cells.toList, v.oneCell' = true) (b o n c : Nat) (hn : 0 < n)
    (hc : ∀ j, j < n * size → (w.cell? ⟨b, o + j, none⟩).isSome = true) (hf : ∀ j, j < n * size → w.frozen? ⟨b, o + j, none⟩ = false) :
    ∃ vs : List Value, vs.length = n * size ∧ (∀ v ∈ vs, v.oneCell' = true) ∧ (Builtin.clear_ #[t] ty #[.slice (some ⟨b, o, none⟩) n c]).run P w = .ok (.tuple #[]) (w.setCells b o vs) := by
  refine ⟨(Builtin.zeroCells z.cells n).toList, by simp [Builtin.zeroCells, hz], ?_, ?_⟩
  · intro v hv'
    simp only [Builtin.zeroCells, Array.toList_map, List.mem_map] at hv'
    obtain ⟨i, hi, rfl⟩ := hv'
    have hi' : i < n * size := by simpa [hz] using hi
    have hs : 0 < size := by rcases Nat.eq_zero_or_pos size with h | h; (rw [h] at hi'; omega); exact h
    have hlt : i % z.cells.size < z.cells.size := by rw [hz]; exact Nat.mod_lt _ hs
    rw [getElem!_pos z.cells _ hlt]
    exact h1 _ (by simp)
  · have hlen : (Builtin.zeroCells z.cells n).toList.length = n * size := by simp [Builtin.zeroCells, hz]
    have hone : ∀ v ∈ (Builtin.zeroCells z.cells n).toList, v.oneCell' = true := by
      intro v hv'
      simp only [Builtin.zeroCells, Array.toList_map, List.mem_map] at hv'
      obtain ⟨i, hi, rfl⟩ := hv'
      have hi' : i < n * size := by simpa [hz] using hi
      have hs : 0 < size := by rcases Nat.eq_zero_or_pos size with h | h; (rw [h] at hi'; omega); exact h
      have hlt : i % z.cells.size < z.cells.size := by rw [hz]; exact Nat.mod_lt _ hs
      rw [getElem!_pos z.cells _ hlt]
      exact h1 _ (by simp)
    have hst := run_storeCells_cells (P := P) b o (Builtin.zeroCells z.cells n).toList 0 w (by rw [hlen]; simpa using hc) (by rw [hlen]; simpa using hf) hone
    simp only [Nat.add_zero] at hst
    obtain ⟨m, rfl⟩ : ∃ m, n = m + 1 := ⟨n - 1, by omega⟩
    simp [Builtin.clear_, run_underlying ht, hv, hst]
end Go.Proofs.Ytidohbnmkogkmaa
