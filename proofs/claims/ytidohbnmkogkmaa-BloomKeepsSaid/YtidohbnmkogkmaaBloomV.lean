/- Contracts of the layer bloom, the second text. Conditions: none. -/
import Derived.Lib.BitFns
import Derived.Test.YtidohbnmkogkmaaBloomW
namespace Go.Proofs.Ytidohbnmkogkmaa
open Go.RowKit

theorem IsHashes.mono {w : World} {B C : Nat} {A : Option Addr} {l : List (List UInt8)} (h : IsHashes w B A l) (hb : B ≤ C) : IsHashes w C A l :=
  ⟨h.1, fun h0 => by obtain ⟨b, o, e, hlt, hc⟩ := h.2 h0; exact ⟨b, o, e, Nat.lt_of_lt_of_le hlt hb, hc⟩⟩
theorem IsHashes.more {w w' : World} {A : Option Addr} {l : List (List UInt8)} (h : IsHashes w w.heap.size A l) (hb : Below w.heap.size w w') : IsHashes w' w'.heap.size A l := (h.below hb).mono hb.size
def z64 : List UInt8 := List.replicate 64 0

set_option maxHeartbeats 1000000 in
set_option maxRecDepth 20000 in
theorem of_calls (l : List (List UInt8)) (A : Option Addr) (c : Nat) (w : World) (hl : IsHashes w w.heap.size A l) (hn : l.length ≤ 140737488351232) :
    Calls Try.prog 12 #[.slice A l.length c] w (Gives (.agg (FB (addL z64 l))) w) := by
  have HI := hide hl
  have hle : (addL z64 l).length = 64 := addL_length _ _
  clear hl
  go_enter Try.func12, Try.ntmps12
  go_wp2_with fail
  have b0 : Below w.heap.size w (w.alloc (.cells (FB z64) 26)) := (Below.refl _ _).alloc (Nat.le_refl _) _
  refine (add_calls _ z64 (by rfl) rfl l A c _ (HI.out.more b0) hn).mono ?_
  rintro e w1 ⟨rfl, hb1⟩
  have HB := hide ((Blk.new w 26 (FB z64)).below hb1 (by simp))
  have HW := hide (b0.trans (hb1.mono (by simp)))
  clear b0 hb1
  go_wp2_with (first | (refine wpList_store_blk rfl 26 _ _ rfl _ rfl (FB (addL z64 l)) rfl _ _ (HB.out) (by simp only [fb_size, hle]; rfl) (fb_info (by kernel_rfl) (hle)) (fb_one _) ?_; intro w2 hb2 hf2; have HB2 := hide hb2; have HF2 := hide hf2; clear hb2 hf2) | fail)
  refine bodyPost_ret (results_cell_row rfl _ _ (w.heap.size) _ (FB (addL z64 l)) (0, 0) _ rfl (HB2.out) rfl rfl (fb_info (by kernel_rfl) (hle))) rfl ?_
  exact ⟨rfl, HW.out.trans (HF2.out.below HW.out.size fun x hx h => by omega)⟩

set_option maxHeartbeats 1000000 in
set_option maxRecDepth 20000 in
theorem ones_calls' (x : Int) (w : World) (h0 : 0 ≤ x) (h1 : x ≤ 255) :
    Calls Try.prog 50 #[.int .u8 x] w fun e w' => e = .returned (.int .i64 (Lib.onesCount x.toNat)) ∧ w' = w := by
  have e : wrap64 (Lib.pop8 x) = (Lib.onesCount x.toNat : Int) := by rw [wrap64]; exact Lib.pop8_int x h0 h1
  generalize (Lib.onesCount x.toNat : Int) = n at *
  go_enter Try.func50, Try.ntmps50
  go_wp2
  go_ret
  exact ⟨ret_eq (int_eq e), rfl⟩
theorem ones_calls (x : UInt8) (w : World) :
    Calls Try.prog 50 #[bv x] w fun e w' => e = .returned (.int .i64 (Lib.onesCount x.toNat)) ∧ w' = w := by
  have h0 : (x.toNat : Int) ≤ 255 := by have := UInt8.toNat_lt x; omega
  have h1 : (0 : Int) ≤ (x.toNat : Int) := Int.natCast_nonneg _
  have h2 : ((x.toNat : Int)).toNat = x.toNat := Int.toNat_natCast _
  exact (ones_calls' (x.toNat : Int) w h1 h0).mono fun e w' h => ⟨h.1.trans (by rw [h2]), h.2⟩

/-- How many bits are set. -/
def cntN : List UInt8 → Nat
  | [] => 0
  | x :: l => Lib.onesCount x.toNat + cntN l
theorem cntN_snoc (l : List UInt8) (x : UInt8) : cntN (l ++ [x]) = cntN l + Lib.onesCount x.toNat := by
  induction l with
  | nil => simp [cntN]
  | cons y l ih => simp only [List.cons_append, cntN, ih]; omega
theorem cntN_le (l : List UInt8) : cntN l ≤ 8 * l.length := by
  induction l with
  | nil => simp [cntN]
  | cons y l ih =>
    have := Lib.onesCount_le8 ⟨y.toNat, UInt8.toNat_lt y⟩
    simp only [cntN, List.length_cons] at *; omega

theorem cnt_step (f : List UInt8) (k : Nat) (h : k < f.length) : ∃ x, f[k]? = some x ∧ cntN (f.take (k + 1)) = cntN (f.take k) + Lib.onesCount x.toNat ∧ cntN (f.take k) + Lib.onesCount x.toNat ≤ 8 * f.length := by
  have h2 : f.take (k + 1) = f.take k ++ [f[k]] := List.take_succ_eq_append_getElem h
  have h3 := cntN_snoc (f.take k) f[k]
  rw [← h2] at h3
  have h4 := cntN_le (f.take (k + 1))
  rw [List.length_take] at h4
  exact ⟨f[k], List.getElem?_eq_getElem h, h3, by omega⟩

set_option maxHeartbeats 1000000 in
set_option maxRecDepth 20000 in
theorem count_calls (cs : Array Value) (f : List UInt8) (hcs : cs = FB f) (hf : f.length = 64) (w : World) :
    Calls Try.prog 20 #[.agg cs] w (Gives (.int .i64 (cntN f)) w) := by
  have HB := hide (Blk.new w 26 cs)
  have HI := hide (show (Try.prog.info? 26).map (·.size) = some cs.size by rw [hcs]; exact fb_info (n := 64) (by kernel_rfl) hf)
  have HC := hide hcs
  clear hcs
  go_enter Try.func20, Try.ntmps20
  go_wp2_with (first | (refine wpList_load_blk rfl 26 _ rfl _ rfl _ _ HB.out _ rfl rfl HI.out ?_) | fail)
  go_loop [3, 7] (fun n i => ∃ k : Nat, i = .int .i64 k ∧ k ≤ 64 ∧ n = .int .i64 (cntN (f.take k))) (fun _ i => 64 - (intOf i).toNat)
  case atStart => exact ⟨0, rfl, by omega, rfl⟩
  case round =>
    obtain ⟨k, rfl, hk, rfl⟩ := hrel
    by_cases hlt : k < 64
    · obtain ⟨x, hx0, hs, h1⟩ := cnt_step f k (by omega)
      have hx : cs[k]? = some (bv x) := by rw [HC.out]; simp [FB, hx0]
      have HS := hide hs
      clear hs hx0
      have hcall := fun w => ones_calls x w
      generalize cntN (f.take k) = n at *
      generalize Lib.onesCount x.toNat = m at *
      have hix := run_index_plain Try.underlying26 (by kernel_rfl) (by kernel_rfl) hlt hx
      have HO := hide hcall
      have hb : n + m ≤ 512 := by omega
      clear hcall h1
      go_wp2_with fail
      refine (HO.out _).mono ?_
      rintro e w1 ⟨rfl, rfl⟩
      go_wp2_with fail
      exact ⟨⟨k + 1, by go_num, by omega, by rw [HS.out]; go_num⟩, by simp [intOf]; omega⟩
    · obtain rfl : k = 64 := by omega
      go_wp2
      go_ret
      exact ⟨ret_eq (by rw [show f.take 64 = f from List.take_of_length_le (by omega)]; rfl), (Below.refl _ _).alloc (Nat.le_refl _) _⟩
end Go.Proofs.Ytidohbnmkogkmaa
