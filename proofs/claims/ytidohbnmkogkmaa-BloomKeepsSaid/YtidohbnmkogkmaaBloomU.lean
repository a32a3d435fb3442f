/- Contracts of the layer bloom, the third text. Conditions: none. -/
import Derived.Deep.RegionHeld3
import Derived.Deep.Cut
import Derived.Test.YtidohbnmkogkmaaBloomV
namespace Go.Proofs.Ytidohbnmkogkmaa
open Go.RowKit

/-- Has a filter a name? -/
def hasB (f h : List UInt8) : Bool := decide (addL f [h] = f)

theorem eql_filter (f g : List UInt8) (hf : f.length = 64) (hg : g.length = 64) (w : World) : (binOp .eql 26 (.agg (FB f)) (.agg (FB g))).run Try.prog w = .ok (.bool (decide (f = g))) w :=
  run_eql_bytes w 64 26 5 Try.underlying26 Try.underlying5 (by kernel_rfl) (by kernel_rfl) (by kernel_rfl) f g hf hg
theorem neq_filter (f g : List UInt8) (hf : f.length = 64) (hg : g.length = 64) (w : World) : (binOp .neq 26 (.agg (FB f)) (.agg (FB g))).run Try.prog w = .ok (.bool (!decide (f = g))) w :=
  run_neq_bytes w 64 26 5 Try.underlying26 Try.underlying5 (by kernel_rfl) (by kernel_rfl) (by kernel_rfl) f g hf hg
theorem info_filter (f : List UInt8) (hf : f.length = 64) : (Try.prog.info? 26).map (·.size) = some (f.map bv).length := by rw [List.length_map, hf]; kernel_rfl
theorem info_hash (f : List UInt8) (hf : f.length = 32) : (Try.prog.info? 29).map (·.size) = some (f.map bv).length := by rw [List.length_map, hf]; kernel_rfl
/-- A list of one name, made by 'buildSlice'. -/
theorem IsHashes.one (w : World) (t : TypeId) (h : List UInt8) (hl : h.length = 32) : IsHashes (w.alloc (.cells (FB h) t)) (w.alloc (.cells (FB h) t)).heap.size (some ⟨w.heap.size, 0, none⟩) [h] :=
  ⟨fun x hx => by simp only [List.mem_singleton] at hx; rw [hx, hl], fun _ => ⟨w.heap.size, 0, rfl, by simp, fun i x hx => by
    rcases i with _ | i
    · simp only [List.getElem?_cons_zero, Option.some.injEq] at hx
      subst hx
      simpa using (Blk.new w t (FB h)).range
    · simp at hx⟩⟩

set_option maxHeartbeats 1000000 in
set_option maxRecDepth 20000 in
theorem has_calls (cs hs : Array Value) (f h : List UInt8) (hcs : cs = FB f) (hhs : hs = FB h) (hf : f.length = 64) (hh : h.length = 32) (w : World) :
    Calls Try.prog 23 #[.agg cs, .agg hs] w (Gives (.bool (hasB f h)) w) := by
  subst hcs hhs
  have HI := hide hf
  have HJ := hide hh
  have H2 := hide ((Blk.new w 26 (FB f)).alloc (.cells (FB h) 29))
  have H3 := hide (Blk.new (w.alloc (.cells (FB f) 26)) 29 (FB h))
  rw [World.size_alloc] at H3
  have hu26 := Try.underlying26
  have hu29 := Try.underlying29
  have hi26 := info_filter f hf
  have hi29 := info_hash h hh
  have heq := fun W => eql_filter (addL f [h]) f ((addL_length _ _).trans hf) hf W
  clear hf hh
  have hc : Hid (∀ (W : World) (A : Value), A = .slice (some ⟨W.heap.size, 0, none⟩) 1 1 → Calls Try.prog 11 #[.agg (FB f), A] (W.alloc (.cells (FB h) 29)).drew (Gives (.agg (FB (addL f [h]))) (W.alloc (.cells (FB h) 29)).drew)) :=
    hide fun W A hA => by subst hA; exact add_calls _ f rfl HI.out [h] _ _ _ ((IsHashes.one _ _ h HJ.out).below (Below.refl _ _).drew) (by simp)
  have hlen := HJ.out
  go_enter Try.func23, Try.ntmps23
  go_upto_region 1 with fail
  refine wp_region_held_drew (S := fun w' => Below (w.heap.size + 2) ((w.alloc (.cells (FB f) 26)).alloc (.cells (FB h) 29)) w') (by kernel_rfl) (Below.refl _ _).drew (fun hHeld => ?_)
  refine wpAnyH_take (i := 0) (v := .agg (FB f)) rfl (by kernel_rfl) (by kernel_rfl) (by kernel_rfl) (fun _ _ _ h => h) (yieldsIf_load_mid (by rfl) 26 (.tmp 2) rfl (w.heap.size) 0 rfl (f.map bv) _ (fun w hw => (H2.out.below hw (by omega)).range) hu26 rfl hi26) hHeld ?_
  simp only [Act.put, List.setIfInBounds_toArray, List.set_cons_zero, List.set_cons_succ]
  refine wpAnyH_take (i := 1) (v := .agg (FB h)) rfl (by kernel_rfl) (by kernel_rfl) (by kernel_rfl) (fun _ _ _ h => h) (yieldsIf_load_mid (by rfl) 29 (.tmp 3) rfl (w.heap.size + 1) 0 rfl (h.map bv) _ (fun w hw => (H3.out.below hw (by omega)).range) hu29 rfl hi29) hHeld ?_
  simp only [Act.put, List.setIfInBounds_toArray, List.set_cons_zero, List.set_cons_succ]
  refine wpAnyH_take (i := 4) (v := .agg (FB f)) rfl (by kernel_rfl) (by kernel_rfl) (by kernel_rfl) (fun _ _ _ h => h) (yieldsIf_load_mid (by rfl) 26 (.tmp 2) rfl (w.heap.size) 0 rfl (f.map bv) _ (fun w hw => (H2.out.below hw (by omega)).range) hu26 rfl hi26) hHeld ?_
  simp only [Act.put, List.setIfInBounds_toArray, List.set_cons_zero, List.set_cons_succ]
  refine wpAnyH_ready (rs := [2]) (by kernel_rfl) (by simp) ?_
  refine AllReadyH.cons rfl (fun K hK => ?_) AllReadyH.nil
  go_simp
  rw [foldl_zip_all _ _ (by rw [List.length_map, hlen]; rfl)]
  refine hK.out _ _ (((Below.refl _ _).alloc (by simp) _).drew) (fun hHeld => ?_)
  clear hK K
  refine wpAnyH_ready (rs := [3]) (by kernel_rfl) (by simp) ?_
  refine AllReadyH.cons rfl (fun K hK => ?_) AllReadyH.nil
  go_simp
  refine (hc.out ((w.alloc (.cells (FB f) 26)).alloc (.cells (FB h) 29)) _ (by simp)).mono ?_
  rintro e w1 ⟨rfl, hb1⟩
  have hB1 := hHeld.trans (hb1.mono (by simp))
  clear hb1
  refine hK.out _ _ hB1 (fun hHeld => ?_)
  clear hK K
  refine wpAnyH_ready (rs := [5]) (by kernel_rfl) (by simp) ?_
  refine AllReadyH.cons rfl (fun K hK => ?_) AllReadyH.nil
  go_simp
  refine hK.out _ _ hB1 (fun hHeld => ?_)
  clear hK K
  refine wpAnyH_ready (rs := [6]) (by kernel_rfl) (by simp) ?_
  refine AllReadyH.cons rfl (fun K hK => ?_) AllReadyH.nil
  go_simp
  refine hK.out _ _ hB1 (fun hHeld => ?_)
  clear hK K
  refine wpAnyH_done (by kernel_rfl) ?_ _
  go_wp2
  go_ret
  exact ⟨ret_eq rfl, (((Below.refl _ _).alloc (Nat.le_refl _) _).alloc (by simp) _).trans (hB1.mono (by omega))⟩

def z32 : List UInt8 := List.replicate 32 0
def o32 : List UInt8 := 0 :: 1 :: List.replicate 30 0
def awakeF : List UInt8 := addL z64 [z32]
theorem awakeF_len : awakeF.length = 64 := addL_length _ _
theorem awakeF_cnt : cntN awakeF = 1 := by kernel_rfl
theorem awakeF_has : hasB awakeF z32 = true := by kernel_rfl
theorem awakeF_not : hasB awakeF o32 = false := by kernel_rfl
set_option maxHeartbeats 1000000 in
set_option maxRecDepth 20000 in
theorem awake_calls (w : World) : Calls Try.prog 10 #[] w (Gives (.bool true) w) := by
  have HO := hide (of_calls [z32] (some ⟨w.heap.size, 0, none⟩) 1 (w.alloc (.cells (FB z32) 29)) (IsHashes.one w 29 z32 rfl) (by simp))
  go_enter Try.func10, Try.ntmps10
  go_wp2_with fail
  refine (HO.out).mono ?_
  rintro e w1 ⟨rfl, hb1⟩
  have HB1 := hide ((Below.refl w.heap.size w).alloc (Nat.le_refl _) (.cells (FB z32) 29) |>.trans (hb1.mono (by simp)))
  clear hb1
  have hla := awakeF_len
  have hfa : addL z64 [z32] = awakeF := rfl
  rw [hfa]
  go_wp2_with (first | (refine wpList_store_blk rfl 26 _ _ rfl _ rfl (FB (awakeF)) rfl _ _ (Blk.new _ _ _) (by simp only [fb_size, hla]; rfl) (fb_info (by kernel_rfl) (hla)) (fb_one _) ?_; intro w2 hb2 hf2; have HB2 := hide hb2; have HF2 := hide hf2; clear hb2 hf2) | (refine wpList_load_blk rfl 26 _ rfl _ rfl _ _ (HB2.out) _ rfl rfl (fb_info (by kernel_rfl) (hla)) ?_) | fail)
  have HW2 := hide (HB1.out.trans (((Below.refl _ w1).alloc (Nat.le_refl _) _).trans (HF2.out.below (by simp) fun x hx h => by omega) |>.mono HB1.out.size))
  refine (count_calls _ awakeF rfl hla _).mono ?_
  rintro e w3 ⟨rfl, hb3⟩
  rw [awakeF_cnt]
  have HB3 := hide (HB2.out.below hb3 HB2.out.lt)
  have HW3 := hide (HW2.out.trans (hb3.mono HW2.out.size))
  clear hb3
  go_wp2_with (first | (refine wpList_load_blkg (by rfl) 26 _ rfl _ rfl _ _ (HB3.out) _ rfl rfl (fb_info (by kernel_rfl) (hla)) ?_) | fail)
  refine (has_calls _ _ awakeF z32 rfl (by rfl) hla rfl _).mono ?_
  rintro e w4 ⟨rfl, hb4⟩
  rw [awakeF_has]
  have HB4 := hide (HB3.out.below hb4 HB3.out.lt)
  have HW4 := hide (HW3.out.trans (hb4.mono HW3.out.size))
  clear hb4
  go_wp2_with (first | (refine wpList_load_blkg (by rfl) 26 _ rfl _ rfl _ _ (HB4.out) _ rfl rfl (fb_info (by kernel_rfl) (hla)) ?_) | fail)
  refine (has_calls _ _ awakeF o32 rfl (by rfl) hla rfl _).mono ?_
  rintro e w5 ⟨rfl, hb5⟩
  rw [awakeF_not]
  have HW5 := hide (HW4.out.trans (hb5.mono HW4.out.size))
  clear hb5
  go_wp2
  go_ret
  exact ⟨ret_eq rfl, HW5.out⟩
end Go.Proofs.Ytidohbnmkogkmaa
