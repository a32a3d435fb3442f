/- BloomOrder, walked. Conditions: none. -/
import Derived.Test.YtidohbnmkogkmaaBloomU
import Derived.Test.YtidohbnmkogkmaaBloomP
import Derived.Test.YtidohbnmkogkmaaRegion
namespace Go.Proofs.Ytidohbnmkogkmaa
open Go.RowKit

set_option maxHeartbeats 2000000 in
set_option maxRecDepth 20000 in
theorem bloomOrder_calls (l : List (List UInt8)) (A : Option Addr) (c : Nat) (os : List UInt8) (A2 : Option Addr) (c2 : Nat) (w : World) (hl : IsHashes w w.heap.size A l) (hr : Reads w w.heap.size 1 A2 os.length (os.map bv)) (hn : l.length ≤ 140737488351232) (hm : os.length ≤ 140737488351232) :
    Calls Try.prog 3 #[.slice A l.length c, .slice A2 os.length c2] w (Gives (.bool true) w) := by
  have HI := hide hl
  have HR := hide hr
  clear hl hr
  by_cases hbig : l.length > 40 ∨ os.length > 80
  · by_cases hb1 : l.length > 40
    all_goals
      go_enter Try.func3, Try.ntmps3
      go_wp2_with fail
      refine (awake_calls _).mono ?_
      rintro e w1 ⟨rfl, hbw⟩
      go_wp2
      go_ret
      exact ⟨ret_eq rfl, hbw⟩
  · have h1 : l.length ≤ 40 := by omega
    have h2 : os.length ≤ 80 := by omega
    clear hbig
    go_enter Try.func3, Try.ntmps3
    go_wp2_with fail
    go_loopw [6] (fun i wr => ∃ (k : Nat) (P : List (List UInt8)), i = .int .i64 k ∧ k ≤ os.length ∧ (∀ x ∈ P, x ∈ l) ∧ Blk wr w.heap.size 26 (FB (addL z64 P)) ∧ Below w.heap.size w wr) (fun i _ => os.length - (intOf i).toNat)
    case atStart => exact ⟨0, [], rfl, Nat.zero_le _, by simp, Blk.new w 26 (FB z64), (Below.refl _ _).alloc (Nat.le_refl _) _⟩
    case round =>
      obtain ⟨k, P, rfl, hk, hP, hG, hb⟩ := hrel
      have HG := hide hG
      have HB := hide hb
      clear hG hb
      by_cases hgo : k < os.length ∧ 0 < l.length
      · obtain ⟨hk3, hl3⟩ := hgo
        obtain ⟨wo, rfl⟩ : ∃ wo : World, wo = wr := ⟨_, rfl⟩
        obtain ⟨b, o, rfl, hbl, hf'⟩ := (HI.out.below HB.out).2 hl3
        obtain ⟨b2, o2, rfl, hb2, hcell⟩ := (HR.out.below HB.out).map_at hk3
        have hq : os[k].toNat % l.length < l.length := Nat.mod_lt _ hl3
        have hx256 := UInt8.toNat_lt os[k]
        generalize hre : os[k].toNat % l.length = r at hq
        have HRh := hide (hf' r _ (List.getElem?_eq_getElem hq))
        have hlen := HI.out.1 l[r] (List.getElem_mem _)
        have hmem : l[r] ∈ l := List.getElem_mem _
        clear hf'
        have hcell' : wo.cell? ⟨b2, o2 + k, none⟩ = some (.int .u8 (os[k].toNat : Int)) := hcell
        clear hcell
        generalize os[k].toNat = x at *
        generalize l[r] = h at *
        have HPP : Hid (∀ y ∈ P ++ [h], y ∈ l) := hide fun y hy => by
          rcases List.mem_append.1 hy with h' | h'
          · exact hP y h'
          · rw [List.mem_singleton.1 h']; exact hmem
        clear hP hmem
        have HJ := hide hlen
        have hu26 := Try.underlying26
        have hu29 := Try.underlying29
        have hla : (addL z64 P).length = 64 := addL_length _ _
        have hi26 := info_filter (addL z64 P) hla
        have hi29 := info_hash h hlen
        have hc : Hid (∀ (W : World) (A : Value), A = .slice (some ⟨W.heap.size, 0, none⟩) 1 1 → Calls Try.prog 11 #[.agg (FB (addL z64 P)), A] (W.alloc (.cells (FB h) 29)).drew (Gives (.agg (FB (addL (addL z64 P) [h]))) (W.alloc (.cells (FB h) 29)).drew)) :=
          hide fun W A hA => by subst hA; exact add_calls _ (addL z64 P) rfl hla [h] _ _ _ ((IsHashes.one _ _ h HJ.out).below (Below.refl _ _).drew) (by simp)
        have j1 : (0 : Int) ≤ (k : Int) := Int.natCast_nonneg _
        have j2 : (k : Int) < (os.length : Int) := by omega
        have j3 : (0 : Int) ≤ (r : Int) := Int.natCast_nonneg _
        have j4 : (r : Int) < (l.length : Int) := by omega
        have j5 : ¬ (l.length : Int) = 0 := by omega
        have j6 : (x : Int).tmod (l.length : Int) = (r : Int) := by rw [Int.tmod_eq_emod_of_nonneg (by omega), ← hre]; exact (Int.natCast_emod _ _).symm
        have j7 : IntKind.i64.wrap (x : Int) = (x : Int) := by rw [IntKind.wrap_i64]; omega
        clear hre
        have j8 : ¬ l = [] := by rintro rfl; simp at hl3
        have HB2w := hide (Nat.lt_of_lt_of_le hb2 HB.out.size)
        have HS4 : Hid (∀ w, Below wo.heap.size wo w → w.rangeAt b (o + r * 32) (h.map bv)) := hide fun w hw j v hv => (hw.cell (p := ⟨b, o + r * 32 + j, none⟩) (Nat.lt_of_lt_of_le hbl HB.out.size)).trans (HRh.out j v hv)
        have HCL := hide hcell'
        clear hcell'
        go_wp2_with fail
        refine wp_region_held_tail 14 (S := fun w' => Below wo.heap.size wo w') (by kernel_rfl) (by kernel_rfl) ((Below.refl _ _).drew) (fun hHeld => ?_); simp only [List.take_succ_cons, List.take_zero, List.drop_succ_cons, List.drop_zero]
        (refine takeH (i := 0) (v := .agg ((addL z64 P).map bv).toArray) rfl rfl (by kernel_rfl) (by kernel_rfl) (by kernel_rfl) (fun _ _ _ h => h) (by rfl) (fun wz hw => load_exec 26 (.tmp 5) rfl (w.heap.size) (0) rfl ((addL z64 P).map bv) _ ((HG.out.below hw HG.out.lt).range) hu26 rfl hi26) hHeld ?_; simp only [Act.put, List.setIfInBounds_toArray, List.set_cons_zero, List.set_cons_succ])
        (refine takeH (i := 1) (v := .slice (some ⟨b, o, none⟩) l.length c) rfl rfl (by kernel_rfl) (by kernel_rfl) (by kernel_rfl) (fun _ _ _ h => h) (by rfl) (fun w hSw => by go_simp) hHeld ?_; simp only [Act.put, List.setIfInBounds_toArray, List.set_cons_zero, List.set_cons_succ])
        (refine takeH (i := 2) (v := .slice (some ⟨b2, o2, none⟩) os.length c2) rfl rfl (by kernel_rfl) (by kernel_rfl) (by kernel_rfl) (fun _ _ _ h => h) (by rfl) (fun w hSw => by go_simp) hHeld ?_; simp only [Act.put, List.setIfInBounds_toArray, List.set_cons_zero, List.set_cons_succ])
        (refine takeH (i := 3) (v := .int .i64 k) rfl rfl (by kernel_rfl) (by kernel_rfl) (by kernel_rfl) (fun _ _ _ h => h) (by rfl) (fun w hSw => by go_simp) hHeld ?_; simp only [Act.put, List.setIfInBounds_toArray, List.set_cons_zero, List.set_cons_succ])
        (refine takeH (i := 4) (v := .pointer (some ⟨b2, o2 + k, none⟩)) rfl rfl (by kernel_rfl) (by kernel_rfl) (by kernel_rfl) (fun _ _ _ h => h) (by rfl) (fun w hSw => by go_simp) hHeld ?_; simp only [Act.put, List.setIfInBounds_toArray, List.set_cons_zero, List.set_cons_succ])
        (refine takeH (i := 5) (v := .int .u8 (x : Int)) rfl rfl (by kernel_rfl) (by kernel_rfl) (by kernel_rfl) (fun _ _ _ h => h) (by rfl) (fun w hSw => by have hcx := (hSw.cell (p := ⟨b2, o2 + k, none⟩) HB2w.out).trans HCL.out; go_simp) hHeld ?_; simp only [Act.put, List.setIfInBounds_toArray, List.set_cons_zero, List.set_cons_succ])
        (refine takeH (i := 6) (v := .int .i64 (x : Int)) rfl rfl (by kernel_rfl) (by kernel_rfl) (by kernel_rfl) (fun _ _ _ h => h) (by rfl) (fun w hSw => by go_simp) hHeld ?_; simp only [Act.put, List.setIfInBounds_toArray, List.set_cons_zero, List.set_cons_succ])
        (refine takeH (i := 7) (v := .slice (some ⟨b, o, none⟩) l.length c) rfl rfl (by kernel_rfl) (by kernel_rfl) (by kernel_rfl) (fun _ _ _ h => h) (by rfl) (fun w hSw => by go_simp) hHeld ?_; simp only [Act.put, List.setIfInBounds_toArray, List.set_cons_zero, List.set_cons_succ])
        (refine takeH (i := 8) (v := .int .i64 l.length) rfl rfl (by kernel_rfl) (by kernel_rfl) (by kernel_rfl) (fun _ _ _ h => h) (by rfl) (fun w hSw => by go_simp) hHeld ?_; simp only [Act.put, List.setIfInBounds_toArray, List.set_cons_zero, List.set_cons_succ])
        (refine takeH (i := 9) (v := .int .i64 (r : Int)) rfl rfl (by kernel_rfl) (by kernel_rfl) (by kernel_rfl) (fun _ _ _ h => h) (by rfl) (fun w hSw => by go_simp) hHeld ?_; simp only [Act.put, List.setIfInBounds_toArray, List.set_cons_zero, List.set_cons_succ])
        (refine takeH (i := 10) (v := .pointer (some ⟨b, o + r * 32, none⟩)) rfl rfl (by kernel_rfl) (by kernel_rfl) (by kernel_rfl) (fun _ _ _ h => h) (by rfl) (fun w hSw => by go_simp) hHeld ?_; simp only [Act.put, List.setIfInBounds_toArray, List.set_cons_zero, List.set_cons_succ])
        (refine takeH (i := 11) (v := .agg (h.map bv).toArray) rfl rfl (by kernel_rfl) (by kernel_rfl) (by kernel_rfl) (fun _ _ _ h => h) (by rfl) (fun wz hw => load_exec 29 (.tmp 38) rfl (b) (o + r * 32) rfl (h.map bv) _ (HS4.out _ hw) hu29 rfl hi29) hHeld ?_; simp only [Act.put, List.setIfInBounds_toArray, List.set_cons_zero, List.set_cons_succ])
        (refine oneH (i := 12) rfl (by kernel_rfl) (fun K hK => ?_); go_simp; rw [foldl_zip_all _ _ (by rw [List.length_map, hlen]; rfl)]; refine hK.out _ _ (((Below.refl _ _).alloc (Nat.le_refl _) _).drew) (fun hHeld => ?_); clear hK K)
        (refine oneH (i := 13) rfl (by kernel_rfl) (fun K hK => ?_); go_simp; refine (hc.out wo _ rfl).mono ?_; rintro e w1 ⟨rfl, hb1⟩; have hB1 := hHeld.trans (hb1.mono (by simp)); refine hK.out _ _ (hB1) (fun hHeld => ?_); clear hK K)
        refine wpAnyH_done (by kernel_rfl) ?_ _; simp only [Exit.then]
        go_wp2_with (first | (refine wpList_store_blk rfl 26 _ _ rfl _ rfl (FB (addL (addL z64 P) [h])) rfl _ _ (HG.out.below hB1 HG.out.lt) (by simp only [fb_size, addL_length]) (fb_info (by kernel_rfl) ((addL_length _ _).trans hla)) (fb_one _) ?_; intro w2 hb2 hf2; have HB2 := hide hb2; have HF2 := hide hf2; clear hb2 hf2) | fail)
        have HW2 := hide ((HB.out.trans (hB1.mono HB.out.size)).trans (HF2.out.below (Nat.le_trans HB.out.size hB1.size) fun x hx h => by omega))
        clear hB1
        exact ⟨⟨k + 1, P ++ [h], by go_num, by omega, HPP.out, by rw [addL_append]; exact HB2.out, HW2.out⟩, by simp [intOf]; omega⟩
      · by_cases hk2 : k < os.length
        · have hl0 : l.length = 0 := by omega
          clear hgo
          go_wp2_with fail
          go_loopw [7] (fun i wr => ∃ (z : Int) (P : List (List UInt8)), i = .int .i64 z ∧ -1 ≤ z ∧ z < l.length ∧ (∀ x ∈ P, x ∈ l) ∧ (∀ x ∈ l.drop (z + 1).toNat, x ∈ P) ∧ Blk wr w.heap.size 26 (FB (addL z64 P)) ∧ Below w.heap.size w wr) (fun i _ => (intOf i + 1).toNat)
          case atStart => exact ⟨_, P, rfl, by omega, by omega, hP, by rw [List.drop_of_length_le (by omega)]; simp, HG.out, HB.out⟩
          case round =>
            clear hP HG HB hk
            obtain ⟨z, P, rfl, hz, hzl, hP, hD, hG, hb⟩ := hrel
            obtain ⟨wo, rfl⟩ : ∃ wo : World, wo = wr := ⟨_, rfl⟩
            have HG := hide hG
            have HB := hide hb
            clear hG hb
            by_cases hz0 : 0 ≤ z
            · exact absurd hzl (by omega)
            · obtain rfl : z = -1 := by omega
              have hPl : addL z64 P = addL z64 l := addL_set _ _ _ rfl hP (by simpa using hD)
              have HG := hide (hPl ▸ HG.out : Blk wo w.heap.size 26 (FB (addL z64 l)))
              clear hP hD hPl
              have hu26 := Try.underlying26
              have hla : (addL z64 l).length = 64 := addL_length _ _
              have hi26 := info_filter (addL z64 l) hla
              have heq := fun W => eql_filter (addL z64 l) (addL z64 l) hla hla W
              rw [decide_eq_true rfl] at heq
              go_wp2_with fail
              refine wp_region_held_drew (S := fun w' => Below wo.heap.size wo w') (by kernel_rfl) (Below.refl _ _).drew (fun hHeld => ?_)
              (refine takeH (i := 0) (v := .agg ((addL z64 l).map bv).toArray) rfl rfl (by kernel_rfl) (by kernel_rfl) (by kernel_rfl) (fun _ _ _ h => h) (by rfl) (fun wz hw => load_exec 26 (.tmp 5) rfl (w.heap.size) (0) rfl ((addL z64 l).map bv) _ ((HG.out.below hw HG.out.lt).range) hu26 rfl hi26) hHeld ?_; simp only [Act.put, List.setIfInBounds_toArray, List.set_cons_zero, List.set_cons_succ])
              (refine takeH (i := 1) (v := .slice A l.length c) rfl rfl (by kernel_rfl) (by kernel_rfl) (by kernel_rfl) (fun _ _ _ h => h) (by rfl) (fun w hSw => by go_simp) hHeld ?_; simp only [Act.put, List.setIfInBounds_toArray, List.set_cons_zero, List.set_cons_succ])
              (refine oneH (i := 2) rfl (by kernel_rfl) (fun K hK => ?_); go_simp; have hof := of_calls l A c _ (HI.out.more HB.out.drew) hn; rw [hl0] at hof; refine hof.mono ?_; rintro e w1 ⟨rfl, hb1⟩; have hB1 := hHeld.trans (hb1.mono (by simp)); refine hK.out _ _ (hB1) (fun hHeld => ?_); clear hK K)
              (refine takeH (i := 3) (v := .bool true) rfl rfl (by kernel_rfl) (by kernel_rfl) (by kernel_rfl) (fun _ _ _ h => h) (by rfl) (fun w hSw => by go_simp) hHeld ?_; simp only [Act.put, List.setIfInBounds_toArray, List.set_cons_zero, List.set_cons_succ])
              (refine takeH (i := 4) (v := .bool true) rfl rfl (by kernel_rfl) (by kernel_rfl) (by kernel_rfl) (fun _ _ _ h => h) (by rfl) (fun w hSw => by go_simp) hHeld ?_; simp only [Act.put, List.setIfInBounds_toArray, List.set_cons_zero, List.set_cons_succ])
              (refine oneH (i := 5) rfl (by kernel_rfl) (fun K hK => ?_); go_simp; refine (awake_calls _).mono ?_; rintro e w2 ⟨rfl, hb2⟩; have hB2 := hHeld.trans (hb2.mono hHeld.size); refine hK.out _ _ (hB2) (fun hHeld => ?_); clear hK K)
              (refine oneH (i := 6) rfl (by kernel_rfl) (fun K hK => ?_); go_simp; refine hK.out _ _ (hB2) (fun hHeld => ?_); clear hK K)
              (refine oneH (i := 7) rfl (by kernel_rfl) (fun K hK => ?_); go_simp; refine hK.out _ _ (hB2) (fun hHeld => ?_); clear hK K)
              refine wpAnyH_done (by kernel_rfl) ?_ _
              have HB2 := hide (HB.out.trans (hB2.mono HB.out.size))
              clear hB1 hB2
              go_wp2
              go_ret
              exact ⟨ret_eq rfl, HB2.out⟩
        · clear hgo
          go_wp2_with fail
          go_loopw [7] (fun i wr => ∃ (z : Int) (P : List (List UInt8)), i = .int .i64 z ∧ -1 ≤ z ∧ z < l.length ∧ (∀ x ∈ P, x ∈ l) ∧ (∀ x ∈ l.drop (z + 1).toNat, x ∈ P) ∧ Blk wr w.heap.size 26 (FB (addL z64 P)) ∧ Below w.heap.size w wr) (fun i _ => (intOf i + 1).toNat)
          case atStart => exact ⟨_, P, rfl, by omega, by omega, hP, by rw [List.drop_of_length_le (by omega)]; simp, HG.out, HB.out⟩
          case round =>
            clear hP HG HB hk
            obtain ⟨z, P, rfl, hz, hzl, hP, hD, hG, hb⟩ := hrel
            obtain ⟨wo, rfl⟩ : ∃ wo : World, wo = wr := ⟨_, rfl⟩
            have HG := hide hG
            have HB := hide hb
            clear hG hb
            by_cases hz0 : 0 ≤ z
            · obtain ⟨k, rfl⟩ := Int.eq_ofNat_of_zero_le hz0
              have hlt : k < l.length := by omega
              obtain ⟨b, o, rfl, hbl, hf'⟩ := (HI.out.below HB.out).2 (by omega)
              have HRh := hide (hf' k _ (List.getElem?_eq_getElem hlt))
              have hlen := HI.out.1 l[k] (List.getElem_mem _)
              clear hf'
              generalize hx : l[k] = h at *
              have HX := hide hx
              have HJ := hide hlen
              have hu26 := Try.underlying26
              have hu29 := Try.underlying29
              have hla : (addL z64 P).length = 64 := addL_length _ _
              have hi26 := info_filter (addL z64 P) hla
              have hi29 := info_hash h hlen
              have HPP : Hid ((∀ x ∈ P ++ [h], x ∈ l) ∧ (∀ x ∈ l.drop ((k : Int) - 1 + 1).toNat, x ∈ P ++ [h])) := hide ⟨fun x hx' => by
                  rcases List.mem_append.1 hx' with h' | h'
                  · exact hP x h'
                  · rw [List.mem_singleton.1 h', ← HX.out]; exact List.getElem_mem _, fun x hx' => by
                  rw [show ((k : Int) - 1 + 1).toNat = k by omega, List.drop_eq_getElem_cons hlt, HX.out] at hx'
                  rcases List.mem_cons.1 hx' with h' | h'
                  · rw [h']; simp
                  · exact List.mem_append.2 (.inl (hD x (by rw [show ((k : Int) + 1).toNat = k + 1 by omega]; exact h')))⟩
              clear hP hD
              have hj1 : (0 : Int) ≤ (k : Int) := Int.natCast_nonneg _
              have hj2 : (k : Int) < (l.length : Int) := by omega
              have hc : Hid (∀ (W : World) (A : Value), A = .slice (some ⟨W.heap.size, 0, none⟩) 1 1 → Calls Try.prog 11 #[.agg (FB (addL z64 P)), A] (W.alloc (.cells (FB h) 29)).drew (Gives (.agg (FB (addL (addL z64 P) [h]))) (W.alloc (.cells (FB h) 29)).drew)) :=
                hide fun W A hA => by subst hA; exact add_calls _ (addL z64 P) rfl hla [h] _ _ _ ((IsHashes.one _ _ h HJ.out).below (Below.refl _ _).drew) (by simp)
              have HS4 : Hid (∀ w, Below wo.heap.size wo w → w.rangeAt b (o + k * 32) (h.map bv)) := hide fun w hw j v hv => (hw.cell (p := ⟨b, o + k * 32 + j, none⟩) (Nat.lt_of_lt_of_le hbl HB.out.size)).trans (HRh.out j v hv)
              go_wp2_with fail
              refine wp_region_held_tail 7 (S := fun w' => Below wo.heap.size wo w') (by kernel_rfl) (by kernel_rfl) ((Below.refl _ _).drew) (fun hHeld => ?_); simp only [List.take_succ_cons, List.take_zero, List.drop_succ_cons, List.drop_zero]
              (refine takeH (i := 0) (v := .agg ((addL z64 P).map bv).toArray) rfl rfl (by kernel_rfl) (by kernel_rfl) (by kernel_rfl) (fun _ _ _ h => h) (by rfl) (fun wz hw => load_exec 26 (.tmp 5) rfl (w.heap.size) (0) rfl ((addL z64 P).map bv) _ ((HG.out.below hw HG.out.lt).range) hu26 rfl hi26) hHeld ?_; simp only [Act.put, List.setIfInBounds_toArray, List.set_cons_zero, List.set_cons_succ])
              (refine takeH (i := 1) (v := .slice (some ⟨b, o, none⟩) l.length c) rfl rfl (by kernel_rfl) (by kernel_rfl) (by kernel_rfl) (fun _ _ _ h => h) (by rfl) (fun w hSw => by go_simp) hHeld ?_; simp only [Act.put, List.setIfInBounds_toArray, List.set_cons_zero, List.set_cons_succ])
              (refine takeH (i := 2) (v := .int .i64 k) rfl rfl (by kernel_rfl) (by kernel_rfl) (by kernel_rfl) (fun _ _ _ h => h) (by rfl) (fun w hSw => by go_simp) hHeld ?_; simp only [Act.put, List.setIfInBounds_toArray, List.set_cons_zero, List.set_cons_succ])
              (refine takeH (i := 3) (v := .pointer (some ⟨b, o + k * 32, none⟩)) rfl rfl (by kernel_rfl) (by kernel_rfl) (by kernel_rfl) (fun _ _ _ h => h) (by rfl) (fun w hSw => by go_simp) hHeld ?_; simp only [Act.put, List.setIfInBounds_toArray, List.set_cons_zero, List.set_cons_succ])
              (refine takeH (i := 4) (v := .agg (h.map bv).toArray) rfl rfl (by kernel_rfl) (by kernel_rfl) (by kernel_rfl) (fun _ _ _ h => h) (by rfl) (fun wz hw => load_exec 29 (.tmp 52) rfl (b) (o + k * 32) rfl (h.map bv) _ (HS4.out _ hw) hu29 rfl hi29) hHeld ?_; simp only [Act.put, List.setIfInBounds_toArray, List.set_cons_zero, List.set_cons_succ])
              (refine oneH (i := 5) rfl (by kernel_rfl) (fun K hK => ?_); go_simp; rw [foldl_zip_all _ _ (by rw [List.length_map, hlen]; rfl)]; refine hK.out _ _ (((Below.refl _ _).alloc (Nat.le_refl _) _).drew) (fun hHeld => ?_); clear hK K)
              (refine oneH (i := 6) rfl (by kernel_rfl) (fun K hK => ?_); go_simp; refine (hc.out wo _ rfl).mono ?_; rintro e w1 ⟨rfl, hb1⟩; have hB1 := hHeld.trans (hb1.mono (by simp)); refine hK.out _ _ (hB1) (fun hHeld => ?_); clear hK K)
              refine wpAnyH_done (by kernel_rfl) ?_ _; simp only [Exit.then]
              go_wp2_with (first | (refine wpList_store_blk rfl 26 _ _ rfl _ rfl (FB (addL (addL z64 P) [h])) rfl _ _ (HG.out.below hB1 HG.out.lt) (by simp only [fb_size, addL_length]) (fb_info (by kernel_rfl) ((addL_length _ _).trans hla)) (fb_one _) ?_; intro w2 hb2 hf2; have HB2 := hide hb2; have HF2 := hide hf2; clear hb2 hf2) | fail)
              have HW2 := hide ((HB.out.trans (hB1.mono HB.out.size)).trans (HF2.out.below (Nat.le_trans HB.out.size hB1.size) fun x hx h => by omega))
              clear hB1
              exact ⟨⟨(k : Int) - 1, P ++ [h], rfl, by omega, by omega, HPP.out.1, HPP.out.2, by rw [addL_append]; exact HB2.out, HW2.out⟩, by simp [intOf]⟩
            · obtain rfl : z = -1 := by omega
              have hPl : addL z64 P = addL z64 l := addL_set _ _ _ rfl hP (by simpa using hD)
              have HG := hide (hPl ▸ HG.out : Blk wo w.heap.size 26 (FB (addL z64 l)))
              clear hP hD hPl
              have hu26 := Try.underlying26
              have hla : (addL z64 l).length = 64 := addL_length _ _
              have hi26 := info_filter (addL z64 l) hla
              have heq := fun W => eql_filter (addL z64 l) (addL z64 l) hla hla W
              rw [decide_eq_true rfl] at heq
              go_wp2_with fail
              refine wp_region_held_drew (S := fun w' => Below wo.heap.size wo w') (by kernel_rfl) (Below.refl _ _).drew (fun hHeld => ?_)
              (refine takeH (i := 0) (v := .agg ((addL z64 l).map bv).toArray) rfl rfl (by kernel_rfl) (by kernel_rfl) (by kernel_rfl) (fun _ _ _ h => h) (by rfl) (fun wz hw => load_exec 26 (.tmp 5) rfl (w.heap.size) (0) rfl ((addL z64 l).map bv) _ ((HG.out.below hw HG.out.lt).range) hu26 rfl hi26) hHeld ?_; simp only [Act.put, List.setIfInBounds_toArray, List.set_cons_zero, List.set_cons_succ])
              (refine takeH (i := 1) (v := .slice A l.length c) rfl rfl (by kernel_rfl) (by kernel_rfl) (by kernel_rfl) (fun _ _ _ h => h) (by rfl) (fun w hSw => by go_simp) hHeld ?_; simp only [Act.put, List.setIfInBounds_toArray, List.set_cons_zero, List.set_cons_succ])
              (refine oneH (i := 2) rfl (by kernel_rfl) (fun K hK => ?_); go_simp; refine (of_calls l A c _ (HI.out.more HB.out.drew) hn).mono ?_; rintro e w1 ⟨rfl, hb1⟩; have hB1 := hHeld.trans (hb1.mono (by simp)); refine hK.out _ _ (hB1) (fun hHeld => ?_); clear hK K)
              (refine takeH (i := 3) (v := .bool true) rfl rfl (by kernel_rfl) (by kernel_rfl) (by kernel_rfl) (fun _ _ _ h => h) (by rfl) (fun w hSw => by go_simp) hHeld ?_; simp only [Act.put, List.setIfInBounds_toArray, List.set_cons_zero, List.set_cons_succ])
              (refine takeH (i := 4) (v := .bool true) rfl rfl (by kernel_rfl) (by kernel_rfl) (by kernel_rfl) (fun _ _ _ h => h) (by rfl) (fun w hSw => by go_simp) hHeld ?_; simp only [Act.put, List.setIfInBounds_toArray, List.set_cons_zero, List.set_cons_succ])
              (refine oneH (i := 5) rfl (by kernel_rfl) (fun K hK => ?_); go_simp; refine (awake_calls _).mono ?_; rintro e w2 ⟨rfl, hb2⟩; have hB2 := hHeld.trans (hb2.mono hHeld.size); refine hK.out _ _ (hB2) (fun hHeld => ?_); clear hK K)
              (refine oneH (i := 6) rfl (by kernel_rfl) (fun K hK => ?_); go_simp; refine hK.out _ _ (hB2) (fun hHeld => ?_); clear hK K)
              (refine oneH (i := 7) rfl (by kernel_rfl) (fun K hK => ?_); go_simp; refine hK.out _ _ (hB2) (fun hHeld => ?_); clear hK K)
              refine wpAnyH_done (by kernel_rfl) ?_ _
              have HB2 := hide (HB.out.trans (hB2.mono HB.out.size))
              clear hB1 hB2
              go_wp2
              go_ret
              exact ⟨ret_eq rfl, HB2.out⟩
end Go.Proofs.Ytidohbnmkogkmaa
