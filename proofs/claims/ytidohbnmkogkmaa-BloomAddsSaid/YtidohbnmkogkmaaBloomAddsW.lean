/- BloomAdds, walked. Conditions: none. -/
import Derived.Test.YtidohbnmkogkmaaBloomE
namespace Go.Proofs.Ytidohbnmkogkmaa
open Go.RowKit

set_option maxHeartbeats 2000000 in
set_option maxRecDepth 20000 in
theorem bloomAdds_calls (cs : Array Value) (f : List UInt8) (hcs : cs = FB f) (hf : f.length = 64) (l : List (List UInt8)) (A : Option Addr) (c : Nat) (q : List (List UInt8)) (A2 : Option Addr) (c2 : Nat) (w : World) (hl : IsHashes w w.heap.size A l) (hq : IsHashes w w.heap.size A2 q) (hn : l.length ≤ 140737488351232) (hm : q.length ≤ 140737488351232) :
    Calls Try.prog 6 #[.agg cs, .slice A l.length c, .slice A2 q.length c2] w (Gives (.bool true) w) := by
  subst hcs
  have HI := hide hl
  have HQ := hide hq
  have HL := hide hf
  have H3 := hide (Blk.new w 25 (FB f))
  have HW := hide ((Below.refl w.heap.size w).alloc (Nat.le_refl _) (.cells (FB f) 25))
  clear hl hq hf
  by_cases hbig : l.length > 40 ∨ q.length > 40
  · by_cases hb1 : l.length > 40
    all_goals
      go_enter Try.func6, Try.ntmps6
      go_wp2_with fail
      refine (awake_calls _).mono ?_
      rintro e w1 ⟨rfl, hbw⟩
      have HX := hide (HW.out.trans (hbw.mono HW.out.size))
      clear hbw
      go_wp2
      go_ret
      exact ⟨ret_eq rfl, HX.out⟩
  · have h1 : l.length ≤ 40 := by omega
    have h2 : q.length ≤ 40 := by omega
    clear hbig
    have HLA := hide ((addL_length f l).trans HL.out)
    have HLZ := hide ((addL_length z64 l).trans (by rfl) : (addL z64 l).length = 64)
    have HRE := hide (fun h => hasR_eq (addL f l) h ((addL_length f l).trans HL.out))
    have HLE : Hid (lacksL (hasB (addL f l)) q = lacksL (hasR (addL f l)) q) := hide (by rw [show hasB (addL f l) = hasR (addL f l) from funext HRE.out])
    have HC1 := hide (fun (W : World) (A : Option Addr) (c : Nat) h => add_calls _ f rfl HL.out l A c W h hn)
    have HC2 := hide (fun (W : World) (A : Option Addr) (c : Nat) h => with_calls _ f rfl HL.out l A c W h hn)
    have HC3 := hide (fun (W : World) (A : Option Addr) (c : Nat) h => of_calls l A c W h hn)
    have HC4 := hide (fun (W : World) (A : Option Addr) (c : Nat) h => with_calls _ z64 rfl (by rfl) l A c W h hn)
    have heq := fun W => neq_filter (addL f l) (addL f l) HLA.out HLA.out W
    have heqz := fun W => neq_filter (addL z64 l) (addL z64 l) HLZ.out HLZ.out W
    rw [decide_eq_true rfl] at heq heqz
    generalize addL f l = F at *
    generalize addL z64 l = Z at *
    go_enter Try.func6, Try.ntmps6
    go_wp2_with (first | (refine wpList_load_blk rfl 25 _ rfl _ rfl _ _ (H3.out) _ rfl rfl (fb_info (by kernel_rfl) (HL.out)) ?_) | fail)
    refine (HC1.out _ A c (HI.out.more HW.out)).mono ?_
    rintro e w1 ⟨rfl, hb1⟩
    have K3 := hide (H3.out.below hb1 H3.out.lt)
    have KW := hide (HW.out.trans (hb1.mono HW.out.size))
    clear hb1 H3 HW
    go_wp2_with (first | (refine wpList_store_blk rfl 26 _ _ rfl _ rfl (FB (F)) rfl _ _ (Blk.new _ _ _) (by rw [fb_size, HLA.out] <;> rfl) (fb_info (by kernel_rfl) (HLA.out)) (fb_one _) ?_; intro w7 hb7 hf7; have HB7 := hide hb7; have HF7 := hide hf7; clear hb7 hf7) | (refine wpList_load_blk rfl 25 _ rfl _ rfl _ _ ((K3.out.alloc _).fr HF7.out (by have := K3.out.lt; omega)) _ rfl rfl (fb_info (by kernel_rfl) (HL.out)) ?_) | fail)
    have q7 := ((Below.refl w1.heap.size w1).alloc (Nat.le_refl _) _).trans (HF7.out.below (by simp) fun x hx h => by omega)
    have M3 := hide (K3.out.below q7 K3.out.lt)
    have MW := hide (KW.out.trans (q7.mono KW.out.size))
    have hg7 : w.heap.size < w1.heap.size := K3.out.lt
    generalize w1.heap.size = g7 at *
    clear q7 HF7 K3 KW
    refine (HC2.out _ A c (HI.out.more MW.out)).mono ?_
    rintro e w2 ⟨rfl, hb2⟩
    have N3 := hide (M3.out.below hb2 M3.out.lt)
    have N7 := hide (HB7.out.below hb2 HB7.out.lt)
    have NW := hide (MW.out.trans (hb2.mono MW.out.size))
    clear hb2 M3 HB7 MW
    have hu26 := Try.underlying26
    go_wp2_with (first | (refine wpList_store_blk rfl 25 _ _ rfl _ rfl (FB (F)) rfl _ _ (Blk.new _ _ _) (by rw [fb_size, HLA.out] <;> rfl) (fb_info (by kernel_rfl) (HLA.out)) (fb_one _) ?_; intro w8 hb8 hf8; have HB8 := hide hb8; have HF8 := hide hf8; clear hb8 hf8) | (refine wpList_load_blk rfl 26 _ rfl _ rfl _ _ ((N7.out.alloc _).fr HF8.out (by have := N7.out.lt; omega)) _ rfl rfl (fb_info (by kernel_rfl) (HLA.out)) ?_) | (refine wpList_load_blk rfl 25 _ rfl _ rfl _ _ (HB8.out) _ rfl rfl (fb_info (by kernel_rfl) (HLA.out)) ?_) | fail)
    have q8 := ((Below.refl w2.heap.size w2).alloc (Nat.le_refl _) _).trans (HF8.out.below (by simp) fun x hx h => by omega)
    have M7 := hide (N7.out.below q8 N7.out.lt)
    have MW := hide (NW.out.trans (q8.mono NW.out.size))
    generalize w2.heap.size = g8 at *
    clear q8 HF8 N3 N7 NW
    refine (HC3.out _ A c (HI.out.more MW.out)).mono ?_
    rintro e w3 ⟨rfl, hb3⟩
    have N7 := hide (M7.out.below hb3 M7.out.lt)
    have N8 := hide (HB8.out.below hb3 HB8.out.lt)
    have NW := hide (MW.out.trans (hb3.mono MW.out.size))
    clear hb3 M7 HB8 MW
    go_wp2_with fail
    refine (HC4.out _ A c (HI.out.more NW.out)).mono ?_
    rintro e w4 ⟨rfl, hb4⟩
    have K7 := hide (N7.out.below hb4 N7.out.lt)
    have K8 := hide (N8.out.below hb4 N8.out.lt)
    have KW := hide (NW.out.trans (hb4.mono NW.out.size))
    clear hb4 N7 N8 NW
    go_wp2_with fail
    go_loopw [9] (fun i wr => ∃ k : Nat, i = .int .i64 k ∧ k ≤ q.length ∧ Blk wr g7 26 (FB F) ∧ Blk wr g8 25 (FB F) ∧ Below w.heap.size w wr) (fun i _ => q.length - (intOf i).toNat)
    case atStart => exact ⟨0, rfl, Nat.zero_le _, K7.out, K8.out, KW.out⟩
    case round =>
      clear K7 K8 KW
      obtain ⟨k, rfl, hk, h7, h8, hw⟩ := hrel
      obtain ⟨wo, rfl⟩ : ∃ wo : World, wo = wr := ⟨_, rfl⟩
      have M7 := hide h7
      have M8 := hide h8
      have MW := hide hw
      clear h7 h8 hw heq heqz
      have hu25 := Try.underlying25
      have hu29 := Try.underlying29
      have hi26 := info_filter F HLA.out
      have hi25 : (Try.prog.info? 25).map (·.size) = some (F.map bv).length := by rw [List.length_map, HLA.out]; kernel_rfl
      by_cases hlt : k < q.length
      · obtain ⟨b, o, rfl, hbl, hf'⟩ := (HQ.out.below MW.out).2 (by omega)
        have HR := hide (hf' k _ (List.getElem?_eq_getElem hlt))
        have HJ := hide (HQ.out.1 q[k] (List.getElem_mem _))
        have hih := info_hash q[k] HJ.out
        have HS4 : Hid (∀ w', Below wo.heap.size wo w' → w'.rangeAt b (o + k * 32) (q[k].map bv)) := hide fun w' hw j v hv => (hw.cell (p := ⟨b, o + k * 32 + j, none⟩) (Nat.lt_of_lt_of_le hbl MW.out.size)).trans (HR.out j v hv)
        have j1 : (0 : Int) ≤ (k : Int) := by omega
        have j2 : (k : Int) < (q.length : Int) := by omega
        have HP1 := hide (fun (W : World) => has_calls _ _ F q[k] rfl rfl HLA.out HJ.out W)
        have HP2 := hide (fun (W : World) => refHas_calls _ _ F q[k] rfl rfl HLA.out HJ.out W)
        rw [HRE.out] at HP1
        clear hf' HR
        generalize hasR F q[k] = bb at *
        generalize q[k] = qk at *
        go_wp2_with fail
        refine wp_region_held_drew (S := fun w' => Below wo.heap.size wo w') (by kernel_rfl) (Below.refl _ _).drew (fun hHeld => ?_)
        (refine takeH (i := 0) (v := .agg (F.map bv).toArray) rfl rfl (by kernel_rfl) (by kernel_rfl) (by kernel_rfl) (fun _ _ _ h => h) (by rfl) (fun wz hw => load_exec 26 (.tmp 7) rfl (g7) (0) rfl (F.map bv) _ ((M7.out.below hw M7.out.lt).range) hu26 rfl hi26) hHeld ?_; simp only [Act.put, List.setIfInBounds_toArray, List.set_cons_zero, List.set_cons_succ])
        (refine takeH (i := 1) (v := .slice (some ⟨b, o, none⟩) q.length c2) rfl rfl (by kernel_rfl) (by kernel_rfl) (by kernel_rfl) (fun _ _ _ h => h) (by rfl) (fun w hSw => by go_simp) hHeld ?_; simp only [Act.put, List.setIfInBounds_toArray, List.set_cons_zero, List.set_cons_succ])
        (refine takeH (i := 2) (v := .int .i64 k) rfl rfl (by kernel_rfl) (by kernel_rfl) (by kernel_rfl) (fun _ _ _ h => h) (by rfl) (fun w hSw => by go_simp) hHeld ?_; simp only [Act.put, List.setIfInBounds_toArray, List.set_cons_zero, List.set_cons_succ])
        (refine takeH (i := 3) (v := .pointer (some ⟨b, o + k * 32, none⟩)) rfl rfl (by kernel_rfl) (by kernel_rfl) (by kernel_rfl) (fun _ _ _ h => h) (by rfl) (fun w hSw => by go_simp) hHeld ?_; simp only [Act.put, List.setIfInBounds_toArray, List.set_cons_zero, List.set_cons_succ])
        (refine takeH (i := 4) (v := .agg (qk.map bv).toArray) rfl rfl (by kernel_rfl) (by kernel_rfl) (by kernel_rfl) (fun _ _ _ h => h) (by rfl) (fun wz hw => load_exec 29 (.tmp 45) rfl (b) (o + k * 32) rfl (qk.map bv) _ (HS4.out _ hw) hu29 rfl hih) hHeld ?_; simp only [Act.put, List.setIfInBounds_toArray, List.set_cons_zero, List.set_cons_succ])
        (refine takeH (i := 6) (v := .agg (F.map bv).toArray) rfl rfl (by kernel_rfl) (by kernel_rfl) (by kernel_rfl) (fun _ _ _ h => h) (by rfl) (fun wz hw => load_exec 25 (.tmp 8) rfl (g8) (0) rfl (F.map bv) _ ((M8.out.below hw M8.out.lt).range) hu25 rfl hi25) hHeld ?_; simp only [Act.put, List.setIfInBounds_toArray, List.set_cons_zero, List.set_cons_succ])
        (refine takeH (i := 7) (v := .slice (some ⟨b, o, none⟩) q.length c2) rfl rfl (by kernel_rfl) (by kernel_rfl) (by kernel_rfl) (fun _ _ _ h => h) (by rfl) (fun w hSw => by go_simp) hHeld ?_; simp only [Act.put, List.setIfInBounds_toArray, List.set_cons_zero, List.set_cons_succ])
        (refine takeH (i := 8) (v := .int .i64 k) rfl rfl (by kernel_rfl) (by kernel_rfl) (by kernel_rfl) (fun _ _ _ h => h) (by rfl) (fun w hSw => by go_simp) hHeld ?_; simp only [Act.put, List.setIfInBounds_toArray, List.set_cons_zero, List.set_cons_succ])
        (refine takeH (i := 9) (v := .pointer (some ⟨b, o + k * 32, none⟩)) rfl rfl (by kernel_rfl) (by kernel_rfl) (by kernel_rfl) (fun _ _ _ h => h) (by rfl) (fun w hSw => by go_simp) hHeld ?_; simp only [Act.put, List.setIfInBounds_toArray, List.set_cons_zero, List.set_cons_succ])
        (refine takeH (i := 10) (v := .agg (qk.map bv).toArray) rfl rfl (by kernel_rfl) (by kernel_rfl) (by kernel_rfl) (fun _ _ _ h => h) (by rfl) (fun wz hw => load_exec 29 (.tmp 51) rfl (b) (o + k * 32) rfl (qk.map bv) _ (HS4.out _ hw) hu29 rfl hih) hHeld ?_; simp only [Act.put, List.setIfInBounds_toArray, List.set_cons_zero, List.set_cons_succ])
        (refine oneH (i := 5) rfl (by kernel_rfl) (fun K hK => ?_); go_simp; refine (HP1.out _).mono ?_; rintro e w2 ⟨rfl, hb2⟩; have q2 := hHeld.trans (hb2.mono hHeld.size); refine hK.out _ _ (q2) (fun hHeld => ?_); clear hK K)
        (refine oneH (i := 11) rfl (by kernel_rfl) (fun K hK => ?_); go_simp; refine (HP2.out _).mono ?_; rintro e w3 ⟨rfl, hb3⟩; have q3 := q2.trans (hb3.mono q2.size); refine hK.out _ _ (q3) (fun hHeld => ?_); clear hK K)
        (refine oneH (i := 12) rfl (by kernel_rfl) (fun K hK => ?_); go_simp; refine hK.out _ _ (q3) (fun hHeld => ?_); clear hK K)
        refine wpAnyH_done (by kernel_rfl) ?_ _
        have P7 := hide (M7.out.below q3 M7.out.lt)
        have P8 := hide (M8.out.below q3 M8.out.lt)
        have PW := hide (MW.out.trans (q3.mono MW.out.size))
        clear hHeld hb2 hb3 q2 q3 M7 M8 MW HP1 HP2 HS4 hi26 hi25 hu25 hu29 hu26 hih
        go_wp2_with fail
        exact ⟨⟨k + 1, by go_num, by omega, P7.out, P8.out, PW.out⟩, by simp [intOf]; omega⟩
      · have HP1 := hide (fun (W : World) h => lacks_calls _ F rfl HLA.out q A2 c2 W h (by omega))
        have HP2 := hide (fun (W : World) h => refLacks_calls _ F rfl HLA.out q A2 c2 W h (by omega))
        rw [HLE.out] at HP1
        have hml : (lacksL (hasR F) q).length ≤ 40 := Nat.le_trans (List.length_filter_le _ _) h2
        have HAL := hide (lacks_all (p := hasR F) HQ.out.1)
        clear HLE HRE
        generalize lacksL (hasR F) q = R at *
        go_wp2_with fail
        refine wp_region_held_drew (S := fun w' => Below wo.heap.size wo w') (by kernel_rfl) (Below.refl _ _).drew (fun hHeld => ?_)
        (refine takeH (i := 0) (v := .agg (F.map bv).toArray) rfl rfl (by kernel_rfl) (by kernel_rfl) (by kernel_rfl) (fun _ _ _ h => h) (by rfl) (fun wz hw => load_exec 26 (.tmp 7) rfl (g7) (0) rfl (F.map bv) _ ((M7.out.below hw M7.out.lt).range) hu26 rfl hi26) hHeld ?_; simp only [Act.put, List.setIfInBounds_toArray, List.set_cons_zero, List.set_cons_succ])
        (refine takeH (i := 1) (v := .slice A2 q.length c2) rfl rfl (by kernel_rfl) (by kernel_rfl) (by kernel_rfl) (fun _ _ _ h => h) (by rfl) (fun w hSw => by go_simp) hHeld ?_; simp only [Act.put, List.setIfInBounds_toArray, List.set_cons_zero, List.set_cons_succ])
        (refine takeH (i := 3) (v := .agg (F.map bv).toArray) rfl rfl (by kernel_rfl) (by kernel_rfl) (by kernel_rfl) (fun _ _ _ h => h) (by rfl) (fun wz hw => load_exec 25 (.tmp 8) rfl (g8) (0) rfl (F.map bv) _ ((M8.out.below hw M8.out.lt).range) hu25 rfl hi25) hHeld ?_; simp only [Act.put, List.setIfInBounds_toArray, List.set_cons_zero, List.set_cons_succ])
        (refine takeH (i := 4) (v := .slice A2 q.length c2) rfl rfl (by kernel_rfl) (by kernel_rfl) (by kernel_rfl) (fun _ _ _ h => h) (by rfl) (fun w hSw => by go_simp) hHeld ?_; simp only [Act.put, List.setIfInBounds_toArray, List.set_cons_zero, List.set_cons_succ])
        (refine oneH (i := 2) rfl (by kernel_rfl) (fun K hK => ?_); go_simp; refine (HP1.out _ (HQ.out.more (MW.out.trans (hHeld.mono MW.out.size)))).mono ?_; rintro e w2 ⟨B1, d1, rfl, hh1, hb2, _⟩; have q2 := hHeld.trans (hb2.mono hHeld.size); refine hK.out _ _ (q2) (fun hHeld => ?_); clear hK K)
        (refine oneH (i := 5) rfl (by kernel_rfl) (fun K hK => ?_); go_simp; refine (HP2.out _ (HQ.out.more (MW.out.trans (q2.mono MW.out.size)))).mono ?_; rintro e w3 ⟨B2, d2, rfl, hh2, hb3⟩; have q3 := q2.trans (hb3.mono q2.size); refine hK.out _ _ (q3) (fun hHeld => ?_); clear hK K)
        (refine oneH (i := 6) rfl (by kernel_rfl) (fun K hK => ?_); go_simp; refine (sameHashes_calls R R B1 B2 d1 d2 _ (hh1.more hb3) (IsHashes.of_own hh2 HAL.out) (by omega) (by omega)).mono ?_; rintro e w4 ⟨rfl, hb4⟩; have q4 := q3.trans (hb4.mono q3.size); rw [decide_eq_true rfl]; refine hK.out _ _ (q4) (fun hHeld => ?_); clear hK K)
        (refine oneH (i := 7) rfl (by kernel_rfl) (fun K hK => ?_); go_simp; refine hK.out _ _ (q4) (fun hHeld => ?_); clear hK K)
        (refine oneH (i := 8) rfl (by kernel_rfl) (fun K hK => ?_); go_simp; refine (awake_calls _).mono ?_; rintro e w5 ⟨rfl, hb5⟩; have q5 := q4.trans (hb5.mono q4.size); refine hK.out _ _ (q5) (fun hHeld => ?_); clear hK K)
        (refine oneH (i := 9) rfl (by kernel_rfl) (fun K hK => ?_); go_simp; refine hK.out _ _ (q5) (fun hHeld => ?_); clear hK K)
        (refine oneH (i := 10) rfl (by kernel_rfl) (fun K hK => ?_); go_simp; refine hK.out _ _ (q5) (fun hHeld => ?_); clear hK K)
        refine wpAnyH_done (by kernel_rfl) ?_ _
        have PW := hide (MW.out.trans (q5.mono MW.out.size))
        clear hHeld hb2 hb3 hb4 hb5 q2 q3 q4 q5
        go_wp2
        go_ret
        exact ⟨ret_eq rfl, PW.out⟩
end Go.Proofs.Ytidohbnmkogkmaa
