/- BloomKeeps, walked. Conditions: none. -/
import Derived.Test.YtidohbnmkogkmaaBloomE
import Derived.Test.YtidohbnmkogkmaaBloomSetsW
namespace Go.Proofs.Ytidohbnmkogkmaa
open Go.RowKit

theorem has_of (F h : List UInt8) (hF : F.length = 64) (hb : ∀ n, n < 512 → namesB h n = true → bitOf F n = true) : hasB F h = true := by
  rw [hasR_eq F h hF]
  refine List.all_eq_true.2 fun n hn => ?_
  cases hx : namesB h n
  · rfl
  · rw [hb n (List.mem_range.1 hn) hx]; rfl
theorem or_of (X Y : List UInt8) (hX : X.length = 64) (hY : Y.length = 64) (hb : ∀ n, n < 512 → bitOf X n = true → bitOf Y n = true) : orL X Y = Y := by
  refine bits_ext _ _ ((orL_length X Y (by omega)).trans hX) hY fun n hn => ?_
  rw [bit_or X Y n hX hY hn]
  cases hx : bitOf X n
  · rfl
  · rw [hb n hn hx]; rfl
theorem add_of (Y : List UInt8) (l : List (List UInt8)) (hY : Y.length = 64) (hb : ∀ h ∈ l, ∀ n, n < 512 → namesB h n = true → bitOf Y n = true) : addL Y l = Y := by
  refine bits_ext _ _ ((addL_length Y l).trans hY) hY fun n hn => ?_
  rw [bit_addL Y l n hY]
  cases hx : l.any fun h => namesB h n
  · simp
  · obtain ⟨h, hm, hh⟩ := List.any_eq_true.1 hx
    rw [hb h hm n hn hh]; rfl

set_option maxHeartbeats 2000000 in
set_option maxRecDepth 20000 in
theorem bloomKeeps_calls (cs : Array Value) (f : List UInt8) (hcs : cs = FB f) (hf : f.length = 64) (l : List (List UInt8)) (A : Option Addr) (c : Nat) (q : List (List UInt8)) (A2 : Option Addr) (c2 : Nat) (w : World) (hl : IsHashes w w.heap.size A l) (hq : IsHashes w w.heap.size A2 q) (hn : l.length ≤ 140737488351232) (hm : q.length ≤ 140737488351232) :
    Calls Try.prog 7 #[.agg cs, .slice A l.length c, .slice A2 q.length c2] w (Gives (.bool true) w) := by
  subst hcs
  have HI := hide hl
  have HQ := hide hq
  have HL := hide hf
  have H3 := hide (Blk.new w 25 (FB f))
  have HW := hide ((Below.refl w.heap.size w).alloc (Nat.le_refl _) (.cells (FB f) 25))
  clear hl hq hf
  by_cases hbig : l.length > 40 ∨ q.length > 40
  · by_cases hb1 : l.length > 40
    all_goals
      go_enter Try.func7, Try.ntmps7
      go_wp2_with fail
      refine (awake_calls _).mono ?_
      rintro e w1 ⟨rfl, hbw⟩
      have HX := hide (HW.out.trans (hbw.mono HW.out.size))
      clear hbw
      go_wp2
      go_ret
      exact ⟨ret_eq rfl, HX.out⟩
  · have h1 : l.length ≤ 40 := by omega
    have h2 : q.length ≤ 40 := by omega
    clear hbig
    have hX := (addL_length f l).trans HL.out
    have hXq := (addL_length (addL f l) q).trans hX
    have hZ : (addL z64 q).length = 64 := addL_length z64 q
    have hY := (orL_length (addL (addL f l) q) (addL z64 q) (by omega)).trans hXq
    have hbX := fun n => bit_addL f l n HL.out
    have hbXq := fun n => bit_addL (addL f l) q n hX
    have hbY := fun n hn => bit_or (addL (addL f l) q) (addL z64 q) n hXq hZ hn
    have HC1 := hide (fun (W : World) (A : Option Addr) (c : Nat) h => add_calls _ f rfl HL.out l A c W h hn)
    have HC2 := hide (fun (W : World) (A : Option Addr) (c : Nat) h => add_calls _ (addL f l) rfl hX q A c W h hm)
    have HC3 := hide (fun (W : World) (A : Option Addr) (c : Nat) h => of_calls q A c W h hm)
    have HC4 := hide (fun (W : World) => union_calls _ _ (addL (addL f l) q) (addL z64 q) rfl rfl hXq hZ W)
    generalize addL z64 q = Z at *
    generalize addL (addL f l) q = Xq at *
    generalize orL Xq Z = Y at *
    generalize addL f l = X at *
    have bXY : ∀ n, n < 512 → bitOf X n = true → bitOf Y n = true := fun n hn h => by rw [hbY n hn, hbXq n, h]; rfl
    have blX : ∀ h ∈ l, ∀ n, n < 512 → namesB h n = true → bitOf X n = true := fun h hm n hn hh => by
      rw [hbX n, show (l.any fun h => namesB h n) = true from List.any_eq_true.2 ⟨h, hm, hh⟩, Bool.or_true]
    have bqY : ∀ h ∈ q, ∀ n, n < 512 → namesB h n = true → bitOf Y n = true := fun h hm n hn hh => by
      rw [hbY n hn, hbXq n, show (q.any fun h => namesB h n) = true from List.any_eq_true.2 ⟨h, hm, hh⟩]; simp
    have HX1 := hide fun h hm => has_of X h hX (blX h hm)
    have HY1 := hide fun h hm => has_of Y h hY (fun n hn hh => bXY n hn (blX h hm n hn hh))
    have HWI := hide (or_of X Y hX hY bXY)
    have HLK : Hid (lacksL (hasB Y) q = []) := hide (List.filter_eq_nil_iff.2 fun h hm => by rw [has_of Y h hY (bqY h hm)]; simp)
    have HAD := hide (add_of Y l hY (fun h hm n hn hh => bXY n hn (blX h hm n hn hh)))
    have HLX := hide hX
    have HLY := hide hY
    have heq := fun W => eql_filter Y Y hY hY W
    rw [decide_eq_true rfl] at heq
    have HEQ := hide heq
    clear hX hY hXq hZ hbX hbXq hbY bXY blX bqY heq
    go_enter Try.func7, Try.ntmps7
    go_wp2_with (first | (refine wpList_load_blk rfl 25 _ rfl _ rfl _ _ (H3.out) _ rfl rfl (fb_info (by kernel_rfl) (HL.out)) ?_) | fail)
    refine (HC1.out _ A c (HI.out.more HW.out)).mono ?_
    rintro e w1 ⟨rfl, hb1⟩
    have KW := hide (HW.out.trans (hb1.mono HW.out.size))
    clear hb1 H3 HW
    go_wp2_with (first | (refine wpList_store_blk rfl 26 _ _ rfl _ rfl (FB (X)) rfl _ _ (Blk.new _ _ _) (by rw [fb_size, HLX.out] <;> rfl) (fb_info (by kernel_rfl) (HLX.out)) (fb_one _) ?_; intro w7 hb7 hf7; have HB7 := hide hb7; have HF7 := hide hf7; clear hb7 hf7) | (refine wpList_load_blk rfl 26 _ rfl _ rfl _ _ (HB7.out) _ rfl rfl (fb_info (by kernel_rfl) (HLX.out)) ?_) | fail)
    have q7 := ((Below.refl w1.heap.size w1).alloc (Nat.le_refl _) _).trans (HF7.out.below (by simp) fun x hx h => by omega)
    have MW := hide (KW.out.trans (q7.mono KW.out.size))
    generalize w1.heap.size = g7 at *
    clear q7 HF7 KW
    refine (HC2.out _ A2 c2 (HQ.out.more MW.out)).mono ?_
    rintro e w2 ⟨rfl, hb2⟩
    have N7 := hide (HB7.out.below hb2 HB7.out.lt)
    have NW := hide (MW.out.trans (hb2.mono MW.out.size))
    clear hb2 HB7 MW
    go_wp2_with fail
    refine (HC3.out _ A2 c2 (HQ.out.more NW.out)).mono ?_
    rintro e w3 ⟨rfl, hb3⟩
    have M7 := hide (N7.out.below hb3 N7.out.lt)
    have MW := hide (NW.out.trans (hb3.mono NW.out.size))
    clear hb3 N7 NW
    go_wp2_with fail
    refine (HC4.out _).mono ?_
    rintro e w4 ⟨rfl, hb4⟩
    have N7 := hide (M7.out.below hb4 M7.out.lt)
    have NW := hide (MW.out.trans (hb4.mono MW.out.size))
    clear hb4 M7 MW
    go_wp2_with (first | (refine wpList_store_blk rfl 26 _ _ rfl _ rfl (FB (Y)) rfl _ _ (Blk.new _ _ _) (by rw [fb_size, HLY.out] <;> rfl) (fb_info (by kernel_rfl) (HLY.out)) (fb_one _) ?_; intro w8 hb8 hf8; have HB8 := hide hb8; have HF8 := hide hf8; clear hb8 hf8) | fail)
    have q8 := ((Below.refl w4.heap.size w4).alloc (Nat.le_refl _) _).trans (HF8.out.below (by simp) fun x hx h => by omega)
    have K7 := hide (N7.out.below q8 N7.out.lt)
    have KW := hide (NW.out.trans (q8.mono NW.out.size))
    generalize w4.heap.size = g8 at *
    clear q8 HF8 N7 NW
    go_loopw [9] (fun i wr => ∃ k : Nat, i = .int .i64 k ∧ k ≤ l.length ∧ Blk wr g7 26 (FB X) ∧ Blk wr g8 26 (FB Y) ∧ Below w.heap.size w wr) (fun i _ => l.length - (intOf i).toNat)
    case atStart => exact ⟨0, rfl, Nat.zero_le _, K7.out, HB8.out, KW.out⟩
    case round =>
      clear K7 HB8 KW
      obtain ⟨k, rfl, hk, h7, h8, hw⟩ := hrel
      obtain ⟨wo, rfl⟩ : ∃ wo : World, wo = wr := ⟨_, rfl⟩
      have M7 := hide h7
      have M8 := hide h8
      have MW := hide hw
      clear h7 h8 hw
      have hu26 := Try.underlying26
      have hu29 := Try.underlying29
      have hiX := info_filter X HLX.out
      have hiY := info_filter Y HLY.out
      by_cases hlt : k < l.length
      · obtain ⟨b, o, rfl, hbl, hf'⟩ := (HI.out.below MW.out).2 (by omega)
        have HR := hide (hf' k _ (List.getElem?_eq_getElem hlt))
        have HJ := hide (HI.out.1 l[k] (List.getElem_mem _))
        have hih := info_hash l[k] HJ.out
        have HS4 : Hid (∀ w', Below wo.heap.size wo w' → w'.rangeAt b (o + k * 32) (l[k].map bv)) := hide fun w' hw j v hv => (hw.cell (p := ⟨b, o + k * 32 + j, none⟩) (Nat.lt_of_lt_of_le hbl MW.out.size)).trans (HR.out j v hv)
        have j1 : (0 : Int) ≤ (k : Int) := by omega
        have j2 : (k : Int) < (l.length : Int) := by omega
        have HP1 := hide (fun (W : World) => has_calls _ _ X l[k] rfl rfl HLX.out HJ.out W)
        have HP2 := hide (fun (W : World) => has_calls _ _ Y l[k] rfl rfl HLY.out HJ.out W)
        rw [HX1.out _ (List.getElem_mem _)] at HP1
        rw [HY1.out _ (List.getElem_mem _)] at HP2
        clear hf' HR
        generalize l[k] = qk at *
        go_wp2_with fail
        refine wp_region_held_drew (S := fun w' => Below wo.heap.size wo w') (by kernel_rfl) (Below.refl _ _).drew (fun hHeld => ?_)
        (refine takeH (i := 0) (v := .agg (X.map bv).toArray) rfl rfl (by kernel_rfl) (by kernel_rfl) (by kernel_rfl) (fun _ _ _ h => h) (by rfl) (fun wz hw => load_exec 26 (.tmp 7) rfl (g7) (0) rfl (X.map bv) _ ((M7.out.below hw M7.out.lt).range) hu26 rfl hiX) hHeld ?_; simp only [Act.put, List.setIfInBounds_toArray, List.set_cons_zero, List.set_cons_succ])
        (refine takeH (i := 1) (v := .slice (some ⟨b, o, none⟩) l.length c) rfl rfl (by kernel_rfl) (by kernel_rfl) (by kernel_rfl) (fun _ _ _ h => h) (by rfl) (fun w hSw => by go_simp) hHeld ?_; simp only [Act.put, List.setIfInBounds_toArray, List.set_cons_zero, List.set_cons_succ])
        (refine takeH (i := 2) (v := .int .i64 k) rfl rfl (by kernel_rfl) (by kernel_rfl) (by kernel_rfl) (fun _ _ _ h => h) (by rfl) (fun w hSw => by go_simp) hHeld ?_; simp only [Act.put, List.setIfInBounds_toArray, List.set_cons_zero, List.set_cons_succ])
        (refine takeH (i := 3) (v := .pointer (some ⟨b, o + k * 32, none⟩)) rfl rfl (by kernel_rfl) (by kernel_rfl) (by kernel_rfl) (fun _ _ _ h => h) (by rfl) (fun w hSw => by go_simp) hHeld ?_; simp only [Act.put, List.setIfInBounds_toArray, List.set_cons_zero, List.set_cons_succ])
        (refine takeH (i := 4) (v := .agg (qk.map bv).toArray) rfl rfl (by kernel_rfl) (by kernel_rfl) (by kernel_rfl) (fun _ _ _ h => h) (by rfl) (fun wz hw => load_exec 29 (.tmp 37) rfl (b) (o + k * 32) rfl (qk.map bv) _ (HS4.out _ hw) hu29 rfl hih) hHeld ?_; simp only [Act.put, List.setIfInBounds_toArray, List.set_cons_zero, List.set_cons_succ])
        (refine oneH (i := 5) rfl (by kernel_rfl) (fun K hK => ?_); go_simp; refine (HP1.out _).mono ?_; rintro e w2 ⟨rfl, hb2⟩; have q2 := hHeld.trans (hb2.mono hHeld.size); refine hK.out _ _ (q2) (fun hHeld => ?_); clear hK K)
        (refine takeH (i := 6) (v := .bool false) rfl rfl (by kernel_rfl) (by kernel_rfl) (by kernel_rfl) (fun _ _ _ h => h) (by rfl) (fun w hSw => by go_simp) hHeld ?_; simp only [Act.put, List.setIfInBounds_toArray, List.set_cons_zero, List.set_cons_succ])
        (refine takeH (i := 7) (v := .bool false) rfl rfl (by kernel_rfl) (by kernel_rfl) (by kernel_rfl) (fun _ _ _ h => h) (by rfl) (fun w hSw => by go_simp) hHeld ?_; simp only [Act.put, List.setIfInBounds_toArray, List.set_cons_zero, List.set_cons_succ])
        (refine takeH (i := 8) (v := .agg (Y.map bv).toArray) rfl rfl (by kernel_rfl) (by kernel_rfl) (by kernel_rfl) (fun _ _ _ h => h) (by rfl) (fun wz hw => load_exec 26 (.tmp 8) rfl (g8) (0) rfl (Y.map bv) _ ((M8.out.below hw M8.out.lt).range) hu26 rfl hiY) hHeld ?_; simp only [Act.put, List.setIfInBounds_toArray, List.set_cons_zero, List.set_cons_succ])
        (refine takeH (i := 9) (v := .slice (some ⟨b, o, none⟩) l.length c) rfl rfl (by kernel_rfl) (by kernel_rfl) (by kernel_rfl) (fun _ _ _ h => h) (by rfl) (fun w hSw => by go_simp) hHeld ?_; simp only [Act.put, List.setIfInBounds_toArray, List.set_cons_zero, List.set_cons_succ])
        (refine takeH (i := 10) (v := .int .i64 k) rfl rfl (by kernel_rfl) (by kernel_rfl) (by kernel_rfl) (fun _ _ _ h => h) (by rfl) (fun w hSw => by go_simp) hHeld ?_; simp only [Act.put, List.setIfInBounds_toArray, List.set_cons_zero, List.set_cons_succ])
        (refine takeH (i := 11) (v := .pointer (some ⟨b, o + k * 32, none⟩)) rfl rfl (by kernel_rfl) (by kernel_rfl) (by kernel_rfl) (fun _ _ _ h => h) (by rfl) (fun w hSw => by go_simp) hHeld ?_; simp only [Act.put, List.setIfInBounds_toArray, List.set_cons_zero, List.set_cons_succ])
        (refine takeH (i := 12) (v := .agg (qk.map bv).toArray) rfl rfl (by kernel_rfl) (by kernel_rfl) (by kernel_rfl) (fun _ _ _ h => h) (by rfl) (fun wz hw => load_exec 29 (.tmp 45) rfl (b) (o + k * 32) rfl (qk.map bv) _ (HS4.out _ hw) hu29 rfl hih) hHeld ?_; simp only [Act.put, List.setIfInBounds_toArray, List.set_cons_zero, List.set_cons_succ])
        (refine oneH (i := 13) rfl (by kernel_rfl) (fun K hK => ?_); go_simp; refine (HP2.out _).mono ?_; rintro e w3 ⟨rfl, hb3⟩; have q3 := q2.trans (hb3.mono q2.size); refine hK.out _ _ (q3) (fun hHeld => ?_); clear hK K)
        (refine oneH (i := 14) rfl (by kernel_rfl) (fun K hK => ?_); go_simp; refine hK.out _ _ (q3) (fun hHeld => ?_); clear hK K)
        (refine oneH (i := 15) rfl (by kernel_rfl) (fun K hK => ?_); go_simp; refine hK.out _ _ (q3) (fun hHeld => ?_); clear hK K)
        refine wpAnyH_done (by kernel_rfl) ?_ _
        have P7 := hide (M7.out.below q3 M7.out.lt)
        have P8 := hide (M8.out.below q3 M8.out.lt)
        have PW := hide (MW.out.trans (q3.mono MW.out.size))
        clear hHeld hb2 hb3 q2 q3 M7 M8 MW HP1 HP2 HS4 hiX hiY hu29 hu26 hih
        go_wp2_with fail
        exact ⟨⟨k + 1, by go_num, by omega, P7.out, P8.out, PW.out⟩, by simp [intOf]; omega⟩
      · have HP1 := hide (fun (W : World) => within_calls _ _ X Y rfl rfl HLX.out HLY.out W)
        rw [decide_eq_true HWI.out] at HP1
        have HP2 := hide (fun (W : World) h => lacks_calls _ Y rfl HLY.out q A2 c2 W h (by omega))
        rw [HLK.out] at HP2
        have HP3 := hide (fun (W : World) h => add_calls _ Y rfl HLY.out l A c W h hn)
        rw [HAD.out] at HP3
        have heq := HEQ.out
        clear HLK HWI HX1 HY1 HAD
        go_wp2_with fail
        refine wp_region_held_drew (S := fun w' => Below wo.heap.size wo w') (by kernel_rfl) (Below.refl _ _).drew (fun hHeld => ?_)
        (refine takeH (i := 0) (v := .agg (X.map bv).toArray) rfl rfl (by kernel_rfl) (by kernel_rfl) (by kernel_rfl) (fun _ _ _ h => h) (by rfl) (fun wz hw => load_exec 26 (.tmp 7) rfl (g7) (0) rfl (X.map bv) _ ((M7.out.below hw M7.out.lt).range) hu26 rfl hiX) hHeld ?_; simp only [Act.put, List.setIfInBounds_toArray, List.set_cons_zero, List.set_cons_succ])
        (refine takeH (i := 1) (v := .agg (Y.map bv).toArray) rfl rfl (by kernel_rfl) (by kernel_rfl) (by kernel_rfl) (fun _ _ _ h => h) (by rfl) (fun wz hw => load_exec 26 (.tmp 8) rfl (g8) (0) rfl (Y.map bv) _ ((M8.out.below hw M8.out.lt).range) hu26 rfl hiY) hHeld ?_; simp only [Act.put, List.setIfInBounds_toArray, List.set_cons_zero, List.set_cons_succ])
        (refine oneH (i := 2) rfl (by kernel_rfl) (fun K hK => ?_); go_simp; refine (HP1.out _).mono ?_; rintro e w2 ⟨rfl, hb2⟩; have q2 := hHeld.trans (hb2.mono hHeld.size); refine hK.out _ _ (q2) (fun hHeld => ?_); clear hK K)
        (refine takeH (i := 3) (v := .bool true) rfl rfl (by kernel_rfl) (by kernel_rfl) (by kernel_rfl) (fun _ _ _ h => h) (by rfl) (fun w hSw => by go_simp) hHeld ?_; simp only [Act.put, List.setIfInBounds_toArray, List.set_cons_zero, List.set_cons_succ])
        (refine takeH (i := 4) (v := .agg (Y.map bv).toArray) rfl rfl (by kernel_rfl) (by kernel_rfl) (by kernel_rfl) (fun _ _ _ h => h) (by rfl) (fun wz hw => load_exec 26 (.tmp 8) rfl (g8) (0) rfl (Y.map bv) _ ((M8.out.below hw M8.out.lt).range) hu26 rfl hiY) hHeld ?_; simp only [Act.put, List.setIfInBounds_toArray, List.set_cons_zero, List.set_cons_succ])
        (refine takeH (i := 5) (v := .slice A2 q.length c2) rfl rfl (by kernel_rfl) (by kernel_rfl) (by kernel_rfl) (fun _ _ _ h => h) (by rfl) (fun w hSw => by go_simp) hHeld ?_; simp only [Act.put, List.setIfInBounds_toArray, List.set_cons_zero, List.set_cons_succ])
        (refine oneH (i := 6) rfl (by kernel_rfl) (fun K hK => ?_); go_simp; refine (HP2.out _ (HQ.out.more (MW.out.trans (q2.mono MW.out.size)))).mono ?_; rintro e w3 ⟨B1, d1, rfl, _, hb3, _⟩; have q3 := q2.trans (hb3.mono q2.size); refine hK.out _ _ (q3) (fun hHeld => ?_); clear hK K)
        (refine takeH (i := 7) (v := .int .i64 0) rfl rfl (by kernel_rfl) (by kernel_rfl) (by kernel_rfl) (fun _ _ _ h => h) (by rfl) (fun w hSw => by go_simp) hHeld ?_; simp only [Act.put, List.setIfInBounds_toArray, List.set_cons_zero, List.set_cons_succ])
        (refine takeH (i := 8) (v := .bool true) rfl rfl (by kernel_rfl) (by kernel_rfl) (by kernel_rfl) (fun _ _ _ h => h) (by rfl) (fun w hSw => by go_simp) hHeld ?_; simp only [Act.put, List.setIfInBounds_toArray, List.set_cons_zero, List.set_cons_succ])
        (refine takeH (i := 9) (v := .bool true) rfl rfl (by kernel_rfl) (by kernel_rfl) (by kernel_rfl) (fun _ _ _ h => h) (by rfl) (fun w hSw => by go_simp) hHeld ?_; simp only [Act.put, List.setIfInBounds_toArray, List.set_cons_zero, List.set_cons_succ])
        (refine takeH (i := 10) (v := .bool true) rfl rfl (by kernel_rfl) (by kernel_rfl) (by kernel_rfl) (fun _ _ _ h => h) (by rfl) (fun w hSw => by go_simp) hHeld ?_; simp only [Act.put, List.setIfInBounds_toArray, List.set_cons_zero, List.set_cons_succ])
        (refine takeH (i := 11) (v := .agg (Y.map bv).toArray) rfl rfl (by kernel_rfl) (by kernel_rfl) (by kernel_rfl) (fun _ _ _ h => h) (by rfl) (fun wz hw => load_exec 26 (.tmp 8) rfl (g8) (0) rfl (Y.map bv) _ ((M8.out.below hw M8.out.lt).range) hu26 rfl hiY) hHeld ?_; simp only [Act.put, List.setIfInBounds_toArray, List.set_cons_zero, List.set_cons_succ])
        (refine takeH (i := 12) (v := .slice A l.length c) rfl rfl (by kernel_rfl) (by kernel_rfl) (by kernel_rfl) (fun _ _ _ h => h) (by rfl) (fun w hSw => by go_simp) hHeld ?_; simp only [Act.put, List.setIfInBounds_toArray, List.set_cons_zero, List.set_cons_succ])
        (refine takeH (i := 14) (v := .agg (Y.map bv).toArray) rfl rfl (by kernel_rfl) (by kernel_rfl) (by kernel_rfl) (fun _ _ _ h => h) (by rfl) (fun wz hw => load_exec 26 (.tmp 8) rfl (g8) (0) rfl (Y.map bv) _ ((M8.out.below hw M8.out.lt).range) hu26 rfl hiY) hHeld ?_; simp only [Act.put, List.setIfInBounds_toArray, List.set_cons_zero, List.set_cons_succ])
        (refine oneH (i := 13) rfl (by kernel_rfl) (fun K hK => ?_); go_simp; refine (HP3.out _ (HI.out.more (MW.out.trans (q3.mono MW.out.size)))).mono ?_; rintro e w4 ⟨rfl, hb4⟩; have q4 := q3.trans (hb4.mono q3.size); refine hK.out _ _ (q4) (fun hHeld => ?_); clear hK K)
        (refine takeH (i := 15) (v := .bool true) rfl rfl (by kernel_rfl) (by kernel_rfl) (by kernel_rfl) (fun _ _ _ h => h) (by rfl) (fun w hSw => by go_simp) hHeld ?_; simp only [Act.put, List.setIfInBounds_toArray, List.set_cons_zero, List.set_cons_succ])
        (refine takeH (i := 16) (v := .bool true) rfl rfl (by kernel_rfl) (by kernel_rfl) (by kernel_rfl) (fun _ _ _ h => h) (by rfl) (fun w hSw => by go_simp) hHeld ?_; simp only [Act.put, List.setIfInBounds_toArray, List.set_cons_zero, List.set_cons_succ])
        (refine takeH (i := 17) (v := .bool true) rfl rfl (by kernel_rfl) (by kernel_rfl) (by kernel_rfl) (fun _ _ _ h => h) (by rfl) (fun w hSw => by go_simp) hHeld ?_; simp only [Act.put, List.setIfInBounds_toArray, List.set_cons_zero, List.set_cons_succ])
        (refine oneH (i := 18) rfl (by kernel_rfl) (fun K hK => ?_); go_simp; refine (awake_calls _).mono ?_; rintro e w5 ⟨rfl, hb5⟩; have q5 := q4.trans (hb5.mono q4.size); refine hK.out _ _ (q5) (fun hHeld => ?_); clear hK K)
        (refine oneH (i := 19) rfl (by kernel_rfl) (fun K hK => ?_); go_simp; refine hK.out _ _ (q5) (fun hHeld => ?_); clear hK K)
        (refine oneH (i := 20) rfl (by kernel_rfl) (fun K hK => ?_); go_simp; refine hK.out _ _ (q5) (fun hHeld => ?_); clear hK K)
        refine wpAnyH_done (by kernel_rfl) ?_ _
        have PW := hide (MW.out.trans (q5.mono MW.out.size))
        clear hHeld hb2 hb3 hb4 hb5 q2 q3 q4 q5 heq
        go_wp2
        go_ret
        exact ⟨ret_eq rfl, PW.out⟩
end Go.Proofs.Ytidohbnmkogkmaa
