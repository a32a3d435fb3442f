/- BloomSets, walked. Conditions: none. -/
import Derived.Deep.DeepCutAuto
import Derived.Test.YtidohbnmkogkmaaBloomS
namespace Go.Proofs.Ytidohbnmkogkmaa
open Go.RowKit

/-- How many of the first m bits are set. -/
def cntTo (f : List UInt8) (m : Nat) : Nat := ((List.range m).filter fun i => bitOf f i).length
theorem cntTo_succ (f : List UInt8) (m : Nat) : cntTo f (m + 1) = cntTo f m + if bitOf f m then 1 else 0 := by
  rw [cntTo, List.range_succ, List.filter_append, List.length_append, cntTo]
  cases h : bitOf f m <;> simp [h]
theorem cntTo_le (f : List UInt8) (m : Nat) : cntTo f m ≤ m := by
  unfold cntTo
  exact Nat.le_trans (List.length_filter_le _ _) (by simp)
theorem ones_bits : ∀ x : Fin 256, Lib.onesCount x.val = ((List.range 8).filter fun i => x.val.testBit i).length := by decide +kernel
theorem bit_snoc (f : List UInt8) (x : UInt8) (i : Nat) (h : i < 8 * f.length) : bitOf (f ++ [x]) i = bitOf f i := by
  unfold bitOf
  rw [show (f ++ [x]).getD (i / 8) 0 = f.getD (i / 8) 0 by simp only [List.getD]; rw [List.getElem?_append_left (by omega)]]
theorem bit_last (f : List UInt8) (x : UInt8) (j : Nat) (h : j < 8) : bitOf (f ++ [x]) (8 * f.length + j) = x.toNat.testBit j := by
  unfold bitOf
  rw [show (8 * f.length + j) / 8 = f.length by omega, show (8 * f.length + j) % 8 = j by omega]
  simp [List.getD]
theorem cntTo_snoc (f : List UInt8) (x : UInt8) (m : Nat) (h : m ≤ 8 * f.length) : cntTo (f ++ [x]) m = cntTo f m := by
  unfold cntTo
  congr 1
  exact List.filter_congr fun i hi => bit_snoc f x i (by have := List.mem_range.1 hi; omega)
theorem cntTo_last (f : List UInt8) (x : UInt8) (j : Nat) (h : j ≤ 8) : cntTo (f ++ [x]) (8 * f.length + j) = cntTo f (8 * f.length) + ((List.range j).filter fun i => x.toNat.testBit i).length := by
  induction j with
  | zero => simpa using cntTo_snoc f x (8 * f.length) (Nat.le_refl _)
  | succ j ih =>
    rw [← Nat.add_assoc, cntTo_succ, ih (by omega), bit_last f x j (by omega), List.range_succ, List.filter_append, List.length_append]
    cases h : x.toNat.testBit j <;> simp [h, Nat.add_assoc]
theorem cntN_bits (f : List UInt8) : cntN f = cntTo f (8 * f.length) := by
  rw [← List.reverse_reverse f]
  generalize f.reverse = r
  induction r with
  | nil => rfl
  | cons x r ih =>
    rw [List.reverse_cons, cntN_snoc, ih]
    have h := cntTo_last r.reverse x 8 (Nat.le_refl _)
    have h2 := ones_bits ⟨x.toNat, UInt8.toNat_lt x⟩
    simp only at h2
    rw [h2, List.length_append, List.length_singleton, Nat.mul_add, Nat.mul_one, h]
theorem bit_or (f g : List UInt8) (n : Nat) (hf : f.length = 64) (hg : g.length = 64) (hn : n < 512) : bitOf (orL f g) n = (bitOf f n || bitOf g n) := by
  unfold bitOf orL
  have h1 : n / 8 < f.length := by omega
  have h2 : n / 8 < g.length := by omega
  have e : (List.zipWith (fun a b => a ||| b) f g).getD (n / 8) 0 = f.getD (n / 8) 0 ||| g.getD (n / 8) 0 := by simp [List.getD, List.getElem?_zipWith, h1, h2]
  rw [e, UInt8.toNat_or, Nat.testBit_or]
theorem within_bits (f g : List UInt8) (hf : f.length = 64) (hg : g.length = 64) : decide (orL f g = g) = (List.range 512).all fun i => !bitOf f i || bitOf g i := by
  rw [Bool.eq_iff_iff, decide_eq_true_eq, List.all_eq_true]
  constructor
  · intro e i hi
    have := bit_or f g i hf hg (List.mem_range.1 hi)
    rw [e] at this
    rw [this]
    cases bitOf f i <;> simp
  · intro h
    refine bits_ext _ _ ((orL_length f g (by omega)).trans hf) hg fun n hn => ?_
    rw [bit_or f g n hf hg hn]
    have := h n (List.mem_range.2 hn)
    cases hx : bitOf f n
    · simp
    · rw [hx] at this; simp at this; rw [this]; rfl
def okTo (f g : List UInt8) (m : Nat) : Bool := (List.range m).all fun i => !bitOf f i || bitOf g i
theorem okTo_succ (f g : List UInt8) (m : Nat) : okTo f g (m + 1) = (okTo f g m && (!bitOf f m || bitOf g m)) := by simp [okTo, List.range_succ]

theorem Blk.new2 (w : World) (o : Obj) (t : TypeId) (cs : Array Value) : Blk ((w.alloc o).alloc (.cells cs t)) (w.heap.size + 1) t cs := by simpa using Blk.new (w.alloc o) t cs

set_option maxHeartbeats 2000000 in
set_option maxRecDepth 20000 in
theorem bloomSets_calls (cs ds : Array Value) (f g : List UInt8) (hcs : cs = FB f) (hds : ds = FB g) (hf : f.length = 64) (hg : g.length = 64) (w : World) :
    Calls Try.prog 5 #[.agg cs, .agg ds] w (Gives (.bool true) w) := by
  subst hcs hds
  have H2 := hide ((Blk.new w 25 (FB f)).alloc (.cells (FB g) 25))
  have H3 := hide (Blk.new (w.alloc (.cells (FB f) 25)) 25 (FB g))
  rw [World.size_alloc] at H3
  have HW := hide (((Below.refl w.heap.size w).alloc (Nat.le_refl _) (.cells (FB f) 25)).alloc (by simp) (.cells (FB g) 25))
  have hu25 := Try.underlying25
  have hif : (Try.prog.info? 25).map (·.size) = some (f.map bv).length := by rw [List.length_map, hf]; kernel_rfl
  have hig : (Try.prog.info? 25).map (·.size) = some (g.map bv).length := by rw [List.length_map, hg]; kernel_rfl
  have HL := hide (And.intro hf hg)
  clear hf hg
  go_enter Try.func5, Try.ntmps5
  go_upto_region 1 with fail
  go_cut [5, 6] (fun p q wx => ∃ g5 g6, p = .pointer (some ⟨g5, 0, none⟩) ∧ q = .pointer (some ⟨g6, 0, none⟩) ∧ Blk wx g5 26 (FB f) ∧ Blk wx g6 26 (FB g) ∧ Blk wx w.heap.size 25 (FB f) ∧ Blk wx (w.heap.size + 1) 25 (FB g) ∧ Below w.heap.size w wx)
  case first =>
    generalize (w.alloc (.cells (FB f) 25)).alloc (.cells (FB g) 25) = W at *
    refine wp_region_held_drew (S := fun w' => Below W.heap.size W w') (by kernel_rfl) (Below.refl _ _).drew (fun hHeld => ?_)
    (refine takeH (i := 0) (v := .agg (f.map bv).toArray) rfl rfl (by kernel_rfl) (by kernel_rfl) (by kernel_rfl) (fun _ _ _ h => h) (by rfl) (fun wz hw => load_exec 25 (.tmp 2) rfl (w.heap.size) (0) rfl (f.map bv) _ ((H2.out.below hw H2.out.lt).range) hu25 rfl hif) hHeld ?_; simp only [Act.put, List.setIfInBounds_toArray, List.set_cons_zero, List.set_cons_succ])
    (refine takeH (i := 1) (v := .agg (g.map bv).toArray) rfl rfl (by kernel_rfl) (by kernel_rfl) (by kernel_rfl) (fun _ _ _ h => h) (by rfl) (fun wz hw => load_exec 25 (.tmp 3) rfl (w.heap.size + 1) (0) rfl (g.map bv) _ ((H3.out.below hw H3.out.lt).range) hu25 rfl hig) hHeld ?_; simp only [Act.put, List.setIfInBounds_toArray, List.set_cons_zero, List.set_cons_succ])
    refine twoH (i := 2) (j := 3) rfl rfl (by kernel_rfl) (fun K hK => ?_) (fun K hK => ?_)
    · go_simp; refine hK.out _ _ (hHeld.alloc (by simp) _) (fun hHeld => ?_); clear hK K
      (refine oneH (i := 3) rfl (by kernel_rfl) (fun K hK => ?_); go_simp; refine hK.out _ _ (hHeld.alloc (by simp) _) (fun hHeld => ?_); clear hK K)
      (refine oneH (i := 4) rfl (by kernel_rfl) (fun K hK => ?_); rw [if_pos (by rfl)]; refine wp_store_blk 26 _ _ rfl (W.heap.size) rfl f (by rfl) _ _ ((((Blk.new W _ _).alloc _).drew)) (by rw [fb_size, HL.out.1] <;> rfl) (fb_info (by kernel_rfl) HL.out.1) ?_; intro w5 hb5 hf5; have q5 := hHeld.trans (hf5.below (hHeld.size) (fun x hx h => by omega)); refine hK.out _ _ (q5) (fun hHeld => ?_); clear hK K)
      (refine oneH (i := 5) rfl (by kernel_rfl) (fun K hK => ?_); rw [if_pos (by rfl)]; refine wp_store_blk 26 _ _ rfl (W.heap.size + 1) rfl g (by rfl) _ _ (((Blk.new2 W _ _ _).drew).fr hf5 (by omega)) (by rw [fb_size, HL.out.2] <;> rfl) (fb_info (by kernel_rfl) HL.out.2) ?_; intro w6 hb6 hf6; have q6 := hHeld.trans (hf6.below (hHeld.size) (fun x hx h => by omega)); refine hK.out _ _ (q6) (fun hHeld => ?_); clear hK K)
      refine wpAnyH_done (by kernel_rfl) ?_ _
      have HQ := hide (And.intro (hb5.fr hf6 (by omega)) (And.intro hb6 q6))
      clear hHeld hb5 hf5 hb6 hf6 q5 q6
      go_wp2_with fail
      go_meet
      exact ⟨_, _, rfl, rfl, HQ.out.1, HQ.out.2.1, H2.out.below HQ.out.2.2 H2.out.lt, H3.out.below HQ.out.2.2 H3.out.lt, HW.out.trans (HQ.out.2.2.mono HW.out.size)⟩
    · go_simp; refine hK.out _ _ (hHeld.alloc (by simp) _) (fun hHeld => ?_); clear hK K
      (refine oneH (i := 2) rfl (by kernel_rfl) (fun K hK => ?_); go_simp; refine hK.out _ _ (hHeld.alloc (by simp) _) (fun hHeld => ?_); clear hK K)
      (refine oneH (i := 4) rfl (by kernel_rfl) (fun K hK => ?_); rw [if_pos (by rfl)]; refine wp_store_blk 26 _ _ rfl (W.heap.size + 1) rfl f (by rfl) _ _ ((Blk.new2 W _ _ _).drew) (by rw [fb_size, HL.out.1] <;> rfl) (fb_info (by kernel_rfl) HL.out.1) ?_; intro w5 hb5 hf5; have q5 := hHeld.trans (hf5.below (hHeld.size) (fun x hx h => by omega)); refine hK.out _ _ (q5) (fun hHeld => ?_); clear hK K)
      (refine oneH (i := 5) rfl (by kernel_rfl) (fun K hK => ?_); rw [if_pos (by rfl)]; refine wp_store_blk 26 _ _ rfl (W.heap.size) rfl g (by rfl) _ _ (((((Blk.new W _ _).alloc _).drew)).fr hf5 (by omega)) (by rw [fb_size, HL.out.2] <;> rfl) (fb_info (by kernel_rfl) HL.out.2) ?_; intro w6 hb6 hf6; have q6 := hHeld.trans (hf6.below (hHeld.size) (fun x hx h => by omega)); refine hK.out _ _ (q6) (fun hHeld => ?_); clear hK K)
      refine wpAnyH_done (by kernel_rfl) ?_ _
      have HQ := hide (And.intro (hb5.fr hf6 (by omega)) (And.intro hb6 q6))
      clear hHeld hb5 hf5 hb6 hf6 q5 q6
      go_wp2_with fail
      go_meet
      exact ⟨_, _, rfl, rfl, HQ.out.1, HQ.out.2.1, H2.out.below HQ.out.2.2 H2.out.lt, H3.out.below HQ.out.2.2 H3.out.lt, HW.out.trans (HQ.out.2.2.mono HW.out.size)⟩
  case rest =>
    obtain ⟨g5, g6, rfl, rfl, h5, h6, h2, h3, hw⟩ := hcut
    have G2 := hide h2
    have G3 := hide h3
    have G5 := hide h5
    have G6 := hide h6
    have GW := hide hw
    clear h2 h3 h5 h6 hw H2 H3 HW
    have hla : (orL f g).length = 64 := by rw [orL_length f g (by rw [HL.out.1, HL.out.2]), HL.out.1]
    have HLA := hide hla
    clear hla hif hig
    go_wp2_with (first | (refine wpList_load_blk rfl 26 _ rfl _ rfl _ _ (G5.out) _ rfl rfl (fb_info (by kernel_rfl) (HL.out.1)) ?_) | (refine wpList_load_blk rfl 26 _ rfl _ rfl _ _ (G6.out) _ rfl rfl (fb_info (by kernel_rfl) (HL.out.2)) ?_) | fail)
    refine (union_calls _ _ f g rfl rfl HL.out.1 HL.out.2 _).mono ?_
    rintro e w1 ⟨rfl, hb1⟩
    go_wp2_with (first | (refine wpList_store_blk rfl 26 _ _ rfl _ rfl (FB (orL f g)) rfl _ _ (Blk.new _ _ _) (by rw [fb_size, HLA.out] <;> rfl) (fb_info (by kernel_rfl) (HLA.out)) (fb_one _) ?_; intro w7 hb7 hf7; have HB7 := hide hb7; have HF7 := hide hf7; clear hb7 hf7) | fail)
    have q7 := hb1.trans (((Below.refl _ _).alloc (Nat.le_refl _) _ |>.trans (HF7.out.below (by simp) fun x hx h => by omega)).mono hb1.size)
    have K2 := hide (G2.out.below q7 G2.out.lt)
    have K3 := hide (G3.out.below q7 G3.out.lt)
    have K5 := hide (G5.out.below q7 G5.out.lt)
    have K6 := hide (G6.out.below q7 G6.out.lt)
    have KW := hide (GW.out.trans (q7.mono GW.out.size))
    have HC := hide (bit_or f g)
    clear q7 hb1 HF7 G2 G3 G5 G6 GW
    generalize w1.heap.size = g7 at *
    go_loopw [8, 9, 10] (fun nv bv iv wr => ∃ m : Nat, nv = .int .i64 (cntTo f m) ∧ bv = .bool (okTo f g m) ∧ iv = .int .i64 m ∧ m ≤ 512 ∧ Blk wr w.heap.size 25 (FB f) ∧ Blk wr (w.heap.size + 1) 25 (FB g) ∧ Blk wr g5 26 (FB f) ∧ Blk wr g6 26 (FB g) ∧ Blk wr g7 26 (FB (orL f g)) ∧ Below w.heap.size w wr) (fun _ _ i _ => 512 - (intOf i).toNat)
    case atStart => exact ⟨0, rfl, rfl, rfl, by omega, K2.out, K3.out, K5.out, K6.out, HB7.out, KW.out⟩
    case round =>
      clear K2 K3 K5 K6 HB7 KW
      obtain ⟨m, rfl, rfl, rfl, hm, h2, h3, h5, h6, h7, hw⟩ := hrel
      obtain ⟨wo, rfl⟩ : ∃ wo : World, wo = wr := ⟨_, rfl⟩
      have M2 := hide h2
      have M3 := hide h3
      have M5 := hide h5
      have M6 := hide h6
      have M7 := hide h7
      have MW := hide hw
      clear h2 h3 h5 h6 h7 hw
      by_cases hlt : m < 512
      · have hc1 := cntTo_le f m
        have HN := hide (cntTo_succ f m)
        have HK := hide (okTo_succ f g m)
        have HO := hide (HC.out m HL.out.1 HL.out.2 hlt)
        have HX := hide (fun (W : World) => bit_calls _ f rfl HL.out.1 m hlt W)
        have HY := hide (fun (W : World) => bit_calls _ g rfl HL.out.2 m hlt W)
        have HZ := hide (fun (W : World) => bit_calls _ (orL f g) rfl HLA.out m hlt W)
        rw [HO.out] at HZ
        have hif : (Try.prog.info? 25).map (·.size) = some (f.map bv).length := by rw [List.length_map, HL.out.1]; kernel_rfl
        have hig : (Try.prog.info? 25).map (·.size) = some (g.map bv).length := by rw [List.length_map, HL.out.2]; kernel_rfl
        generalize cntTo f m = cn at *
        generalize okTo f g m = ok at *
        clear HO
        generalize bitOf f m = x at *
        generalize bitOf g m = y at *
        go_wp2_with fail
        refine wp_region_held_drew (S := fun w' => Below wo.heap.size wo w') (by kernel_rfl) (Below.refl _ _).drew (fun hHeld => ?_)
        (refine takeH (i := 0) (v := .agg (f.map bv).toArray) rfl rfl (by kernel_rfl) (by kernel_rfl) (by kernel_rfl) (fun _ _ _ h => h) (by rfl) (fun wz hw => load_exec 25 (.tmp 2) rfl (w.heap.size) (0) rfl (f.map bv) _ ((M2.out.below hw M2.out.lt).range) hu25 rfl hif) hHeld ?_; simp only [Act.put, List.setIfInBounds_toArray, List.set_cons_zero, List.set_cons_succ])
        (refine takeH (i := 1) (v := .int .i64 m) rfl rfl (by kernel_rfl) (by kernel_rfl) (by kernel_rfl) (fun _ _ _ h => h) (by rfl) (fun w hSw => by go_simp) hHeld ?_; simp only [Act.put, List.setIfInBounds_toArray, List.set_cons_zero, List.set_cons_succ])
        (refine takeH (i := 3) (v := .agg (g.map bv).toArray) rfl rfl (by kernel_rfl) (by kernel_rfl) (by kernel_rfl) (fun _ _ _ h => h) (by rfl) (fun wz hw => load_exec 25 (.tmp 3) rfl (w.heap.size + 1) (0) rfl (g.map bv) _ ((M3.out.below hw M3.out.lt).range) hu25 rfl hig) hHeld ?_; simp only [Act.put, List.setIfInBounds_toArray, List.set_cons_zero, List.set_cons_succ])
        (refine takeH (i := 4) (v := .int .i64 m) rfl rfl (by kernel_rfl) (by kernel_rfl) (by kernel_rfl) (fun _ _ _ h => h) (by rfl) (fun w hSw => by go_simp) hHeld ?_; simp only [Act.put, List.setIfInBounds_toArray, List.set_cons_zero, List.set_cons_succ])
        (refine oneH (i := 2) rfl (by kernel_rfl) (fun K hK => ?_); go_simp; refine (HX.out _).mono ?_; rintro e w2 ⟨rfl, hb2⟩; have q2 := hHeld.trans (hb2.mono hHeld.size); refine hK.out _ _ (q2) (fun hHeld => ?_); clear hK K)
        (refine oneH (i := 5) rfl (by kernel_rfl) (fun K hK => ?_); go_simp; refine (HY.out _).mono ?_; rintro e w3 ⟨rfl, hb3⟩; have q3 := q2.trans (hb3.mono q2.size); refine hK.out _ _ (q3) (fun hHeld => ?_); clear hK K)
        (refine oneH (i := 6) rfl (by kernel_rfl) (fun K hK => ?_); go_simp; refine hK.out _ _ (q3) (fun hHeld => ?_); clear hK K)
        (refine oneH (i := 7) rfl (by kernel_rfl) (fun K hK => ?_); go_simp; refine hK.out _ _ (q3) (fun hHeld => ?_); clear hK K)
        refine wpAnyH_done (by kernel_rfl) ?_ _
        have P2 := hide (M2.out.below q3 M2.out.lt)
        have P3 := hide (M3.out.below q3 M3.out.lt)
        have P5 := hide (M5.out.below q3 M5.out.lt)
        have P6 := hide (M6.out.below q3 M6.out.lt)
        have P7 := hide (M7.out.below q3 M7.out.lt)
        have PW := hide (MW.out.trans (q3.mono MW.out.size))
        clear hHeld hb2 hb3 q2 q3 M2 M3 M5 M6 M7 MW HX HY hif hig
        cases x <;> cases y <;> cases ok
        all_goals
          go_wp2_with (first | (refine wpList_load_blk rfl 26 _ rfl _ rfl _ _ (P7.out) _ rfl rfl (fb_info (by kernel_rfl) (HLA.out)) ?_) | fail)
          refine (HZ.out _).mono ?_
          rintro e w4 ⟨rfl, hb4⟩
          have R2 := hide (P2.out.below hb4 P2.out.lt)
          have R3 := hide (P3.out.below hb4 P3.out.lt)
          have R5 := hide (P5.out.below hb4 P5.out.lt)
          have R6 := hide (P6.out.below hb4 P6.out.lt)
          have R7 := hide (P7.out.below hb4 P7.out.lt)
          have RW := hide (PW.out.trans (hb4.mono PW.out.size))
          clear hb4 P2 P3 P5 P6 P7 PW
          go_wp2_with fail
          exact ⟨⟨m + 1, by rw [HN.out]; simp, by rw [HK.out]; rfl, by go_num, by omega, R2.out, R3.out, R5.out, R6.out, R7.out, RW.out⟩, by simp [intOf]; omega⟩
      · obtain rfl : m = 512 := by omega
        have e1 : cntTo f 512 = cntN f := by rw [cntN_bits, HL.out.1]
        have e2 : okTo f g 512 = decide (orL f g = g) := (within_bits f g HL.out.1 HL.out.2).symm
        rw [e1, e2]
        have HX := hide (fun (W : World) => count_calls _ f rfl HL.out.1 W)
        have HY := hide (fun (W : World) => within_calls _ _ f g rfl rfl HL.out.1 HL.out.2 W)
        generalize cntN f = cn at *
        generalize decide (orL f g = g) = ok at *
        clear HC e1 e2
        go_wp2_with (first | (refine wpList_load_blk rfl 26 _ rfl _ rfl _ _ (M5.out) _ rfl rfl (fb_info (by kernel_rfl) (HL.out.1)) ?_) | fail)
        refine (HX.out _).mono ?_
        rintro e w2 ⟨rfl, hb2⟩
        have P5 := hide (M5.out.below hb2 M5.out.lt)
        have P6 := hide (M6.out.below hb2 M6.out.lt)
        have PW := hide (MW.out.trans (hb2.mono MW.out.size))
        clear hb2
        go_wp2_with (first | (refine wpList_load_blkg (by rfl) 26 _ rfl _ rfl _ _ (P5.out) _ rfl rfl (fb_info (by kernel_rfl) (HL.out.1)) ?_) | (refine wpList_load_blkg (by rfl) 26 _ rfl _ rfl _ _ (P6.out) _ rfl rfl (fb_info (by kernel_rfl) (HL.out.2)) ?_) | fail)
        refine (HY.out _).mono ?_
        rintro e w3 ⟨rfl, hb3⟩
        have QW := hide (PW.out.trans (hb3.mono PW.out.size))
        clear hb3
        go_wp2_with fail
        refine (awake_calls _).mono ?_
        rintro e w4 ⟨rfl, hb4⟩
        have RW := hide (QW.out.trans (hb4.mono QW.out.size))
        clear hb4
        go_wp2
        go_ret
        exact ⟨ret_eq (by first | rfl | simp), RW.out⟩
end Go.Proofs.Ytidohbnmkogkmaa
