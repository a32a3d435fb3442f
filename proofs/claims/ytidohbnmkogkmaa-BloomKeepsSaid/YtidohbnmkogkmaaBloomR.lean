/- Contracts of the document's answer of the layer bloom: Names, With, Has. Conditions: none. -/
import Derived.Test.YtidohbnmkogkmaaBloomS
namespace Go.Proofs.Ytidohbnmkogkmaa
open Go.RowKit

theorem names_place (h : List UInt8) (j n : Nat) (h1 : 2 * j < h.length) (h2 : 2 * j + 1 < h.length) : ((256 * (h[2 * j].toNat : Int) + (h[2 * j + 1].toNat : Int)) % 512 == (n : Int)) = decide (n = placeN h j) := by
  rw [Bool.eq_iff_iff, beq_iff_eq, decide_eq_true_eq]
  simp only [placeN, List.getD, List.getElem?_eq_getElem h1, List.getElem?_eq_getElem h2, Option.getD_some]
  omega

set_option maxHeartbeats 1000000 in
set_option maxRecDepth 20000 in
theorem names_calls (cs : Array Value) (h : List UInt8) (hcs : cs = FB h) (hl : h.length = 32) (n : Nat) (w : World) :
    Calls Try.prog 51 #[.agg cs, .int .i64 n] w (Gives (.bool (namesB h n)) w) := by
  subst hcs
  have HB := hide (Blk.new w 29 (FB h))
  have HL := hide hl
  have HW := hide ((Below.refl w.heap.size w).alloc (Nat.le_refl _) (.cells (FB h) 29))
  clear hl
  go_enter Try.func51, Try.ntmps51
  go_wp2_with fail
  go_loopw [5] (fun i wr => ∃ (j : Nat), i = .int .i64 j ∧ j ≤ 4 ∧ (∀ i, i < j → n ≠ placeN h i) ∧ Blk wr w.heap.size 29 (FB h) ∧ Below w.heap.size w wr) (fun i _ => 4 - (intOf i).toNat)
  case atStart => exact ⟨0, rfl, Nat.zero_le _, fun i hi => by omega, HB.out, HW.out⟩
  case round =>
    obtain ⟨j, rfl, hj, hno, hb, hw⟩ := hrel
    have HB1 := hide hb
    have HW1 := hide hw
    have HNO := hide hno
    clear hb hw hno HB HW
    by_cases hlt : j < 4
    · have h1 : 2 * j < h.length := by rw [HL.out]; omega
      have h2 : 2 * j + 1 < h.length := by rw [HL.out]; omega
      have c1 : wr.cell? ⟨w.heap.size, 2 * j, none⟩ = some (bv h[2 * j]) := by rw [HB1.out.cell]; simp [h1]
      have c2 : wr.cell? ⟨w.heap.size, 2 * j + 1, none⟩ = some (bv h[2 * j + 1]) := by rw [HB1.out.cell]; simp [h2]
      have hp := names_place h j n h1 h2
      have x1 := UInt8.toNat_lt h[2 * j]
      have x2 := UInt8.toNat_lt h[2 * j + 1]
      generalize h[2 * j] = x at *
      generalize h[2 * j + 1] = y at *
      clear h1 h2
      by_cases hm : n = placeN h j
      · have hd : ((256 * (x.toNat : Int) + (y.toNat : Int)) % 512 == (n : Int)) = true := by rw [hp]; simp [hm]
        have HM := hide hm
        clear hp hm
        go_wp2_with fail
        go_quiet (fail)
        go_wp2
        go_ret
        exact ⟨ret_eq (by rw [show namesB h n = true from List.any_eq_true.2 ⟨j, List.mem_range.2 hlt, by simp [HM.out]⟩]; rfl), below_drewN HW1.out _⟩
      · have hd : ((256 * (x.toNat : Int) + (y.toNat : Int)) % 512 == (n : Int)) = false := by rw [hp]; simp [hm]
        have HM : Hid (∀ i, i < j + 1 → n ≠ placeN h i) := hide fun i hi => by
          by_cases e : i = j
          · rw [e]; exact hm
          · exact HNO.out i (by omega)
        clear hp hm
        go_wp2_with fail
        go_quiet (fail)
        go_wp2_with fail
        exact ⟨⟨j + 1, by go_num, by omega, HM.out, HB1.out.drewN _, below_drewN HW1.out _⟩, by simp [intOf]; omega⟩
    · obtain rfl : j = 4 := by omega
      go_wp2
      go_ret
      exact ⟨ret_eq (by rw [show namesB h n = false from List.any_eq_false.2 fun i hi => by simpa using HNO.out i (List.mem_range.1 hi)]; rfl), HW1.out⟩

/-- The filter of the first m bits of 'f' or 'l'. -/
def isB (f : List UInt8) (l : List (List UInt8)) (n : Nat) : Bool := bitOf f n || l.any fun h => namesB h n
def withN (f : List UInt8) (l : List (List UInt8)) (m : Nat) : List UInt8 := (List.range m).foldl (fun o n => if isB f l n then setBit o n else o) z64
theorem withN_succ (f : List UInt8) (l : List (List UInt8)) (m : Nat) : withN f l (m + 1) = if isB f l m then setBit (withN f l m) m else withN f l m := by simp [withN, List.range_succ]
theorem withN_length (f : List UInt8) (l : List (List UInt8)) (m : Nat) : (withN f l m).length = 64 := by
  induction m with
  | zero => rfl
  | succ m ih => rw [withN_succ]; split <;> simp [setBit_length, ih]
theorem bit_withN (f : List UInt8) (l : List (List UInt8)) (m n : Nat) (hm : m ≤ 512) : bitOf (withN f l m) n = (decide (n < m) && isB f l n) := by
  induction m with
  | zero =>
    have hz : ∀ i, z64.getD i 0 = 0 := fun i => by
      simp only [z64, List.getD, List.getElem?_replicate]
      split <;> rfl
    have : bitOf z64 n = false := by unfold bitOf; rw [hz]; simp
    simpa [withN] using this
  | succ m ih =>
    rw [withN_succ]
    by_cases h : isB f l m = true
    · rw [if_pos h, bit_set _ _ _ (withN_length _ _ _) (by omega), ih (by omega), Bool.eq_iff_iff]
      simp only [Bool.or_eq_true, Bool.and_eq_true, decide_eq_true_eq]
      constructor
      · rintro (⟨h1, h2⟩ | rfl)
        · exact ⟨by omega, h2⟩
        · exact ⟨by omega, h⟩
      · rintro ⟨h1, h2⟩
        by_cases e : n = m
        · exact .inr e
        · exact .inl ⟨by omega, h2⟩
    · rw [if_neg h, ih (by omega), Bool.eq_iff_iff]
      simp only [Bool.and_eq_true, decide_eq_true_eq]
      constructor
      · rintro ⟨h1, h2⟩; exact ⟨by omega, h2⟩
      · rintro ⟨h1, h2⟩
        exact ⟨by rcases Nat.lt_or_ge n m with x | x; exact x; exact absurd (by rwa [show n = m by omega] at h2) h, h2⟩
theorem with_add (f : List UInt8) (l : List (List UInt8)) (hf : f.length = 64) : withN f l 512 = addL f l :=
  bits_ext _ _ (withN_length _ _ _) ((addL_length _ _).trans hf) fun n hn => by rw [bit_withN _ _ _ _ (Nat.le_refl _), bit_addL _ _ _ hf]; simp [hn, isB]
theorem add_bit' : ∀ (j : Fin 8) (x : Fin 256), x.val.testBit j.val = false → IntKind.u8.wrap ((x.val : Int) + ((2 ^ j.val : Nat) : Int)) = ((x.val ||| 2 ^ j.val : Nat) : Int) ∧ x.val ||| 2 ^ j.val < 256 := by decide +kernel
theorem add_bit (x : UInt8) (j : Nat) (hj : j < 8) (h : x.toNat.testBit j = false) : IntKind.u8.wrap ((x.toNat : Int) + ((2 ^ j : Nat) : Int)) = ((orBit x j).toNat : Int) := by
  have h1 := add_bit' ⟨j, hj⟩ ⟨x.toNat, UInt8.toNat_lt x⟩ h
  simp only at h1
  rw [h1.1, orBit, b8'_toNat _ h1.2]

/-- Has a filter all of a name's bits? -/
def hasR (f h : List UInt8) : Bool := (List.range 512).all fun n => !namesB h n || bitOf f n
theorem hasR_eq (f h : List UInt8) (hf : f.length = 64) : hasB f h = hasR f h := by
  unfold hasB hasR
  rw [Bool.eq_iff_iff, decide_eq_true_eq, List.all_eq_true]
  constructor
  · intro e n hn
    have := bit_addL f [h] n hf
    rw [e] at this
    simp only [List.any_cons, List.any_nil, Bool.or_false] at this
    cases hn' : namesB h n
    · rfl
    · rw [hn', Bool.or_true] at this; rw [this]; rfl
  · intro hall
    refine bits_ext _ _ ((addL_length _ _).trans hf) hf fun n hn => ?_
    have := hall n (List.mem_range.2 hn)
    rw [bit_addL f [h] n hf]
    simp only [List.any_cons, List.any_nil, Bool.or_false]
    cases h1 : namesB h n
    · simp
    · rw [h1] at this; simp at this; simp [this]

set_option maxHeartbeats 1000000 in
set_option maxRecDepth 20000 in
theorem refHas_calls (cs ds : Array Value) (f h : List UInt8) (hcs : cs = FB f) (hds : ds = FB h) (hf : f.length = 64) (hh : h.length = 32) (w : World) :
    Calls Try.prog 24 #[.agg cs, .agg ds] w (Gives (.bool (hasR f h)) w) := by
  subst hcs hds
  have HL := hide (And.intro hf hh)
  have H2 := hide ((Blk.new w 25 (FB f)).alloc (.cells (FB h) 29))
  have H3 := hide (Blk.new (w.alloc (.cells (FB f) 25)) 29 (FB h))
  rw [World.size_alloc] at H3
  have HW := hide (((Below.refl w.heap.size w).alloc (Nat.le_refl _) (.cells (FB f) 25)).alloc (by simp) (.cells (FB h) 29))
  clear hf hh
  go_enter Try.func24, Try.ntmps24
  go_wp2_with fail
  go_loopw [5] (fun i wr => ∃ (n : Nat), i = .int .i64 n ∧ n ≤ 512 ∧ (∀ i, i < n → (!namesB h i || bitOf f i) = true) ∧ Blk wr w.heap.size 25 (FB f) ∧ Blk wr (w.heap.size + 1) 29 (FB h) ∧ Below w.heap.size w wr) (fun i _ => 512 - (intOf i).toNat)
  case atStart => exact ⟨0, rfl, Nat.zero_le _, fun i hi => by omega, H2.out, H3.out, HW.out⟩
  case round =>
    obtain ⟨n, rfl, hn, hall, h2, h3, hw⟩ := hrel
    obtain ⟨wo, rfl⟩ : ∃ wo : World, wo = wr := ⟨_, rfl⟩
    have G2 := hide h2
    have G3 := hide h3
    have GW := hide hw
    have GA := hide hall
    clear h2 h3 hw hall H2 H3 HW
    by_cases hlt : n < 512
    · cases hx : namesB h n
      · have HX := hide hx
        clear hx
        go_wp2_with (first | (refine wpList_load_blk rfl 29 _ rfl _ rfl _ _ (G3.out) _ rfl rfl (fb_info (by kernel_rfl) (HL.out.2)) ?_) | fail)
        refine (names_calls _ h rfl HL.out.2 n _).mono ?_
        rintro e w1 ⟨rfl, hb1⟩
        rw [HX.out]
        have K2 := hide (G2.out.below hb1 G2.out.lt)
        have K3 := hide (G3.out.below hb1 G3.out.lt)
        have KW := hide (GW.out.trans (hb1.mono GW.out.size))
        clear hb1
        go_wp2_with fail
        exact ⟨⟨n + 1, by go_num, by omega, fun i hi => by
          by_cases e : i = n
          · rw [e, HX.out]; rfl
          · exact GA.out i (by omega), K2.out, K3.out, KW.out⟩, by simp [intOf]; omega⟩
      · have HX := hide hx
        clear hx
        go_wp2_with (first | (refine wpList_load_blk rfl 29 _ rfl _ rfl _ _ (G3.out) _ rfl rfl (fb_info (by kernel_rfl) (HL.out.2)) ?_) | fail)
        refine (names_calls _ h rfl HL.out.2 n _).mono ?_
        rintro e w1 ⟨rfl, hb1⟩
        rw [HX.out]
        have K2 := hide (G2.out.below hb1 G2.out.lt)
        have K3 := hide (G3.out.below hb1 G3.out.lt)
        have KW := hide (GW.out.trans (hb1.mono GW.out.size))
        clear hb1
        go_wp2_with (first | (refine wpList_load_blkg (by rfl) 25 _ rfl _ rfl _ _ (K2.out) _ rfl rfl (fb_info (by kernel_rfl) (HL.out.1)) ?_) | fail)
        refine (bit_calls _ f rfl HL.out.1 n hlt _).mono ?_
        rintro e w2 ⟨rfl, hb2⟩
        have M2 := hide (K2.out.below hb2 K2.out.lt)
        have M3 := hide (K3.out.below hb2 K3.out.lt)
        have MW := hide (KW.out.trans (hb2.mono KW.out.size))
        clear hb2
        cases hy : bitOf f n
        · have HY := hide hy
          clear hy
          go_wp2
          go_ret
          refine ⟨ret_eq ?_, MW.out⟩
          rw [show hasR f h = false from List.all_eq_false.2 ⟨n, List.mem_range.2 hlt, by simp [HX.out, HY.out]⟩]
          rfl
        · have HY := hide hy
          clear hy
          go_wp2_with fail
          exact ⟨⟨n + 1, by go_num, by omega, fun i hi => by
            by_cases e : i = n
            · rw [e, HY.out]; simp
            · exact GA.out i (by omega), M2.out, M3.out, MW.out⟩, by simp [intOf]; omega⟩
    · obtain rfl : n = 512 := by omega
      go_wp2
      go_ret
      exact ⟨ret_eq (by rw [show hasR f h = true from List.all_eq_true.2 fun i hi => GA.out i (List.mem_range.1 hi)]; rfl), GW.out⟩
end Go.Proofs.Ytidohbnmkogkmaa
