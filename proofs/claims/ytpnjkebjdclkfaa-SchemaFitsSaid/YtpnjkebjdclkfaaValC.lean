/- Values, walked: depths. Conditions: none. -/
import Derived.Test.YtpnjkebjdclkfaaSchC
namespace Go.Proofs.Ytpnjkebjdclkfaa
open Go.RowKit

set_option maxHeartbeats 1000000 in
set_option maxRecDepth 20000 in
theorem valDepth_calls (k : Nat) : ∀ (s : DVal) (cs : List Value) (w : World), s.depth ≤ k → k ≤ 1000000 → IsVal w (· < w.heap.size) s cs →
    Calls Try.prog 45 #[.agg cs.toArray] w (Gives (.int .i64 s.depth) w) := by
  induction k with
  | zero => intro s cs w h; have := s.depth_pos; omega
  | succ k ih =>
    intro s cs w hk hkk hs
    obtain ⟨Ap, cp, hc, hcp, hmp, hA⟩ := hs.parts_
    have HI := hide ih
    have HA := hide hA
    have HS := hide hs
    have HD := hide s.depth_eq
    have hdp := s.depth_eq
    have HB0 := hide (Blk.new w 31 cs.toArray)
    have HW0 := hide ((Below.refl w.heap.size w).alloc (Nat.le_refl _) (.cells cs.toArray 31))
    have HP := hide (fun p (h : p ∈ s.parts) => DVal.depth_part h)
    clear ih hA hs
    go_enter Try.func45, Try.ntmps45
    go_wp2_with fail
    go_loopw [3, 9] (fun nv iv wr => ∃ (i : Nat), iv = .int .i64 i ∧ i ≤ s.parts.length ∧ nv = .int .i64 (DVal.depths (s.parts.take i)) ∧ Below w.heap.size w wr) (fun _ iv _ => s.parts.length - (intOf iv).toNat)
    case atStart => exact ⟨0, rfl, Nat.zero_le _, rfl, HW0.out⟩
    case round =>
      obtain ⟨i, rfl, hi, rfl, hw⟩ := hrel
      obtain ⟨wo, rfl⟩ : ∃ wo : World, wo = wr := ⟨_, rfl⟩
      have GW := hide hw
      clear hw HB0 HW0
      have hle := DVal.depths_le s.parts i
      by_cases hlt : i < s.parts.length
      · obtain ⟨b, o, rfl, hb, hC⟩ := HA.out (by omega)
        obtain ⟨C, hl3, hr, hpi⟩ := hC i _ (List.getElem?_eq_getElem hlt)
        have HRW : Hid (wo.rangeAt b (o + i * 6) C) := hide fun q v hv => (GW.out.cell (p := ⟨b, o + i * 6 + q, none⟩) hb).trans (hr q v hv)
        have HL3 := hide hl3
        have hone := hpi.one
        have HONE := hide hone
        have HPI := hide hpi
        have HT := hide (DVal.depths_take s.parts i hlt)
        have hpd := HP.out _ (List.getElem_mem hlt)
        clear hC hl3 hr hpi hone
        generalize s.parts[i] = p at *
        generalize DVal.depths (s.parts.take i) = m at *
        have hst := fun (W : World) => run_store_new (P := Try.prog) W 31 [.int .i64 0, .int .i64 0, .string ⟨#[]⟩, .slice none 0 0, .slice none 0 0, .slice none 0 0] C (by rw [HL3.out]; rfl) HONE.out
        go_wp2_with (first
          | (refine wpList_load_mid rfl 31 _ rfl b (o + i * 6) rfl C _ HRW.out rfl rfl (by rw [HL3.out]; kernel_rfl) ?_)
          | (refine wpList_load_blk rfl 31 _ rfl _ rfl _ _ (Blk.new _ _ _) _ rfl rfl (by rw [List.size_toArray, HL3.out]; kernel_rfl) ?_)
          | fail)
        have K6 := hide (GW.out.alloc GW.out.size (.cells C.toArray 31))
        clear HRW
        refine (HI.out p C _ (by omega) (by omega) (HPI.out.more K6.out)).mono ?_
        rintro e w1 ⟨rfl, hb1⟩
        have KW := hide (K6.out.trans (hb1.mono K6.out.size))
        clear hb1
        go_wp2_with fail
        exact ⟨⟨i + 1, by go_num, by omega, by rw [HT.out]; go_num, KW.out⟩, by simp [intOf]; omega⟩
      · have HE : Hid (DVal.depths (s.parts.take i) + 1 = s.depth) := hide (by rw [List.take_of_length_le (by omega), HD.out])
        generalize DVal.depths (s.parts.take i) = m at *
        go_wp2
        go_ret
        exact ⟨ret_eq (by rw [← HE.out]; first | rfl | go_num), GW.out⟩


set_option maxHeartbeats 1000000 in
set_option maxRecDepth 20000 in
theorem refValDepth_calls (k : Nat) : ∀ (s : DVal) (cs : List Value) (w : World), s.depth ≤ k → k ≤ 1000000 → IsVal w (· < w.heap.size) s cs →
    Calls Try.prog 46 #[.agg cs.toArray] w (Gives (.int .i64 s.depth) w) := by
  induction k with
  | zero => intro s cs w h; have := s.depth_pos; omega
  | succ k ih =>
    intro s cs w hk hkk hs
    obtain ⟨Ap, cp, hc, hcp, hmp, hA⟩ := hs.parts_
    have HI := hide ih
    have HA := hide hA
    have HS := hide hs
    have HD := hide s.depth_eq
    have hdp := s.depth_eq
    have HB0 := hide (Blk.new w 31 cs.toArray)
    have HW0 := hide ((Below.refl w.heap.size w).alloc (Nat.le_refl _) (.cells cs.toArray 31))
    have HP := hide (fun p (h : p ∈ s.parts) => DVal.depth_part h)
    clear ih hA hs
    go_enter Try.func46, Try.ntmps46
    go_wp2_with fail
    go_loopw [3, 4] (fun nv iv wr => ∃ (i : Nat), iv = .int .i64 i ∧ i ≤ s.parts.length ∧ nv = .int .i64 ((DVal.depths (s.parts.take i) : Nat) + 1 : Int) ∧ Blk wr w.heap.size 31 cs.toArray ∧ Below w.heap.size w wr) (fun _ iv _ => s.parts.length - (intOf iv).toNat)
    case atStart => exact ⟨0, rfl, Nat.zero_le _, rfl, HB0.out, HW0.out⟩
    case round =>
      obtain ⟨i, rfl, hi, rfl, hblk, hw⟩ := hrel
      obtain ⟨wo, rfl⟩ : ∃ wo : World, wo = wr := ⟨_, rfl⟩
      have GW := hide hw
      have GB := hide hblk
      clear hw hblk HB0 HW0
      have hle := DVal.depths_le s.parts i
      have cf : wo.cell? ⟨w.heap.size, 5, none⟩ = cs[5]? := by have := GB.out.cell 5; simpa using this
      rw [hc] at cf
      by_cases hlt : i < s.parts.length
      · obtain ⟨b, o, rfl, hb, hC⟩ := HA.out (by omega)
        obtain ⟨C, hl3, hr, hpi⟩ := hC i _ (List.getElem?_eq_getElem hlt)
        have HRW : Hid (wo.rangeAt b (o + i * 6) C) := hide fun q v hv => (GW.out.cell (p := ⟨b, o + i * 6 + q, none⟩) hb).trans (hr q v hv)
        have HL3 := hide hl3
        have HPI := hide hpi
        have HT := hide (DVal.depths_take s.parts i hlt)
        have hpd := HP.out _ (List.getElem_mem hlt)
        clear hC hl3 hr hpi
        generalize s.parts[i] = p at *
        generalize DVal.depths (s.parts.take i) = m at *
        go_wp2_with (first
          | (refine wpList_load_mid rfl 31 _ rfl b (o + i * 6) rfl C _ HRW.out rfl rfl (by rw [HL3.out]; kernel_rfl) ?_)
          | fail)
        refine (HI.out p C _ (by omega) (by omega) (HPI.out.more GW.out)).mono ?_
        rintro e w1 ⟨rfl, hb1⟩
        have KB := hide (GB.out.below hb1 GB.out.lt)
        have KW := hide (GW.out.trans (hb1.mono GW.out.size))
        clear hb1
        by_cases hgt : m < p.depth
        · go_wp2_with fail
          exact ⟨⟨i + 1, by go_num, by omega, by rw [HT.out, Nat.max_eq_right (by omega)], KB.out, KW.out⟩, by simp [intOf]; omega⟩
        · go_wp2_with fail
          exact ⟨⟨i + 1, by go_num, by omega, by rw [HT.out, Nat.max_eq_left (by omega)], KB.out, KW.out⟩, by simp [intOf]; omega⟩
      · have HE : Hid (((DVal.depths (s.parts.take i) : Nat) : Int) + 1 = (s.depth : Int)) := hide (by rw [List.take_of_length_le (by omega), HD.out]; rfl)
        generalize DVal.depths (s.parts.take i) = m at *
        go_wp2
        go_ret
        exact ⟨ret_eq (by rw [← HE.out]; rfl), GW.out⟩

end Go.Proofs.Ytpnjkebjdclkfaa
