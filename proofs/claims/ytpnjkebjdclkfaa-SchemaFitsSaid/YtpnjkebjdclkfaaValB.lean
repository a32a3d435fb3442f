/- Values, walked: Great. Conditions: none. -/
import Derived.Test.YtpnjkebjdclkfaaValA
namespace Go.Proofs.Ytpnjkebjdclkfaa
open Go.RowKit

theorem info_valB : (Try.prog.info? 31).map (·.size) = some 6 := by kernel_rfl

set_option maxHeartbeats 1000000 in
set_option maxRecDepth 20000 in
theorem roomV_calls (k : Nat) : ∀ (s : DVal) (n : Int) (cs : List Value) (w : World), IsVal w (· < w.heap.size) s cs → k ≤ 1000 → 0 ≤ n → n ≤ 1000 →
    Calls Try.prog 64 #[.agg cs.toArray, .int .i64 n, .int .i64 k] w (fun e w' => -1000000000000000 ≤ roomV k s n ∧ Gives (.int .i64 (roomV k s n)) w e w') := by
  induction k with
  | zero =>
    intro s n cs w hs hk hn hn2
    obtain ⟨An, cn, hw1, _, _, _, hwm⟩ := hs.names_
    obtain ⟨Ai, ci, hi1, _, _, _, him⟩ := hs.ids_
    clear hs
    go_enter Try.func64, Try.ntmps64
    go_wp2
    go_ret
    exact ⟨by simp [roomV], ret_eq rfl, (Below.refl _ _).alloc (Nat.le_refl _) _⟩
  | succ k ih =>
    intro s n cs w hs hk hn hn2
    have HI := hide ih
    clear ih
    obtain ⟨hs1, hsl⟩ := hs.s_
    obtain ⟨An, cn, hw1, _, _, _, hwm⟩ := hs.names_
    obtain ⟨Ai, ci, hi1, _, _, _, him⟩ := hs.ids_
    obtain ⟨Ap, cp, C, hp1, hpc, hpm, hP, hA⟩ := hs.partsF
    have HA := hide hA
    have HP := hide hP
    have HSP : Hid (roomV (k + 1) s n = if 400 < s.s.length then -1 else s.parts.foldl (fun m p => if 0 ≤ m then roomV k p m else m) (n - 1 - s.names.length - s.ids.length)) := hide rfl
    have HK0 := hide (Blk.new w 31 cs.toArray)
    have HW0 := hide ((Below.refl w.heap.size w).alloc (Nat.le_refl _) (.cells cs.toArray 31))
    clear hA hP hs
    have hk1 : (((k + 1 : Nat) : Int) == 0) = false := by simp; omega
    have hk2 : (((k : Int) + 1) == 0) = false := by simp; omega
    have hlow : -1000000000000000 ≤ n - 1 - (s.names.length : Int) - (s.ids.length : Int) := by omega
    have hstart : n - 1 - (s.names.length : Int) - (s.ids.length : Int) ≤ 1000 := by omega
    by_cases hbig : 400 < s.s.length
    · have HB := hide hbig
      generalize s.s = x at *
      go_enter Try.func64, Try.ntmps64
      go_wp2
      go_ret
      exact ⟨by rw [HSP.out, if_pos HB.out]; omega, ret_eq (by rw [HSP.out, if_pos HB.out]; rfl), HW0.out⟩
    · have HE : Hid (roomV (k + 1) s n = s.parts.foldl (fun m p => if 0 ≤ m then roomV k p m else m) (n - 1 - s.names.length - s.ids.length)) := hide (by rw [HSP.out, if_neg hbig])
      clear HSP
      generalize s.s = x at *
      have hbd : ¬ (400 : Int) < (x.length : Int) := by omega
      have hbe : decide ((400 : Int) < (x.length : Int)) = false := decide_eq_false hbd
      go_enter Try.func64, Try.ntmps64
      go_wp2_with fail
      generalize hm0 : n - 1 - (s.names.length : Int) - (s.ids.length : Int) = m0 at *
      clear hm0
      go_loopw [1, 7] (fun nv iv wr => ∃ (i : Nat) (m : Int), nv = .int .i64 m ∧ iv = .int .i64 i ∧ i ≤ s.parts.length ∧ m ≤ 1000 ∧ -1000000000000000 ≤ m ∧ m = (s.parts.take i).foldl (fun m p => if 0 ≤ m then roomV k p m else m) m0 ∧ Blk wr w.heap.size 31 cs.toArray ∧ Below w.heap.size w wr) (fun _ iv _ => s.parts.length - (intOf iv).toNat)
      case atStart => exact ⟨0, m0, rfl, rfl, Nat.zero_le _, hstart, hlow, rfl, HK0.out, HW0.out⟩
      case round =>
        clear HK0 HW0
        obtain ⟨i, m, rfl, rfl, hi, hm1, hm2, hfold, hblk, hbel⟩ := hrel
        have HF := hide hfold
        have GB := hide hblk
        have GW := hide hbel
        clear hfold hblk hbel
        have c2 : wr.cell? ⟨w.heap.size, 5, none⟩ = some (.slice Ap s.parts.length cp) := by rw [GB.out.cell]; simpa using hp1
        by_cases hgo : i < s.parts.length ∧ 0 ≤ m
        · obtain ⟨hlt, h0⟩ := hgo
          obtain ⟨b, o, rfl, hb, hC⟩ := HA.out (by omega)
          obtain ⟨hl3, hr⟩ := hC i hlt
          have hg := List.getElem?_eq_getElem hlt
          have HRW : Hid (wr.rangeAt b (o + i * 6) (C i)) := hide fun q v hv => (GW.out.cell (p := ⟨b, o + i * 6 + q, none⟩) hb).trans (hr q v hv)
          have HL3 := hide hl3
          have HPI := hide ((HP.out i _ hg).more GW.out)
          have HRL := hide (roomV_le k s.parts[i] m (by omega))
          have HFS : Hid ((s.parts.take (i + 1)).foldl (fun m p => if 0 ≤ m then roomV k p m else m) m0 = roomV k s.parts[i] m) := hide (by
            rw [List.take_succ_eq_append_getElem hlt, List.foldl_append, ← HF.out, List.foldl_cons, List.foldl_nil, if_pos h0])
          clear hr hl3 hg hC
          generalize s.parts[i] = p at *
          generalize C i = es at *
          go_wp2_with (first | (refine wpList_load_mid rfl 31 _ rfl b (o + i * 6) rfl es _ HRW.out rfl rfl (by rw [HL3.out]; exact info_valB) ?_) | fail)
          refine (HI.out p m es _ HPI.out (by omega) h0 hm1).mono ?_
          rintro e w1 ⟨hlo, rfl, hb1⟩
          have hrl := HRL.out
          generalize roomV k p m = m1 at *
          go_wp2_with fail
          exact ⟨⟨i + 1, m1, rfl, by go_num, by omega, by omega, by omega, HFS.out.symm, GB.out.below hb1 GB.out.lt, GW.out.trans (hb1.mono GW.out.size)⟩, by simp [intOf]; omega⟩
        · have HX : Hid (roomV (k + 1) s n = m) := hide (by
            rw [HE.out, HF.out]
            rcases Nat.lt_or_ge i s.parts.length with hx | hx
            · have hm : m < 0 := by omega
              have e : s.parts.foldl (fun m p => if 0 ≤ m then roomV k p m else m) m0 = (s.parts.drop i).foldl (fun m p => if 0 ≤ m then roomV k p m else m) m := by
                rw [HF.out, ← List.foldl_append, List.take_append_drop]
              rw [e, foldRoomV_neg k _ _ hm, HF.out]
            · rw [List.take_of_length_le hx])
          clear HF HE
          by_cases hlt : i < s.parts.length
          all_goals
            go_wp2
            go_ret
            exact ⟨by rw [HX.out]; exact hm2, ret_eq (by rw [HX.out]; rfl), GW.out⟩

set_option maxHeartbeats 400000 in
set_option maxRecDepth 20000 in
theorem greatV_calls (s : DVal) (cs : List Value) (w : World) (hs : IsVal w (· < w.heap.size) s cs) :
    Calls Try.prog 24 #[.agg cs.toArray] w (Gives (.bool (decide (roomV 12 s 300 < 0))) w) := by
  have HB := hide (Blk.new w 31 cs.toArray)
  have HW := hide ((Below.refl w.heap.size w).alloc (Nat.le_refl _) (.cells cs.toArray 31))
  have HS := hide (hs.more HW.out)
  have hl := hs.length
  have HC := hide (roomV_calls 12 s 300 cs _ HS.out (by omega) (by omega) (by omega))
  have HL := hide (show (Try.prog.info? 31).map (·.size) = some cs.toArray.size by rw [info_valB]; simp [hl])
  clear hs hl
  go_enter Try.func24, Try.ntmps24
  go_wp2_with (first | (refine wpList_load_blk rfl 31 _ rfl _ rfl _ _ HB.out _ rfl rfl HL.out ?_) | fail)
  refine HC.out.mono ?_
  rintro e w1 ⟨hlo, rfl, hb1⟩
  have HW1 := hide (HW.out.trans (hb1.mono HW.out.size))
  clear hb1
  generalize roomV 12 s 300 = m at *
  go_wp2
  go_ret
  exact ⟨ret_eq rfl, HW1.out⟩
end Go.Proofs.Ytpnjkebjdclkfaa
