/- Schemas, walked: Great. Conditions: none. -/
import Derived.Test.YtpnjkebjdclkfaaSchA
namespace Go.Proofs.Ytpnjkebjdclkfaa
open Go.RowKit

theorem info_sch : (Try.prog.info? 25).map (·.size) = some 3 := by kernel_rfl

set_option maxHeartbeats 1000000 in
set_option maxRecDepth 20000 in
theorem roomS_calls (k : Nat) : ∀ (s : DSch) (n : Int) (cs : List Value) (w : World), IsSch w (· < w.heap.size) s cs → k ≤ 1000 → 0 ≤ n → n ≤ 1000 →
    Calls Try.prog 58 #[.agg cs.toArray, .int .i64 n, .int .i64 k] w (fun e w' => -140737488351235 ≤ roomS k s n ∧ Gives (.int .i64 (roomS k s n)) w e w') := by
  induction k with
  | zero =>
    intro s n cs w hs hk hn hn2
    cases hs with
    | mk h1 h2 h3 h4 h5 hA hC hP h6 h7 =>
      rename_i kind words parts Aw Ap cw cp b o C
      clear h2 hA hC hP
      go_enter Try.func58, Try.ntmps58
      go_wp2
      go_ret
      exact ⟨by simp [roomS], ret_eq rfl, (Below.refl _ _).alloc (Nat.le_refl _) _⟩
  | succ k ih =>
    intro s n cs w hs hk hn hn2
    have HI := hide ih
    clear ih
    cases hs with
    | mk h1 h2 h3 h4 h5 hA hC hP h6 h7 =>
      rename_i kind words parts Aw Ap cw cp b o C
      have HR := hide h2
      have HA := hide hA
      have HC := hide hC
      have HP := hide hP
      have HSP : Hid (roomS (k + 1) (.mk kind words parts) n = if 0 ≤ n - 1 - words.length ∧ words.any (fun x => decide (100 < x.length)) then -1 else parts.foldl (fun m p => if 0 ≤ m then roomS k p m else m) (n - 1 - words.length)) := hide rfl
      have hsz := hide h3
      clear h2 hA hC hP h1 h3
      have hk1 : (((k + 1 : Nat) : Int) == 0) = false := by simp; omega
      go_enter Try.func58, Try.ntmps58
      go_wp2_with fail
      go_loop [7] (fun i => ∃ j : Nat, i = .int .i64 j ∧ j ≤ words.length ∧ ((0 ≤ n - 1 - (words.length : Int)) → ∀ x ∈ words.take j, x.length ≤ 100)) (fun i => words.length - (intOf i).toNat)
      case atStart => exact ⟨0, rfl, Nat.zero_le _, by simp⟩
      case round =>
        obtain ⟨j, rfl, hj, hsm⟩ := hrel
        have HSM := hide hsm
        clear hsm
        by_cases hgo : j < words.length ∧ 0 ≤ n - 1 - (words.length : Int)
        · obtain ⟨hlt, h0⟩ := hgo
          obtain ⟨b1, o1, rfl, hb1, hc1⟩ := HR.out.at_ hlt
          have hcell : (w.alloc (.cells #[.int .i64 kind, .slice (some ⟨b1, o1, none⟩) words.length cw, .slice Ap parts.length cp] 25)).cell? ⟨b1, o1 + j, none⟩ = some (sv words[j]) := by rw [World.cell?_alloc_lt _ _ _ hb1]; exact hc1
          have hwl : words[j].length ≤ 9223372036854775807 := hsz.out _ (List.getElem_mem _)
          have HT : Hid (∀ x ∈ words.take j, x.length ≤ 100) := hide (HSM.out h0)
          clear hc1
          by_cases hbig : 100 < words[j].length
          · have HB : Hid (words.any (fun x => decide (100 < x.length)) = true) := hide (List.any_eq_true.2 ⟨_, List.getElem_mem hlt, by simpa using hbig⟩)
            generalize words[j] = x at *
            go_wp2
            go_ret
            exact ⟨by rw [HSP.out, if_pos ⟨h0, HB.out⟩]; omega, ret_eq (by rw [HSP.out, if_pos ⟨h0, HB.out⟩]; rfl), (Below.refl _ _).alloc (Nat.le_refl _) _⟩
          · have HB : Hid (0 ≤ n - 1 - (words.length : Int) → ∀ x ∈ words.take (j + 1), x.length ≤ 100) := hide fun _ x hx => by
              rw [List.take_succ_eq_append_getElem hlt] at hx
              rcases List.mem_append.1 hx with h | h
              · exact HT.out x h
              · rw [List.mem_singleton.1 h]; omega
            generalize words[j] = x at *
            go_wp2_with fail
            exact ⟨⟨j + 1, by go_num, by omega, HB.out⟩, by simp [intOf]; omega⟩
        · have HN : Hid (¬ (0 ≤ n - 1 - (words.length : Int) ∧ words.any (fun x => decide (100 < x.length)) = true)) := hide fun ⟨h0, h1⟩ => by
            obtain ⟨x, hx, hx2⟩ := List.any_eq_true.1 h1
            have := HSM.out h0 x (by rw [List.take_of_length_le (by omega)]; exact hx)
            simp at hx2
            omega
          have HE : Hid (roomS (k + 1) (.mk kind words parts) n = parts.foldl (fun m p => if 0 ≤ m then roomS k p m else m) (n - 1 - words.length)) := hide (by rw [HSP.out, if_neg HN.out])
          clear HN HSM HSP
          have HK0 := hide (Blk.new w 25 #[.int .i64 kind, .slice Aw words.length cw, .slice Ap parts.length cp])
          have HW0 := hide ((Below.refl w.heap.size w).alloc (Nat.le_refl _) (.cells #[.int .i64 kind, .slice Aw words.length cw, .slice Ap parts.length cp] 25))
          have hlow : -140737488351235 ≤ n - 1 - (words.length : Int) := by omega
          have hstart : n - 1 - (words.length : Int) ≤ 1000 := by omega
          generalize hm0 : n - 1 - (words.length : Int) = m0 at *
          have hgo' : ¬ (j < words.length ∧ 0 ≤ m0) := hgo
          clear hgo hm0
          go_wp2_with fail
          all_goals
            go_loopw [1, 8] (fun nv iv wr => ∃ (i : Nat) (m : Int), nv = .int .i64 m ∧ iv = .int .i64 i ∧ i ≤ parts.length ∧ m ≤ 1000 ∧ -140737488351235 ≤ m ∧ m = (parts.take i).foldl (fun m p => if 0 ≤ m then roomS k p m else m) m0 ∧ Blk wr w.heap.size 25 #[.int .i64 kind, .slice Aw words.length cw, .slice Ap parts.length cp] ∧ Below w.heap.size w wr) (fun _ iv _ => parts.length - (intOf iv).toNat)
            case atStart => exact ⟨0, m0, rfl, rfl, Nat.zero_le _, hstart, hlow, rfl, HK0.out, HW0.out⟩
            case round =>
              clear HK0 HW0
              obtain ⟨i, m, rfl, rfl, hi, hm1, hm2, hfold, hblk, hbel⟩ := hrel
              have HF := hide hfold
              have GB := hide hblk
              have GW := hide hbel
              clear hfold hblk hbel
              have c1 : wr.cell? ⟨w.heap.size, 1, none⟩ = some (.slice Aw words.length cw) := GB.out.cell 1
              have c2 : wr.cell? ⟨w.heap.size, 2, none⟩ = some (.slice Ap parts.length cp) := GB.out.cell 2
              by_cases hgo : i < parts.length ∧ 0 ≤ m
              · obtain ⟨hlt, h0⟩ := hgo
                obtain ⟨rfl, hb⟩ := HA.out (by omega)
                have hg := List.getElem?_eq_getElem hlt
                obtain ⟨hl3, hr⟩ := HC.out i _ hg
                have HRW : Hid (wr.rangeAt b (o + i * 3) (C i)) := hide fun q v hv => (GW.out.cell (p := ⟨b, o + i * 3 + q, none⟩) hb).trans (hr q v hv)
                have HL3 := hide hl3
                have HPI := hide ((HP.out i _ hg).more GW.out)
                have HRL := hide (room_le k parts[i] m (by omega))
                have HFS : Hid ((parts.take (i + 1)).foldl (fun m p => if 0 ≤ m then roomS k p m else m) m0 = roomS k parts[i] m) := hide (by
                  rw [List.take_succ_eq_append_getElem hlt, List.foldl_append, ← HF.out, List.foldl_cons, List.foldl_nil, if_pos h0])
                clear hr hl3 hg
                generalize parts[i] = p at *
                generalize C i = cs at *
                go_wp2_with (first | (refine wpList_load_mid rfl 25 _ rfl b (o + i * 3) rfl cs _ HRW.out rfl rfl (by rw [HL3.out]; exact info_sch) ?_) | fail)
                refine (HI.out p m cs _ HPI.out (by omega) h0 hm1).mono ?_
                rintro e w1 ⟨hlo, rfl, hb1⟩
                have hrl := HRL.out
                generalize roomS k p m = m1 at *
                go_wp2_with fail
                exact ⟨⟨i + 1, m1, rfl, by go_num, by omega, by omega, by omega, HFS.out.symm, GB.out.below hb1 GB.out.lt, GW.out.trans (hb1.mono GW.out.size)⟩, by simp [intOf]; omega⟩
              · have HX : Hid (roomS (k + 1) (.mk kind words parts) n = m) := hide (by
                  rw [HE.out, HF.out]
                  rcases Nat.lt_or_ge i parts.length with hx | hx
                  · have hm : m < 0 := by omega
                    have e : parts.foldl (fun m p => if 0 ≤ m then roomS k p m else m) m0 = (parts.drop i).foldl (fun m p => if 0 ≤ m then roomS k p m else m) m := by
                      rw [HF.out, ← List.foldl_append, List.take_append_drop]
                    rw [e, foldRoom_neg k _ _ hm, HF.out]
                  · rw [List.take_of_length_le hx])
                clear HF HE
                by_cases hlt : i < parts.length
                all_goals
                  go_wp2
                  go_ret
                  exact ⟨by rw [HX.out]; exact hm2, ret_eq (by rw [HX.out]; rfl), GW.out⟩

set_option maxHeartbeats 400000 in
set_option maxRecDepth 20000 in
theorem greatS_calls (s : DSch) (cs : List Value) (w : World) (hs : IsSch w (· < w.heap.size) s cs) :
    Calls Try.prog 11 #[.agg cs.toArray] w (Gives (.bool (decide (roomS 12 s 300 < 0))) w) := by
  have HB := hide (Blk.new w 25 cs.toArray)
  have HW := hide ((Below.refl w.heap.size w).alloc (Nat.le_refl _) (.cells cs.toArray 25))
  have HS := hide (hs.more HW.out)
  have hl := hs.length
  have HC := hide (roomS_calls 12 s 300 cs _ HS.out (by omega) (by omega) (by omega))
  have HL := hide (show (Try.prog.info? 25).map (·.size) = some cs.toArray.size by rw [info_sch]; simp [hl])
  clear hs hl
  go_enter Try.func11, Try.ntmps11
  go_wp2_with (first | (refine wpList_load_blk rfl 25 _ rfl _ rfl _ _ HB.out _ rfl rfl HL.out ?_) | fail)
  refine HC.out.mono ?_
  rintro e w1 ⟨hlo, rfl, hb1⟩
  have HW1 := hide (HW.out.trans (hb1.mono HW.out.size))
  clear hb1
  generalize roomS 12 s 300 = m at *
  go_wp2
  go_ret
  exact ⟨ret_eq rfl, HW1.out⟩
end Go.Proofs.Ytpnjkebjdclkfaa
