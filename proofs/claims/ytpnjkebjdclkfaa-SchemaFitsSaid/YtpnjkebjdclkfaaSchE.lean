/- Schemas, walked: the document's Same. Conditions: none. -/
import Derived.Test.YtpnjkebjdclkfaaSchD
namespace Go.Proofs.Ytpnjkebjdclkfaa
open Go.RowKit

set_option maxHeartbeats 2000000 in
set_option maxRecDepth 20000 in
theorem refSchSame_calls (k : Nat) : ∀ (a b : DSch) (cs ds : List Value) (w : World), a.depth ≤ k → IsSch w (· < w.heap.size) a cs → IsSch w (· < w.heap.size) b ds →
    Calls Try.prog 19 #[.agg cs.toArray, .agg ds.toArray] w (Gives (.bool (eqB a b)) w) := by
  induction k with
  | zero => intro a b cs ds w h; have := a.depth_pos; omega
  | succ k ih =>
    intro a b cs ds w hk ha hb
    obtain ⟨hk1, hki⟩ := ha.kind_
    obtain ⟨hk2, hki2⟩ := hb.kind_
    obtain ⟨Aw, cw, hw1, hwr, hwz, hwc, hwm⟩ := ha.words_
    obtain ⟨Aw2, cw2, hw2, hwr2, hwz2, hwc2, hwm2⟩ := hb.words_
    obtain ⟨Ap, cp, C, hp1, hpc, hpm, hP, hA⟩ := ha.partsF
    obtain ⟨Ap2, cp2, C2, hp2, hpc2, hpm2, hP2, hA2⟩ := hb.partsF
    have HW0 := hide (((Below.refl w.heap.size w).alloc (Nat.le_refl _) (.cells cs.toArray 25)).alloc (by simp) (.cells ds.toArray 25))
    have HX2 := hide ((Blk.new w 25 cs.toArray).alloc (.cells ds.toArray 25))
    have HX3 := hide (Blk.new2 w (.cells cs.toArray 25) 25 ds.toArray)
    have HWR := hide (And.intro hwr hwr2)
    have HPP := hide (And.intro hA hA2)
    have HIS := hide (And.intro hP hP2)
    have HI := hide ih
    have HSP := hide (schEq_split a b)
    have HDP := hide (fun p (h : p ∈ a.parts) => DSch.depth_part h)
    clear ih ha hb hA hA2 hP hP2 hwr hwr2 hwz hwz2
    by_cases h1 : a.kind = b.kind
    case neg =>
      have hkk : (a.kind != b.kind) = true := by simpa using h1
      rw [decide_eq_false h1, Bool.false_and] at HSP
      clear h1
      go_enter Try.func19, Try.ntmps19
      go_wp2
      go_ret
      exact ⟨ret_eq (by rw [HSP.out]; rfl), HW0.out⟩
    have hkk : (a.kind != b.kind) = false := by simpa using h1
    rw [decide_eq_true h1, Bool.true_and] at HSP
    have H1 := hide h1
    clear h1
    by_cases h2 : a.words.length = b.words.length
    case neg =>
      have hww : ((a.words.length : Int) != (b.words.length : Int)) = true := by simp; omega
      have HF : Hid (eqB a b = false) := hide (by rw [HSP.out, decide_eq_false (fun e => h2 (by rw [e])), Bool.false_and])
      clear h2
      go_enter Try.func19, Try.ntmps19
      go_wp2
      go_ret
      exact ⟨ret_eq (by rw [HF.out]; rfl), HW0.out⟩
    have hww : ((a.words.length : Int) != (b.words.length : Int)) = false := by simp [h2]
    have H2 := hide h2
    clear h2
    by_cases h3 : a.parts.length = b.parts.length
    case neg =>
      have hpp : ((a.parts.length : Int) != (b.parts.length : Int)) = true := by simp; omega
      have HF : Hid (eqB a b = false) := hide (by rw [HSP.out, eqB_false (fun e => h3 (by rw [e])), Bool.and_false])
      clear h3
      go_enter Try.func19, Try.ntmps19
      go_wp2
      go_ret
      exact ⟨ret_eq (by rw [HF.out]; rfl), HW0.out⟩
    have hpp : ((a.parts.length : Int) != (b.parts.length : Int)) = false := by simp [h3]
    have H3 := hide h3
    clear h3
    go_enter Try.func19, Try.ntmps19
    go_wp2_with fail
    go_loopw [5] (fun i wr => ∃ (j : Nat), i = .int .i64 j ∧ j ≤ a.words.length ∧ a.words.take j = b.words.take j ∧ Blk wr w.heap.size 25 cs.toArray ∧ Blk wr (w.heap.size + 1) 25 ds.toArray ∧ Below w.heap.size w wr) (fun i _ => a.words.length - (intOf i).toNat)
    case atStart => exact ⟨0, rfl, Nat.zero_le _, by simp, HX2.out, HX3.out, HW0.out⟩
    case round =>
      obtain ⟨j, rfl, hj, heq, hb2, hb3, hw⟩ := hrel
      have GE := hide heq
      have G2 := hide hb2
      have G3 := hide hb3
      have GW := hide hw
      clear heq hb2 hb3 hw HX2 HX3 HW0
      obtain ⟨wo, rfl⟩ : ∃ wo : World, wo = wr := ⟨_, rfl⟩
      have c2 : wo.cell? ⟨w.heap.size, 1, none⟩ = some (.slice Aw a.words.length cw) := by rw [G2.out.cell]; simpa using hw1
      have c3 : wo.cell? ⟨w.heap.size + 1, 1, none⟩ = some (.slice Aw2 b.words.length cw2) := by rw [G3.out.cell]; simpa using hw2
      by_cases hlt : j < a.words.length
      · have hlt2 : j < b.words.length := by rw [← H2.out]; exact hlt
        obtain ⟨x, o, rfl, hx, hc1⟩ := HWR.out.1.at_ hlt
        obtain ⟨x2, o2, rfl, hx2, hc2⟩ := HWR.out.2.at_ hlt2
        have d1 : wo.cell? ⟨x, o + j, none⟩ = some (sv a.words[j]) := (GW.out.cell (p := ⟨x, o + j, none⟩) hx).trans hc1
        have d2 : wo.cell? ⟨x2, o2 + j, none⟩ = some (sv b.words[j]) := (GW.out.cell (p := ⟨x2, o2 + j, none⟩) hx2).trans hc2
        have HT : Hid (a.words[j] = b.words[j] → a.words.take (j + 1) = b.words.take (j + 1)) := hide fun e => by rw [List.take_succ_eq_append_getElem hlt, List.take_succ_eq_append_getElem hlt2, GE.out, e]
        have HD : Hid (a.words[j] ≠ b.words[j] → eqB a b = false) := hide fun e => by
          rw [HSP.out, decide_eq_false, Bool.false_and]
          intro h
          exact e (by simp only [h])
        have j1 : (0 : Int) ≤ (j : Int) := by omega
        have j2 : (j : Int) < (a.words.length : Int) := by omega
        have j3 : (j : Int) < (b.words.length : Int) := by omega
        clear hc1 hc2
        generalize a.words[j] = s1 at *
        generalize b.words[j] = s2 at *
        cases hss : (s1 == s2)
        · have HSS := hide hss
          go_wp2_with fail
          go_quiet (fail)
          go_wp2
          go_ret
          exact ⟨ret_eq (by rw [HD.out (by simpa using HSS.out)]; rfl), below_drewN GW.out _⟩
        · have HSS := hide hss
          go_wp2_with fail
          go_quiet (fail)
          go_wp2_with fail
          exact ⟨⟨j + 1, by go_num, by omega, HT.out (by simpa using HSS.out), G2.out.drewN _, G3.out.drewN _, below_drewN GW.out _⟩, by simp [intOf]; omega⟩
      · have HEW : Hid (eqB a b = eqB a.parts b.parts) := hide (by
          have e : a.words = b.words := by
            have := GE.out
            rw [List.take_of_length_le (by omega), List.take_of_length_le (by rw [← H2.out]; omega)] at this
            exact this
          rw [HSP.out, decide_eq_true e, Bool.true_and])
        clear GE HSP
        have p2 : wo.cell? ⟨w.heap.size, 2, none⟩ = some (.slice Ap a.parts.length cp) := by rw [G2.out.cell]; simpa using hp1
        have p3 : wo.cell? ⟨w.heap.size + 1, 2, none⟩ = some (.slice Ap2 b.parts.length cp2) := by rw [G3.out.cell]; simpa using hp2
        go_wp2_with fail
        go_loopw [6] (fun i wr => ∃ (j : Nat), i = .int .i64 j ∧ j ≤ a.parts.length ∧ a.parts.take j = b.parts.take j ∧ Blk wr w.heap.size 25 cs.toArray ∧ Blk wr (w.heap.size + 1) 25 ds.toArray ∧ Below w.heap.size w wr) (fun i _ => a.parts.length - (intOf i).toNat)
        case atStart => exact ⟨0, rfl, Nat.zero_le _, by simp, G2.out, G3.out, GW.out⟩
        case round =>
          clear c2 c3 p2 p3 G2 G3 GW
          obtain ⟨j, rfl, hj, heq, hb2, hb3, hw⟩ := hrel
          have GE := hide heq
          have G2 := hide hb2
          have G3 := hide hb3
          have GW := hide hw
          clear heq hb2 hb3 hw
          obtain ⟨wo, rfl⟩ : ∃ wo : World, wo = wr := ⟨_, rfl⟩
          have c2 : wo.cell? ⟨w.heap.size, 2, none⟩ = some (.slice Ap a.parts.length cp) := by rw [G2.out.cell]; simpa using hp1
          have c3 : wo.cell? ⟨w.heap.size + 1, 2, none⟩ = some (.slice Ap2 b.parts.length cp2) := by rw [G3.out.cell]; simpa using hp2
          by_cases hlt : j < a.parts.length
          · have hlt2 : j < b.parts.length := by rw [← H3.out]; exact hlt
            obtain ⟨x, o, rfl, hx, hc1⟩ := HPP.out.1 (by omega)
            obtain ⟨x2, o2, rfl, hx2, hc2⟩ := HPP.out.2 (by omega)
            obtain ⟨hl1, hr1⟩ := hc1 j hlt
            obtain ⟨hl2, hr2⟩ := hc2 j hlt2
            have GS := hide (List.getElem?_eq_getElem hlt)
            have GS2 := hide (List.getElem?_eq_getElem hlt2)
            have HP1 := hide (HIS.out.1 j _ GS.out)
            have HP2 := hide (HIS.out.2 j _ GS2.out)
            have HRW : Hid (∀ W, Below wo.heap.size wo W → W.rangeAt x (o + j * 3) (C j)) := hide fun W hW q v hv => (hW.cell (p := ⟨x, o + j * 3 + q, none⟩) (Nat.lt_of_lt_of_le hx GW.out.size)).trans ((GW.out.cell (p := ⟨x, o + j * 3 + q, none⟩) hx).trans (hr1 q v hv))
            have HRW2 : Hid (∀ W, Below wo.heap.size wo W → W.rangeAt x2 (o2 + j * 3) (C2 j)) := hide fun W hW q v hv => (hW.cell (p := ⟨x2, o2 + j * 3 + q, none⟩) (Nat.lt_of_lt_of_le hx2 GW.out.size)).trans ((GW.out.cell (p := ⟨x2, o2 + j * 3 + q, none⟩) hx2).trans (hr2 q v hv))
            have hpd := HDP.out _ (List.getElem_mem hlt)
            have HC := hide (fun (W : World) (hW : Below wo.heap.size wo W) => HI.out a.parts[j] b.parts[j] (C j) (C2 j) W (by omega) (HP1.out.more (GW.out.trans (hW.mono GW.out.size))) (HP2.out.more (GW.out.trans (hW.mono GW.out.size))))
            have HT : Hid (a.parts[j] = b.parts[j] → a.parts.take (j + 1) = b.parts.take (j + 1)) := hide fun e => by rw [List.take_succ_eq_append_getElem hlt, List.take_succ_eq_append_getElem hlt2, GE.out, e]
            have HD : Hid (a.parts[j] ≠ b.parts[j] → eqB a b = false) := hide fun e => by
              rw [HEW.out]
              refine eqB_false fun h => e ?_
              simp only [h]
            have hi1 : (Try.prog.info? 25).map (·.size) = some (C j).length := by rw [hl1]; kernel_rfl
            have hi2 : (Try.prog.info? 25).map (·.size) = some (C2 j).length := by rw [hl2]; kernel_rfl
            have hu := Try.underlying25
            have j1 : (0 : Int) ≤ (j : Int) := by omega
            have j2 : (j : Int) < (a.parts.length : Int) := by omega
            have j3 : (j : Int) < (b.parts.length : Int) := by omega
            clear hc1 hc2 hr1 hr2 HP1 HP2 GS GS2
            generalize a.parts[j] = s1 at *
            generalize b.parts[j] = s2 at *
            generalize C j = e1 at *
            generalize C2 j = e2 at *
            cases hss : eqB s1 s2
            all_goals
              have HSS := hide hss
              rw [hss] at HC
              clear hss
              have HC2c := hide (And.intro c2 c3)
              go_wp2_with fail
              refine wp_region_held_drew (S := fun w' => Below wo.heap.size wo w') (by kernel_rfl) (Below.refl _ _).drew (fun hHeld => ?_)
              (refine takeH (i := 0) (v := .pointer (some ⟨w.heap.size, 2, none⟩)) rfl rfl (by kernel_rfl) (by kernel_rfl) (by kernel_rfl) (fun _ _ _ h => h) (by rfl) (fun wz hSw => by go_simp) hHeld ?_; simp only [Act.put, List.setIfInBounds_toArray, List.set_cons_zero, List.set_cons_succ])
              (refine takeH (i := 1) (v := .slice (some ⟨x, o, none⟩) a.parts.length cp) rfl rfl (by kernel_rfl) (by kernel_rfl) (by kernel_rfl) (fun _ _ _ h => h) (by rfl) (fun wz hSw => by have hcx := (hSw.cell (p := ⟨w.heap.size, 2, none⟩) G2.out.lt).trans HC2c.out.1; go_simp) hHeld ?_; simp only [Act.put, List.setIfInBounds_toArray, List.set_cons_zero, List.set_cons_succ])
              (refine takeH (i := 2) (v := .int .i64 j) rfl rfl (by kernel_rfl) (by kernel_rfl) (by kernel_rfl) (fun _ _ _ h => h) (by rfl) (fun wz hSw => by go_simp) hHeld ?_; simp only [Act.put, List.setIfInBounds_toArray, List.set_cons_zero, List.set_cons_succ])
              (refine takeH (i := 3) (v := .pointer (some ⟨x, o + j * 3, none⟩)) rfl rfl (by kernel_rfl) (by kernel_rfl) (by kernel_rfl) (fun _ _ _ h => h) (by rfl) (fun wz hSw => by go_simp) hHeld ?_; simp only [Act.put, List.setIfInBounds_toArray, List.set_cons_zero, List.set_cons_succ])
              (refine takeH (i := 4) (v := .agg (e1).toArray) rfl rfl (by kernel_rfl) (by kernel_rfl) (by kernel_rfl) (fun _ _ _ h => h) (by rfl) (fun wz hw => load_exec 25 (.tmp 58) rfl (x) (o + j * 3) rfl (e1) _ (HRW.out _ hw) hu rfl hi1) hHeld ?_; simp only [Act.put, List.setIfInBounds_toArray, List.set_cons_zero, List.set_cons_succ])
              (refine takeH (i := 5) (v := .pointer (some ⟨w.heap.size + 1, 2, none⟩)) rfl rfl (by kernel_rfl) (by kernel_rfl) (by kernel_rfl) (fun _ _ _ h => h) (by rfl) (fun wz hSw => by go_simp) hHeld ?_; simp only [Act.put, List.setIfInBounds_toArray, List.set_cons_zero, List.set_cons_succ])
              (refine takeH (i := 6) (v := .slice (some ⟨x2, o2, none⟩) b.parts.length cp2) rfl rfl (by kernel_rfl) (by kernel_rfl) (by kernel_rfl) (fun _ _ _ h => h) (by rfl) (fun wz hSw => by have hcx := (hSw.cell (p := ⟨w.heap.size + 1, 2, none⟩) G3.out.lt).trans HC2c.out.2; go_simp) hHeld ?_; simp only [Act.put, List.setIfInBounds_toArray, List.set_cons_zero, List.set_cons_succ])
              (refine takeH (i := 7) (v := .int .i64 j) rfl rfl (by kernel_rfl) (by kernel_rfl) (by kernel_rfl) (fun _ _ _ h => h) (by rfl) (fun wz hSw => by go_simp) hHeld ?_; simp only [Act.put, List.setIfInBounds_toArray, List.set_cons_zero, List.set_cons_succ])
              (refine takeH (i := 8) (v := .pointer (some ⟨x2, o2 + j * 3, none⟩)) rfl rfl (by kernel_rfl) (by kernel_rfl) (by kernel_rfl) (fun _ _ _ h => h) (by rfl) (fun wz hSw => by go_simp) hHeld ?_; simp only [Act.put, List.setIfInBounds_toArray, List.set_cons_zero, List.set_cons_succ])
              (refine takeH (i := 9) (v := .agg (e2).toArray) rfl rfl (by kernel_rfl) (by kernel_rfl) (by kernel_rfl) (fun _ _ _ h => h) (by rfl) (fun wz hw => load_exec 25 (.tmp 63) rfl (x2) (o2 + j * 3) rfl (e2) _ (HRW2.out _ hw) hu rfl hi2) hHeld ?_; simp only [Act.put, List.setIfInBounds_toArray, List.set_cons_zero, List.set_cons_succ])
              (refine oneH (i := 10) rfl (by kernel_rfl) (fun K hK => ?_); go_simp; refine (HC.out _ hHeld).mono ?_; rintro e w1 ⟨rfl, hb1⟩; have hq := hHeld.trans (hb1.mono hHeld.size); refine hK.out _ _ (hq) (fun hHeld => ?_); clear hK K)
              (refine oneH (i := 11) rfl (by kernel_rfl) (fun K hK => ?_); go_simp; refine hK.out _ _ (hq) (fun hHeld => ?_); clear hK K)
              refine wpAnyH_done (by kernel_rfl) ?_ _
              have K2 := hide (G2.out.below hq G2.out.lt)
              have K3 := hide (G3.out.below hq G3.out.lt)
              have KW := hide (GW.out.trans (hq.mono GW.out.size))
              clear hHeld hb1 hq hu hi1 hi2
            · go_wp2
              go_ret
              exact ⟨ret_eq (by rw [HD.out (fun e => by rw [eqB_true e] at HSS; cases HSS.out)]; rfl), KW.out⟩
            · go_wp2_with fail
              exact ⟨⟨j + 1, by go_num, by omega, HT.out (eqB_iff.1 HSS.out), K2.out, K3.out, KW.out⟩, by simp [intOf]; omega⟩
          · have HE : Hid (eqB a b = true) := hide (by
              have := GE.out
              rw [List.take_of_length_le (by omega), List.take_of_length_le (by rw [← H3.out]; omega)] at this
              rw [HEW.out, eqB_true this])
            go_wp2
            go_ret
            exact ⟨ret_eq (by rw [HE.out]; rfl), GW.out⟩
end Go.Proofs.Ytpnjkebjdclkfaa
