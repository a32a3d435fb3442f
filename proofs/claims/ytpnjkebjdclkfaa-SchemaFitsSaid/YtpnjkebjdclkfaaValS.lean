/- Values, walked: the document's Same. Conditions: none. -/
import Derived.Test.YtpnjkebjdclkfaaSchE
namespace Go.Proofs.Ytpnjkebjdclkfaa
open Go.RowKit

set_option maxHeartbeats 4000000 in
set_option maxRecDepth 20000 in
theorem refValSame_calls (k : Nat) : ∀ (a b : DVal) (cs ds : List Value) (w : World), a.depth ≤ k → IsVal w (· < w.heap.size) a cs → IsVal w (· < w.heap.size) b ds →
    Calls Try.prog 21 #[.agg cs.toArray, .agg ds.toArray] w (Gives (.bool (eqB a b)) w) := by
  induction k with
  | zero => intro a b cs ds w h; have := a.depth_pos; omega
  | succ k ih =>
    intro a b cs ds w hk ha hb
    obtain ⟨hk1, hki⟩ := ha.kind_
    obtain ⟨hk2, hki2⟩ := hb.kind_
    obtain ⟨hn1, hni⟩ := ha.n_
    obtain ⟨hn2, hni2⟩ := hb.n_
    obtain ⟨hs1, hsl⟩ := ha.s_
    obtain ⟨hs2, hsl2⟩ := hb.s_
    obtain ⟨Aw, cw, hw1, hwr, hwz, hwc, hwm⟩ := ha.names_
    obtain ⟨Aw2, cw2, hw2, hwr2, hwz2, hwc2, hwm2⟩ := hb.names_
    obtain ⟨Ai, ci, hi1, hir, hiz, hic, him⟩ := ha.ids_
    obtain ⟨Ai2, ci2, hi2, hir2, hiz2, hic2, him2⟩ := hb.ids_
    obtain ⟨Ap, cp, C, hp1, hpc, hpm, hP, hA⟩ := ha.partsF
    obtain ⟨Ap2, cp2, C2, hp2, hpc2, hpm2, hP2, hA2⟩ := hb.partsF
    have HW0 := hide (((Below.refl w.heap.size w).alloc (Nat.le_refl _) (.cells cs.toArray 31)).alloc (by simp) (.cells ds.toArray 31))
    have HX2 := hide ((Blk.new w 31 cs.toArray).alloc (.cells ds.toArray 31))
    have HX3 := hide (Blk.new2 w (.cells cs.toArray 31) 31 ds.toArray)
    have HWR := hide (And.intro hwr hwr2)
    have HIR := hide (And.intro hir hir2)
    have HPP := hide (And.intro hA hA2)
    have HIS := hide (And.intro hP hP2)
    have HIU := hide (And.intro hiz hiz2)
    have HI := hide ih
    have HDP := hide (fun p (h : p ∈ a.parts) => DVal.depth_part h)
    clear ih ha hb hA hA2 hP hP2 hwr hwr2 hwz hwz2 hir hir2 hiz hiz2
    by_cases h1 : a.kind = b.kind
    case neg =>
      have hkk : (a.kind != b.kind) = true := by simp; omega
      have HF : Hid (eqB a b = false) := hide (eqB_false fun e => h1 (by rw [e]))
      clear h1
      go_enter Try.func21, Try.ntmps21
      go_wp2
      go_ret
      exact ⟨ret_eq (by rw [HF.out]; rfl), HW0.out⟩
    have hne1 : (a.kind != b.kind) = false := by simp [h1]
    have H1 := hide h1
    clear h1
    by_cases h2 : a.n = b.n
    case neg =>
      have hkk : (a.n != b.n) = true := by simp; omega
      have HF : Hid (eqB a b = false) := hide (eqB_false fun e => h2 (by rw [e]))
      clear h2
      go_enter Try.func21, Try.ntmps21
      go_wp2
      go_ret
      exact ⟨ret_eq (by rw [HF.out]; rfl), HW0.out⟩
    have hne2 : (a.n != b.n) = false := by simp [h2]
    have H2 := hide h2
    clear h2
    by_cases h3 : a.s = b.s
    case neg =>
      have hkk : (a.s != b.s) = true := by simpa using h3
      have hkk2 : (a.s == b.s) = false := by simpa using h3
      have HF : Hid (eqB a b = false) := hide (eqB_false fun e => h3 (by rw [e]))
      clear h3
      go_enter Try.func21, Try.ntmps21
      go_wp2
      go_ret
      exact ⟨ret_eq (by rw [HF.out]; rfl), HW0.out⟩
    have hne3 : (a.s != b.s) = false := by simp [h3]
    have H3 := hide h3
    clear h3
    by_cases h4 : a.names.length = b.names.length
    case neg =>
      have hkk : ((a.names.length : Int) != (b.names.length : Int)) = true := by simp; omega
      have HF : Hid (eqB a b = false) := hide (eqB_false fun e => h4 (by rw [e]))
      clear h4
      go_enter Try.func21, Try.ntmps21
      go_wp2
      go_ret
      exact ⟨ret_eq (by rw [HF.out]; rfl), HW0.out⟩
    have hne4 : ((a.names.length : Int) != (b.names.length : Int)) = false := by simp [h4]
    have H4 := hide h4
    clear h4
    by_cases h5 : a.ids.length = b.ids.length
    case neg =>
      have hkk : ((a.ids.length : Int) != (b.ids.length : Int)) = true := by simp; omega
      have HF : Hid (eqB a b = false) := hide (eqB_false fun e => h5 (by rw [e]))
      clear h5
      go_enter Try.func21, Try.ntmps21
      go_wp2
      go_ret
      exact ⟨ret_eq (by rw [HF.out]; rfl), HW0.out⟩
    have hne5 : ((a.ids.length : Int) != (b.ids.length : Int)) = false := by simp [h5]
    have H5 := hide h5
    clear h5
    by_cases h6 : a.parts.length = b.parts.length
    case neg =>
      have hkk : ((a.parts.length : Int) != (b.parts.length : Int)) = true := by simp; omega
      have HF : Hid (eqB a b = false) := hide (eqB_false fun e => h6 (by rw [e]))
      clear h6
      go_enter Try.func21, Try.ntmps21
      go_wp2
      go_ret
      exact ⟨ret_eq (by rw [HF.out]; rfl), HW0.out⟩
    have hne6 : ((a.parts.length : Int) != (b.parts.length : Int)) = false := by simp [h6]
    have H6 := hide h6
    clear h6
    go_enter Try.func21, Try.ntmps21
    go_wp2_with fail
    go_loopw [5] (fun i wr => ∃ (j : Nat), i = .int .i64 j ∧ j ≤ a.names.length ∧ a.names.take j = b.names.take j ∧ Blk wr w.heap.size 31 cs.toArray ∧ Blk wr (w.heap.size + 1) 31 ds.toArray ∧ Below w.heap.size w wr) (fun i _ => a.names.length - (intOf i).toNat)
    case atStart => exact ⟨0, rfl, Nat.zero_le _, by simp, HX2.out, HX3.out, HW0.out⟩
    case round =>
      clear HX2 HX3 HW0
      obtain ⟨j, rfl, hj, heq, hb2, hb3, hw⟩ := hrel
      have GE := hide heq
      have G2 := hide hb2
      have G3 := hide hb3
      have GW := hide hw
      clear heq hb2 hb3 hw
      obtain ⟨wo, rfl⟩ : ∃ wo : World, wo = wr := ⟨_, rfl⟩
      have c2 : wo.cell? ⟨w.heap.size, 3, none⟩ = some (.slice Aw a.names.length cw) := by rw [G2.out.cell]; simpa using hw1
      have c3 : wo.cell? ⟨w.heap.size + 1, 3, none⟩ = some (.slice Aw2 b.names.length cw2) := by rw [G3.out.cell]; simpa using hw2
      by_cases hlt : j < a.names.length
      · have hlt2 : j < b.names.length := by rw [← H4.out]; exact hlt
        obtain ⟨x, o, rfl, hx, hc1⟩ := HWR.out.1.at_ hlt
        obtain ⟨x2, o2, rfl, hx2, hc2⟩ := HWR.out.2.at_ hlt2
        have d1 : wo.cell? ⟨x, o + j, none⟩ = some (sv a.names[j]) := (GW.out.cell (p := ⟨x, o + j, none⟩) hx).trans hc1
        have d2 : wo.cell? ⟨x2, o2 + j, none⟩ = some (sv b.names[j]) := (GW.out.cell (p := ⟨x2, o2 + j, none⟩) hx2).trans hc2
        have HT : Hid (a.names[j] = b.names[j] → a.names.take (j + 1) = b.names.take (j + 1)) := hide fun e => by rw [List.take_succ_eq_append_getElem hlt, List.take_succ_eq_append_getElem hlt2, GE.out, e]
        have HD : Hid (a.names[j] ≠ b.names[j] → eqB a b = false) := hide fun e => eqB_false fun h => e (by simp only [h])
        have j1 : (0 : Int) ≤ (j : Int) := by omega
        have j2 : (j : Int) < (a.names.length : Int) := by omega
        have j3 : (j : Int) < (b.names.length : Int) := by omega
        clear hc1 hc2
        generalize a.names[j] = s1 at *
        generalize b.names[j] = s2 at *
        cases hss : (s1 == s2)
        · have HSS := hide hss
          go_wp2_with fail
          go_quiet (fail)
          go_wp2
          go_ret
          exact ⟨ret_eq (by rw [HD.out (by simpa using HSS.out)]; rfl), below_drewN GW.out _⟩
        · have HSS := hide hss
          go_wp2_with fail
          go_quiet (fail)
          go_wp2_with fail
          exact ⟨⟨j + 1, by go_num, by omega, HT.out (by simpa using HSS.out), G2.out.drewN _, G3.out.drewN _, below_drewN GW.out _⟩, by simp [intOf]; omega⟩
      · have HEN : Hid (a.names = b.names) := hide (by
          have := GE.out
          rw [List.take_of_length_le (by omega), List.take_of_length_le (by rw [← H4.out]; omega)] at this
          exact this)
        clear GE
        have e2 : wo.cell? ⟨w.heap.size, 4, none⟩ = some (.slice Ai a.ids.length ci) := by rw [G2.out.cell]; simpa using hi1
        have e3 : wo.cell? ⟨w.heap.size + 1, 4, none⟩ = some (.slice Ai2 b.ids.length ci2) := by rw [G3.out.cell]; simpa using hi2
        go_wp2_with fail
        go_loopw [6] (fun i wr => ∃ (j : Nat), i = .int .i64 j ∧ j ≤ a.ids.length ∧ a.ids.take j = b.ids.take j ∧ Blk wr w.heap.size 31 cs.toArray ∧ Blk wr (w.heap.size + 1) 31 ds.toArray ∧ Below w.heap.size w wr) (fun i _ => a.ids.length - (intOf i).toNat)
        case atStart => exact ⟨0, rfl, Nat.zero_le _, by simp, G2.out, G3.out, GW.out⟩
        case round =>
          clear c2 c3 e2 e3 G2 G3 GW
          obtain ⟨j, rfl, hj, heq, hb2, hb3, hw⟩ := hrel
          have GE := hide heq
          have G2 := hide hb2
          have G3 := hide hb3
          have GW := hide hw
          clear heq hb2 hb3 hw
          obtain ⟨wo, rfl⟩ : ∃ wo : World, wo = wr := ⟨_, rfl⟩
          have c2 : wo.cell? ⟨w.heap.size, 4, none⟩ = some (.slice Ai a.ids.length ci) := by rw [G2.out.cell]; simpa using hi1
          have c3 : wo.cell? ⟨w.heap.size + 1, 4, none⟩ = some (.slice Ai2 b.ids.length ci2) := by rw [G3.out.cell]; simpa using hi2
          by_cases hlt : j < a.ids.length
          · have hlt2 : j < b.ids.length := by rw [← H5.out]; exact hlt
            obtain ⟨x, o, rfl, hx, hc1⟩ := HIR.out.1.at_ hlt
            obtain ⟨x2, o2, rfl, hx2, hc2⟩ := HIR.out.2.at_ hlt2
            have d1 : wo.cell? ⟨x, o + j, none⟩ = some (uv a.ids[j]) := (GW.out.cell (p := ⟨x, o + j, none⟩) hx).trans hc1
            have d2 : wo.cell? ⟨x2, o2 + j, none⟩ = some (uv b.ids[j]) := (GW.out.cell (p := ⟨x2, o2 + j, none⟩) hx2).trans hc2
            have HT : Hid (a.ids[j] = b.ids[j] → a.ids.take (j + 1) = b.ids.take (j + 1)) := hide fun e => by rw [List.take_succ_eq_append_getElem hlt, List.take_succ_eq_append_getElem hlt2, GE.out, e]
            have HD : Hid (a.ids[j] ≠ b.ids[j] → eqB a b = false) := hide fun e => eqB_false fun h => e (by simp only [h])
            have j1 : (0 : Int) ≤ (j : Int) := by omega
            have j2 : (j : Int) < (a.ids.length : Int) := by omega
            have j3 : (j : Int) < (b.ids.length : Int) := by omega
            clear hc1 hc2
            generalize a.ids[j] = s1 at *
            generalize b.ids[j] = s2 at *
            unfold uv at d1 d2
            by_cases hss : s1 = s2
            · have hsb : ((s1 : Int) != (s2 : Int)) = false := by simp [hss]
              have HSS := hide hss
              clear hss
              go_wp2_with fail
              go_quiet (fail)
              go_wp2_with fail
              exact ⟨⟨j + 1, by go_num, by omega, HT.out HSS.out, G2.out.drewN _, G3.out.drewN _, below_drewN GW.out _⟩, by simp [intOf]; omega⟩
            · have hsb : ((s1 : Int) != (s2 : Int)) = true := by simp; omega
              have HSS := hide hss
              clear hss
              go_wp2_with fail
              go_quiet (fail)
              go_wp2
              go_ret
              exact ⟨ret_eq (by rw [HD.out HSS.out]; rfl), below_drewN GW.out _⟩
          · have HEI : Hid (a.ids = b.ids) := hide (by
              have := GE.out
              rw [List.take_of_length_le (by omega), List.take_of_length_le (by rw [← H5.out]; omega)] at this
              exact this)
            clear GE
            have e2 : wo.cell? ⟨w.heap.size, 5, none⟩ = some (.slice Ap a.parts.length cp) := by rw [G2.out.cell]; simpa using hp1
            have e3 : wo.cell? ⟨w.heap.size + 1, 5, none⟩ = some (.slice Ap2 b.parts.length cp2) := by rw [G3.out.cell]; simpa using hp2
            go_wp2_with fail
            go_loopw [7] (fun i wr => ∃ (j : Nat), i = .int .i64 j ∧ j ≤ a.parts.length ∧ a.parts.take j = b.parts.take j ∧ Blk wr w.heap.size 31 cs.toArray ∧ Blk wr (w.heap.size + 1) 31 ds.toArray ∧ Below w.heap.size w wr) (fun i _ => a.parts.length - (intOf i).toNat)
            case atStart => exact ⟨0, rfl, Nat.zero_le _, by simp, G2.out, G3.out, GW.out⟩
            case round =>
              clear c2 c3 e2 e3 G2 G3 GW
              obtain ⟨j, rfl, hj, heq, hb2, hb3, hw⟩ := hrel
              have GE := hide heq
              have G2 := hide hb2
              have G3 := hide hb3
              have GW := hide hw
              clear heq hb2 hb3 hw
              obtain ⟨wo, rfl⟩ : ∃ wo : World, wo = wr := ⟨_, rfl⟩
              have c2 : wo.cell? ⟨w.heap.size, 5, none⟩ = some (.slice Ap a.parts.length cp) := by rw [G2.out.cell]; simpa using hp1
              have c3 : wo.cell? ⟨w.heap.size + 1, 5, none⟩ = some (.slice Ap2 b.parts.length cp2) := by rw [G3.out.cell]; simpa using hp2
              by_cases hlt : j < a.parts.length
              · have hlt2 : j < b.parts.length := by rw [← H6.out]; exact hlt
                obtain ⟨x, o, rfl, hx, hc1⟩ := HPP.out.1 (by omega)
                obtain ⟨x2, o2, rfl, hx2, hc2⟩ := HPP.out.2 (by omega)
                obtain ⟨hl1, hr1⟩ := hc1 j hlt
                obtain ⟨hl2, hr2⟩ := hc2 j hlt2
                have GS := hide (List.getElem?_eq_getElem hlt)
                have GS2 := hide (List.getElem?_eq_getElem hlt2)
                have HP1 := hide (HIS.out.1 j _ GS.out)
                have HP2 := hide (HIS.out.2 j _ GS2.out)
                have HRW : Hid (∀ W, Below wo.heap.size wo W → W.rangeAt x (o + j * 6) (C j)) := hide fun W hW q v hv => (hW.cell (p := ⟨x, o + j * 6 + q, none⟩) (Nat.lt_of_lt_of_le hx GW.out.size)).trans ((GW.out.cell (p := ⟨x, o + j * 6 + q, none⟩) hx).trans (hr1 q v hv))
                have HRW2 : Hid (∀ W, Below wo.heap.size wo W → W.rangeAt x2 (o2 + j * 6) (C2 j)) := hide fun W hW q v hv => (hW.cell (p := ⟨x2, o2 + j * 6 + q, none⟩) (Nat.lt_of_lt_of_le hx2 GW.out.size)).trans ((GW.out.cell (p := ⟨x2, o2 + j * 6 + q, none⟩) hx2).trans (hr2 q v hv))
                have hpd := HDP.out _ (List.getElem_mem hlt)
                have HC := hide (fun (W : World) (hW : Below wo.heap.size wo W) => HI.out a.parts[j] b.parts[j] (C j) (C2 j) W (by omega) (HP1.out.more (GW.out.trans (hW.mono GW.out.size))) (HP2.out.more (GW.out.trans (hW.mono GW.out.size))))
                have HT : Hid (a.parts[j] = b.parts[j] → a.parts.take (j + 1) = b.parts.take (j + 1)) := hide fun e => by rw [List.take_succ_eq_append_getElem hlt, List.take_succ_eq_append_getElem hlt2, GE.out, e]
                have HD : Hid (a.parts[j] ≠ b.parts[j] → eqB a b = false) := hide fun e => by
                  refine eqB_false fun h => e ?_
                  simp only [h]
                have hi1 : (Try.prog.info? 31).map (·.size) = some (C j).length := by rw [hl1]; kernel_rfl
                have hi2 : (Try.prog.info? 31).map (·.size) = some (C2 j).length := by rw [hl2]; kernel_rfl
                have hu := Try.underlying31
                have j1 : (0 : Int) ≤ (j : Int) := by omega
                have j2 : (j : Int) < (a.parts.length : Int) := by omega
                have j3 : (j : Int) < (b.parts.length : Int) := by omega
                clear hc1 hc2 hr1 hr2 HP1 HP2 GS GS2
                generalize a.parts[j] = s1 at *
                generalize b.parts[j] = s2 at *
                generalize C j = e1 at *
                generalize C2 j = e2 at *
                cases hss : eqB s1 s2
                all_goals
                  have HSS := hide hss
                  rw [hss] at HC
                  clear hss
                  have HC2c := hide (And.intro c2 c3)
                  go_wp2_with fail
                  refine wp_region_held_drew (S := fun w' => Below wo.heap.size wo w') (by kernel_rfl) (Below.refl _ _).drew (fun hHeld => ?_)
                  (refine takeH (i := 0) (v := .pointer (some ⟨w.heap.size, 5, none⟩)) rfl rfl (by kernel_rfl) (by kernel_rfl) (by kernel_rfl) (fun _ _ _ h => h) (by rfl) (fun wz hSw => by go_simp) hHeld ?_; simp only [Act.put, List.setIfInBounds_toArray, List.set_cons_zero, List.set_cons_succ])
                  (refine takeH (i := 1) (v := .slice (some ⟨x, o, none⟩) a.parts.length cp) rfl rfl (by kernel_rfl) (by kernel_rfl) (by kernel_rfl) (fun _ _ _ h => h) (by rfl) (fun wz hSw => by have hcx := (hSw.cell (p := ⟨w.heap.size, 5, none⟩) G2.out.lt).trans HC2c.out.1; go_simp) hHeld ?_; simp only [Act.put, List.setIfInBounds_toArray, List.set_cons_zero, List.set_cons_succ])
                  (refine takeH (i := 2) (v := .int .i64 j) rfl rfl (by kernel_rfl) (by kernel_rfl) (by kernel_rfl) (fun _ _ _ h => h) (by rfl) (fun wz hSw => by go_simp) hHeld ?_; simp only [Act.put, List.setIfInBounds_toArray, List.set_cons_zero, List.set_cons_succ])
                  (refine takeH (i := 3) (v := .pointer (some ⟨x, o + j * 6, none⟩)) rfl rfl (by kernel_rfl) (by kernel_rfl) (by kernel_rfl) (fun _ _ _ h => h) (by rfl) (fun wz hSw => by go_simp) hHeld ?_; simp only [Act.put, List.setIfInBounds_toArray, List.set_cons_zero, List.set_cons_succ])
                  (refine takeH (i := 4) (v := .agg (e1).toArray) rfl rfl (by kernel_rfl) (by kernel_rfl) (by kernel_rfl) (fun _ _ _ h => h) (by rfl) (fun wz hw => load_exec 31 (.tmp 100) rfl (x) (o + j * 6) rfl (e1) _ (HRW.out _ hw) hu rfl hi1) hHeld ?_; simp only [Act.put, List.setIfInBounds_toArray, List.set_cons_zero, List.set_cons_succ])
                  (refine takeH (i := 5) (v := .pointer (some ⟨w.heap.size + 1, 5, none⟩)) rfl rfl (by kernel_rfl) (by kernel_rfl) (by kernel_rfl) (fun _ _ _ h => h) (by rfl) (fun wz hSw => by go_simp) hHeld ?_; simp only [Act.put, List.setIfInBounds_toArray, List.set_cons_zero, List.set_cons_succ])
                  (refine takeH (i := 6) (v := .slice (some ⟨x2, o2, none⟩) b.parts.length cp2) rfl rfl (by kernel_rfl) (by kernel_rfl) (by kernel_rfl) (fun _ _ _ h => h) (by rfl) (fun wz hSw => by have hcx := (hSw.cell (p := ⟨w.heap.size + 1, 5, none⟩) G3.out.lt).trans HC2c.out.2; go_simp) hHeld ?_; simp only [Act.put, List.setIfInBounds_toArray, List.set_cons_zero, List.set_cons_succ])
                  (refine takeH (i := 7) (v := .int .i64 j) rfl rfl (by kernel_rfl) (by kernel_rfl) (by kernel_rfl) (fun _ _ _ h => h) (by rfl) (fun wz hSw => by go_simp) hHeld ?_; simp only [Act.put, List.setIfInBounds_toArray, List.set_cons_zero, List.set_cons_succ])
                  (refine takeH (i := 8) (v := .pointer (some ⟨x2, o2 + j * 6, none⟩)) rfl rfl (by kernel_rfl) (by kernel_rfl) (by kernel_rfl) (fun _ _ _ h => h) (by rfl) (fun wz hSw => by go_simp) hHeld ?_; simp only [Act.put, List.setIfInBounds_toArray, List.set_cons_zero, List.set_cons_succ])
                  (refine takeH (i := 9) (v := .agg (e2).toArray) rfl rfl (by kernel_rfl) (by kernel_rfl) (by kernel_rfl) (fun _ _ _ h => h) (by rfl) (fun wz hw => load_exec 31 (.tmp 105) rfl (x2) (o2 + j * 6) rfl (e2) _ (HRW2.out _ hw) hu rfl hi2) hHeld ?_; simp only [Act.put, List.setIfInBounds_toArray, List.set_cons_zero, List.set_cons_succ])
                  (refine oneH (i := 10) rfl (by kernel_rfl) (fun K hK => ?_); go_simp; refine (HC.out _ hHeld).mono ?_; rintro e w1 ⟨rfl, hb1⟩; have hq := hHeld.trans (hb1.mono hHeld.size); refine hK.out _ _ (hq) (fun hHeld => ?_); clear hK K)
                  (refine oneH (i := 11) rfl (by kernel_rfl) (fun K hK => ?_); go_simp; refine hK.out _ _ (hq) (fun hHeld => ?_); clear hK K)
                  refine wpAnyH_done (by kernel_rfl) ?_ _
                  have K2 := hide (G2.out.below hq G2.out.lt)
                  have K3 := hide (G3.out.below hq G3.out.lt)
                  have KW := hide (GW.out.trans (hq.mono GW.out.size))
                  clear hHeld hb1 hq hu hi1 hi2
                · go_wp2
                  go_ret
                  exact ⟨ret_eq (by rw [HD.out (fun e => by rw [eqB_true e] at HSS; cases HSS.out)]; rfl), KW.out⟩
                · go_wp2_with fail
                  exact ⟨⟨j + 1, by go_num, by omega, HT.out (eqB_iff.1 HSS.out), K2.out, K3.out, KW.out⟩, by simp [intOf]; omega⟩
              · have HE : Hid (eqB a b = true) := hide (by
                  have := GE.out
                  rw [List.take_of_length_le (by omega), List.take_of_length_le (by rw [← H6.out]; omega)] at this
                  exact eqB_true ((DVal.ext_iff' a b).2 ⟨H1.out, H2.out, H3.out, HEN.out, HEI.out, this⟩))
                go_wp2
                go_ret
                exact ⟨ret_eq (by rw [HE.out]; rfl), GW.out⟩
end Go.Proofs.Ytpnjkebjdclkfaa
