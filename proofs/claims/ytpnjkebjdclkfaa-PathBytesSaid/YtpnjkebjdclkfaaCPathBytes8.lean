/- Texts of a proof, part 8. Conditions: none. -/
import Derived.Test.YtpnjkebjdclkfaaCPathBytes7
set_option linter.unusedVariables false
set_option linter.unusedSimpArgs false
/- Values, walked: the document's Same. Conditions: none. -/
namespace Go.Proofs.Ytpnjkebjdclkfaa
open Go.RowKit

set_option maxHeartbeats 4000000 in
set_option maxRecDepth 20000 in
theorem refValSame_calls (k : Nat) : ∀ (a b : DVal) (cs ds : List Value) (w : World), a.depth ≤ k → IsVal w (· < w.heap.size) a cs → IsVal w (· < w.heap.size) b ds →
    Calls Try.prog 21 #[.agg cs.toArray, .agg ds.toArray] w (Gives (.bool (eqB a b)) w) := by
  induction k with
  | zero => intro a b cs ds w h; have := a.depth_pos; omega
  | succ k ih =>
    intro a b cs ds w hk ha hb
    obtain ⟨hk1, hki⟩ := ha.kind_
    obtain ⟨hk2, hki2⟩ := hb.kind_
    obtain ⟨hn1, hni⟩ := ha.n_
    obtain ⟨hn2, hni2⟩ := hb.n_
    obtain ⟨hs1, hsl⟩ := ha.s_
    obtain ⟨hs2, hsl2⟩ := hb.s_
    obtain ⟨Aw, cw, hw1, hwr, hwz, hwc, hwm⟩ := ha.names_
    obtain ⟨Aw2, cw2, hw2, hwr2, hwz2, hwc2, hwm2⟩ := hb.names_
    obtain ⟨Ai, ci, hi1, hir, hiz, hic, him⟩ := ha.ids_
    obtain ⟨Ai2, ci2, hi2, hir2, hiz2, hic2, him2⟩ := hb.ids_
    obtain ⟨Ap, cp, C, hp1, hpc, hpm, hP, hA⟩ := ha.partsF
    obtain ⟨Ap2, cp2, C2, hp2, hpc2, hpm2, hP2, hA2⟩ := hb.partsF
    have HW0 := hide (((Below.refl w.heap.size w).alloc (Nat.le_refl _) (.cells cs.toArray 31)).alloc (by simp) (.cells ds.toArray 31))
    have HX2 := hide ((Blk.new w 31 cs.toArray).alloc (.cells ds.toArray 31))
    have HX3 := hide (Blk.new2 w (.cells cs.toArray 31) 31 ds.toArray)
    have HWR := hide (And.intro hwr hwr2)
    have HIR := hide (And.intro hir hir2)
    have HPP := hide (And.intro hA hA2)
    have HIS := hide (And.intro hP hP2)
    have HIU := hide (And.intro hiz hiz2)
    have HI := hide ih
    have HDP := hide (fun p (h : p ∈ a.parts) => DVal.depth_part h)
    clear ih ha hb hA hA2 hP hP2 hwr hwr2 hwz hwz2 hir hir2 hiz hiz2
    by_cases h1 : a.kind = b.kind
    case neg =>
      have hkk : (a.kind != b.kind) = true := by simp; omega
      have HF : Hid (eqB a b = false) := hide (eqB_false fun e => h1 (by rw [e]))
      clear h1
      go_enter Try.func21, Try.ntmps21
      go_wp2
      go_ret
      exact ⟨ret_eq (by rw [HF.out]; rfl), HW0.out⟩
    have hne1 : (a.kind != b.kind) = false := by simp [h1]
    have H1 := hide h1
    clear h1
    by_cases h2 : a.n = b.n
    case neg =>
      have hkk : (a.n != b.n) = true := by simp; omega
      have HF : Hid (eqB a b = false) := hide (eqB_false fun e => h2 (by rw [e]))
      clear h2
      go_enter Try.func21, Try.ntmps21
      go_wp2
      go_ret
      exact ⟨ret_eq (by rw [HF.out]; rfl), HW0.out⟩
    have hne2 : (a.n != b.n) = false := by simp [h2]
    have H2 := hide h2
    clear h2
    by_cases h3 : a.s = b.s
    case neg =>
      have hkk : (a.s != b.s) = true := by simpa using h3
      have hkk2 : (a.s == b.s) = false := by simpa using h3
      have HF : Hid (eqB a b = false) := hide (eqB_false fun e => h3 (by rw [e]))
      clear h3
      go_enter Try.func21, Try.ntmps21
      go_wp2
      go_ret
      exact ⟨ret_eq (by rw [HF.out]; rfl), HW0.out⟩
    have hne3 : (a.s != b.s) = false := by simp [h3]
    have H3 := hide h3
    clear h3
    by_cases h4 : a.names.length = b.names.length
    case neg =>
      have hkk : ((a.names.length : Int) != (b.names.length : Int)) = true := by simp; omega
      have HF : Hid (eqB a b = false) := hide (eqB_false fun e => h4 (by rw [e]))
      clear h4
      go_enter Try.func21, Try.ntmps21
      go_wp2
      go_ret
      exact ⟨ret_eq (by rw [HF.out]; rfl), HW0.out⟩
    have hne4 : ((a.names.length : Int) != (b.names.length : Int)) = false := by simp [h4]
    have H4 := hide h4
    clear h4
    by_cases h5 : a.ids.length = b.ids.length
    case neg =>
      have hkk : ((a.ids.length : Int) != (b.ids.length : Int)) = true := by simp; omega
      have HF : Hid (eqB a b = false) := hide (eqB_false fun e => h5 (by rw [e]))
      clear h5
      go_enter Try.func21, Try.ntmps21
      go_wp2
      go_ret
      exact ⟨ret_eq (by rw [HF.out]; rfl), HW0.out⟩
    have hne5 : ((a.ids.length : Int) != (b.ids.length : Int)) = false := by simp [h5]
    have H5 := hide h5
    clear h5
    by_cases h6 : a.parts.length = b.parts.length
    case neg =>
      have hkk : ((a.parts.length : Int) != (b.parts.length : Int)) = true := by simp; omega
      have HF : Hid (eqB a b = false) := hide (eqB_false fun e => h6 (by rw [e]))
      clear h6
      go_enter Try.func21, Try.ntmps21
      go_wp2
      go_ret
      exact ⟨ret_eq (by rw [HF.out]; rfl), HW0.out⟩
    have hne6 : ((a.parts.length : Int) != (b.parts.length : Int)) = false := by simp [h6]
    have H6 := hide h6
    clear h6
    go_enter Try.func21, Try.ntmps21
    go_wp2_with fail
    go_loopw [5] (fun i wr => ∃ (j : Nat), i = .int .i64 j ∧ j ≤ a.names.length ∧ a.names.take j = b.names.take j ∧ Blk wr w.heap.size 31 cs.toArray ∧ Blk wr (w.heap.size + 1) 31 ds.toArray ∧ Below w.heap.size w wr) (fun i _ => a.names.length - (intOf i).toNat)
    case atStart => exact ⟨0, rfl, Nat.zero_le _, by simp, HX2.out, HX3.out, HW0.out⟩
    case round =>
      clear HX2 HX3 HW0
      obtain ⟨j, rfl, hj, heq, hb2, hb3, hw⟩ := hrel
      have GE := hide heq
      have G2 := hide hb2
      have G3 := hide hb3
      have GW := hide hw
      clear heq hb2 hb3 hw
      obtain ⟨wo, rfl⟩ : ∃ wo : World, wo = wr := ⟨_, rfl⟩
      have c2 : wo.cell? ⟨w.heap.size, 3, none⟩ = some (.slice Aw a.names.length cw) := by rw [G2.out.cell]; simpa using hw1
      have c3 : wo.cell? ⟨w.heap.size + 1, 3, none⟩ = some (.slice Aw2 b.names.length cw2) := by rw [G3.out.cell]; simpa using hw2
      by_cases hlt : j < a.names.length
      · have hlt2 : j < b.names.length := by rw [← H4.out]; exact hlt
        obtain ⟨x, o, rfl, hx, hc1⟩ := HWR.out.1.at_ hlt
        obtain ⟨x2, o2, rfl, hx2, hc2⟩ := HWR.out.2.at_ hlt2
        have d1 : wo.cell? ⟨x, o + j, none⟩ = some (sv a.names[j]) := (GW.out.cell (p := ⟨x, o + j, none⟩) hx).trans hc1
        have d2 : wo.cell? ⟨x2, o2 + j, none⟩ = some (sv b.names[j]) := (GW.out.cell (p := ⟨x2, o2 + j, none⟩) hx2).trans hc2
        have HT : Hid (a.names[j] = b.names[j] → a.names.take (j + 1) = b.names.take (j + 1)) := hide fun e => by rw [List.take_succ_eq_append_getElem hlt, List.take_succ_eq_append_getElem hlt2, GE.out, e]
        have HD : Hid (a.names[j] ≠ b.names[j] → eqB a b = false) := hide fun e => eqB_false fun h => e (by simp only [h])
        have j1 : (0 : Int) ≤ (j : Int) := by omega
        have j2 : (j : Int) < (a.names.length : Int) := by omega
        have j3 : (j : Int) < (b.names.length : Int) := by omega
        clear hc1 hc2
        generalize a.names[j] = s1 at *
        generalize b.names[j] = s2 at *
        cases hss : (s1 == s2)
        · have HSS := hide hss
          go_wp2_with fail
          go_quiet (fail)
          go_wp2
          go_ret
          exact ⟨ret_eq (by rw [HD.out (by simpa using HSS.out)]; rfl), below_drewN GW.out _⟩
        · have HSS := hide hss
          go_wp2_with fail
          go_quiet (fail)
          go_wp2_with fail
          exact ⟨⟨j + 1, by go_num, by omega, HT.out (by simpa using HSS.out), G2.out.drewN _, G3.out.drewN _, below_drewN GW.out _⟩, by simp [intOf]; omega⟩
      · have HEN : Hid (a.names = b.names) := hide (by
          have := GE.out
          rw [List.take_of_length_le (by omega), List.take_of_length_le (by rw [← H4.out]; omega)] at this
          exact this)
        clear GE
        have e2 : wo.cell? ⟨w.heap.size, 4, none⟩ = some (.slice Ai a.ids.length ci) := by rw [G2.out.cell]; simpa using hi1
        have e3 : wo.cell? ⟨w.heap.size + 1, 4, none⟩ = some (.slice Ai2 b.ids.length ci2) := by rw [G3.out.cell]; simpa using hi2
        go_wp2_with fail
        go_loopw [6] (fun i wr => ∃ (j : Nat), i = .int .i64 j ∧ j ≤ a.ids.length ∧ a.ids.take j = b.ids.take j ∧ Blk wr w.heap.size 31 cs.toArray ∧ Blk wr (w.heap.size + 1) 31 ds.toArray ∧ Below w.heap.size w wr) (fun i _ => a.ids.length - (intOf i).toNat)
        case atStart => exact ⟨0, rfl, Nat.zero_le _, by simp, G2.out, G3.out, GW.out⟩
        case round =>
          clear c2 c3 e2 e3 G2 G3 GW
          obtain ⟨j, rfl, hj, heq, hb2, hb3, hw⟩ := hrel
          have GE := hide heq
          have G2 := hide hb2
          have G3 := hide hb3
          have GW := hide hw
          clear heq hb2 hb3 hw
          obtain ⟨wo, rfl⟩ : ∃ wo : World, wo = wr := ⟨_, rfl⟩
          have c2 : wo.cell? ⟨w.heap.size, 4, none⟩ = some (.slice Ai a.ids.length ci) := by rw [G2.out.cell]; simpa using hi1
          have c3 : wo.cell? ⟨w.heap.size + 1, 4, none⟩ = some (.slice Ai2 b.ids.length ci2) := by rw [G3.out.cell]; simpa using hi2
          by_cases hlt : j < a.ids.length
          · have hlt2 : j < b.ids.length := by rw [← H5.out]; exact hlt
            obtain ⟨x, o, rfl, hx, hc1⟩ := HIR.out.1.at_ hlt
            obtain ⟨x2, o2, rfl, hx2, hc2⟩ := HIR.out.2.at_ hlt2
            have d1 : wo.cell? ⟨x, o + j, none⟩ = some (uv a.ids[j]) := (GW.out.cell (p := ⟨x, o + j, none⟩) hx).trans hc1
            have d2 : wo.cell? ⟨x2, o2 + j, none⟩ = some (uv b.ids[j]) := (GW.out.cell (p := ⟨x2, o2 + j, none⟩) hx2).trans hc2
            have HT : Hid (a.ids[j] = b.ids[j] → a.ids.take (j + 1) = b.ids.take (j + 1)) := hide fun e => by rw [List.take_succ_eq_append_getElem hlt, List.take_succ_eq_append_getElem hlt2, GE.out, e]
            have HD : Hid (a.ids[j] ≠ b.ids[j] → eqB a b = false) := hide fun e => eqB_false fun h => e (by simp only [h])
            have j1 : (0 : Int) ≤ (j : Int) := by omega
            have j2 : (j : Int) < (a.ids.length : Int) := by omega
            have j3 : (j : Int) < (b.ids.length : Int) := by omega
            clear hc1 hc2
            generalize a.ids[j] = s1 at *
            generalize b.ids[j] = s2 at *
            unfold uv at d1 d2
            by_cases hss : s1 = s2
            · have hsb : ((s1 : Int) != (s2 : Int)) = false := by simp [hss]
              have HSS := hide hss
              clear hss
              go_wp2_with fail
              go_quiet (fail)
              go_wp2_with fail
              exact ⟨⟨j + 1, by go_num, by omega, HT.out HSS.out, G2.out.drewN _, G3.out.drewN _, below_drewN GW.out _⟩, by simp [intOf]; omega⟩
            · have hsb : ((s1 : Int) != (s2 : Int)) = true := by simp; omega
              have HSS := hide hss
              clear hss
              go_wp2_with fail
              go_quiet (fail)
              go_wp2
              go_ret
              exact ⟨ret_eq (by rw [HD.out HSS.out]; rfl), below_drewN GW.out _⟩
          · have HEI : Hid (a.ids = b.ids) := hide (by
              have := GE.out
              rw [List.take_of_length_le (by omega), List.take_of_length_le (by rw [← H5.out]; omega)] at this
              exact this)
            clear GE
            have e2 : wo.cell? ⟨w.heap.size, 5, none⟩ = some (.slice Ap a.parts.length cp) := by rw [G2.out.cell]; simpa using hp1
            have e3 : wo.cell? ⟨w.heap.size + 1, 5, none⟩ = some (.slice Ap2 b.parts.length cp2) := by rw [G3.out.cell]; simpa using hp2
            go_wp2_with fail
            go_loopw [7] (fun i wr => ∃ (j : Nat), i = .int .i64 j ∧ j ≤ a.parts.length ∧ a.parts.take j = b.parts.take j ∧ Blk wr w.heap.size 31 cs.toArray ∧ Blk wr (w.heap.size + 1) 31 ds.toArray ∧ Below w.heap.size w wr) (fun i _ => a.parts.length - (intOf i).toNat)
            case atStart => exact ⟨0, rfl, Nat.zero_le _, by simp, G2.out, G3.out, GW.out⟩
            case round =>
              clear c2 c3 e2 e3 G2 G3 GW
              obtain ⟨j, rfl, hj, heq, hb2, hb3, hw⟩ := hrel
              have GE := hide heq
              have G2 := hide hb2
              have G3 := hide hb3
              have GW := hide hw
              clear heq hb2 hb3 hw
              obtain ⟨wo, rfl⟩ : ∃ wo : World, wo = wr := ⟨_, rfl⟩
              have c2 : wo.cell? ⟨w.heap.size, 5, none⟩ = some (.slice Ap a.parts.length cp) := by rw [G2.out.cell]; simpa using hp1
              have c3 : wo.cell? ⟨w.heap.size + 1, 5, none⟩ = some (.slice Ap2 b.parts.length cp2) := by rw [G3.out.cell]; simpa using hp2
              by_cases hlt : j < a.parts.length
              · have hlt2 : j < b.parts.length := by rw [← H6.out]; exact hlt
                obtain ⟨x, o, rfl, hx, hc1⟩ := HPP.out.1 (by omega)
                obtain ⟨x2, o2, rfl, hx2, hc2⟩ := HPP.out.2 (by omega)
                obtain ⟨hl1, hr1⟩ := hc1 j hlt
                obtain ⟨hl2, hr2⟩ := hc2 j hlt2
                have GS := hide (List.getElem?_eq_getElem hlt)
                have GS2 := hide (List.getElem?_eq_getElem hlt2)
                have HP1 := hide (HIS.out.1 j _ GS.out)
                have HP2 := hide (HIS.out.2 j _ GS2.out)
                have HRW : Hid (∀ W, Below wo.heap.size wo W → W.rangeAt x (o + j * 6) (C j)) := hide fun W hW q v hv => (hW.cell (p := ⟨x, o + j * 6 + q, none⟩) (Nat.lt_of_lt_of_le hx GW.out.size)).trans ((GW.out.cell (p := ⟨x, o + j * 6 + q, none⟩) hx).trans (hr1 q v hv))
                have HRW2 : Hid (∀ W, Below wo.heap.size wo W → W.rangeAt x2 (o2 + j * 6) (C2 j)) := hide fun W hW q v hv => (hW.cell (p := ⟨x2, o2 + j * 6 + q, none⟩) (Nat.lt_of_lt_of_le hx2 GW.out.size)).trans ((GW.out.cell (p := ⟨x2, o2 + j * 6 + q, none⟩) hx2).trans (hr2 q v hv))
                have hpd := HDP.out _ (List.getElem_mem hlt)
                have HC := hide (fun (W : World) (hW : Below wo.heap.size wo W) => HI.out a.parts[j] b.parts[j] (C j) (C2 j) W (by omega) (HP1.out.more (GW.out.trans (hW.mono GW.out.size))) (HP2.out.more (GW.out.trans (hW.mono GW.out.size))))
                have HT : Hid (a.parts[j] = b.parts[j] → a.parts.take (j + 1) = b.parts.take (j + 1)) := hide fun e => by rw [List.take_succ_eq_append_getElem hlt, List.take_succ_eq_append_getElem hlt2, GE.out, e]
                have HD : Hid (a.parts[j] ≠ b.parts[j] → eqB a b = false) := hide fun e => by
                  refine eqB_false fun h => e ?_
                  simp only [h]
                have hi1 : (Try.prog.info? 31).map (·.size) = some (C j).length := by rw [hl1]; kernel_rfl
                have hi2 : (Try.prog.info? 31).map (·.size) = some (C2 j).length := by rw [hl2]; kernel_rfl
                have hu := Try.underlying31
                have j1 : (0 : Int) ≤ (j : Int) := by omega
                have j2 : (j : Int) < (a.parts.length : Int) := by omega
                have j3 : (j : Int) < (b.parts.length : Int) := by omega
                clear hc1 hc2 hr1 hr2 HP1 HP2 GS GS2
                generalize a.parts[j] = s1 at *
                generalize b.parts[j] = s2 at *
                generalize C j = e1 at *
                generalize C2 j = e2 at *
                cases hss : eqB s1 s2
                all_goals
                  have HSS := hide hss
                  rw [hss] at HC
                  clear hss
                  have HC2c := hide (And.intro c2 c3)
                  go_wp2_with fail
                  refine wp_region_held_drew (S := fun w' => Below wo.heap.size wo w') (by kernel_rfl) (Below.refl _ _).drew (fun hHeld => ?_)
                  (refine takeH (i := 0) (v := .pointer (some ⟨w.heap.size, 5, none⟩)) rfl rfl (by kernel_rfl) (by kernel_rfl) (by kernel_rfl) (fun _ _ _ h => h) (by rfl) (fun wz hSw => by go_simp) hHeld ?_; simp only [Act.put, List.setIfInBounds_toArray, List.set_cons_zero, List.set_cons_succ])
                  (refine takeH (i := 1) (v := .slice (some ⟨x, o, none⟩) a.parts.length cp) rfl rfl (by kernel_rfl) (by kernel_rfl) (by kernel_rfl) (fun _ _ _ h => h) (by rfl) (fun wz hSw => by have hcx := (hSw.cell (p := ⟨w.heap.size, 5, none⟩) G2.out.lt).trans HC2c.out.1; go_simp) hHeld ?_; simp only [Act.put, List.setIfInBounds_toArray, List.set_cons_zero, List.set_cons_succ])
                  (refine takeH (i := 2) (v := .int .i64 j) rfl rfl (by kernel_rfl) (by kernel_rfl) (by kernel_rfl) (fun _ _ _ h => h) (by rfl) (fun wz hSw => by go_simp) hHeld ?_; simp only [Act.put, List.setIfInBounds_toArray, List.set_cons_zero, List.set_cons_succ])
                  (refine takeH (i := 3) (v := .pointer (some ⟨x, o + j * 6, none⟩)) rfl rfl (by kernel_rfl) (by kernel_rfl) (by kernel_rfl) (fun _ _ _ h => h) (by rfl) (fun wz hSw => by go_simp) hHeld ?_; simp only [Act.put, List.setIfInBounds_toArray, List.set_cons_zero, List.set_cons_succ])
                  (refine takeH (i := 4) (v := .agg (e1).toArray) rfl rfl (by kernel_rfl) (by kernel_rfl) (by kernel_rfl) (fun _ _ _ h => h) (by rfl) (fun wz hw => load_exec 31 (.tmp 100) rfl (x) (o + j * 6) rfl (e1) _ (HRW.out _ hw) hu rfl hi1) hHeld ?_; simp only [Act.put, List.setIfInBounds_toArray, List.set_cons_zero, List.set_cons_succ])
                  (refine takeH (i := 5) (v := .pointer (some ⟨w.heap.size + 1, 5, none⟩)) rfl rfl (by kernel_rfl) (by kernel_rfl) (by kernel_rfl) (fun _ _ _ h => h) (by rfl) (fun wz hSw => by go_simp) hHeld ?_; simp only [Act.put, List.setIfInBounds_toArray, List.set_cons_zero, List.set_cons_succ])
                  (refine takeH (i := 6) (v := .slice (some ⟨x2, o2, none⟩) b.parts.length cp2) rfl rfl (by kernel_rfl) (by kernel_rfl) (by kernel_rfl) (fun _ _ _ h => h) (by rfl) (fun wz hSw => by have hcx := (hSw.cell (p := ⟨w.heap.size + 1, 5, none⟩) G3.out.lt).trans HC2c.out.2; go_simp) hHeld ?_; simp only [Act.put, List.setIfInBounds_toArray, List.set_cons_zero, List.set_cons_succ])
                  (refine takeH (i := 7) (v := .int .i64 j) rfl rfl (by kernel_rfl) (by kernel_rfl) (by kernel_rfl) (fun _ _ _ h => h) (by rfl) (fun wz hSw => by go_simp) hHeld ?_; simp only [Act.put, List.setIfInBounds_toArray, List.set_cons_zero, List.set_cons_succ])
                  (refine takeH (i := 8) (v := .pointer (some ⟨x2, o2 + j * 6, none⟩)) rfl rfl (by kernel_rfl) (by kernel_rfl) (by kernel_rfl) (fun _ _ _ h => h) (by rfl) (fun wz hSw => by go_simp) hHeld ?_; simp only [Act.put, List.setIfInBounds_toArray, List.set_cons_zero, List.set_cons_succ])
                  (refine takeH (i := 9) (v := .agg (e2).toArray) rfl rfl (by kernel_rfl) (by kernel_rfl) (by kernel_rfl) (fun _ _ _ h => h) (by rfl) (fun wz hw => load_exec 31 (.tmp 105) rfl (x2) (o2 + j * 6) rfl (e2) _ (HRW2.out _ hw) hu rfl hi2) hHeld ?_; simp only [Act.put, List.setIfInBounds_toArray, List.set_cons_zero, List.set_cons_succ])
                  (refine oneH (i := 10) rfl (by kernel_rfl) (fun K hK => ?_); go_simp; refine (HC.out _ hHeld).mono ?_; rintro e w1 ⟨rfl, hb1⟩; have hq := hHeld.trans (hb1.mono hHeld.size); refine hK.out _ _ (hq) (fun hHeld => ?_); clear hK K)
                  (refine oneH (i := 11) rfl (by kernel_rfl) (fun K hK => ?_); go_simp; refine hK.out _ _ (hq) (fun hHeld => ?_); clear hK K)
                  refine wpAnyH_done (by kernel_rfl) ?_ _
                  have K2 := hide (G2.out.below hq G2.out.lt)
                  have K3 := hide (G3.out.below hq G3.out.lt)
                  have KW := hide (GW.out.trans (hq.mono GW.out.size))
                  clear hHeld hb1 hq hu hi1 hi2
                · go_wp2
                  go_ret
                  exact ⟨ret_eq (by rw [HD.out (fun e => by rw [eqB_true e] at HSS; cases HSS.out)]; rfl), KW.out⟩
                · go_wp2_with fail
                  exact ⟨⟨j + 1, by go_num, by omega, HT.out (eqB_iff.1 HSS.out), K2.out, K3.out, KW.out⟩, by simp [intOf]; omega⟩
              · have HE : Hid (eqB a b = true) := hide (by
                  have := GE.out
                  rw [List.take_of_length_le (by omega), List.take_of_length_le (by rw [← H6.out]; omega)] at this
                  exact eqB_true ((DVal.ext_iff' a b).2 ⟨H1.out, H2.out, H3.out, HEN.out, HEI.out, this⟩))
                go_wp2
                go_ret
                exact ⟨ret_eq (by rw [HE.out]; rfl), GW.out⟩
end Go.Proofs.Ytpnjkebjdclkfaa

/- PathAll, walked. Conditions: none. -/
namespace Go.Proofs.Ytpnjkebjdclkfaa
open Go.RowKit
set_option linter.unusedSimpArgs false
theorem valsEq_step (a b : DStp) : valsEq [sv a.1, .int .u64 a.2] [sv b.1, .int .u64 b.2] = decide (a = b) := by
  obtain ⟨a, n⟩ := a
  obtain ⟨b, m⟩ := b
  rw [Bool.eq_iff_iff]
  simp only [valsEq, cellEq, sv, strB, Go.Lib.toList_data, Bool.and_eq_true, beq_iff_eq, decide_eq_true_eq, Prod.mk.injEq, and_true]
  constructor
  · rintro ⟨h1, h2⟩; exact ⟨h1, by omega⟩
  · rintro ⟨h1, h2⟩; exact ⟨h1, by omega⟩
theorem eqOk_step {x y : Operand} (a b : DStp) : EqOk Try.prog .eql 81 x y [sv a.1, .int .u64 a.2] [sv b.1, .int .u64 b.2] (valsEq [sv a.1, .int .u64 a.2] [sv b.1, .int .u64 b.2]) ∧ EqOk Try.prog .neq 81 x y [sv a.1, .int .u64 a.2] [sv b.1, .int .u64 b.2] (!valsEq [sv a.1, .int .u64 a.2] [sv b.1, .int .u64 b.2]) := by
  obtain ⟨a, n⟩ := a
  obtain ⟨b, m⟩ := b
  constructor
  · intro w
    by_cases h1 : a = b <;> by_cases h2 : (n : Int) = (m : Int) <;> simp [valsEq, cellEq, go_sem, h1, h2]
  · intro w
    by_cases h1 : a = b <;> by_cases h2 : (n : Int) = (m : Int) <;> simp [valsEq, cellEq, go_sem, h1, h2]
section
variable {x y : Operand} (a b : DStp) {K : D → Prop} {K' : D → St → Prop} {S : St}
theorem bin_neqP : dbin Try.prog .neq 81 x y (encP a) (encP b) = some (EqOk Try.prog .neq 81 x y [sv a.1, .int .u64 a.2] [sv b.1, .int .u64 b.2] (!valsEq [sv a.1, .int .u64 a.2] [sv b.1, .int .u64 b.2]), .v (.bool (!decide (a = b)))) := by
  rw [← valsEq_step]; rfl
theorem bin_eqlP : dbin Try.prog .eql 81 x y (encP a) (encP b) = some (EqOk Try.prog .eql 81 x y [sv a.1, .int .u64 a.2] [sv b.1, .int .u64 b.2] (valsEq [sv a.1, .int .u64 a.2] [sv b.1, .int .u64 b.2]), .v (.bool (decide (a = b)))) := by
  rw [← valsEq_step]; rfl
theorem onVal_neqP : onVal (dbin Try.prog .neq 81 x y (encP a) (encP b)) K = K (.v (.bool (!decide (a = b)))) := by
  rw [bin_neqP, onVal_some]; exact propext ⟨fun h => h.2, fun h => ⟨(eqOk_step a b).2, h⟩⟩
theorem onVal_eqlP : onVal (dbin Try.prog .eql 81 x y (encP a) (encP b)) K = K (.v (.bool (decide (a = b)))) := by
  rw [bin_eqlP, onVal_some]; exact propext ⟨fun h => h.2, fun h => ⟨(eqOk_step a b).1, h⟩⟩
theorem onValS_neqP : onValS (dbin Try.prog .neq 81 x y (encP a) (encP b)) K' S = K' (.v (.bool (!decide (a = b)))) S := by
  rw [bin_neqP, onValS_some]; exact propext ⟨fun h => h.2, fun h => ⟨(eqOk_step a b).2, h⟩⟩
theorem onValS_eqlP : onValS (dbin Try.prog .eql 81 x y (encP a) (encP b)) K' S = K' (.v (.bool (decide (a = b)))) S := by
  rw [bin_eqlP, onValS_some]; exact propext ⟨fun h => h.2, fun h => ⟨(eqOk_step a b).1, h⟩⟩
end
attribute [go_sem] onVal_neqP onVal_eqlP onValS_neqP onValS_eqlP
set_option maxRecDepth 200000 in
set_option maxHeartbeats 8000000 in
theorem refSameP_d (own own2 : Own) (p q : List DStp) (hp : p.length ≤ 1000000) (hq : q.length ≤ 1000000) : DPure Try.prog 30 [.sl own (p.map encP), .sl own2 (q.map encP)] (.v (.bool (decide (p = q)))) := by
  refine dpure_of_dwp mixed Try.func30 rfl (fun _ _ => by kernel_rfl) (rs := [.tmp 4]) rfl (by kernel_rfl) trivial (fun S hS => ?_)
  by_cases hl : p.length = q.length
  · have b0 : ((p.length : Int) != (q.length : Int)) = false := by simp [hl]
    (simp (disch := first | decide | omega | (simp only [add_next, set_next, grow_next, leave_next, List.length_map]; first | done | omega)) only [go_sem, ↓reduceIte, Nat.reduceBEq, Nat.reduceAdd, Nat.reduceLeDiff, Nat.reduceEqDiff, Nat.reduceLT, ob_hit, ob_skip, ob_set, ob_old, getD_map, Int.natCast_nonneg, true_and, and_true, int_zero, beq_self_eq_true, Int.toNat_zero, List.getD_cons_zero, List.getD_cons_succ, List.range_zero, List.mem_cons, List.not_mem_nil, or_false, forall_eq, forall_eq_or_imp, false_implies, implies_true, Nat.reduceMul, Option.isSome_some, bnd, or_true, Int.toNat_one, Int.le_refl, ge_iff_le, gt_iff_lt, b0]; (repeat (with_reducible refine And.intro (by first | omega | assumption | rfl) ?_)))
    (refine dloop_st (fun t => List.contains [4, 5, 11, 12, 13, 14, 15, 16, 17, 18, 19, 20, 21, 22, 23, 24, 25] t) (by kernel_rfl) ?_ (p.length) (fun i f => i ≤ p.length ∧ f 5 = .v (.int .i64 (i : Nat)) ∧ (∀ j, j < i → p[j]? = q[j]?)) ?_ ?_; (exact (by (repeat' first | assumption | refine St.WF.leave ?_ _ | refine St.WF.add ?_ _ | refine St.WF.set ?_ (by (first | omega | (simp only [RowOk.lo, add_next, set_next, grow_next, leave_next]; first | done | omega))) _ | refine St.WF.grow ?_ _ _ _ | refine St.WF.keep ?_ (by first | assumption | (first | omega | (simp only [RowOk.lo, add_next, set_next, grow_next, leave_next]; first | done | omega)))))); (exact ⟨(by omega), (by (first | (simp (disch := first | decide | omega | (simp only [add_next, set_next, grow_next, leave_next, List.length_map]; first | done | omega)) only [go_sem, ↓reduceIte, Nat.reduceBEq, Nat.reduceAdd, Nat.reduceLeDiff, Nat.reduceEqDiff, Nat.reduceLT, ob_hit, ob_skip, ob_set, ob_old, getD_map, Int.natCast_nonneg, true_and, and_true, int_zero, beq_self_eq_true, Int.toNat_zero, List.getD_cons_zero, List.getD_cons_succ, List.range_zero, List.mem_cons, List.not_mem_nil, or_false, forall_eq, forall_eq_or_imp, false_implies, implies_true, Nat.reduceMul, Option.isSome_some, bnd, or_true, Int.toNat_one, Int.le_refl, ge_iff_le, gt_iff_lt]; done) | (simp (disch := first | decide | omega | (simp only [add_next, set_next, grow_next, leave_next, List.length_map]; first | done | omega)) only [go_sem, ↓reduceIte, Nat.reduceBEq, Nat.reduceAdd, Nat.reduceLeDiff, Nat.reduceEqDiff, Nat.reduceLT, ob_hit, ob_skip, ob_set, ob_old, getD_map, Int.natCast_nonneg, true_and, and_true, int_zero, beq_self_eq_true, Int.toNat_zero, List.getD_cons_zero, List.getD_cons_succ, List.range_zero, List.mem_cons, List.not_mem_nil, or_false, forall_eq, forall_eq_or_imp, false_implies, implies_true, Nat.reduceMul, Option.isSome_some, bnd, or_true, Int.toNat_one, Int.le_refl, ge_iff_le, gt_iff_lt]; rfl) | rfl)), (fun j hj => by omega)⟩); intro i g tn hn hT hg hI; obtain ⟨le, q5, hsame⟩ := hI; have q0 := hg 0 rfl; have q1 := hg 1 rfl; simp (disch := first | decide | omega | (simp only [add_next, set_next, grow_next, leave_next, List.length_map]; first | done | omega)) only [go_sem, ↓reduceIte, Nat.reduceBEq, Nat.reduceAdd, Nat.reduceLeDiff, Nat.reduceEqDiff, Nat.reduceLT, ob_hit, ob_skip, ob_set, ob_old, getD_map, Int.natCast_nonneg, true_and, and_true, int_zero, beq_self_eq_true, Int.toNat_zero, List.getD_cons_zero, List.getD_cons_succ, List.range_zero, List.mem_cons, List.not_mem_nil, or_false, forall_eq, forall_eq_or_imp, false_implies, implies_true, Nat.reduceMul, Option.isSome_some, bnd, or_true, Int.toNat_one, Int.le_refl, ge_iff_le, gt_iff_lt] at q0 q1; clear hg; have hn' := hn; try simp only [add_next, set_next, grow_next, leave_next] at hn')
    by_cases hlt : i < p.length
    · have b1 : decide ((i : Int) < (p.length : Int)) = true := by simp; omega
      have w1 : IntKind.i64.wrap ((i : Int) + 1) = ((i + 1 : Nat) : Int) := IntWalk.i64_in _ ⟨by omega, by omega⟩
      have hlt2 : i < q.length := by omega
      (simp (disch := first | decide | omega | (simp only [add_next, set_next, grow_next, leave_next, List.length_map]; first | done | omega)) only [go_sem, ↓reduceIte, Nat.reduceBEq, Nat.reduceAdd, Nat.reduceLeDiff, Nat.reduceEqDiff, Nat.reduceLT, ob_hit, ob_skip, ob_set, ob_old, getD_map, Int.natCast_nonneg, true_and, and_true, int_zero, beq_self_eq_true, Int.toNat_zero, List.getD_cons_zero, List.getD_cons_succ, List.range_zero, List.mem_cons, List.not_mem_nil, or_false, forall_eq, forall_eq_or_imp, false_implies, implies_true, Nat.reduceMul, Option.isSome_some, bnd, or_true, Int.toNat_one, Int.le_refl, ge_iff_le, gt_iff_lt, q0, q1, q5, b1]; (repeat (with_reducible refine And.intro (by first | omega | assumption | rfl) ?_)))
      refine ddraw_mk 9 (by kernel_rfl) ?_
      by_cases hx : p[i] = q[i]
      · have b2 : (!decide (p[i] = q[i])) = false := by simp [hx]
        (simp (disch := first | decide | omega | (simp only [add_next, set_next, grow_next, leave_next, List.length_map]; first | done | omega)) only [go_sem, ↓reduceIte, Nat.reduceBEq, Nat.reduceAdd, Nat.reduceLeDiff, Nat.reduceEqDiff, Nat.reduceLT, ob_hit, ob_skip, ob_set, ob_old, getD_map, Int.natCast_nonneg, true_and, and_true, int_zero, beq_self_eq_true, Int.toNat_zero, List.getD_cons_zero, List.getD_cons_succ, List.range_zero, List.mem_cons, List.not_mem_nil, or_false, forall_eq, forall_eq_or_imp, false_implies, implies_true, Nat.reduceMul, Option.isSome_some, bnd, or_true, Int.toNat_one, Int.le_refl, ge_iff_le, gt_iff_lt, q0, q1, q5, b1, b2, w1]; (repeat (with_reducible refine And.intro (by first | omega | assumption | rfl) ?_)))
        (refine ⟨by omega, (by (repeat' first | exact St.Sub.refl _ | assumption | (exact RowOk.sub (by assumption) (by assumption)) | (refine St.Sub.trans ?_ (RowOk.sub (by assumption) (by assumption))) | (exact St.Sub.keep (St.Sub.refl _) (by first | assumption | (first | omega | (simp only [RowOk.lo, add_next, set_next, grow_next, leave_next]; first | done | omega)))) | refine St.Sub.add ?_ (by (repeat' first | assumption | refine St.WF.leave ?_ _ | refine St.WF.add ?_ _ | refine St.WF.set ?_ (by (first | omega | (simp only [RowOk.lo, add_next, set_next, grow_next, leave_next]; first | done | omega))) _ | refine St.WF.grow ?_ _ _ _ | refine St.WF.keep ?_ (by first | assumption | (first | omega | (simp only [RowOk.lo, add_next, set_next, grow_next, leave_next]; first | done | omega))))) _ | refine St.Sub.set ?_ (by (repeat' first | assumption | refine St.WF.leave ?_ _ | refine St.WF.add ?_ _ | refine St.WF.set ?_ (by (first | omega | (simp only [RowOk.lo, add_next, set_next, grow_next, leave_next]; first | done | omega))) _ | refine St.WF.grow ?_ _ _ _ | refine St.WF.keep ?_ (by first | assumption | (first | omega | (simp only [RowOk.lo, add_next, set_next, grow_next, leave_next]; first | done | omega))))) (by (first | omega | (simp only [RowOk.lo, add_next, set_next, grow_next, leave_next]; first | done | omega))) _ | refine St.Sub.keep ?_ (by first | assumption | (first | omega | (simp only [RowOk.lo, add_next, set_next, grow_next, leave_next]; first | done | omega))))), ?_⟩; refine ⟨by omega, ?_, ?_⟩; all_goals (try (first | (simp (disch := first | decide | omega | (simp only [add_next, set_next, grow_next, leave_next, List.length_map]; first | done | omega)) only [go_sem, ↓reduceIte, Nat.reduceBEq, Nat.reduceAdd, Nat.reduceLeDiff, Nat.reduceEqDiff, Nat.reduceLT, ob_hit, ob_skip, ob_set, ob_old, getD_map, Int.natCast_nonneg, true_and, and_true, int_zero, beq_self_eq_true, Int.toNat_zero, List.getD_cons_zero, List.getD_cons_succ, List.range_zero, List.mem_cons, List.not_mem_nil, or_false, forall_eq, forall_eq_or_imp, false_implies, implies_true, Nat.reduceMul, Option.isSome_some, bnd, or_true, Int.toNat_one, Int.le_refl, ge_iff_le, gt_iff_lt, w1]; done) | (simp (disch := first | decide | omega | (simp only [add_next, set_next, grow_next, leave_next, List.length_map]; first | done | omega)) only [go_sem, ↓reduceIte, Nat.reduceBEq, Nat.reduceAdd, Nat.reduceLeDiff, Nat.reduceEqDiff, Nat.reduceLT, ob_hit, ob_skip, ob_set, ob_old, getD_map, Int.natCast_nonneg, true_and, and_true, int_zero, beq_self_eq_true, Int.toNat_zero, List.getD_cons_zero, List.getD_cons_succ, List.range_zero, List.mem_cons, List.not_mem_nil, or_false, forall_eq, forall_eq_or_imp, false_implies, implies_true, Nat.reduceMul, Option.isSome_some, bnd, or_true, Int.toNat_one, Int.le_refl, ge_iff_le, gt_iff_lt, w1]; rfl) | rfl)))
        intro j hj
        by_cases e : j = i
        · subst e; rw [List.getElem?_eq_getElem hlt, List.getElem?_eq_getElem hlt2, hx]
        · exact hsame j (by omega)
      · have b2 : (!decide (p[i] = q[i])) = true := by simp [hx]
        (simp (disch := first | decide | omega | (simp only [add_next, set_next, grow_next, leave_next, List.length_map]; first | done | omega)) only [go_sem, ↓reduceIte, Nat.reduceBEq, Nat.reduceAdd, Nat.reduceLeDiff, Nat.reduceEqDiff, Nat.reduceLT, ob_hit, ob_skip, ob_set, ob_old, getD_map, Int.natCast_nonneg, true_and, and_true, int_zero, beq_self_eq_true, Int.toNat_zero, List.getD_cons_zero, List.getD_cons_succ, List.range_zero, List.mem_cons, List.not_mem_nil, or_false, forall_eq, forall_eq_or_imp, false_implies, implies_true, Nat.reduceMul, Option.isSome_some, bnd, or_true, Int.toNat_one, Int.le_refl, ge_iff_le, gt_iff_lt, q0, q1, q5, b1, b2]; (repeat (with_reducible refine And.intro (by first | omega | assumption | rfl) ?_)))
        refine ⟨?_, (by (repeat' first | exact St.Sub.refl _ | assumption | (exact RowOk.sub (by assumption) (by assumption)) | (refine St.Sub.trans ?_ (RowOk.sub (by assumption) (by assumption))) | (exact St.Sub.keep (St.Sub.refl _) (by first | assumption | (first | omega | (simp only [RowOk.lo, add_next, set_next, grow_next, leave_next]; first | done | omega)))) | refine St.Sub.add ?_ (by (repeat' first | assumption | refine St.WF.leave ?_ _ | refine St.WF.add ?_ _ | refine St.WF.set ?_ (by (first | omega | (simp only [RowOk.lo, add_next, set_next, grow_next, leave_next]; first | done | omega))) _ | refine St.WF.grow ?_ _ _ _ | refine St.WF.keep ?_ (by first | assumption | (first | omega | (simp only [RowOk.lo, add_next, set_next, grow_next, leave_next]; first | done | omega))))) _ | refine St.Sub.set ?_ (by (repeat' first | assumption | refine St.WF.leave ?_ _ | refine St.WF.add ?_ _ | refine St.WF.set ?_ (by (first | omega | (simp only [RowOk.lo, add_next, set_next, grow_next, leave_next]; first | done | omega))) _ | refine St.WF.grow ?_ _ _ _ | refine St.WF.keep ?_ (by first | assumption | (first | omega | (simp only [RowOk.lo, add_next, set_next, grow_next, leave_next]; first | done | omega))))) (by (first | omega | (simp only [RowOk.lo, add_next, set_next, grow_next, leave_next]; first | done | omega))) _ | refine St.Sub.keep ?_ (by first | assumption | (first | omega | (simp only [RowOk.lo, add_next, set_next, grow_next, leave_next]; first | done | omega)))))⟩
        rw [decide_eq_false]
        · rfl
        · intro e; subst e; exact hx rfl
    · have b1 : decide ((i : Int) < (p.length : Int)) = false := by simp; omega
      (simp (disch := first | decide | omega | (simp only [add_next, set_next, grow_next, leave_next, List.length_map]; first | done | omega)) only [go_sem, ↓reduceIte, Nat.reduceBEq, Nat.reduceAdd, Nat.reduceLeDiff, Nat.reduceEqDiff, Nat.reduceLT, ob_hit, ob_skip, ob_set, ob_old, getD_map, Int.natCast_nonneg, true_and, and_true, int_zero, beq_self_eq_true, Int.toNat_zero, List.getD_cons_zero, List.getD_cons_succ, List.range_zero, List.mem_cons, List.not_mem_nil, or_false, forall_eq, forall_eq_or_imp, false_implies, implies_true, Nat.reduceMul, Option.isSome_some, bnd, or_true, Int.toNat_one, Int.le_refl, ge_iff_le, gt_iff_lt, q0, q1, q5, b1]; (repeat (with_reducible refine And.intro (by first | omega | assumption | rfl) ?_)))
      refine ⟨?_, (by (repeat' first | exact St.Sub.refl _ | assumption | (exact RowOk.sub (by assumption) (by assumption)) | (refine St.Sub.trans ?_ (RowOk.sub (by assumption) (by assumption))) | (exact St.Sub.keep (St.Sub.refl _) (by first | assumption | (first | omega | (simp only [RowOk.lo, add_next, set_next, grow_next, leave_next]; first | done | omega)))) | refine St.Sub.add ?_ (by (repeat' first | assumption | refine St.WF.leave ?_ _ | refine St.WF.add ?_ _ | refine St.WF.set ?_ (by (first | omega | (simp only [RowOk.lo, add_next, set_next, grow_next, leave_next]; first | done | omega))) _ | refine St.WF.grow ?_ _ _ _ | refine St.WF.keep ?_ (by first | assumption | (first | omega | (simp only [RowOk.lo, add_next, set_next, grow_next, leave_next]; first | done | omega))))) _ | refine St.Sub.set ?_ (by (repeat' first | assumption | refine St.WF.leave ?_ _ | refine St.WF.add ?_ _ | refine St.WF.set ?_ (by (first | omega | (simp only [RowOk.lo, add_next, set_next, grow_next, leave_next]; first | done | omega))) _ | refine St.WF.grow ?_ _ _ _ | refine St.WF.keep ?_ (by first | assumption | (first | omega | (simp only [RowOk.lo, add_next, set_next, grow_next, leave_next]; first | done | omega))))) (by (first | omega | (simp only [RowOk.lo, add_next, set_next, grow_next, leave_next]; first | done | omega))) _ | refine St.Sub.keep ?_ (by first | assumption | (first | omega | (simp only [RowOk.lo, add_next, set_next, grow_next, leave_next]; first | done | omega)))))⟩
      rw [decide_eq_true]
      · rfl
      · refine List.ext_getElem? fun j => ?_
        by_cases hj : j < i
        · exact hsame j hj
        · rw [List.getElem?_eq_none (by omega), List.getElem?_eq_none (by omega)]
  · have b0 : ((p.length : Int) != (q.length : Int)) = true := by simp; omega
    (simp (disch := first | decide | omega | (simp only [add_next, set_next, grow_next, leave_next, List.length_map]; first | done | omega)) only [go_sem, ↓reduceIte, Nat.reduceBEq, Nat.reduceAdd, Nat.reduceLeDiff, Nat.reduceEqDiff, Nat.reduceLT, ob_hit, ob_skip, ob_set, ob_old, getD_map, Int.natCast_nonneg, true_and, and_true, int_zero, beq_self_eq_true, Int.toNat_zero, List.getD_cons_zero, List.getD_cons_succ, List.range_zero, List.mem_cons, List.not_mem_nil, or_false, forall_eq, forall_eq_or_imp, false_implies, implies_true, Nat.reduceMul, Option.isSome_some, bnd, or_true, Int.toNat_one, Int.le_refl, ge_iff_le, gt_iff_lt, b0]; (repeat (with_reducible refine And.intro (by first | omega | assumption | rfl) ?_)))
    refine ⟨?_, (by (repeat' first | exact St.Sub.refl _ | assumption | (exact RowOk.sub (by assumption) (by assumption)) | (refine St.Sub.trans ?_ (RowOk.sub (by assumption) (by assumption))) | (exact St.Sub.keep (St.Sub.refl _) (by first | assumption | (first | omega | (simp only [RowOk.lo, add_next, set_next, grow_next, leave_next]; first | done | omega)))) | refine St.Sub.add ?_ (by (repeat' first | assumption | refine St.WF.leave ?_ _ | refine St.WF.add ?_ _ | refine St.WF.set ?_ (by (first | omega | (simp only [RowOk.lo, add_next, set_next, grow_next, leave_next]; first | done | omega))) _ | refine St.WF.grow ?_ _ _ _ | refine St.WF.keep ?_ (by first | assumption | (first | omega | (simp only [RowOk.lo, add_next, set_next, grow_next, leave_next]; first | done | omega))))) _ | refine St.Sub.set ?_ (by (repeat' first | assumption | refine St.WF.leave ?_ _ | refine St.WF.add ?_ _ | refine St.WF.set ?_ (by (first | omega | (simp only [RowOk.lo, add_next, set_next, grow_next, leave_next]; first | done | omega))) _ | refine St.WF.grow ?_ _ _ _ | refine St.WF.keep ?_ (by first | assumption | (first | omega | (simp only [RowOk.lo, add_next, set_next, grow_next, leave_next]; first | done | omega))))) (by (first | omega | (simp only [RowOk.lo, add_next, set_next, grow_next, leave_next]; first | done | omega))) _ | refine St.Sub.keep ?_ (by first | assumption | (first | omega | (simp only [RowOk.lo, add_next, set_next, grow_next, leave_next]; first | done | omega)))))⟩
    rw [decide_eq_false]
    · rfl
    · intro e; subst e; exact hl rfl
theorem refSameV_d (a b : DVal) (hoa : okV a) (hob : okV b) : DPure Try.prog 21 [encV a, encV b] (.v (.bool (eqB a b))) :=
  dpure_of_gives (fun _ _ => by kernel_rfl) fun w η X vs hr => by
    simp only [RepL] at hr
    obtain ⟨x, xs, rfl, h1, y, ys, rfl, h2, rfl⟩ := hr
    obtain ⟨cs, rfl, hv⟩ := val_of_rep a.depth a (Nat.le_refl _) hoa h1
    obtain ⟨ds, rfl, hw⟩ := val_of_rep b.depth b (Nat.le_refl _) hob h2
    exact refValSame_calls a.depth a b cs ds w (Nat.le_refl _) hv hw
def tenB : DVal := .mk 1 1 [] [] [] []
def tenL : DVal := .mk 6 0 [] [] [3] [tenB]
def tenV : DVal := .mk 5 0 [] [[97]] [] [tenL]
def tenP : List DStp := [([97], 0), ([], 3)]
theorem tenB_ok : okV tenB := by simp [tenB, okV, okVs, I64, maxLen]; decide
theorem tenV_ok : okV tenV := by simp [tenV, tenL, tenB, okV, okVs, I64, U64, maxLen]; decide
theorem tenV_w : tenV.weight ≤ 1000000 := by simp [tenV, tenL, tenB, DVal.weight, DVal.weights]
theorem ten_get : getD_ tenV tenP = .tup [encV tenB, .v (.bool true)] := by
  rfl
theorem ten_all : (allTop tenV).length = 3 := by
  have : rightV 5 tenV = true := by decide
  rw [allTop, if_pos this]
  rfl
set_option maxRecDepth 200000 in
set_option maxHeartbeats 8000000 in
theorem awake10_d : DPure Try.prog 25 [] (.v (.bool true)) := by
  refine dpure_of_dwp mixed Try.func25 rfl (fun _ _ => by kernel_rfl) (rs := [.tmp 0]) rfl (by kernel_rfl) trivial (fun S hS => ?_)
  (simp (disch := first | decide | omega | (simp only [add_next, set_next, grow_next, leave_next, List.length_map]; first | done | omega)) only [go_sem, ↓reduceIte, Nat.reduceBEq, Nat.reduceAdd, Nat.reduceLeDiff, Nat.reduceEqDiff, Nat.reduceLT, ob_hit, ob_skip, ob_set, ob_old, getD_map, Int.natCast_nonneg, true_and, and_true, int_zero, beq_self_eq_true, Int.toNat_zero, List.getD_cons_zero, List.getD_cons_succ, List.range_zero, List.mem_cons, List.not_mem_nil, or_false, forall_eq, forall_eq_or_imp, false_implies, implies_true, Nat.reduceMul, Option.isSome_some, bnd, or_true, Int.toNat_one, Int.le_refl, ge_iff_le, gt_iff_lt]; (repeat (with_reducible refine And.intro (by first | omega | assumption | rfl) ?_)))
  refine DCalls.of_pure ((get_d tenV tenP .no tenV_ok tenV_w (by simp [tenP])).weak rfl) ?_
  rw [ten_get]
  (simp (disch := first | decide | omega | (simp only [add_next, set_next, grow_next, leave_next, List.length_map]; first | done | omega)) only [go_sem, ↓reduceIte, Nat.reduceBEq, Nat.reduceAdd, Nat.reduceLeDiff, Nat.reduceEqDiff, Nat.reduceLT, ob_hit, ob_skip, ob_set, ob_old, getD_map, Int.natCast_nonneg, true_and, and_true, int_zero, beq_self_eq_true, Int.toNat_zero, List.getD_cons_zero, List.getD_cons_succ, List.range_zero, List.mem_cons, List.not_mem_nil, or_false, forall_eq, forall_eq_or_imp, false_implies, implies_true, Nat.reduceMul, Option.isSome_some, bnd, or_true, Int.toNat_one, Int.le_refl, ge_iff_le, gt_iff_lt]; (repeat (with_reducible refine And.intro (by first | omega | assumption | rfl) ?_)))
  refine DCalls.of_pure ((refSameV_d tenB tenB tenB_ok tenB_ok).weak rfl) ?_
  rw [eqB_true rfl]
  (simp (disch := first | decide | omega | (simp only [add_next, set_next, grow_next, leave_next, List.length_map]; first | done | omega)) only [go_sem, ↓reduceIte, Nat.reduceBEq, Nat.reduceAdd, Nat.reduceLeDiff, Nat.reduceEqDiff, Nat.reduceLT, ob_hit, ob_skip, ob_set, ob_old, getD_map, Int.natCast_nonneg, true_and, and_true, int_zero, beq_self_eq_true, Int.toNat_zero, List.getD_cons_zero, List.getD_cons_succ, List.range_zero, List.mem_cons, List.not_mem_nil, or_false, forall_eq, forall_eq_or_imp, false_implies, implies_true, Nat.reduceMul, Option.isSome_some, bnd, or_true, Int.toNat_one, Int.le_refl, ge_iff_le, gt_iff_lt]; (repeat (with_reducible refine And.intro (by first | omega | assumption | rfl) ?_)))
  refine DCalls.of_pure ((allTop_d tenV tenV_ok tenV_w).weak rfl) ?_
  (simp (disch := first | decide | omega | (simp only [add_next, set_next, grow_next, leave_next, List.length_map]; first | done | omega)) only [go_sem, ↓reduceIte, Nat.reduceBEq, Nat.reduceAdd, Nat.reduceLeDiff, Nat.reduceEqDiff, Nat.reduceLT, ob_hit, ob_skip, ob_set, ob_old, getD_map, Int.natCast_nonneg, true_and, and_true, int_zero, beq_self_eq_true, Int.toNat_zero, List.getD_cons_zero, List.getD_cons_succ, List.range_zero, List.mem_cons, List.not_mem_nil, or_false, forall_eq, forall_eq_or_imp, false_implies, implies_true, Nat.reduceMul, Option.isSome_some, bnd, or_true, Int.toNat_one, Int.le_refl, ge_iff_le, gt_iff_lt, encPss, ten_all]; (repeat (with_reducible refine And.intro (by first | omega | assumption | rfl) ?_)))
  refine ⟨?_, (by (repeat' first | exact St.Sub.refl _ | assumption | (exact RowOk.sub (by assumption) (by assumption)) | (refine St.Sub.trans ?_ (RowOk.sub (by assumption) (by assumption))) | (exact St.Sub.keep (St.Sub.refl _) (by first | assumption | (first | omega | (simp only [RowOk.lo, add_next, set_next, grow_next, leave_next]; first | done | omega)))) | refine St.Sub.add ?_ (by (repeat' first | assumption | refine St.WF.leave ?_ _ | refine St.WF.add ?_ _ | refine St.WF.set ?_ (by (first | omega | (simp only [RowOk.lo, add_next, set_next, grow_next, leave_next]; first | done | omega))) _ | refine St.WF.grow ?_ _ _ _ | refine St.WF.keep ?_ (by first | assumption | (first | omega | (simp only [RowOk.lo, add_next, set_next, grow_next, leave_next]; first | done | omega))))) _ | refine St.Sub.set ?_ (by (repeat' first | assumption | refine St.WF.leave ?_ _ | refine St.WF.add ?_ _ | refine St.WF.set ?_ (by (first | omega | (simp only [RowOk.lo, add_next, set_next, grow_next, leave_next]; first | done | omega))) _ | refine St.WF.grow ?_ _ _ _ | refine St.WF.keep ?_ (by first | assumption | (first | omega | (simp only [RowOk.lo, add_next, set_next, grow_next, leave_next]; first | done | omega))))) (by (first | omega | (simp only [RowOk.lo, add_next, set_next, grow_next, leave_next]; first | done | omega))) _ | refine St.Sub.keep ?_ (by first | assumption | (first | omega | (simp only [RowOk.lo, add_next, set_next, grow_next, leave_next]; first | done | omega)))))⟩
  rfl
end Go.Proofs.Ytpnjkebjdclkfaa

/- Paths apart, walked. Conditions: none. -/
namespace Go.Proofs.Ytpnjkebjdclkfaa
open Go.RowKit
set_option linter.unusedSimpArgs false
set_option maxRecDepth 200000 in
set_option maxHeartbeats 8000000 in
theorem stepsEq_d (own own2 : Own) (p q : List DStp) (hp : p.length ≤ 1000000) (hq : q.length ≤ 1000000) : DPure Try.prog 72 [.sl own (p.map encP), .sl own2 (q.map encP)] (.v (.bool (decide (p = q)))) := by
  refine dpure_of_dwp mixed Try.func72 rfl (fun _ _ => by kernel_rfl) (rs := [.tmp 4]) rfl (by kernel_rfl) trivial (fun S hS => ?_)
  by_cases hl : p.length = q.length
  · have b0 : ((p.length : Int) != (q.length : Int)) = false := by simp [hl]
    (simp (disch := first | decide | omega | (simp only [add_next, set_next, grow_next, leave_next, List.length_map]; first | done | omega)) only [go_sem, ↓reduceIte, Nat.reduceBEq, Nat.reduceAdd, Nat.reduceLeDiff, Nat.reduceEqDiff, Nat.reduceLT, ob_hit, ob_skip, ob_set, ob_old, getD_map, Int.natCast_nonneg, true_and, and_true, int_zero, beq_self_eq_true, Int.toNat_zero, List.getD_cons_zero, List.getD_cons_succ, List.range_zero, List.mem_cons, List.not_mem_nil, or_false, forall_eq, forall_eq_or_imp, false_implies, implies_true, Nat.reduceMul, Option.isSome_some, bnd, or_true, Int.toNat_one, Int.le_refl, ge_iff_le, gt_iff_lt, b0]; (repeat (with_reducible refine And.intro (by first | omega | assumption | rfl) ?_)))
    (refine dloop_st (fun t => List.contains [4, 5, 13, 14, 15, 16, 17, 18, 19, 20, 21, 22, 23, 24, 25] t) (by kernel_rfl) ?_ (p.length) (fun i f => i ≤ p.length ∧ f 13 = .v (.int .i64 (i : Nat)) ∧ (∀ j, j < i → p[j]? = q[j]?)) ?_ ?_; (exact (by (repeat' first | assumption | refine St.WF.leave ?_ _ | refine St.WF.add ?_ _ | refine St.WF.set ?_ (by (first | omega | (simp only [RowOk.lo, add_next, set_next, grow_next, leave_next]; first | done | omega))) _ | refine St.WF.grow ?_ _ _ _ | refine St.WF.keep ?_ (by first | assumption | (first | omega | (simp only [RowOk.lo, add_next, set_next, grow_next, leave_next]; first | done | omega)))))); (exact ⟨(by omega), (by (first | (simp (disch := first | decide | omega | (simp only [add_next, set_next, grow_next, leave_next, List.length_map]; first | done | omega)) only [go_sem, ↓reduceIte, Nat.reduceBEq, Nat.reduceAdd, Nat.reduceLeDiff, Nat.reduceEqDiff, Nat.reduceLT, ob_hit, ob_skip, ob_set, ob_old, getD_map, Int.natCast_nonneg, true_and, and_true, int_zero, beq_self_eq_true, Int.toNat_zero, List.getD_cons_zero, List.getD_cons_succ, List.range_zero, List.mem_cons, List.not_mem_nil, or_false, forall_eq, forall_eq_or_imp, false_implies, implies_true, Nat.reduceMul, Option.isSome_some, bnd, or_true, Int.toNat_one, Int.le_refl, ge_iff_le, gt_iff_lt]; done) | (simp (disch := first | decide | omega | (simp only [add_next, set_next, grow_next, leave_next, List.length_map]; first | done | omega)) only [go_sem, ↓reduceIte, Nat.reduceBEq, Nat.reduceAdd, Nat.reduceLeDiff, Nat.reduceEqDiff, Nat.reduceLT, ob_hit, ob_skip, ob_set, ob_old, getD_map, Int.natCast_nonneg, true_and, and_true, int_zero, beq_self_eq_true, Int.toNat_zero, List.getD_cons_zero, List.getD_cons_succ, List.range_zero, List.mem_cons, List.not_mem_nil, or_false, forall_eq, forall_eq_or_imp, false_implies, implies_true, Nat.reduceMul, Option.isSome_some, bnd, or_true, Int.toNat_one, Int.le_refl, ge_iff_le, gt_iff_lt]; rfl) | rfl)), (fun j hj => by omega)⟩); intro i g tn hn hT hg hI; obtain ⟨le, q13, hsame⟩ := hI; have q0 := hg 0 rfl; have q1 := hg 1 rfl; have q12 := hg 12 rfl; simp (disch := first | decide | omega | (simp only [add_next, set_next, grow_next, leave_next, List.length_map]; first | done | omega)) only [go_sem, ↓reduceIte, Nat.reduceBEq, Nat.reduceAdd, Nat.reduceLeDiff, Nat.reduceEqDiff, Nat.reduceLT, ob_hit, ob_skip, ob_set, ob_old, getD_map, Int.natCast_nonneg, true_and, and_true, int_zero, beq_self_eq_true, Int.toNat_zero, List.getD_cons_zero, List.getD_cons_succ, List.range_zero, List.mem_cons, List.not_mem_nil, or_false, forall_eq, forall_eq_or_imp, false_implies, implies_true, Nat.reduceMul, Option.isSome_some, bnd, or_true, Int.toNat_one, Int.le_refl, ge_iff_le, gt_iff_lt] at q0 q1 q12; clear hg; have hn' := hn; try simp only [add_next, set_next, grow_next, leave_next] at hn')
    by_cases hlt : i < p.length
    · have b1 : decide ((i : Int) < (p.length : Int)) = true := by simp; omega
      have w1 : IntKind.i64.wrap ((i : Int) + 1) = ((i + 1 : Nat) : Int) := IntWalk.i64_in _ ⟨by omega, by omega⟩
      have hlt2 : i < q.length := by omega
      by_cases hx : p[i] = q[i]
      · have b2 : (!decide (p[i] = q[i])) = false := by simp [hx]
        (simp (disch := first | decide | omega | (simp only [add_next, set_next, grow_next, leave_next, List.length_map]; first | done | omega)) only [go_sem, ↓reduceIte, Nat.reduceBEq, Nat.reduceAdd, Nat.reduceLeDiff, Nat.reduceEqDiff, Nat.reduceLT, ob_hit, ob_skip, ob_set, ob_old, getD_map, Int.natCast_nonneg, true_and, and_true, int_zero, beq_self_eq_true, Int.toNat_zero, List.getD_cons_zero, List.getD_cons_succ, List.range_zero, List.mem_cons, List.not_mem_nil, or_false, forall_eq, forall_eq_or_imp, false_implies, implies_true, Nat.reduceMul, Option.isSome_some, bnd, or_true, Int.toNat_one, Int.le_refl, ge_iff_le, gt_iff_lt, q0, q1, q12, q13, b1, b2, w1]; (repeat (with_reducible refine And.intro (by first | omega | assumption | rfl) ?_)))
        refine ddraw_mk 9 (by kernel_rfl) ?_
        (simp (disch := first | decide | omega | (simp only [add_next, set_next, grow_next, leave_next, List.length_map]; first | done | omega)) only [go_sem, ↓reduceIte, Nat.reduceBEq, Nat.reduceAdd, Nat.reduceLeDiff, Nat.reduceEqDiff, Nat.reduceLT, ob_hit, ob_skip, ob_set, ob_old, getD_map, Int.natCast_nonneg, true_and, and_true, int_zero, beq_self_eq_true, Int.toNat_zero, List.getD_cons_zero, List.getD_cons_succ, List.range_zero, List.mem_cons, List.not_mem_nil, or_false, forall_eq, forall_eq_or_imp, false_implies, implies_true, Nat.reduceMul, Option.isSome_some, bnd, or_true, Int.toNat_one, Int.le_refl, ge_iff_le, gt_iff_lt, q0, q1, q12, q13, b1, b2, w1]; (repeat (with_reducible refine And.intro (by first | omega | assumption | rfl) ?_)))
        (refine ⟨by omega, (by (repeat' first | exact St.Sub.refl _ | assumption | (exact RowOk.sub (by assumption) (by assumption)) | (refine St.Sub.trans ?_ (RowOk.sub (by assumption) (by assumption))) | (exact St.Sub.keep (St.Sub.refl _) (by first | assumption | (first | omega | (simp only [RowOk.lo, add_next, set_next, grow_next, leave_next]; first | done | omega)))) | refine St.Sub.add ?_ (by (repeat' first | assumption | refine St.WF.leave ?_ _ | refine St.WF.add ?_ _ | refine St.WF.set ?_ (by (first | omega | (simp only [RowOk.lo, add_next, set_next, grow_next, leave_next]; first | done | omega))) _ | refine St.WF.grow ?_ _ _ _ | refine St.WF.keep ?_ (by first | assumption | (first | omega | (simp only [RowOk.lo, add_next, set_next, grow_next, leave_next]; first | done | omega))))) _ | refine St.Sub.set ?_ (by (repeat' first | assumption | refine St.WF.leave ?_ _ | refine St.WF.add ?_ _ | refine St.WF.set ?_ (by (first | omega | (simp only [RowOk.lo, add_next, set_next, grow_next, leave_next]; first | done | omega))) _ | refine St.WF.grow ?_ _ _ _ | refine St.WF.keep ?_ (by first | assumption | (first | omega | (simp only [RowOk.lo, add_next, set_next, grow_next, leave_next]; first | done | omega))))) (by (first | omega | (simp only [RowOk.lo, add_next, set_next, grow_next, leave_next]; first | done | omega))) _ | refine St.Sub.keep ?_ (by first | assumption | (first | omega | (simp only [RowOk.lo, add_next, set_next, grow_next, leave_next]; first | done | omega))))), ?_⟩; refine ⟨by omega, ?_, ?_⟩; all_goals (try (first | (simp (disch := first | decide | omega | (simp only [add_next, set_next, grow_next, leave_next, List.length_map]; first | done | omega)) only [go_sem, ↓reduceIte, Nat.reduceBEq, Nat.reduceAdd, Nat.reduceLeDiff, Nat.reduceEqDiff, Nat.reduceLT, ob_hit, ob_skip, ob_set, ob_old, getD_map, Int.natCast_nonneg, true_and, and_true, int_zero, beq_self_eq_true, Int.toNat_zero, List.getD_cons_zero, List.getD_cons_succ, List.range_zero, List.mem_cons, List.not_mem_nil, or_false, forall_eq, forall_eq_or_imp, false_implies, implies_true, Nat.reduceMul, Option.isSome_some, bnd, or_true, Int.toNat_one, Int.le_refl, ge_iff_le, gt_iff_lt, w1]; done) | (simp (disch := first | decide | omega | (simp only [add_next, set_next, grow_next, leave_next, List.length_map]; first | done | omega)) only [go_sem, ↓reduceIte, Nat.reduceBEq, Nat.reduceAdd, Nat.reduceLeDiff, Nat.reduceEqDiff, Nat.reduceLT, ob_hit, ob_skip, ob_set, ob_old, getD_map, Int.natCast_nonneg, true_and, and_true, int_zero, beq_self_eq_true, Int.toNat_zero, List.getD_cons_zero, List.getD_cons_succ, List.range_zero, List.mem_cons, List.not_mem_nil, or_false, forall_eq, forall_eq_or_imp, false_implies, implies_true, Nat.reduceMul, Option.isSome_some, bnd, or_true, Int.toNat_one, Int.le_refl, ge_iff_le, gt_iff_lt, w1]; rfl) | rfl)))
        intro j hj
        by_cases e : j = i
        · subst e; rw [List.getElem?_eq_getElem hlt, List.getElem?_eq_getElem hlt2, hx]
        · exact hsame j (by omega)
      · have b2 : (!decide (p[i] = q[i])) = true := by simp [hx]
        (simp (disch := first | decide | omega | (simp only [add_next, set_next, grow_next, leave_next, List.length_map]; first | done | omega)) only [go_sem, ↓reduceIte, Nat.reduceBEq, Nat.reduceAdd, Nat.reduceLeDiff, Nat.reduceEqDiff, Nat.reduceLT, ob_hit, ob_skip, ob_set, ob_old, getD_map, Int.natCast_nonneg, true_and, and_true, int_zero, beq_self_eq_true, Int.toNat_zero, List.getD_cons_zero, List.getD_cons_succ, List.range_zero, List.mem_cons, List.not_mem_nil, or_false, forall_eq, forall_eq_or_imp, false_implies, implies_true, Nat.reduceMul, Option.isSome_some, bnd, or_true, Int.toNat_one, Int.le_refl, ge_iff_le, gt_iff_lt, q0, q1, q12, q13, b1, b2]; (repeat (with_reducible refine And.intro (by first | omega | assumption | rfl) ?_)))
        refine ddraw_mk 9 (by kernel_rfl) ?_
        (simp (disch := first | decide | omega | (simp only [add_next, set_next, grow_next, leave_next, List.length_map]; first | done | omega)) only [go_sem, ↓reduceIte, Nat.reduceBEq, Nat.reduceAdd, Nat.reduceLeDiff, Nat.reduceEqDiff, Nat.reduceLT, ob_hit, ob_skip, ob_set, ob_old, getD_map, Int.natCast_nonneg, true_and, and_true, int_zero, beq_self_eq_true, Int.toNat_zero, List.getD_cons_zero, List.getD_cons_succ, List.range_zero, List.mem_cons, List.not_mem_nil, or_false, forall_eq, forall_eq_or_imp, false_implies, implies_true, Nat.reduceMul, Option.isSome_some, bnd, or_true, Int.toNat_one, Int.le_refl, ge_iff_le, gt_iff_lt, q0, q1, q12, q13, b1, b2]; (repeat (with_reducible refine And.intro (by first | omega | assumption | rfl) ?_)))
        refine ⟨?_, (by (repeat' first | exact St.Sub.refl _ | assumption | (exact RowOk.sub (by assumption) (by assumption)) | (refine St.Sub.trans ?_ (RowOk.sub (by assumption) (by assumption))) | (exact St.Sub.keep (St.Sub.refl _) (by first | assumption | (first | omega | (simp only [RowOk.lo, add_next, set_next, grow_next, leave_next]; first | done | omega)))) | refine St.Sub.add ?_ (by (repeat' first | assumption | refine St.WF.leave ?_ _ | refine St.WF.add ?_ _ | refine St.WF.set ?_ (by (first | omega | (simp only [RowOk.lo, add_next, set_next, grow_next, leave_next]; first | done | omega))) _ | refine St.WF.grow ?_ _ _ _ | refine St.WF.keep ?_ (by first | assumption | (first | omega | (simp only [RowOk.lo, add_next, set_next, grow_next, leave_next]; first | done | omega))))) _ | refine St.Sub.set ?_ (by (repeat' first | assumption | refine St.WF.leave ?_ _ | refine St.WF.add ?_ _ | refine St.WF.set ?_ (by (first | omega | (simp only [RowOk.lo, add_next, set_next, grow_next, leave_next]; first | done | omega))) _ | refine St.WF.grow ?_ _ _ _ | refine St.WF.keep ?_ (by first | assumption | (first | omega | (simp only [RowOk.lo, add_next, set_next, grow_next, leave_next]; first | done | omega))))) (by (first | omega | (simp only [RowOk.lo, add_next, set_next, grow_next, leave_next]; first | done | omega))) _ | refine St.Sub.keep ?_ (by first | assumption | (first | omega | (simp only [RowOk.lo, add_next, set_next, grow_next, leave_next]; first | done | omega)))))⟩
        rw [decide_eq_false]
        · rfl
        · intro e; subst e; exact hx rfl
    · have b1 : decide ((i : Int) < (p.length : Int)) = false := by simp; omega
      (simp (disch := first | decide | omega | (simp only [add_next, set_next, grow_next, leave_next, List.length_map]; first | done | omega)) only [go_sem, ↓reduceIte, Nat.reduceBEq, Nat.reduceAdd, Nat.reduceLeDiff, Nat.reduceEqDiff, Nat.reduceLT, ob_hit, ob_skip, ob_set, ob_old, getD_map, Int.natCast_nonneg, true_and, and_true, int_zero, beq_self_eq_true, Int.toNat_zero, List.getD_cons_zero, List.getD_cons_succ, List.range_zero, List.mem_cons, List.not_mem_nil, or_false, forall_eq, forall_eq_or_imp, false_implies, implies_true, Nat.reduceMul, Option.isSome_some, bnd, or_true, Int.toNat_one, Int.le_refl, ge_iff_le, gt_iff_lt, q0, q1, q12, q13, b1]; (repeat (with_reducible refine And.intro (by first | omega | assumption | rfl) ?_)))
      refine ⟨?_, (by (repeat' first | exact St.Sub.refl _ | assumption | (exact RowOk.sub (by assumption) (by assumption)) | (refine St.Sub.trans ?_ (RowOk.sub (by assumption) (by assumption))) | (exact St.Sub.keep (St.Sub.refl _) (by first | assumption | (first | omega | (simp only [RowOk.lo, add_next, set_next, grow_next, leave_next]; first | done | omega)))) | refine St.Sub.add ?_ (by (repeat' first | assumption | refine St.WF.leave ?_ _ | refine St.WF.add ?_ _ | refine St.WF.set ?_ (by (first | omega | (simp only [RowOk.lo, add_next, set_next, grow_next, leave_next]; first | done | omega))) _ | refine St.WF.grow ?_ _ _ _ | refine St.WF.keep ?_ (by first | assumption | (first | omega | (simp only [RowOk.lo, add_next, set_next, grow_next, leave_next]; first | done | omega))))) _ | refine St.Sub.set ?_ (by (repeat' first | assumption | refine St.WF.leave ?_ _ | refine St.WF.add ?_ _ | refine St.WF.set ?_ (by (first | omega | (simp only [RowOk.lo, add_next, set_next, grow_next, leave_next]; first | done | omega))) _ | refine St.WF.grow ?_ _ _ _ | refine St.WF.keep ?_ (by first | assumption | (first | omega | (simp only [RowOk.lo, add_next, set_next, grow_next, leave_next]; first | done | omega))))) (by (first | omega | (simp only [RowOk.lo, add_next, set_next, grow_next, leave_next]; first | done | omega))) _ | refine St.Sub.keep ?_ (by first | assumption | (first | omega | (simp only [RowOk.lo, add_next, set_next, grow_next, leave_next]; first | done | omega)))))⟩
      rw [decide_eq_true]
      · rfl
      · refine List.ext_getElem? fun j => ?_
        by_cases hj : j < i
        · exact hsame j hj
        · rw [List.getElem?_eq_none (by omega), List.getElem?_eq_none (by omega)]
  · have b0 : ((p.length : Int) != (q.length : Int)) = true := by simp; omega
    (simp (disch := first | decide | omega | (simp only [add_next, set_next, grow_next, leave_next, List.length_map]; first | done | omega)) only [go_sem, ↓reduceIte, Nat.reduceBEq, Nat.reduceAdd, Nat.reduceLeDiff, Nat.reduceEqDiff, Nat.reduceLT, ob_hit, ob_skip, ob_set, ob_old, getD_map, Int.natCast_nonneg, true_and, and_true, int_zero, beq_self_eq_true, Int.toNat_zero, List.getD_cons_zero, List.getD_cons_succ, List.range_zero, List.mem_cons, List.not_mem_nil, or_false, forall_eq, forall_eq_or_imp, false_implies, implies_true, Nat.reduceMul, Option.isSome_some, bnd, or_true, Int.toNat_one, Int.le_refl, ge_iff_le, gt_iff_lt, b0]; (repeat (with_reducible refine And.intro (by first | omega | assumption | rfl) ?_)))
    refine ⟨?_, (by (repeat' first | exact St.Sub.refl _ | assumption | (exact RowOk.sub (by assumption) (by assumption)) | (refine St.Sub.trans ?_ (RowOk.sub (by assumption) (by assumption))) | (exact St.Sub.keep (St.Sub.refl _) (by first | assumption | (first | omega | (simp only [RowOk.lo, add_next, set_next, grow_next, leave_next]; first | done | omega)))) | refine St.Sub.add ?_ (by (repeat' first | assumption | refine St.WF.leave ?_ _ | refine St.WF.add ?_ _ | refine St.WF.set ?_ (by (first | omega | (simp only [RowOk.lo, add_next, set_next, grow_next, leave_next]; first | done | omega))) _ | refine St.WF.grow ?_ _ _ _ | refine St.WF.keep ?_ (by first | assumption | (first | omega | (simp only [RowOk.lo, add_next, set_next, grow_next, leave_next]; first | done | omega))))) _ | refine St.Sub.set ?_ (by (repeat' first | assumption | refine St.WF.leave ?_ _ | refine St.WF.add ?_ _ | refine St.WF.set ?_ (by (first | omega | (simp only [RowOk.lo, add_next, set_next, grow_next, leave_next]; first | done | omega))) _ | refine St.WF.grow ?_ _ _ _ | refine St.WF.keep ?_ (by first | assumption | (first | omega | (simp only [RowOk.lo, add_next, set_next, grow_next, leave_next]; first | done | omega))))) (by (first | omega | (simp only [RowOk.lo, add_next, set_next, grow_next, leave_next]; first | done | omega))) _ | refine St.Sub.keep ?_ (by first | assumption | (first | omega | (simp only [RowOk.lo, add_next, set_next, grow_next, leave_next]; first | done | omega)))))⟩
    rw [decide_eq_false]
    · rfl
    · intro e; subst e; exact hl rfl
def begB (p q : List DStp) : Bool := decide (p.length ≤ q.length) && decide (p = q.take p.length)
theorem begB_iff {p q : List DStp} : begB p q = true ↔ p <+: q := by
  simp only [begB, Bool.and_eq_true, decide_eq_true_eq]
  constructor
  · rintro ⟨_, h⟩; exact List.prefix_iff_eq_take.2 h
  · intro h; exact ⟨h.length_le, List.prefix_iff_eq_take.1 h⟩
theorem take_map' {α β : Type} (f : α → β) (l : List α) (n : Nat) : (l.map f).take n = (l.take n).map f := List.map_take.symm
set_option maxRecDepth 200000 in
set_option maxHeartbeats 8000000 in
theorem begins_d (own own2 : Own) (p q : List DStp) (hp : p.length ≤ 1000000) (hq : q.length ≤ 1000000) : DPure Try.prog 34 [.sl own (p.map encP), .sl own2 (q.map encP)] (.v (.bool (begB p q))) := by
  refine dpure_of_dwp mixed Try.func34 rfl (fun _ _ => by kernel_rfl) (rs := [.tmp 4]) rfl (by kernel_rfl) trivial (fun S hS => ?_)
  by_cases hl : p.length ≤ q.length
  · have b0 : decide ((p.length : Int) ≤ (q.length : Int)) = true := by simp; omega
    (simp (disch := first | decide | omega | (simp only [add_next, set_next, grow_next, leave_next, List.length_map]; first | done | omega)) only [go_sem, ↓reduceIte, Nat.reduceBEq, Nat.reduceAdd, Nat.reduceLeDiff, Nat.reduceEqDiff, Nat.reduceLT, ob_hit, ob_skip, ob_set, ob_old, getD_map, Int.natCast_nonneg, true_and, and_true, int_zero, beq_self_eq_true, Int.toNat_zero, List.getD_cons_zero, List.getD_cons_succ, List.range_zero, List.mem_cons, List.not_mem_nil, or_false, forall_eq, forall_eq_or_imp, false_implies, implies_true, Nat.reduceMul, Option.isSome_some, bnd, or_true, Int.toNat_one, Int.le_refl, ge_iff_le, gt_iff_lt, b0, take_map']; (repeat (with_reducible refine And.intro (by first | omega | assumption | rfl) ?_)))
    refine DCalls.of_pure (stepsEq_d own .no p (q.take p.length) hp (by rw [List.length_take]; omega)) ?_
    (simp (disch := first | decide | omega | (simp only [add_next, set_next, grow_next, leave_next, List.length_map]; first | done | omega)) only [go_sem, ↓reduceIte, Nat.reduceBEq, Nat.reduceAdd, Nat.reduceLeDiff, Nat.reduceEqDiff, Nat.reduceLT, ob_hit, ob_skip, ob_set, ob_old, getD_map, Int.natCast_nonneg, true_and, and_true, int_zero, beq_self_eq_true, Int.toNat_zero, List.getD_cons_zero, List.getD_cons_succ, List.range_zero, List.mem_cons, List.not_mem_nil, or_false, forall_eq, forall_eq_or_imp, false_implies, implies_true, Nat.reduceMul, Option.isSome_some, bnd, or_true, Int.toNat_one, Int.le_refl, ge_iff_le, gt_iff_lt]; (repeat (with_reducible refine And.intro (by first | omega | assumption | rfl) ?_)))
    refine ⟨?_, (by (repeat' first | exact St.Sub.refl _ | assumption | (exact RowOk.sub (by assumption) (by assumption)) | (refine St.Sub.trans ?_ (RowOk.sub (by assumption) (by assumption))) | (exact St.Sub.keep (St.Sub.refl _) (by first | assumption | (first | omega | (simp only [RowOk.lo, add_next, set_next, grow_next, leave_next]; first | done | omega)))) | refine St.Sub.add ?_ (by (repeat' first | assumption | refine St.WF.leave ?_ _ | refine St.WF.add ?_ _ | refine St.WF.set ?_ (by (first | omega | (simp only [RowOk.lo, add_next, set_next, grow_next, leave_next]; first | done | omega))) _ | refine St.WF.grow ?_ _ _ _ | refine St.WF.keep ?_ (by first | assumption | (first | omega | (simp only [RowOk.lo, add_next, set_next, grow_next, leave_next]; first | done | omega))))) _ | refine St.Sub.set ?_ (by (repeat' first | assumption | refine St.WF.leave ?_ _ | refine St.WF.add ?_ _ | refine St.WF.set ?_ (by (first | omega | (simp only [RowOk.lo, add_next, set_next, grow_next, leave_next]; first | done | omega))) _ | refine St.WF.grow ?_ _ _ _ | refine St.WF.keep ?_ (by first | assumption | (first | omega | (simp only [RowOk.lo, add_next, set_next, grow_next, leave_next]; first | done | omega))))) (by (first | omega | (simp only [RowOk.lo, add_next, set_next, grow_next, leave_next]; first | done | omega))) _ | refine St.Sub.keep ?_ (by first | assumption | (first | omega | (simp only [RowOk.lo, add_next, set_next, grow_next, leave_next]; first | done | omega)))))⟩
    rw [begB, decide_eq_true hl, Bool.true_and]; rfl
  · have b0 : decide ((p.length : Int) ≤ (q.length : Int)) = false := by simp; omega
    (simp (disch := first | decide | omega | (simp only [add_next, set_next, grow_next, leave_next, List.length_map]; first | done | omega)) only [go_sem, ↓reduceIte, Nat.reduceBEq, Nat.reduceAdd, Nat.reduceLeDiff, Nat.reduceEqDiff, Nat.reduceLT, ob_hit, ob_skip, ob_set, ob_old, getD_map, Int.natCast_nonneg, true_and, and_true, int_zero, beq_self_eq_true, Int.toNat_zero, List.getD_cons_zero, List.getD_cons_succ, List.range_zero, List.mem_cons, List.not_mem_nil, or_false, forall_eq, forall_eq_or_imp, false_implies, implies_true, Nat.reduceMul, Option.isSome_some, bnd, or_true, Int.toNat_one, Int.le_refl, ge_iff_le, gt_iff_lt, b0]; (repeat (with_reducible refine And.intro (by first | omega | assumption | rfl) ?_)))
    refine ⟨?_, (by (repeat' first | exact St.Sub.refl _ | assumption | (exact RowOk.sub (by assumption) (by assumption)) | (refine St.Sub.trans ?_ (RowOk.sub (by assumption) (by assumption))) | (exact St.Sub.keep (St.Sub.refl _) (by first | assumption | (first | omega | (simp only [RowOk.lo, add_next, set_next, grow_next, leave_next]; first | done | omega)))) | refine St.Sub.add ?_ (by (repeat' first | assumption | refine St.WF.leave ?_ _ | refine St.WF.add ?_ _ | refine St.WF.set ?_ (by (first | omega | (simp only [RowOk.lo, add_next, set_next, grow_next, leave_next]; first | done | omega))) _ | refine St.WF.grow ?_ _ _ _ | refine St.WF.keep ?_ (by first | assumption | (first | omega | (simp only [RowOk.lo, add_next, set_next, grow_next, leave_next]; first | done | omega))))) _ | refine St.Sub.set ?_ (by (repeat' first | assumption | refine St.WF.leave ?_ _ | refine St.WF.add ?_ _ | refine St.WF.set ?_ (by (first | omega | (simp only [RowOk.lo, add_next, set_next, grow_next, leave_next]; first | done | omega))) _ | refine St.WF.grow ?_ _ _ _ | refine St.WF.keep ?_ (by first | assumption | (first | omega | (simp only [RowOk.lo, add_next, set_next, grow_next, leave_next]; first | done | omega))))) (by (first | omega | (simp only [RowOk.lo, add_next, set_next, grow_next, leave_next]; first | done | omega))) _ | refine St.Sub.keep ?_ (by first | assumption | (first | omega | (simp only [RowOk.lo, add_next, set_next, grow_next, leave_next]; first | done | omega)))))⟩
    rw [begB, decide_eq_false hl, Bool.false_and]; rfl
theorem cv_u8 (n : Int) : pureRun Try.prog (convert 5 3 (.int .u8 n)) = some (.int .i64 (IntKind.i64.wrap n)) := by
  kernel_rfl
theorem bin_rem {P : Program} {t : TypeId} {x y : Operand} (k : IntKind) (a b : Int) (hb : b ≠ 0) : dbin P .rem t x y (.v (.int k a)) (.v (.int k b)) = some (True, .v (.int k (a.tmod b))) := by
  simp [dbin, eqGuard, binOp, Op.intDiv, pureRun_bind, pureRun_pure, hb]
theorem tmod_nat (a b : Nat) : (a : Int).tmod (b : Int) = ((a % b : Nat) : Int) := rfl
end Go.Proofs.Ytpnjkebjdclkfaa

/- Great paths, walked. Conditions: none. -/
namespace Go.Proofs.Ytpnjkebjdclkfaa
open Go.RowKit
set_option linter.unusedSimpArgs false
def greatP (p : List DStp) : Bool := decide (40 < p.length) || p.any fun q => decide (100 < q.1.length)
set_option maxRecDepth 200000 in
set_option maxHeartbeats 8000000 in
theorem greatP_d (p : List DStp) (own : Own) : DPure Try.prog 35 [.sl own (p.map encP)] (.v (.bool (greatP p))) := by
  refine dpure_of_dwp mixed Try.func35 rfl (fun _ _ => by kernel_rfl) (rs := [.tmp 2]) rfl (by kernel_rfl) trivial (fun S hS => ?_)
  by_cases hl : 40 < p.length
  · have b0 : decide ((40 : Int) < (p.length : Int)) = true := by simp; omega
    (simp (disch := first | decide | omega | (simp only [add_next, set_next, grow_next, leave_next, List.length_map]; first | done | omega)) only [go_sem, ↓reduceIte, Nat.reduceBEq, Nat.reduceAdd, Nat.reduceLeDiff, Nat.reduceEqDiff, Nat.reduceLT, ob_hit, ob_skip, ob_set, ob_old, getD_map, Int.natCast_nonneg, true_and, and_true, int_zero, beq_self_eq_true, Int.toNat_zero, List.getD_cons_zero, List.getD_cons_succ, List.range_zero, List.mem_cons, List.not_mem_nil, or_false, forall_eq, forall_eq_or_imp, false_implies, implies_true, Nat.reduceMul, Option.isSome_some, bnd, or_true, Int.toNat_one, Int.le_refl, ge_iff_le, gt_iff_lt, b0]; (repeat (with_reducible refine And.intro (by first | omega | assumption | rfl) ?_)))
    refine ⟨?_, (by (repeat' first | exact St.Sub.refl _ | assumption | (exact RowOk.sub (by assumption) (by assumption)) | (refine St.Sub.trans ?_ (RowOk.sub (by assumption) (by assumption))) | (exact St.Sub.keep (St.Sub.refl _) (by first | assumption | (first | omega | (simp only [RowOk.lo, add_next, set_next, grow_next, leave_next]; first | done | omega)))) | refine St.Sub.add ?_ (by (repeat' first | assumption | refine St.WF.leave ?_ _ | refine St.WF.add ?_ _ | refine St.WF.set ?_ (by (first | omega | (simp only [RowOk.lo, add_next, set_next, grow_next, leave_next]; first | done | omega))) _ | refine St.WF.grow ?_ _ _ _ | refine St.WF.keep ?_ (by first | assumption | (first | omega | (simp only [RowOk.lo, add_next, set_next, grow_next, leave_next]; first | done | omega))))) _ | refine St.Sub.set ?_ (by (repeat' first | assumption | refine St.WF.leave ?_ _ | refine St.WF.add ?_ _ | refine St.WF.set ?_ (by (first | omega | (simp only [RowOk.lo, add_next, set_next, grow_next, leave_next]; first | done | omega))) _ | refine St.WF.grow ?_ _ _ _ | refine St.WF.keep ?_ (by first | assumption | (first | omega | (simp only [RowOk.lo, add_next, set_next, grow_next, leave_next]; first | done | omega))))) (by (first | omega | (simp only [RowOk.lo, add_next, set_next, grow_next, leave_next]; first | done | omega))) _ | refine St.Sub.keep ?_ (by first | assumption | (first | omega | (simp only [RowOk.lo, add_next, set_next, grow_next, leave_next]; first | done | omega)))))⟩
    rw [greatP, decide_eq_true hl]; rfl
  · have b0 : decide ((40 : Int) < (p.length : Int)) = false := by simp; omega
    (simp (disch := first | decide | omega | (simp only [add_next, set_next, grow_next, leave_next, List.length_map]; first | done | omega)) only [go_sem, ↓reduceIte, Nat.reduceBEq, Nat.reduceAdd, Nat.reduceLeDiff, Nat.reduceEqDiff, Nat.reduceLT, ob_hit, ob_skip, ob_set, ob_old, getD_map, Int.natCast_nonneg, true_and, and_true, int_zero, beq_self_eq_true, Int.toNat_zero, List.getD_cons_zero, List.getD_cons_succ, List.range_zero, List.mem_cons, List.not_mem_nil, or_false, forall_eq, forall_eq_or_imp, false_implies, implies_true, Nat.reduceMul, Option.isSome_some, bnd, or_true, Int.toNat_one, Int.le_refl, ge_iff_le, gt_iff_lt, b0]; (repeat (with_reducible refine And.intro (by first | omega | assumption | rfl) ?_)))
    (refine dloop_st (fun t => List.contains [2, 3, 7, 8, 9, 10, 11, 12, 13, 14, 15, 16, 17, 18, 19] t) (by kernel_rfl) ?_ (p.length) (fun i f => i ≤ p.length ∧ f 3 = .v (.int .i64 (i : Nat)) ∧ (∀ j (hj : j < p.length), j < i → ¬ 100 < p[j].1.length)) ?_ ?_; (exact (by (repeat' first | assumption | refine St.WF.leave ?_ _ | refine St.WF.add ?_ _ | refine St.WF.set ?_ (by (first | omega | (simp only [RowOk.lo, add_next, set_next, grow_next, leave_next]; first | done | omega))) _ | refine St.WF.grow ?_ _ _ _ | refine St.WF.keep ?_ (by first | assumption | (first | omega | (simp only [RowOk.lo, add_next, set_next, grow_next, leave_next]; first | done | omega)))))); (exact ⟨(by omega), (by (first | (simp (disch := first | decide | omega | (simp only [add_next, set_next, grow_next, leave_next, List.length_map]; first | done | omega)) only [go_sem, ↓reduceIte, Nat.reduceBEq, Nat.reduceAdd, Nat.reduceLeDiff, Nat.reduceEqDiff, Nat.reduceLT, ob_hit, ob_skip, ob_set, ob_old, getD_map, Int.natCast_nonneg, true_and, and_true, int_zero, beq_self_eq_true, Int.toNat_zero, List.getD_cons_zero, List.getD_cons_succ, List.range_zero, List.mem_cons, List.not_mem_nil, or_false, forall_eq, forall_eq_or_imp, false_implies, implies_true, Nat.reduceMul, Option.isSome_some, bnd, or_true, Int.toNat_one, Int.le_refl, ge_iff_le, gt_iff_lt]; done) | (simp (disch := first | decide | omega | (simp only [add_next, set_next, grow_next, leave_next, List.length_map]; first | done | omega)) only [go_sem, ↓reduceIte, Nat.reduceBEq, Nat.reduceAdd, Nat.reduceLeDiff, Nat.reduceEqDiff, Nat.reduceLT, ob_hit, ob_skip, ob_set, ob_old, getD_map, Int.natCast_nonneg, true_and, and_true, int_zero, beq_self_eq_true, Int.toNat_zero, List.getD_cons_zero, List.getD_cons_succ, List.range_zero, List.mem_cons, List.not_mem_nil, or_false, forall_eq, forall_eq_or_imp, false_implies, implies_true, Nat.reduceMul, Option.isSome_some, bnd, or_true, Int.toNat_one, Int.le_refl, ge_iff_le, gt_iff_lt]; rfl) | rfl)), (fun j _ hj => by omega)⟩); intro i g tn hn hT hg hI; obtain ⟨le, q3, hno⟩ := hI; have q0 := hg 0 rfl; simp (disch := first | decide | omega | (simp only [add_next, set_next, grow_next, leave_next, List.length_map]; first | done | omega)) only [go_sem, ↓reduceIte, Nat.reduceBEq, Nat.reduceAdd, Nat.reduceLeDiff, Nat.reduceEqDiff, Nat.reduceLT, ob_hit, ob_skip, ob_set, ob_old, getD_map, Int.natCast_nonneg, true_and, and_true, int_zero, beq_self_eq_true, Int.toNat_zero, List.getD_cons_zero, List.getD_cons_succ, List.range_zero, List.mem_cons, List.not_mem_nil, or_false, forall_eq, forall_eq_or_imp, false_implies, implies_true, Nat.reduceMul, Option.isSome_some, bnd, or_true, Int.toNat_one, Int.le_refl, ge_iff_le, gt_iff_lt] at q0; clear hg; have hn' := hn; try simp only [add_next, set_next, grow_next, leave_next] at hn')
    by_cases hlt : i < p.length
    · have b1 : decide ((i : Int) < (p.length : Int)) = true := by simp; omega
      have w1 : IntKind.i64.wrap ((i : Int) + 1) = ((i + 1 : Nat) : Int) := IntWalk.i64_in _ ⟨by omega, by omega⟩
      by_cases hx : 100 < p[i].1.length
      · have b2 : decide ((100 : Int) < (p[i].1.length : Int)) = true := by simp; omega
        (simp (disch := first | decide | omega | (simp only [add_next, set_next, grow_next, leave_next, List.length_map]; first | done | omega)) only [go_sem, ↓reduceIte, Nat.reduceBEq, Nat.reduceAdd, Nat.reduceLeDiff, Nat.reduceEqDiff, Nat.reduceLT, ob_hit, ob_skip, ob_set, ob_old, getD_map, Int.natCast_nonneg, true_and, and_true, int_zero, beq_self_eq_true, Int.toNat_zero, List.getD_cons_zero, List.getD_cons_succ, List.range_zero, List.mem_cons, List.not_mem_nil, or_false, forall_eq, forall_eq_or_imp, false_implies, implies_true, Nat.reduceMul, Option.isSome_some, bnd, or_true, Int.toNat_one, Int.le_refl, ge_iff_le, gt_iff_lt, q0, q3, b1, b2, strB_size]; (repeat (with_reducible refine And.intro (by first | omega | assumption | rfl) ?_)))
        refine ⟨?_, (by (repeat' first | exact St.Sub.refl _ | assumption | (exact RowOk.sub (by assumption) (by assumption)) | (refine St.Sub.trans ?_ (RowOk.sub (by assumption) (by assumption))) | (exact St.Sub.keep (St.Sub.refl _) (by first | assumption | (first | omega | (simp only [RowOk.lo, add_next, set_next, grow_next, leave_next]; first | done | omega)))) | refine St.Sub.add ?_ (by (repeat' first | assumption | refine St.WF.leave ?_ _ | refine St.WF.add ?_ _ | refine St.WF.set ?_ (by (first | omega | (simp only [RowOk.lo, add_next, set_next, grow_next, leave_next]; first | done | omega))) _ | refine St.WF.grow ?_ _ _ _ | refine St.WF.keep ?_ (by first | assumption | (first | omega | (simp only [RowOk.lo, add_next, set_next, grow_next, leave_next]; first | done | omega))))) _ | refine St.Sub.set ?_ (by (repeat' first | assumption | refine St.WF.leave ?_ _ | refine St.WF.add ?_ _ | refine St.WF.set ?_ (by (first | omega | (simp only [RowOk.lo, add_next, set_next, grow_next, leave_next]; first | done | omega))) _ | refine St.WF.grow ?_ _ _ _ | refine St.WF.keep ?_ (by first | assumption | (first | omega | (simp only [RowOk.lo, add_next, set_next, grow_next, leave_next]; first | done | omega))))) (by (first | omega | (simp only [RowOk.lo, add_next, set_next, grow_next, leave_next]; first | done | omega))) _ | refine St.Sub.keep ?_ (by first | assumption | (first | omega | (simp only [RowOk.lo, add_next, set_next, grow_next, leave_next]; first | done | omega)))))⟩
        have h1 : (p.any fun q => decide (100 < q.1.length)) = true := List.any_eq_true.2 ⟨p[i], List.getElem_mem hlt, by simp [hx]⟩
        rw [greatP, h1, Bool.or_true]; rfl
      · have b2 : decide ((100 : Int) < (p[i].1.length : Int)) = false := by simp; omega
        (simp (disch := first | decide | omega | (simp only [add_next, set_next, grow_next, leave_next, List.length_map]; first | done | omega)) only [go_sem, ↓reduceIte, Nat.reduceBEq, Nat.reduceAdd, Nat.reduceLeDiff, Nat.reduceEqDiff, Nat.reduceLT, ob_hit, ob_skip, ob_set, ob_old, getD_map, Int.natCast_nonneg, true_and, and_true, int_zero, beq_self_eq_true, Int.toNat_zero, List.getD_cons_zero, List.getD_cons_succ, List.range_zero, List.mem_cons, List.not_mem_nil, or_false, forall_eq, forall_eq_or_imp, false_implies, implies_true, Nat.reduceMul, Option.isSome_some, bnd, or_true, Int.toNat_one, Int.le_refl, ge_iff_le, gt_iff_lt, q0, q3, b1, b2, strB_size, w1]; (repeat (with_reducible refine And.intro (by first | omega | assumption | rfl) ?_)))
        (refine ⟨by omega, (by (repeat' first | exact St.Sub.refl _ | assumption | (exact RowOk.sub (by assumption) (by assumption)) | (refine St.Sub.trans ?_ (RowOk.sub (by assumption) (by assumption))) | (exact St.Sub.keep (St.Sub.refl _) (by first | assumption | (first | omega | (simp only [RowOk.lo, add_next, set_next, grow_next, leave_next]; first | done | omega)))) | refine St.Sub.add ?_ (by (repeat' first | assumption | refine St.WF.leave ?_ _ | refine St.WF.add ?_ _ | refine St.WF.set ?_ (by (first | omega | (simp only [RowOk.lo, add_next, set_next, grow_next, leave_next]; first | done | omega))) _ | refine St.WF.grow ?_ _ _ _ | refine St.WF.keep ?_ (by first | assumption | (first | omega | (simp only [RowOk.lo, add_next, set_next, grow_next, leave_next]; first | done | omega))))) _ | refine St.Sub.set ?_ (by (repeat' first | assumption | refine St.WF.leave ?_ _ | refine St.WF.add ?_ _ | refine St.WF.set ?_ (by (first | omega | (simp only [RowOk.lo, add_next, set_next, grow_next, leave_next]; first | done | omega))) _ | refine St.WF.grow ?_ _ _ _ | refine St.WF.keep ?_ (by first | assumption | (first | omega | (simp only [RowOk.lo, add_next, set_next, grow_next, leave_next]; first | done | omega))))) (by (first | omega | (simp only [RowOk.lo, add_next, set_next, grow_next, leave_next]; first | done | omega))) _ | refine St.Sub.keep ?_ (by first | assumption | (first | omega | (simp only [RowOk.lo, add_next, set_next, grow_next, leave_next]; first | done | omega))))), ?_⟩; refine ⟨by omega, ?_, ?_⟩; all_goals (try (first | (simp (disch := first | decide | omega | (simp only [add_next, set_next, grow_next, leave_next, List.length_map]; first | done | omega)) only [go_sem, ↓reduceIte, Nat.reduceBEq, Nat.reduceAdd, Nat.reduceLeDiff, Nat.reduceEqDiff, Nat.reduceLT, ob_hit, ob_skip, ob_set, ob_old, getD_map, Int.natCast_nonneg, true_and, and_true, int_zero, beq_self_eq_true, Int.toNat_zero, List.getD_cons_zero, List.getD_cons_succ, List.range_zero, List.mem_cons, List.not_mem_nil, or_false, forall_eq, forall_eq_or_imp, false_implies, implies_true, Nat.reduceMul, Option.isSome_some, bnd, or_true, Int.toNat_one, Int.le_refl, ge_iff_le, gt_iff_lt, w1]; done) | (simp (disch := first | decide | omega | (simp only [add_next, set_next, grow_next, leave_next, List.length_map]; first | done | omega)) only [go_sem, ↓reduceIte, Nat.reduceBEq, Nat.reduceAdd, Nat.reduceLeDiff, Nat.reduceEqDiff, Nat.reduceLT, ob_hit, ob_skip, ob_set, ob_old, getD_map, Int.natCast_nonneg, true_and, and_true, int_zero, beq_self_eq_true, Int.toNat_zero, List.getD_cons_zero, List.getD_cons_succ, List.range_zero, List.mem_cons, List.not_mem_nil, or_false, forall_eq, forall_eq_or_imp, false_implies, implies_true, Nat.reduceMul, Option.isSome_some, bnd, or_true, Int.toNat_one, Int.le_refl, ge_iff_le, gt_iff_lt, w1]; rfl) | rfl)))
        intro j hj hji
        by_cases e : j = i
        · subst e; exact hx
        · exact hno j hj (by omega)
    · have b1 : decide ((i : Int) < (p.length : Int)) = false := by simp; omega
      (simp (disch := first | decide | omega | (simp only [add_next, set_next, grow_next, leave_next, List.length_map]; first | done | omega)) only [go_sem, ↓reduceIte, Nat.reduceBEq, Nat.reduceAdd, Nat.reduceLeDiff, Nat.reduceEqDiff, Nat.reduceLT, ob_hit, ob_skip, ob_set, ob_old, getD_map, Int.natCast_nonneg, true_and, and_true, int_zero, beq_self_eq_true, Int.toNat_zero, List.getD_cons_zero, List.getD_cons_succ, List.range_zero, List.mem_cons, List.not_mem_nil, or_false, forall_eq, forall_eq_or_imp, false_implies, implies_true, Nat.reduceMul, Option.isSome_some, bnd, or_true, Int.toNat_one, Int.le_refl, ge_iff_le, gt_iff_lt, q0, q3, b1]; (repeat (with_reducible refine And.intro (by first | omega | assumption | rfl) ?_)))
      refine ⟨?_, (by (repeat' first | exact St.Sub.refl _ | assumption | (exact RowOk.sub (by assumption) (by assumption)) | (refine St.Sub.trans ?_ (RowOk.sub (by assumption) (by assumption))) | (exact St.Sub.keep (St.Sub.refl _) (by first | assumption | (first | omega | (simp only [RowOk.lo, add_next, set_next, grow_next, leave_next]; first | done | omega)))) | refine St.Sub.add ?_ (by (repeat' first | assumption | refine St.WF.leave ?_ _ | refine St.WF.add ?_ _ | refine St.WF.set ?_ (by (first | omega | (simp only [RowOk.lo, add_next, set_next, grow_next, leave_next]; first | done | omega))) _ | refine St.WF.grow ?_ _ _ _ | refine St.WF.keep ?_ (by first | assumption | (first | omega | (simp only [RowOk.lo, add_next, set_next, grow_next, leave_next]; first | done | omega))))) _ | refine St.Sub.set ?_ (by (repeat' first | assumption | refine St.WF.leave ?_ _ | refine St.WF.add ?_ _ | refine St.WF.set ?_ (by (first | omega | (simp only [RowOk.lo, add_next, set_next, grow_next, leave_next]; first | done | omega))) _ | refine St.WF.grow ?_ _ _ _ | refine St.WF.keep ?_ (by first | assumption | (first | omega | (simp only [RowOk.lo, add_next, set_next, grow_next, leave_next]; first | done | omega))))) (by (first | omega | (simp only [RowOk.lo, add_next, set_next, grow_next, leave_next]; first | done | omega))) _ | refine St.Sub.keep ?_ (by first | assumption | (first | omega | (simp only [RowOk.lo, add_next, set_next, grow_next, leave_next]; first | done | omega)))))⟩
      have h1 : (p.any fun q => decide (100 < q.1.length)) = false := by
        rw [List.any_eq_false]
        intro q hq
        obtain ⟨j, hj, rfl⟩ := List.getElem_of_mem hq
        simpa using hno j hj (by omega)
      rw [greatP, decide_eq_false hl, h1]; rfl
end Go.Proofs.Ytpnjkebjdclkfaa

/- A call walked where it stands; loops unrolled. Conditions: none. -/
namespace Go.Proofs.Ytpnjkebjdclkfaa
open Go.RowKit
/-- The end of a call that is walked where it stands. -/
def DQ.inl (P : Program) (rs : List ResultVar) (K : D → St → Prop) : DQ
  | .exit _, _, _ => False
  | _, f, S' => dresL P f S' rs fun ds => K (one ds) S'
theorem dcalls_inline {P : Program} (hm : P.follows .mixedOrders = true) {g : FuncId} {fn : Func} {c : Code} (hf : P.funcs[g]? = some fn) (hb : fn.body = some c) (hent : ∀ vs w, (callFunc g vs).run P w = .ok (.enter g vs) w) {rs : List ResultVar} (hrs : fn.results.toList = rs) {args : List D} (hok : (codeOk fn.ntmps c && fn.results.all (resOk fn.ntmps) && Nat.ble args.length fn.ntmps) = true) {S : St} {K : D → St → Prop}
    (h : S.WF → dwp P c (DQ.inl P rs K) (argF args) S) : DCalls P g args S K := by
  subst hrs
  intro base η w vs hM hr
  refine ⟨hent _ _, ?_⟩
  simp only [Bool.and_eq_true] at hok
  obtain ⟨⟨hok1, hok2⟩, hok3⟩ := hok
  have hlen : args.length ≤ fn.ntmps := Nat.le_of_ble_eq_true hok3
  have hl := hr.length
  have hsz : (vs.toArray ++ Array.replicate (fn.ntmps - vs.toArray.size) undef).size = fn.ntmps := by simp; omega
  refine calls_of_wp hf hb ?_
  refine dwp_sound hm c (a := { tmps := vs.toArray ++ Array.replicate (fn.ntmps - vs.toArray.size) undef, defers := [] }) (by rw [hsz]; exact hok1) hM (fun t ht => ?_) (h hM.fresh) fun e f' S' η' w' a' k1 k2 k3 k4 k5 => ?_
  · rw [hsz] at ht
    simp only [argF]
    by_cases h1 : t < vs.length
    · obtain ⟨x, hx, hr'⟩ := hr.get t (List.getElem?_eq_getElem (by omega : t < args.length))
      have e1 : args.getD t undefD = args[t] := by rw [List.getD_eq_getElem?_getD, List.getElem?_eq_getElem (by omega : t < args.length)]; rfl
      have e2 : (vs.toArray ++ Array.replicate (fn.ntmps - vs.toArray.size) undef).getD t undef = x := by
        rw [Array.getD_eq_getD_getElem?, Array.getElem?_append_left (by simpa using h1)]
        simp [hx]
      rw [e1, e2]
      exact hr'
    · have e1 : args.getD t undefD = undefD := by rw [List.getD_eq_getElem?_getD, List.getElem?_eq_none (by omega)]; rfl
      have e2 : (vs.toArray ++ Array.replicate (fn.ntmps - vs.toArray.size) undef).getD t undef = undef := by
        rw [Array.getD_eq_getD_getElem?, Array.getElem?_append_right (by simpa using h1)]
        rw [Array.getElem?_replicate]
        split <;> rfl
      rw [e1, e2]
      simp only [Rep, RepL]
      exact ⟨[], rfl, rfl⟩
  · have hsz' : a'.tmps.size = fn.ntmps := by rw [k4]; exact hsz
    have hd' : a'.defers = [] := k5
    have fin : dresL P f' S' fn.results.toList (fun ds => K (one ds) S') → a'.defers = [] ∧ ∃ v, (results fn a'.tmps).run P w' = .ok v w' ∧ ∃ d S'' η'' u, K d S'' ∧ Ending.returned v = .returned u ∧ Rep P w' η'' (Fix P S'' η'') d u ∧ Goes P base S η w S'' η'' w' := fun hres => by
      obtain ⟨ds, v, hk, q7, q8⟩ := results_sound k2.mem k3 (by rw [hsz']; exact hok2) hres
      exact ⟨hd', v, q8, one ds, S', η', v, hk, rfl, q7, k2⟩
    cases e with
    | normal => exact fin k1
    | ret => exact fin k1
    | exit i => exact k1.elim
section
variable {P : Program} {S : St} {f : Fm} {K : D → St → Prop}
theorem inl_ret (t : Tmp) (S' : St) : DQ.inl P [.tmp t] K .ret f S' = K (f t) S' := by simp [DQ.inl, dresL, dres, onVal, one]
theorem inl_normal (t : Tmp) (S' : St) : DQ.inl P [.tmp t] K .normal f S' = K (f t) S' := by simp [DQ.inl, dresL, dres, onVal, one]
theorem inl_ret2 (t u : Tmp) (S' : St) : DQ.inl P [.tmp t, .tmp u] K .ret f S' = K (.tup [f t, f u]) S' := by simp [DQ.inl, dresL, dres, onVal, one]
theorem inl_normal2 (t u : Tmp) (S' : St) : DQ.inl P [.tmp t, .tmp u] K .normal f S' = K (.tup [f t, f u]) S' := by simp [DQ.inl, dresL, dres, onVal, one]
theorem inl_ret0 (S' : St) : DQ.inl P [] K .ret f S' = K undefD S' := by simp [DQ.inl, dresL, one]
theorem inl_normal0 (S' : St) : DQ.inl P [] K .normal f S' = K undefD S' := by simp [DQ.inl, dresL, one]
end
theorem inl_cell_normal {P : Program} {f : Fm} {K : D → St → Prop} (x : Tmp) (t : TypeId) (S' : St) : DQ.inl P [.cell x t] K .normal f S' = dcellR P S' t (f x) (fun r => K r S') := onVal_cell x t _
theorem inl_cell_ret {P : Program} {f : Fm} {K : D → St → Prop} (x : Tmp) (t : TypeId) (S' : St) : DQ.inl P [.cell x t] K .ret f S' = dcellR P S' t (f x) (fun r => K r S') := onVal_cell x t _
attribute [go_sem] inl_cell_normal inl_cell_ret
attribute [go_sem] inl_ret inl_normal inl_ret2 inl_normal2 inl_ret0 inl_normal0
/-- So many rounds at most. -/
def loopN (P : Program) (c : Code) (Q : DQ) : Nat → Fm → St → Prop
  | 0, _, _ => False
  | n + 1, f, S => dwp P c (DQ.then (loopN P c Q n) Q) f S
theorem dloop_fuel {P : Program} {c : Code} {Q : DQ} {f : Fm} {S : St} (n : Nat) (hS : S.WF) (hc : wrOk (fun _ => true) c = true) (h : loopN P c Q n f S) : DLoop (dwp P c) Q f S := by
  refine dloop_down (fun _ => true) hc hS (fun m g T => loopN P c Q m g T) n h fun m g T hT _ hI => ?_
  cases m with
  | zero => exact hI.elim
  | succ m =>
    refine dwp_mono c (fun e f2 S2 hq => ?_) hI
    cases e with
    | normal => exact ⟨m, S2.ob, by omega, fun _ _ h => h, hq⟩
    | exit i => exact hq
    | ret => exact hq
theorem loopN_eq {P : Program} {c : Code} {Q : DQ} {f : Fm} {S : St} (n : Nat) : loopN P c Q (n + 1) f S = dwp P c (DQ.then (loopN P c Q n) Q) f S := Eq.trans (Eq.refl _) (Eq.refl _)
end Go.Proofs.Ytpnjkebjdclkfaa

/- Plain functions on lists of bytes: what the layer pack writes and reads, and laws about them. Conditions: none. -/
namespace Go.Proofs.Ytpnjkebjdclkfaa

def b8 (n : Nat) : UInt8 := UInt8.ofNat n
theorem b8_toNat (n : Nat) (h : n < 256) : (b8 n).toNat = n := by simp [b8]; omega

/-- A number's bytes. -/
def numB (n : Nat) : List UInt8 := if n < 128 then [b8 n] else b8 (n % 128 + 128) :: numB (n / 128)
termination_by n
decreasing_by omega

theorem numB_lt (n : Nat) (h : n < 128) : numB n = [b8 n] := by rw [numB, if_pos h]
theorem numB_ge (n : Nat) (h : ¬ n < 128) : numB n = b8 (n % 128 + 128) :: numB (n / 128) := by rw [numB, if_neg h]
theorem numB_length (n : Nat) : ∀ k, n < 128 ^ (k + 1) → (numB n).length ≤ k + 1 := by
  intro k
  induction k generalizing n with
  | zero => intro h; rw [numB_lt n (by simpa using h)]; simp
  | succ k ih =>
    intro h
    by_cases h1 : n < 128
    · rw [numB_lt n h1]; simp
    · rw [numB_ge n h1]
      have := ih (n / 128) (by rw [Nat.pow_succ] at h; exact Nat.div_lt_of_lt_mul (by omega))
      simp only [List.length_cons]; omega
theorem numB_length_le (n : Nat) (h : n < 18446744073709551616) : (numB n).length ≤ 10 := numB_length n 9 (by simp; omega)
/-- The number that a signed one is written as. -/
def zig (n : Int) : Nat := if n < 0 then (2 * (-(n + 1)) + 1).toNat else (2 * n).toNat
theorem numB_pos (n : Nat) : 0 < (numB n).length := by
  by_cases h : n < 128
  · rw [numB_lt n h]; simp
  · rw [numB_ge n h]; simp

/-- What the reader makes of bytes, at digit i, n read so far. -/
def numGo (i n : Nat) : List UInt8 → Option (Nat × Nat)
  | [] => none
  | c :: l =>
    if i = 10 ∨ i = 9 ∧ 1 < c.toNat then none
    else if 128 ≤ c.toNat then numGo (i + 1) (n + c.toNat % 128 * 128 ^ i) l
    else if c.toNat = 0 ∧ 0 < i then none
    else some (n + c.toNat % 128 * 128 ^ i, i + 1)
def numP (l : List UInt8) : Option (Nat × Nat) := numGo 0 0 l

theorem numGo_bounds : ∀ (l : List UInt8) (i n : Nat), i ≤ 10 → n < 128 ^ i → (i = 10 → n < 18446744073709551616) → ∀ m s, numGo i n l = some (m, s) → m < 18446744073709551616 ∧ i < s ∧ s ≤ i + l.length ∧ s ≤ 10 := by
  intro l
  induction l with
  | nil => intro i n _ _ _ m s h; simp [numGo] at h
  | cons c l ih =>
    intro i n hi hn h10 m s h
    simp only [numGo] at h
    split at h
    · cases h
    · rename_i h1
      have hc : c.toNat < 256 := UInt8.toNat_lt c
      have hm : n + c.toNat % 128 * 128 ^ i < 128 ^ (i + 1) := by
        have h2 : c.toNat % 128 * 128 ^ i ≤ 127 * 128 ^ i := Nat.mul_le_mul_right _ (by omega)
        rw [Nat.pow_succ]; omega
      have hu : n + c.toNat % 128 * 128 ^ i < 18446744073709551616 := by
        by_cases h9 : i = 9
        · subst h9
          have : c.toNat ≤ 1 := by omega
          have h2 : c.toNat % 128 * 128 ^ 9 ≤ 1 * 128 ^ 9 := Nat.mul_le_mul_right _ (by omega)
          simp at h2 hn ⊢
          omega
        · have h8 : i + 1 ≤ 9 := by omega
          have : 128 ^ (i + 1) ≤ 128 ^ 9 := Nat.pow_le_pow_right (by omega) h8
          simp at this
          omega
      split at h
      · obtain ⟨a, b, c', d⟩ := ih (i + 1) _ (by omega) hm (fun _ => hu) m s h
        simp only [List.length_cons]
        omega
      · split at h
        · cases h
        · simp only [Option.some.injEq, Prod.mk.injEq] at h
          simp only [List.length_cons]
          omega

/-- What was written is read. -/
theorem numGo_numB : ∀ (k n i m : Nat) (rest : List UInt8), n < 128 ^ k → 0 < k → i + k ≤ 10 → (i + k = 10 → n < 2 * 128 ^ (k - 1)) → (0 < i → 0 < n) → numGo i m (numB n ++ rest) = some (m + n * 128 ^ i, i + (numB n).length) := by
  intro k
  induction k with
  | zero => intro n i m rest _ h; omega
  | succ k ih =>
    intro n i m rest hn _ hik h10 hpos
    by_cases h : n < 128
    · rw [numB_lt n h]
      simp only [List.cons_append, List.nil_append, numGo, b8_toNat n (by omega), List.length_singleton]
      rw [if_neg (by
        rintro (h1 | ⟨h1, h2⟩)
        · omega
        · have : k = 0 := by omega
          subst this
          have := h10 (by omega)
          simp at this
          omega), if_neg (by omega), if_neg (by omega), Nat.mod_eq_of_lt h]
    · rw [numB_ge n h]
      have hk : 0 < k := by
        rcases Nat.eq_zero_or_pos k with h0 | h0
        · subst h0; simp at hn; omega
        · exact h0
      have hq : n / 128 < 128 ^ k := by rw [Nat.pow_succ] at hn; exact Nat.div_lt_of_lt_mul (by omega)
      simp only [List.cons_append, numGo, b8_toNat (n % 128 + 128) (by omega), List.length_cons]
      rw [if_neg (by omega), if_pos (by omega), ih (n / 128) (i + 1) _ rest hq hk (by omega) (fun h1 => by
        have h2 := h10 (by omega)
        have h3 : k + 1 - 1 = (k - 1) + 1 := by omega
        rw [h3, Nat.pow_succ] at h2
        exact Nat.div_lt_of_lt_mul (by omega)) (fun _ => by omega)]
      have e1 : (n % 128 + 128) % 128 = n % 128 := by omega
      have e2 : n = n % 128 + 128 * (n / 128) := by omega
      rw [e1, Nat.pow_succ]
      congr 2
      · conv => rhs; rw [e2]
        rw [Nat.add_mul, Nat.mul_assoc, Nat.mul_comm 128, Nat.mul_assoc, Nat.add_assoc]
      · omega
theorem numP_numB (n : Nat) (rest : List UInt8) (h : n < 18446744073709551616) : numP (numB n ++ rest) = some (n, (numB n).length) := by
  have := numGo_numB 10 n 0 0 rest (by simp; omega) (by omega) (by omega) (fun _ => by simp; omega) (fun h => absurd h (by omega))
  simpa [numP] using this

/-- What is read has just these bytes. -/
theorem numGo_sole : ∀ (l : List UInt8) (i n : Nat), ∀ m s, numGo i n l = some (m, s) → ∃ q, m = n + q * 128 ^ i ∧ l.take (s - i) = numB q ∧ i < s ∧ (0 < i → 0 < q) := by
  intro l
  induction l with
  | nil => intro i n m s h; simp [numGo] at h
  | cons c l ih =>
    intro i n m s h
    have hc : c.toNat < 256 := UInt8.toNat_lt c
    simp only [numGo] at h
    split at h
    · cases h
    · split at h
      · rename_i h1 h2
        obtain ⟨q, rfl, ht, hs, hq⟩ := ih (i + 1) _ m s h
        have hq0 := hq (by omega)
        refine ⟨c.toNat % 128 + 128 * q, ?_, ?_, by omega, fun _ => by omega⟩
        · rw [Nat.pow_succ, Nat.add_mul, Nat.add_assoc]
          congr 2
          rw [Nat.mul_comm 128 q, Nat.mul_assoc, Nat.mul_comm (128 ^ i)]
        · have e : s - i = (s - (i + 1)) + 1 := by omega
          rw [e, List.take_succ_cons, ht, numB_ge (c.toNat % 128 + 128 * q) (by omega)]
          have e1 : (c.toNat % 128 + 128 * q) % 128 + 128 = c.toNat := by omega
          have e2 : (c.toNat % 128 + 128 * q) / 128 = q := by omega
          rw [e1, e2]
          simp [b8]
      · split at h
        · cases h
        · rename_i h1 h2 h3
          simp only [Option.some.injEq, Prod.mk.injEq] at h
          refine ⟨c.toNat, ?_, ?_, by omega, fun h0 => by omega⟩
          · rw [← h.1, Nat.mod_eq_of_lt (by omega)]
          · rw [← h.2, Nat.add_sub_cancel_left, numB_lt c.toNat (by omega)]
            simp [b8]
theorem numP_sole (l : List UInt8) (m s : Nat) (h : numP l = some (m, s)) : l.take s = numB m := by
  obtain ⟨q, h1, h2, _⟩ := numGo_sole l 0 0 m s h
  simp at h1
  subst h1
  simpa using h2
end Go.Proofs.Ytpnjkebjdclkfaa

/- The layer pack's writers, walked over trees. Conditions: lengths below 2^40. -/
namespace Go.Proofs.Ytpnjkebjdclkfaa
open Go.RowKit
set_option linter.unusedSimpArgs false
set_option linter.unusedVariables false
def IsU64 (n : Nat) : Prop := n < 18446744073709551616
def IsI64 (n : Int) : Prop := -9223372036854775808 ≤ n ∧ n < 9223372036854775808
theorem wrap_u64 (n : Nat) (h : IsU64 n) : IntKind.u64.wrap (n : Int) = n := by
  unfold IsU64 at h
  simp only [IntKind.wrap_u64]
  omega
theorem or80' : ∀ x : Fin 256, bits BinOp.or IntKind.u8 (x.val : Int) 128 = ((x.val % 128 + 128 : Nat) : Int) := by decide +kernel
theorem or80 (k : Nat) : bits BinOp.or IntKind.u8 ((k : Int) % 256) 128 = ((k % 128 + 128 : Nat) : Int) := by
  have h := or80' ⟨k % 256, by omega⟩
  simp only at h
  rw [show ((k : Int) % 256) = ((k % 256 : Nat) : Int) from by omega, h]
  omega
theorem xor_zig (n : Int) (h : IsI64 n) : bits BinOp.xor IntKind.u64 (IntKind.u64.wrap (IntKind.u64.wrap n * 2)) (IntKind.u64.wrap (n / 9223372036854775808)) = (zig n : Int) := by
  unfold IsI64 at h
  show IntKind.u64.wrap ((BitVec.ofInt 64 _ ^^^ BitVec.ofInt 64 _).toNat : Int) = _
  simp only [IntKind.wrap_u64]
  unfold zig
  by_cases h0 : n < 0
  · rw [if_pos h0, show n / 9223372036854775808 % 18446744073709551616 = 18446744073709551615 from by omega]
    rw [show BitVec.ofInt 64 18446744073709551615 = BitVec.allOnes 64 from by decide, BitVec.xor_allOnes, BitVec.toNat_not, BitVec.toNat_ofInt]
    omega
  · rw [if_neg h0, show n / 9223372036854775808 % 18446744073709551616 = 0 from by omega]
    rw [show BitVec.ofInt 64 0 = 0#64 from by decide, BitVec.xor_zero, BitVec.toNat_ofInt]
    omega
theorem zig_u64 (n : Int) (h : IsI64 n) : IsU64 (zig n) := by unfold IsI64 at h; unfold IsU64 zig; split <;> omega
section
variable {P : Program} {t : TypeId} {x y : Operand}
theorem bin_or (k : IntKind) (a b : Int) : dbin P .or t x y (.v (.int k a)) (.v (.int k b)) = some (True, .v (.int k (bits .or k a b))) := by
  simp [dbin, eqGuard, binOp, intBits_or, pureRun_bind, pureRun_pure]
theorem bin_xor (k : IntKind) (a b : Int) : dbin P .xor t x y (.v (.int k a)) (.v (.int k b)) = some (True, .v (.int k (bits .xor k a b))) := by
  simp [dbin, eqGuard, binOp, intBits_xor, pureRun_bind, pureRun_pure]
theorem bin_andNot (k : IntKind) (a b : Int) : dbin P .andNot t x y (.v (.int k a)) (.v (.int k b)) = some (True, .v (.int k (bits .andNot k a b))) := by
  simp [dbin, eqGuard, binOp, intBits_andNot, pureRun_bind, pureRun_pure]
theorem bin_shr7 (a : Nat) : dbin P .shr t x y (.v (.int .u64 a)) (.v (.int .u64 7)) = some (True, .v (.int .u64 ((a / 128 : Nat) : Int))) := by
  simp [dbin, eqGuard, binOp, shift_shr .u64 .u64 (a : Int) 7 (by omega) (by decide), pureRun_bind, pureRun_pure]
theorem bin_shr63 (a : Int) : dbin P .shr t x y (.v (.int .i64 a)) (.v (.int .u64 63)) = some (True, .v (.int .i64 (a / 9223372036854775808))) := by
  simp [dbin, eqGuard, binOp, shift_shr .i64 .u64 a 63 (by omega) (by decide), pureRun_bind, pureRun_pure]
theorem bin_shl1 (a : Int) : dbin P .shl t x y (.v (.int .u64 a)) (.v (.int .u64 1)) = some (True, .v (.int .u64 (IntKind.u64.wrap (a * 2)))) := by
  simp [dbin, eqGuard, binOp, Op.shift, IntKind.bits, pureRun_bind, pureRun_pure]
end
theorem cv_u64u8 (n : Int) : pureRun Try.prog (convert 52 5 (.int .u64 n)) = some (.int .u8 (IntKind.u8.wrap n)) := by kernel_rfl
theorem cv_i64u64 (n : Int) : pureRun Try.prog (convert 3 52 (.int .i64 n)) = some (.int .u64 (IntKind.u64.wrap n)) := by kernel_rfl
theorem cv_u64i64 (n : Int) : pureRun Try.prog (convert 52 3 (.int .u64 n)) = some (.int .i64 (IntKind.i64.wrap n)) := by kernel_rfl
theorem cv_u8u64 (n : Int) : pureRun Try.prog (convert 5 52 (.int .u8 n)) = some (.int .u64 (IntKind.u64.wrap n)) := by kernel_rfl
theorem cv_i64u8 (n : Int) : pureRun Try.prog (convert 3 5 (.int .i64 n)) = some (.int .u8 (IntKind.u8.wrap n)) := by kernel_rfl
theorem u8T_u8 : u8T Try.prog 5 = true := by kernel_rfl
attribute [go_sem] u8T_u8
attribute [go_sem] bin_or bin_xor bin_andNot bin_shr7 bin_shr63 bin_shl1 cv_u64u8 cv_i64u64 cv_u64i64 cv_u8u64 cv_i64u8

/-- In T the writer k holds the bytes bs. -/
def WAt (k : Nat) (bs : List UInt8) (T : St) : Prop := ∃ own, T.ob k = some (.box 63 [.sl own (bs.map bD)]) ∧ ((own = .full ∧ bs = []) ∨ ∃ g, own = .row g ∧ k < g ∧ T.ob g = some (.row 5 bs.length))
/-- Variables but k stay as they are. -/
structure WFr (k : Nat) (S T : St) : Prop where
  next : S.next ≤ T.next
  ob : ∀ j o, (j < k ∨ (j ≠ k ∧ ∃ t cs, o = .box t cs)) → S.ob j = some o → T.ob j = some o
theorem WFr.box {k : Nat} {S T : St} (h : WFr k S T) (j : Nat) (t : TypeId) (cs : List D) (hj : j ≠ k) (e : S.ob j = some (.box t cs)) : T.ob j = some (.box t cs) := h.ob j _ (.inr ⟨hj, t, cs, rfl⟩) e
theorem WFr.of_keep {k : Nat} {S T : St} (hn : S.next ≤ T.next) (h : ∀ j o, S.ob j = some o → T.ob j = some o) : WFr k S T := ⟨hn, fun j o _ e => h j o e⟩
theorem WFr.refl (k : Nat) (S : St) : WFr k S S := ⟨Nat.le_refl _, fun _ _ _ h => h⟩
theorem WFr.trans {k : Nat} {A B C : St} (h : WFr k A B) (g : WFr k B C) : WFr k A C := ⟨Nat.le_trans h.next g.next, fun j o hj e => g.ob j o hj (h.ob j o hj e)⟩
theorem wd_bD (l : List UInt8) : ∀ d ∈ l.map bD, d.width = szOf Try.prog 5 := by
  intro d hd
  obtain ⟨b, _, rfl⟩ := List.mem_map.1 hd
  exact Eq.trans rfl (by kernel_rfl : 1 = szOf Try.prog 5)
theorem dapp_bytes {S : St} {own own2 : Own} {bs xs : List UInt8} {K : D → St → Prop} (h : (own = .full ∧ bs = []) ∨ ∃ g, own = .row g ∧ S.ob g = some (.row 5 bs.length)) (hl : bs.length + xs.length ≤ 1099511627776)
    (k : K (.sl (.row S.next) ((bs ++ xs).map bD)) (S.grow own 5 (bs.length + xs.length))) : dapp Try.prog S 61 61 (.sl own (bs.map bD)) (.sl own2 (xs.map bD)) K := by
  refine dapp_row ?_
  have he : elT Try.prog 61 = some 5 := by kernel_rfl
  have hb : bytesOf Try.prog 5 = 1 := by kernel_rfl
  have hz : zeroT Try.prog 5 = true := by kernel_rfl
  simp only [dappend, he, hz, hb, List.length_map, ← List.map_append, true_and, Option.isSome_some]
  refine ⟨wd_bD bs, wd_bD xs, ?_, by omega, by omega, k⟩
  rcases h with ⟨rfl, rfl⟩ | ⟨g, rfl, h⟩
  · trivial
  · exact h
set_option maxRecDepth 200000 in
set_option maxHeartbeats 4000000 in
theorem raw_w {S : St} {k : Nat} {bs : List UInt8} (own2 : Own) (xs : List UInt8) (hk : k < S.next) (h : WAt k bs S) (hl : bs.length + xs.length ≤ 1099511627776) : DCalls Try.prog 118 [.loc k 0, .sl own2 (xs.map bD)] S fun d T => d = undefD ∧ WAt k (bs ++ xs) T ∧ WFr k S T := by
  obtain ⟨own, h1, h2⟩ := h
  refine dcalls_inline mixed Try.func118 rfl (fun _ _ => by kernel_rfl) (rs := []) rfl (by kernel_rfl) (fun hS => ?_)
  (simp (disch := first | decide | omega | (simp only [add_next, set_next, grow_next, leave_next, List.length_map]; first | done | omega)) only [go_sem, ↓reduceIte, Nat.reduceBEq, Nat.reduceAdd, Nat.reduceLeDiff, Nat.reduceEqDiff, Nat.reduceLT, ob_hit, ob_skip, ob_set, ob_old, getD_map, Int.natCast_nonneg, true_and, and_true, int_zero, beq_self_eq_true, Int.toNat_zero, List.getD_cons_zero, List.getD_cons_succ, List.range_zero, List.mem_cons, List.not_mem_nil, or_false, forall_eq, forall_eq_or_imp, false_implies, implies_true, Nat.reduceMul, Option.isSome_some, bnd, or_true, Int.toNat_one, Int.le_refl, ge_iff_le, gt_iff_lt, h1]; (repeat (with_reducible refine And.intro (by first | omega | assumption | rfl) ?_)))
  have hk2 : (k = S.next) = False := by simp; omega
  rcases h2 with ⟨rfl, rfl⟩ | ⟨g, rfl, hg, h2⟩
  · refine dapp_bytes (.inl ⟨rfl, rfl⟩) (by omega) ?_
    (simp (disch := first | decide | omega | (simp only [add_next, set_next, grow_next, leave_next, List.length_map]; first | done | omega)) only [go_sem, ↓reduceIte, Nat.reduceBEq, Nat.reduceAdd, Nat.reduceLeDiff, Nat.reduceEqDiff, Nat.reduceLT, ob_hit, ob_skip, ob_set, ob_old, getD_map, Int.natCast_nonneg, true_and, and_true, int_zero, beq_self_eq_true, Int.toNat_zero, List.getD_cons_zero, List.getD_cons_succ, List.range_zero, List.mem_cons, List.not_mem_nil, or_false, forall_eq, forall_eq_or_imp, false_implies, implies_true, Nat.reduceMul, Option.isSome_some, bnd, or_true, Int.toNat_one, Int.le_refl, ge_iff_le, gt_iff_lt, hk2, h1]; (repeat (with_reducible refine And.intro (by first | omega | assumption | rfl) ?_)))
    refine ⟨⟨.row S.next, by simp [St.set], .inr ⟨S.next, rfl, by omega, ?_⟩⟩, ⟨by simp [St.set, St.grow, St.leave, St.add], fun j o hj e => ?_⟩⟩
    · simp [St.grow, St.leave, St.add, St.set, Ne.symm (show k ≠ S.next by omega)]
    · have hlt := hS.lt e
      have hj : j ≠ k := by rcases hj with h | h; omega; exact h.1
      simp [St.grow, St.leave, St.add, St.set, hj, show j ≠ S.next by omega, e]
  · have hkg : (k = g) = False := by simp; omega
    refine dapp_bytes (.inr ⟨g, rfl, h2⟩) (by omega) ?_
    (simp (disch := first | decide | omega | (simp only [add_next, set_next, grow_next, leave_next, List.length_map]; first | done | omega)) only [go_sem, ↓reduceIte, Nat.reduceBEq, Nat.reduceAdd, Nat.reduceLeDiff, Nat.reduceEqDiff, Nat.reduceLT, ob_hit, ob_skip, ob_set, ob_old, getD_map, Int.natCast_nonneg, true_and, and_true, int_zero, beq_self_eq_true, Int.toNat_zero, List.getD_cons_zero, List.getD_cons_succ, List.range_zero, List.mem_cons, List.not_mem_nil, or_false, forall_eq, forall_eq_or_imp, false_implies, implies_true, Nat.reduceMul, Option.isSome_some, bnd, or_true, Int.toNat_one, Int.le_refl, ge_iff_le, gt_iff_lt, hk2, hkg, h1]; (repeat (with_reducible refine And.intro (by first | omega | assumption | rfl) ?_)))
    refine ⟨⟨.row S.next, by simp [St.set], .inr ⟨S.next, rfl, by omega, ?_⟩⟩, ⟨by simp [St.set, St.grow, St.leave, St.add, St.drop], fun j o hj e => ?_⟩⟩
    · simp [St.grow, St.leave, St.add, St.set, St.drop, Ne.symm (show k ≠ S.next by omega)]
    · have hlt := hS.lt e
      have hjg : j ≠ g := fun e2 => by
        rcases hj with h | ⟨_, t, cs, rfl⟩
        · omega
        · rw [e2, h2] at e; cases e
      have hj : j ≠ k := by rcases hj with h | h; omega; exact h.1
      simp [St.grow, St.leave, St.add, St.set, St.drop, hj, hjg, show j ≠ S.next by omega, e]
theorem WAt.box {k : Nat} {bs : List UInt8} {S T : St} (h : WAt k bs S) (hn : S.next ≤ T.next) (hS : S.WF) (hb : ∀ j o, S.ob j = some o → T.ob j = some o) : WAt k bs T := by
  obtain ⟨own, h1, h2⟩ := h
  refine ⟨own, hb _ _ h1, h2.imp id fun ⟨g, h3, h4, h5⟩ => ⟨g, h3, h4, hb _ _ h5⟩⟩
theorem add_keep {S : St} (hS : S.WF) (o : Ob) : ∀ j o', S.ob j = some o' → (S.add o).ob j = some o' := by
  intro j o' h
  have hlt := hS.lt h
  simp [St.add, show j ≠ S.next by omega, h]
theorem WAt.add {k : Nat} {bs : List UInt8} {S : St} (h : WAt k bs S) (hS : S.WF) (o : Ob) : WAt k bs (S.add o) := h.box (Nat.le_succ _) hS (add_keep hS o)
theorem WFr.add {k : Nat} {S T : St} (h : WFr k S T) (hT : T.WF) (o : Ob) : WFr k S (T.add o) := h.trans (WFr.of_keep (Nat.le_succ _) (add_keep hT o))
set_option maxRecDepth 200000 in
set_option maxHeartbeats 4000000 in
theorem byte_w {S : St} {k : Nat} {bs : List UInt8} (b : UInt8) (hk : k < S.next) (h : WAt k bs S) (hl : bs.length + 1 ≤ 1099511627776) : DCalls Try.prog 129 [.loc k 0, bD b] S fun d T => d = undefD ∧ WAt k (bs ++ [b]) T ∧ WFr k S T := by
  refine dcalls_inline mixed Try.func129 rfl (fun _ _ => by kernel_rfl) (rs := []) rfl (by kernel_rfl) (fun hS => ?_)
  (simp (disch := first | decide | omega | (simp only [add_next, set_next, grow_next, leave_next, List.length_map]; first | done | omega)) only [go_sem, ↓reduceIte, Nat.reduceBEq, Nat.reduceAdd, Nat.reduceLeDiff, Nat.reduceEqDiff, Nat.reduceLT, ob_hit, ob_skip, ob_set, ob_old, getD_map, Int.natCast_nonneg, true_and, and_true, int_zero, beq_self_eq_true, Int.toNat_zero, List.getD_cons_zero, List.getD_cons_succ, List.range_zero, List.mem_cons, List.not_mem_nil, or_false, forall_eq, forall_eq_or_imp, false_implies, implies_true, Nat.reduceMul, Option.isSome_some, bnd, or_true, Int.toNat_one, Int.le_refl, ge_iff_le, gt_iff_lt, show bD b = .v (.int .u8 b.toNat) from rfl]; (repeat (with_reducible refine And.intro (by first | omega | assumption | rfl) ?_)))
  refine (raw_w .full [b] hk h hl).mono ?_
  rintro _ T ⟨rfl, h1, h2⟩
  (simp (disch := first | decide | omega | (simp only [add_next, set_next, grow_next, leave_next, List.length_map]; first | done | omega)) only [go_sem, ↓reduceIte, Nat.reduceBEq, Nat.reduceAdd, Nat.reduceLeDiff, Nat.reduceEqDiff, Nat.reduceLT, ob_hit, ob_skip, ob_set, ob_old, getD_map, Int.natCast_nonneg, true_and, and_true, int_zero, beq_self_eq_true, Int.toNat_zero, List.getD_cons_zero, List.getD_cons_succ, List.range_zero, List.mem_cons, List.not_mem_nil, or_false, forall_eq, forall_eq_or_imp, false_implies, implies_true, Nat.reduceMul, Option.isSome_some, bnd, or_true, Int.toNat_one, Int.le_refl, ge_iff_le, gt_iff_lt]; (repeat (with_reducible refine And.intro (by first | omega | assumption | rfl) ?_)))
  exact h2
theorem bD1 (n : Nat) (h : n < 256) : [D.v (.int .u8 (n : Int))] = [b8 n].map bD := by
  simp [bD, b8_toNat n h]
theorem wrap_u8 (n : Nat) : IntKind.u8.wrap (n : Int) = (n : Int) % 256 := IntKind.wrap_u8 _
set_option maxRecDepth 200000 in
set_option maxHeartbeats 4000000 in
theorem number_w {S : St} {k : Nat} {bs : List UInt8} (n : Nat) (hn : IsU64 n) (hk : k < S.next) (h : WAt k bs S) (hl : bs.length + 10 ≤ 1099511627776) : DCalls Try.prog 85 [.loc k 0, .v (.int .u64 (n : Int))] S fun d T => d = undefD ∧ WAt k (bs ++ numB n) T ∧ WFr k S T := by
  refine dcalls_inline mixed Try.func85 rfl (fun _ _ => by kernel_rfl) (rs := []) rfl (by kernel_rfl) (fun hS => ?_)
  (simp (disch := first | decide | omega | (simp only [add_next, set_next, grow_next, leave_next, List.length_map]; first | done | omega)) only [go_sem, ↓reduceIte, Nat.reduceBEq, Nat.reduceAdd, Nat.reduceLeDiff, Nat.reduceEqDiff, Nat.reduceLT, ob_hit, ob_skip, ob_set, ob_old, getD_map, Int.natCast_nonneg, true_and, and_true, int_zero, beq_self_eq_true, Int.toNat_zero, List.getD_cons_zero, List.getD_cons_succ, List.range_zero, List.mem_cons, List.not_mem_nil, or_false, forall_eq, forall_eq_or_imp, false_implies, implies_true, Nat.reduceMul, Option.isSome_some, bnd, or_true, Int.toNat_one, Int.le_refl, ge_iff_le, gt_iff_lt]; (repeat (with_reducible refine And.intro (by first | omega | assumption | rfl) ?_)))
  have hnl := numB_length_le n hn
  refine dloop_down (fun t => List.contains [1, 4, 5, 6, 7, 8, 9, 10, 11, 12, 13] t) (by kernel_rfl) hS (fun m g T => ∃ done, done ++ numB m = numB n ∧ IsU64 m ∧ g 1 = .v (.int .u64 (m : Int)) ∧ WAt k (bs ++ done) T ∧ WFr k S T) n ⟨[], rfl, hn, rfl, by rw [List.append_nil]; exact h, WFr.refl k S⟩ ?_
  rintro m g T hT hg ⟨done, hd, hm, q1, hW, hF⟩
  have q0 : g 0 = .loc k 0 := hg 0 rfl
  have hkT : k < T.next := Nat.lt_of_lt_of_le hk hF.next
  have hdl : (bs ++ done).length + 1 ≤ 1099511627776 := by
    have := congrArg List.length hd
    rw [List.length_append] at this
    have := numB_pos m
    rw [List.length_append]; omega
  by_cases hlt : m < 128
  · have b1 : decide ((128 : Int) ≤ (m : Int)) = false := by simp; omega
    have w8 : IntKind.u8.wrap (m : Int) = (m : Int) := by rw [wrap_u8]; omega
    (simp (disch := first | decide | omega | (simp only [add_next, set_next, grow_next, leave_next, List.length_map]; first | done | omega)) only [go_sem, ↓reduceIte, Nat.reduceBEq, Nat.reduceAdd, Nat.reduceLeDiff, Nat.reduceEqDiff, Nat.reduceLT, ob_hit, ob_skip, ob_set, ob_old, getD_map, Int.natCast_nonneg, true_and, and_true, int_zero, beq_self_eq_true, Int.toNat_zero, List.getD_cons_zero, List.getD_cons_succ, List.range_zero, List.mem_cons, List.not_mem_nil, or_false, forall_eq, forall_eq_or_imp, false_implies, implies_true, Nat.reduceMul, Option.isSome_some, bnd, or_true, Int.toNat_one, Int.le_refl, ge_iff_le, gt_iff_lt, q0, q1, b1, w8]; (repeat (with_reducible refine And.intro (by first | omega | assumption | rfl) ?_)))
    rw [bD1 m (by omega)]
    refine (raw_w .full [b8 m] hkT hW hdl).mono ?_
    rintro _ T1 ⟨rfl, h1, h2⟩
    (simp (disch := first | decide | omega | (simp only [add_next, set_next, grow_next, leave_next, List.length_map]; first | done | omega)) only [go_sem, ↓reduceIte, Nat.reduceBEq, Nat.reduceAdd, Nat.reduceLeDiff, Nat.reduceEqDiff, Nat.reduceLT, ob_hit, ob_skip, ob_set, ob_old, getD_map, Int.natCast_nonneg, true_and, and_true, int_zero, beq_self_eq_true, Int.toNat_zero, List.getD_cons_zero, List.getD_cons_succ, List.range_zero, List.mem_cons, List.not_mem_nil, or_false, forall_eq, forall_eq_or_imp, false_implies, implies_true, Nat.reduceMul, Option.isSome_some, bnd, or_true, Int.toNat_one, Int.le_refl, ge_iff_le, gt_iff_lt]; (repeat (with_reducible refine And.intro (by first | omega | assumption | rfl) ?_)))
    refine ⟨?_, hF.trans h2⟩
    rw [← hd, numB_lt m hlt, ← List.append_assoc]; exact h1
  · have b1 : decide ((128 : Int) ≤ (m : Int)) = true := by simp; omega
    (simp (disch := first | decide | omega | (simp only [add_next, set_next, grow_next, leave_next, List.length_map]; first | done | omega)) only [go_sem, ↓reduceIte, Nat.reduceBEq, Nat.reduceAdd, Nat.reduceLeDiff, Nat.reduceEqDiff, Nat.reduceLT, ob_hit, ob_skip, ob_set, ob_old, getD_map, Int.natCast_nonneg, true_and, and_true, int_zero, beq_self_eq_true, Int.toNat_zero, List.getD_cons_zero, List.getD_cons_succ, List.range_zero, List.mem_cons, List.not_mem_nil, or_false, forall_eq, forall_eq_or_imp, false_implies, implies_true, Nat.reduceMul, Option.isSome_some, bnd, or_true, Int.toNat_one, Int.le_refl, ge_iff_le, gt_iff_lt, q0, q1, b1, wrap_u8, or80]; (repeat (with_reducible refine And.intro (by first | omega | assumption | rfl) ?_)))
    rw [bD1 (m % 128 + 128) (by omega)]
    refine (raw_w .full [b8 (m % 128 + 128)] hkT hW hdl).mono ?_
    rintro _ T1 ⟨rfl, h1, h2⟩
    (simp (disch := first | decide | omega | (simp only [add_next, set_next, grow_next, leave_next, List.length_map]; first | done | omega)) only [go_sem, ↓reduceIte, Nat.reduceBEq, Nat.reduceAdd, Nat.reduceLeDiff, Nat.reduceEqDiff, Nat.reduceLT, ob_hit, ob_skip, ob_set, ob_old, getD_map, Int.natCast_nonneg, true_and, and_true, int_zero, beq_self_eq_true, Int.toNat_zero, List.getD_cons_zero, List.getD_cons_succ, List.range_zero, List.mem_cons, List.not_mem_nil, or_false, forall_eq, forall_eq_or_imp, false_implies, implies_true, Nat.reduceMul, Option.isSome_some, bnd, or_true, Int.toNat_one, Int.le_refl, ge_iff_le, gt_iff_lt, q0, q1]; (repeat (with_reducible refine And.intro (by first | omega | assumption | rfl) ?_)))
    refine ⟨m / 128, T1.ob, by omega, fun _ _ h => h, done ++ [b8 (m % 128 + 128)], ?_, by unfold IsU64 at *; omega, ?_, by rw [← List.append_assoc]; exact h1, hF.trans h2⟩
    · rw [List.append_assoc, ← hd, numB_ge m hlt]; rfl
    · (first | (simp (disch := first | decide | omega | (simp only [add_next, set_next, grow_next, leave_next, List.length_map]; first | done | omega)) only [go_sem, ↓reduceIte, Nat.reduceBEq, Nat.reduceAdd, Nat.reduceLeDiff, Nat.reduceEqDiff, Nat.reduceLT, ob_hit, ob_skip, ob_set, ob_old, getD_map, Int.natCast_nonneg, true_and, and_true, int_zero, beq_self_eq_true, Int.toNat_zero, List.getD_cons_zero, List.getD_cons_succ, List.range_zero, List.mem_cons, List.not_mem_nil, or_false, forall_eq, forall_eq_or_imp, false_implies, implies_true, Nat.reduceMul, Option.isSome_some, bnd, or_true, Int.toNat_one, Int.le_refl, ge_iff_le, gt_iff_lt]; done) | (simp (disch := first | decide | omega | (simp only [add_next, set_next, grow_next, leave_next, List.length_map]; first | done | omega)) only [go_sem, ↓reduceIte, Nat.reduceBEq, Nat.reduceAdd, Nat.reduceLeDiff, Nat.reduceEqDiff, Nat.reduceLT, ob_hit, ob_skip, ob_set, ob_old, getD_map, Int.natCast_nonneg, true_and, and_true, int_zero, beq_self_eq_true, Int.toNat_zero, List.getD_cons_zero, List.getD_cons_succ, List.range_zero, List.mem_cons, List.not_mem_nil, or_false, forall_eq, forall_eq_or_imp, false_implies, implies_true, Nat.reduceMul, Option.isSome_some, bnd, or_true, Int.toNat_one, Int.le_refl, ge_iff_le, gt_iff_lt]; rfl) | rfl)
set_option maxRecDepth 200000 in
set_option maxHeartbeats 4000000 in
theorem bytes_w {S : St} {k : Nat} {bs : List UInt8} (own2 : Own) (xs : List UInt8) (hk : k < S.next) (h : WAt k bs S) (hl : bs.length + xs.length + 10 ≤ 1099511627776) : DCalls Try.prog 119 [.loc k 0, .sl own2 (xs.map bD)] S fun d T => d = undefD ∧ WAt k (bs ++ (numB xs.length ++ xs)) T ∧ WFr k S T := by
  refine dcalls_inline mixed Try.func119 rfl (fun _ _ => by kernel_rfl) (rs := []) rfl (by kernel_rfl) (fun hS => ?_)
  have hu : IsU64 xs.length := by unfold IsU64; omega
  (simp (disch := first | decide | omega | (simp only [add_next, set_next, grow_next, leave_next, List.length_map]; first | done | omega)) only [go_sem, ↓reduceIte, Nat.reduceBEq, Nat.reduceAdd, Nat.reduceLeDiff, Nat.reduceEqDiff, Nat.reduceLT, ob_hit, ob_skip, ob_set, ob_old, getD_map, Int.natCast_nonneg, true_and, and_true, int_zero, beq_self_eq_true, Int.toNat_zero, List.getD_cons_zero, List.getD_cons_succ, List.range_zero, List.mem_cons, List.not_mem_nil, or_false, forall_eq, forall_eq_or_imp, false_implies, implies_true, Nat.reduceMul, Option.isSome_some, bnd, or_true, Int.toNat_one, Int.le_refl, ge_iff_le, gt_iff_lt, wrap_u64 xs.length hu]; (repeat (with_reducible refine And.intro (by first | omega | assumption | rfl) ?_)))
  refine (number_w xs.length hu hk h (by omega)).mono ?_
  rintro _ T ⟨rfl, h1, h2⟩
  (simp (disch := first | decide | omega | (simp only [add_next, set_next, grow_next, leave_next, List.length_map]; first | done | omega)) only [go_sem, ↓reduceIte, Nat.reduceBEq, Nat.reduceAdd, Nat.reduceLeDiff, Nat.reduceEqDiff, Nat.reduceLT, ob_hit, ob_skip, ob_set, ob_old, getD_map, Int.natCast_nonneg, true_and, and_true, int_zero, beq_self_eq_true, Int.toNat_zero, List.getD_cons_zero, List.getD_cons_succ, List.range_zero, List.mem_cons, List.not_mem_nil, or_false, forall_eq, forall_eq_or_imp, false_implies, implies_true, Nat.reduceMul, Option.isSome_some, bnd, or_true, Int.toNat_one, Int.le_refl, ge_iff_le, gt_iff_lt]; (repeat (with_reducible refine And.intro (by first | omega | assumption | rfl) ?_)))
  have := numB_length_le xs.length hu
  refine (raw_w own2 xs (Nat.lt_of_lt_of_le hk h2.next) h1 (by rw [List.length_append]; omega)).mono ?_
  rintro _ T1 ⟨rfl, h3, h4⟩
  (simp (disch := first | decide | omega | (simp only [add_next, set_next, grow_next, leave_next, List.length_map]; first | done | omega)) only [go_sem, ↓reduceIte, Nat.reduceBEq, Nat.reduceAdd, Nat.reduceLeDiff, Nat.reduceEqDiff, Nat.reduceLT, ob_hit, ob_skip, ob_set, ob_old, getD_map, Int.natCast_nonneg, true_and, and_true, int_zero, beq_self_eq_true, Int.toNat_zero, List.getD_cons_zero, List.getD_cons_succ, List.range_zero, List.mem_cons, List.not_mem_nil, or_false, forall_eq, forall_eq_or_imp, false_implies, implies_true, Nat.reduceMul, Option.isSome_some, bnd, or_true, Int.toNat_one, Int.le_refl, ge_iff_le, gt_iff_lt]; (repeat (with_reducible refine And.intro (by first | omega | assumption | rfl) ?_)))
  refine ⟨by rw [← List.append_assoc]; exact h3, h2.trans h4⟩
set_option maxRecDepth 200000 in
set_option maxHeartbeats 4000000 in
theorem text_w {S : St} {k : Nat} {bs : List UInt8} (s : ByteArray) (hk : k < S.next) (h : WAt k bs S) (hl : bs.length + s.data.toList.length + 10 ≤ 1099511627776) : DCalls Try.prog 86 [.loc k 0, .v (.string s)] S fun d T => d = undefD ∧ WAt k (bs ++ (numB s.data.toList.length ++ s.data.toList)) T ∧ WFr k S T := by
  refine dcalls_inline mixed Try.func86 rfl (fun _ _ => by kernel_rfl) (rs := []) rfl (by kernel_rfl) (fun hS => ?_)
  (simp (disch := first | decide | omega | (simp only [add_next, set_next, grow_next, leave_next, List.length_map]; first | done | omega)) only [go_sem, ↓reduceIte, Nat.reduceBEq, Nat.reduceAdd, Nat.reduceLeDiff, Nat.reduceEqDiff, Nat.reduceLT, ob_hit, ob_skip, ob_set, ob_old, getD_map, Int.natCast_nonneg, true_and, and_true, int_zero, beq_self_eq_true, Int.toNat_zero, List.getD_cons_zero, List.getD_cons_succ, List.range_zero, List.mem_cons, List.not_mem_nil, or_false, forall_eq, forall_eq_or_imp, false_implies, implies_true, Nat.reduceMul, Option.isSome_some, bnd, or_true, Int.toNat_one, Int.le_refl, ge_iff_le, gt_iff_lt]; (repeat (with_reducible refine And.intro (by first | omega | assumption | rfl) ?_)))
  refine (bytes_w .no s.data.toList hk h hl).mono ?_
  rintro _ T ⟨rfl, h1, h2⟩
  (simp (disch := first | decide | omega | (simp only [add_next, set_next, grow_next, leave_next, List.length_map]; first | done | omega)) only [go_sem, ↓reduceIte, Nat.reduceBEq, Nat.reduceAdd, Nat.reduceLeDiff, Nat.reduceEqDiff, Nat.reduceLT, ob_hit, ob_skip, ob_set, ob_old, getD_map, Int.natCast_nonneg, true_and, and_true, int_zero, beq_self_eq_true, Int.toNat_zero, List.getD_cons_zero, List.getD_cons_succ, List.range_zero, List.mem_cons, List.not_mem_nil, or_false, forall_eq, forall_eq_or_imp, false_implies, implies_true, Nat.reduceMul, Option.isSome_some, bnd, or_true, Int.toNat_one, Int.le_refl, ge_iff_le, gt_iff_lt]; (repeat (with_reducible refine And.intro (by first | omega | assumption | rfl) ?_)))
  exact h2
set_option maxRecDepth 200000 in
set_option maxHeartbeats 4000000 in
theorem bool_w {S : St} {k : Nat} {bs : List UInt8} (b : Bool) (hk : k < S.next) (h : WAt k bs S) (hl : bs.length + 1 ≤ 1099511627776) : DCalls Try.prog 130 [.loc k 0, .v (.bool b)] S fun d T => d = undefD ∧ WAt k (bs ++ [if b then 1 else 0]) T ∧ WFr k S T := by
  refine dcalls_inline mixed Try.func130 rfl (fun _ _ => by kernel_rfl) (rs := []) rfl (by kernel_rfl) (fun hS => ?_)
  cases b
  · (simp (disch := first | decide | omega | (simp only [add_next, set_next, grow_next, leave_next, List.length_map]; first | done | omega)) only [go_sem, ↓reduceIte, Nat.reduceBEq, Nat.reduceAdd, Nat.reduceLeDiff, Nat.reduceEqDiff, Nat.reduceLT, ob_hit, ob_skip, ob_set, ob_old, getD_map, Int.natCast_nonneg, true_and, and_true, int_zero, beq_self_eq_true, Int.toNat_zero, List.getD_cons_zero, List.getD_cons_succ, List.range_zero, List.mem_cons, List.not_mem_nil, or_false, forall_eq, forall_eq_or_imp, false_implies, implies_true, Nat.reduceMul, Option.isSome_some, bnd, or_true, Int.toNat_one, Int.le_refl, ge_iff_le, gt_iff_lt]; (repeat (with_reducible refine And.intro (by first | omega | assumption | rfl) ?_)))
    refine (raw_w .full [0] hk h (by simpa using hl)).mono ?_
    rintro _ T ⟨rfl, h1, h2⟩
    (simp (disch := first | decide | omega | (simp only [add_next, set_next, grow_next, leave_next, List.length_map]; first | done | omega)) only [go_sem, ↓reduceIte, Nat.reduceBEq, Nat.reduceAdd, Nat.reduceLeDiff, Nat.reduceEqDiff, Nat.reduceLT, ob_hit, ob_skip, ob_set, ob_old, getD_map, Int.natCast_nonneg, true_and, and_true, int_zero, beq_self_eq_true, Int.toNat_zero, List.getD_cons_zero, List.getD_cons_succ, List.range_zero, List.mem_cons, List.not_mem_nil, or_false, forall_eq, forall_eq_or_imp, false_implies, implies_true, Nat.reduceMul, Option.isSome_some, bnd, or_true, Int.toNat_one, Int.le_refl, ge_iff_le, gt_iff_lt]; (repeat (with_reducible refine And.intro (by first | omega | assumption | rfl) ?_)))
    exact ⟨h1, h2⟩
  · (simp (disch := first | decide | omega | (simp only [add_next, set_next, grow_next, leave_next, List.length_map]; first | done | omega)) only [go_sem, ↓reduceIte, Nat.reduceBEq, Nat.reduceAdd, Nat.reduceLeDiff, Nat.reduceEqDiff, Nat.reduceLT, ob_hit, ob_skip, ob_set, ob_old, getD_map, Int.natCast_nonneg, true_and, and_true, int_zero, beq_self_eq_true, Int.toNat_zero, List.getD_cons_zero, List.getD_cons_succ, List.range_zero, List.mem_cons, List.not_mem_nil, or_false, forall_eq, forall_eq_or_imp, false_implies, implies_true, Nat.reduceMul, Option.isSome_some, bnd, or_true, Int.toNat_one, Int.le_refl, ge_iff_le, gt_iff_lt]; (repeat (with_reducible refine And.intro (by first | omega | assumption | rfl) ?_)))
    refine (raw_w .full [1] hk h (by simpa using hl)).mono ?_
    rintro _ T ⟨rfl, h1, h2⟩
    (simp (disch := first | decide | omega | (simp only [add_next, set_next, grow_next, leave_next, List.length_map]; first | done | omega)) only [go_sem, ↓reduceIte, Nat.reduceBEq, Nat.reduceAdd, Nat.reduceLeDiff, Nat.reduceEqDiff, Nat.reduceLT, ob_hit, ob_skip, ob_set, ob_old, getD_map, Int.natCast_nonneg, true_and, and_true, int_zero, beq_self_eq_true, Int.toNat_zero, List.getD_cons_zero, List.getD_cons_succ, List.range_zero, List.mem_cons, List.not_mem_nil, or_false, forall_eq, forall_eq_or_imp, false_implies, implies_true, Nat.reduceMul, Option.isSome_some, bnd, or_true, Int.toNat_one, Int.le_refl, ge_iff_le, gt_iff_lt]; (repeat (with_reducible refine And.intro (by first | omega | assumption | rfl) ?_)))
    exact h2
set_option maxRecDepth 200000 in
set_option maxHeartbeats 4000000 in
theorem int_w {S : St} {k : Nat} {bs : List UInt8} (n : Int) (hn : IsI64 n) (hk : k < S.next) (h : WAt k bs S) (hl : bs.length + 10 ≤ 1099511627776) : DCalls Try.prog 131 [.loc k 0, .v (.int .i64 n)] S fun d T => d = undefD ∧ WAt k (bs ++ numB (zig n)) T ∧ WFr k S T := by
  refine dcalls_inline mixed Try.func131 rfl (fun _ _ => by kernel_rfl) (rs := []) rfl (by kernel_rfl) (fun hS => ?_)
  (simp (disch := first | decide | omega | (simp only [add_next, set_next, grow_next, leave_next, List.length_map]; first | done | omega)) only [go_sem, ↓reduceIte, Nat.reduceBEq, Nat.reduceAdd, Nat.reduceLeDiff, Nat.reduceEqDiff, Nat.reduceLT, ob_hit, ob_skip, ob_set, ob_old, getD_map, Int.natCast_nonneg, true_and, and_true, int_zero, beq_self_eq_true, Int.toNat_zero, List.getD_cons_zero, List.getD_cons_succ, List.range_zero, List.mem_cons, List.not_mem_nil, or_false, forall_eq, forall_eq_or_imp, false_implies, implies_true, Nat.reduceMul, Option.isSome_some, bnd, or_true, Int.toNat_one, Int.le_refl, ge_iff_le, gt_iff_lt, xor_zig n hn]; (repeat (with_reducible refine And.intro (by first | omega | assumption | rfl) ?_)))
  refine (number_w (zig n) (zig_u64 n hn) hk h hl).mono ?_
  rintro _ T ⟨rfl, h1, h2⟩
  (simp (disch := first | decide | omega | (simp only [add_next, set_next, grow_next, leave_next, List.length_map]; first | done | omega)) only [go_sem, ↓reduceIte, Nat.reduceBEq, Nat.reduceAdd, Nat.reduceLeDiff, Nat.reduceEqDiff, Nat.reduceLT, ob_hit, ob_skip, ob_set, ob_old, getD_map, Int.natCast_nonneg, true_and, and_true, int_zero, beq_self_eq_true, Int.toNat_zero, List.getD_cons_zero, List.getD_cons_succ, List.range_zero, List.mem_cons, List.not_mem_nil, or_false, forall_eq, forall_eq_or_imp, false_implies, implies_true, Nat.reduceMul, Option.isSome_some, bnd, or_true, Int.toNat_one, Int.le_refl, ge_iff_le, gt_iff_lt]; (repeat (with_reducible refine And.intro (by first | omega | assumption | rfl) ?_)))
  exact h2
set_option maxRecDepth 200000 in
set_option maxHeartbeats 4000000 in
theorem out_w {S : St} {k : Nat} {bs : List UInt8} (h : WAt k bs S) (hl : bs.length ≤ 1099511627776) : DCalls Try.prog 52 [.loc k 0] S fun d T => ∃ o, d = .sl o (bs.map bD) ∧ WAt k bs T ∧ WFr k S T := by
  obtain ⟨own, h1, h2⟩ := h
  refine dcalls_inline mixed Try.func52 rfl (fun _ _ => by kernel_rfl) (rs := [.tmp 2]) rfl (by kernel_rfl) (fun hS => ?_)
  (simp (disch := first | decide | omega | (simp only [add_next, set_next, grow_next, leave_next, List.length_map]; first | done | omega)) only [go_sem, ↓reduceIte, Nat.reduceBEq, Nat.reduceAdd, Nat.reduceLeDiff, Nat.reduceEqDiff, Nat.reduceLT, ob_hit, ob_skip, ob_set, ob_old, getD_map, Int.natCast_nonneg, true_and, and_true, int_zero, beq_self_eq_true, Int.toNat_zero, List.getD_cons_zero, List.getD_cons_succ, List.range_zero, List.mem_cons, List.not_mem_nil, or_false, forall_eq, forall_eq_or_imp, false_implies, implies_true, Nat.reduceMul, Option.isSome_some, bnd, or_true, Int.toNat_one, Int.le_refl, ge_iff_le, gt_iff_lt, h1]; (repeat (with_reducible refine And.intro (by first | omega | assumption | rfl) ?_)))
  refine dapp_bytes (bs := []) (.inl ⟨rfl, rfl⟩) (by simpa using hl) ?_
  (simp (disch := first | decide | omega | (simp only [add_next, set_next, grow_next, leave_next, List.length_map]; first | done | omega)) only [go_sem, ↓reduceIte, Nat.reduceBEq, Nat.reduceAdd, Nat.reduceLeDiff, Nat.reduceEqDiff, Nat.reduceLT, ob_hit, ob_skip, ob_set, ob_old, getD_map, Int.natCast_nonneg, true_and, and_true, int_zero, beq_self_eq_true, Int.toNat_zero, List.getD_cons_zero, List.getD_cons_succ, List.range_zero, List.mem_cons, List.not_mem_nil, or_false, forall_eq, forall_eq_or_imp, false_implies, implies_true, Nat.reduceMul, Option.isSome_some, bnd, or_true, Int.toNat_one, Int.le_refl, ge_iff_le, gt_iff_lt]; (repeat (with_reducible refine And.intro (by first | omega | assumption | rfl) ?_)))
  have hob : ∀ j o, S.ob j = some o → (S.grow .full 5 bs.length).ob j = some o := fun j o e => by
    have hlt := hS.lt e
    simp [St.grow, St.leave, St.add, show j ≠ S.next by omega, e]
  exact ⟨_, rfl, ⟨own, hob _ _ h1, h2.imp id fun ⟨g, h3, h4, h5⟩ => ⟨g, h3, h4, hob _ _ h5⟩⟩, WFr.of_keep (by simp [St.grow, St.leave, St.add]) hob⟩
end Go.Proofs.Ytpnjkebjdclkfaa
