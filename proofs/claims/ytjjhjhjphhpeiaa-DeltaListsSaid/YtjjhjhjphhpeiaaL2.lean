/- Texts of a proof, part 2. Conditions: none. -/
import Derived.Test.YtjjhjhjphhpeiaaL1
import Derived.Deep.MidRow
set_option linter.unusedVariables false
set_option linter.unusedSimpArgs false
namespace Go.Proofs.Ytjjhjhjphhpeiaa
open Go.RowKit

set_option maxHeartbeats 4000000 in
set_option maxRecDepth 20000 in
theorem refValSame_calls (k : Nat) : ∀ (a b : DVal) (cs ds : List Value) (w : World), a.depth ≤ k → IsVal w (· < w.heap.size) a cs → IsVal w (· < w.heap.size) b ds →
    Calls Try.prog 14 #[.agg cs.toArray, .agg ds.toArray] w (Gives (.bool (eqB a b)) w) := by
  induction k with
  | zero => intro a b cs ds w h; have := a.depth_pos; omega
  | succ k ih =>
    intro a b cs ds w hk ha hb
    obtain ⟨hk1, hki⟩ := ha.kind_
    obtain ⟨hk2, hki2⟩ := hb.kind_
    obtain ⟨hn1, hni⟩ := ha.n_
    obtain ⟨hn2, hni2⟩ := hb.n_
    obtain ⟨hs1, hsl⟩ := ha.s_
    obtain ⟨hs2, hsl2⟩ := hb.s_
    obtain ⟨Aw, cw, hw1, hwr, hwz, hwc, hwm⟩ := ha.names_
    obtain ⟨Aw2, cw2, hw2, hwr2, hwz2, hwc2, hwm2⟩ := hb.names_
    obtain ⟨Ai, ci, hi1, hir, hiz, hic, him⟩ := ha.ids_
    obtain ⟨Ai2, ci2, hi2, hir2, hiz2, hic2, him2⟩ := hb.ids_
    obtain ⟨Ap, cp, C, hp1, hpc, hpm, hP, hA⟩ := ha.partsF
    obtain ⟨Ap2, cp2, C2, hp2, hpc2, hpm2, hP2, hA2⟩ := hb.partsF
    have HW0 := hide (((Below.refl w.heap.size w).alloc (Nat.le_refl _) (.cells cs.toArray 28)).alloc (by simp) (.cells ds.toArray 28))
    have HX2 := hide ((Blk.new w 28 cs.toArray).alloc (.cells ds.toArray 28))
    have HX3 := hide (Blk.new2 w (.cells cs.toArray 28) 28 ds.toArray)
    have HWR := hide (And.intro hwr hwr2)
    have HIR := hide (And.intro hir hir2)
    have HPP := hide (And.intro hA hA2)
    have HIS := hide (And.intro hP hP2)
    have HIU := hide (And.intro hiz hiz2)
    have HI := hide ih
    have HDP := hide (fun p (h : p ∈ a.parts) => DVal.depth_part h)
    clear ih ha hb hA hA2 hP hP2 hwr hwr2 hwz hwz2 hir hir2 hiz hiz2
    by_cases h1 : a.kind = b.kind
    case neg =>
      have hkk : (a.kind != b.kind) = true := by simp; omega
      have HF : Hid (eqB a b = false) := hide (eqB_false fun e => h1 (by rw [e]))
      clear h1
      go_enter Try.func14, Try.ntmps14
      go_wp2
      go_ret
      exact ⟨ret_eq (by rw [HF.out]; rfl), HW0.out⟩
    have hne1 : (a.kind != b.kind) = false := by simp [h1]
    have H1 := hide h1
    clear h1
    by_cases h2 : a.n = b.n
    case neg =>
      have hkk : (a.n != b.n) = true := by simp; omega
      have HF : Hid (eqB a b = false) := hide (eqB_false fun e => h2 (by rw [e]))
      clear h2
      go_enter Try.func14, Try.ntmps14
      go_wp2
      go_ret
      exact ⟨ret_eq (by rw [HF.out]; rfl), HW0.out⟩
    have hne2 : (a.n != b.n) = false := by simp [h2]
    have H2 := hide h2
    clear h2
    by_cases h3 : a.s = b.s
    case neg =>
      have hkk : (a.s != b.s) = true := by simpa using h3
      have hkk2 : (a.s == b.s) = false := by simpa using h3
      have HF : Hid (eqB a b = false) := hide (eqB_false fun e => h3 (by rw [e]))
      clear h3
      go_enter Try.func14, Try.ntmps14
      go_wp2
      go_ret
      exact ⟨ret_eq (by rw [HF.out]; rfl), HW0.out⟩
    have hne3 : (a.s != b.s) = false := by simp [h3]
    have H3 := hide h3
    clear h3
    by_cases h4 : a.names.length = b.names.length
    case neg =>
      have hkk : ((a.names.length : Int) != (b.names.length : Int)) = true := by simp; omega
      have HF : Hid (eqB a b = false) := hide (eqB_false fun e => h4 (by rw [e]))
      clear h4
      go_enter Try.func14, Try.ntmps14
      go_wp2
      go_ret
      exact ⟨ret_eq (by rw [HF.out]; rfl), HW0.out⟩
    have hne4 : ((a.names.length : Int) != (b.names.length : Int)) = false := by simp [h4]
    have H4 := hide h4
    clear h4
    by_cases h5 : a.ids.length = b.ids.length
    case neg =>
      have hkk : ((a.ids.length : Int) != (b.ids.length : Int)) = true := by simp; omega
      have HF : Hid (eqB a b = false) := hide (eqB_false fun e => h5 (by rw [e]))
      clear h5
      go_enter Try.func14, Try.ntmps14
      go_wp2
      go_ret
      exact ⟨ret_eq (by rw [HF.out]; rfl), HW0.out⟩
    have hne5 : ((a.ids.length : Int) != (b.ids.length : Int)) = false := by simp [h5]
    have H5 := hide h5
    clear h5
    by_cases h6 : a.parts.length = b.parts.length
    case neg =>
      have hkk : ((a.parts.length : Int) != (b.parts.length : Int)) = true := by simp; omega
      have HF : Hid (eqB a b = false) := hide (eqB_false fun e => h6 (by rw [e]))
      clear h6
      go_enter Try.func14, Try.ntmps14
      go_wp2
      go_ret
      exact ⟨ret_eq (by rw [HF.out]; rfl), HW0.out⟩
    have hne6 : ((a.parts.length : Int) != (b.parts.length : Int)) = false := by simp [h6]
    have H6 := hide h6
    clear h6
    go_enter Try.func14, Try.ntmps14
    go_wp2_with fail
    go_loopw [5] (fun i wr => ∃ (j : Nat), i = .int .i64 j ∧ j ≤ a.names.length ∧ a.names.take j = b.names.take j ∧ Blk wr w.heap.size 28 cs.toArray ∧ Blk wr (w.heap.size + 1) 28 ds.toArray ∧ Below w.heap.size w wr) (fun i _ => a.names.length - (intOf i).toNat)
    case atStart => exact ⟨0, rfl, Nat.zero_le _, by simp, HX2.out, HX3.out, HW0.out⟩
    case round =>
      clear HX2 HX3 HW0
      obtain ⟨j, rfl, hj, heq, hb2, hb3, hw⟩ := hrel
      have GE := hide heq
      have G2 := hide hb2
      have G3 := hide hb3
      have GW := hide hw
      clear heq hb2 hb3 hw
      obtain ⟨wo, rfl⟩ : ∃ wo : World, wo = wr := ⟨_, rfl⟩
      have c2 : wo.cell? ⟨w.heap.size, 3, none⟩ = some (.slice Aw a.names.length cw) := by rw [G2.out.cell]; simpa using hw1
      have c3 : wo.cell? ⟨w.heap.size + 1, 3, none⟩ = some (.slice Aw2 b.names.length cw2) := by rw [G3.out.cell]; simpa using hw2
      by_cases hlt : j < a.names.length
      · have hlt2 : j < b.names.length := by rw [← H4.out]; exact hlt
        obtain ⟨x, o, rfl, hx, hc1⟩ := HWR.out.1.at_ hlt
        obtain ⟨x2, o2, rfl, hx2, hc2⟩ := HWR.out.2.at_ hlt2
        have d1 : wo.cell? ⟨x, o + j, none⟩ = some (sv a.names[j]) := (GW.out.cell (p := ⟨x, o + j, none⟩) hx).trans hc1
        have d2 : wo.cell? ⟨x2, o2 + j, none⟩ = some (sv b.names[j]) := (GW.out.cell (p := ⟨x2, o2 + j, none⟩) hx2).trans hc2
        have HT : Hid (a.names[j] = b.names[j] → a.names.take (j + 1) = b.names.take (j + 1)) := hide fun e => by rw [List.take_succ_eq_append_getElem hlt, List.take_succ_eq_append_getElem hlt2, GE.out, e]
        have HD : Hid (a.names[j] ≠ b.names[j] → eqB a b = false) := hide fun e => eqB_false fun h => e (by simp only [h])
        have j1 : (0 : Int) ≤ (j : Int) := by omega
        have j2 : (j : Int) < (a.names.length : Int) := by omega
        have j3 : (j : Int) < (b.names.length : Int) := by omega
        clear hc1 hc2
        generalize a.names[j] = s1 at *
        generalize b.names[j] = s2 at *
        cases hss : (s1 == s2)
        · have HSS := hide hss
          go_wp2_with fail
          go_quiet (fail)
          go_wp2
          go_ret
          exact ⟨ret_eq (by rw [HD.out (by simpa using HSS.out)]; rfl), below_drewN GW.out _⟩
        · have HSS := hide hss
          go_wp2_with fail
          go_quiet (fail)
          go_wp2_with fail
          exact ⟨⟨j + 1, by go_num, by omega, HT.out (by simpa using HSS.out), G2.out.drewN _, G3.out.drewN _, below_drewN GW.out _⟩, by simp [intOf]; omega⟩
      · have HEN : Hid (a.names = b.names) := hide (by
          have := GE.out
          rw [List.take_of_length_le (by omega), List.take_of_length_le (by rw [← H4.out]; omega)] at this
          exact this)
        clear GE
        have e2 : wo.cell? ⟨w.heap.size, 4, none⟩ = some (.slice Ai a.ids.length ci) := by rw [G2.out.cell]; simpa using hi1
        have e3 : wo.cell? ⟨w.heap.size + 1, 4, none⟩ = some (.slice Ai2 b.ids.length ci2) := by rw [G3.out.cell]; simpa using hi2
        go_wp2_with fail
        go_loopw [6] (fun i wr => ∃ (j : Nat), i = .int .i64 j ∧ j ≤ a.ids.length ∧ a.ids.take j = b.ids.take j ∧ Blk wr w.heap.size 28 cs.toArray ∧ Blk wr (w.heap.size + 1) 28 ds.toArray ∧ Below w.heap.size w wr) (fun i _ => a.ids.length - (intOf i).toNat)
        case atStart => exact ⟨0, rfl, Nat.zero_le _, by simp, G2.out, G3.out, GW.out⟩
        case round =>
          clear c2 c3 e2 e3 G2 G3 GW
          obtain ⟨j, rfl, hj, heq, hb2, hb3, hw⟩ := hrel
          have GE := hide heq
          have G2 := hide hb2
          have G3 := hide hb3
          have GW := hide hw
          clear heq hb2 hb3 hw
          obtain ⟨wo, rfl⟩ : ∃ wo : World, wo = wr := ⟨_, rfl⟩
          have c2 : wo.cell? ⟨w.heap.size, 4, none⟩ = some (.slice Ai a.ids.length ci) := by rw [G2.out.cell]; simpa using hi1
          have c3 : wo.cell? ⟨w.heap.size + 1, 4, none⟩ = some (.slice Ai2 b.ids.length ci2) := by rw [G3.out.cell]; simpa using hi2
          by_cases hlt : j < a.ids.length
          · have hlt2 : j < b.ids.length := by rw [← H5.out]; exact hlt
            obtain ⟨x, o, rfl, hx, hc1⟩ := HIR.out.1.at_ hlt
            obtain ⟨x2, o2, rfl, hx2, hc2⟩ := HIR.out.2.at_ hlt2
            have d1 : wo.cell? ⟨x, o + j, none⟩ = some (uv a.ids[j]) := (GW.out.cell (p := ⟨x, o + j, none⟩) hx).trans hc1
            have d2 : wo.cell? ⟨x2, o2 + j, none⟩ = some (uv b.ids[j]) := (GW.out.cell (p := ⟨x2, o2 + j, none⟩) hx2).trans hc2
            have HT : Hid (a.ids[j] = b.ids[j] → a.ids.take (j + 1) = b.ids.take (j + 1)) := hide fun e => by rw [List.take_succ_eq_append_getElem hlt, List.take_succ_eq_append_getElem hlt2, GE.out, e]
            have HD : Hid (a.ids[j] ≠ b.ids[j] → eqB a b = false) := hide fun e => eqB_false fun h => e (by simp only [h])
            have j1 : (0 : Int) ≤ (j : Int) := by omega
            have j2 : (j : Int) < (a.ids.length : Int) := by omega
            have j3 : (j : Int) < (b.ids.length : Int) := by omega
            clear hc1 hc2
            generalize a.ids[j] = s1 at *
            generalize b.ids[j] = s2 at *
            unfold uv at d1 d2
            by_cases hss : s1 = s2
            · have hsb : ((s1 : Int) != (s2 : Int)) = false := by simp [hss]
              have HSS := hide hss
              clear hss
              go_wp2_with fail
              go_quiet (fail)
              go_wp2_with fail
              exact ⟨⟨j + 1, by go_num, by omega, HT.out HSS.out, G2.out.drewN _, G3.out.drewN _, below_drewN GW.out _⟩, by simp [intOf]; omega⟩
            · have hsb : ((s1 : Int) != (s2 : Int)) = true := by simp; omega
              have HSS := hide hss
              clear hss
              go_wp2_with fail
              go_quiet (fail)
              go_wp2
              go_ret
              exact ⟨ret_eq (by rw [HD.out HSS.out]; rfl), below_drewN GW.out _⟩
          · have HEI : Hid (a.ids = b.ids) := hide (by
              have := GE.out
              rw [List.take_of_length_le (by omega), List.take_of_length_le (by rw [← H5.out]; omega)] at this
              exact this)
            clear GE
            have e2 : wo.cell? ⟨w.heap.size, 5, none⟩ = some (.slice Ap a.parts.length cp) := by rw [G2.out.cell]; simpa using hp1
            have e3 : wo.cell? ⟨w.heap.size + 1, 5, none⟩ = some (.slice Ap2 b.parts.length cp2) := by rw [G3.out.cell]; simpa using hp2
            go_wp2_with fail
            go_loopw [7] (fun i wr => ∃ (j : Nat), i = .int .i64 j ∧ j ≤ a.parts.length ∧ a.parts.take j = b.parts.take j ∧ Blk wr w.heap.size 28 cs.toArray ∧ Blk wr (w.heap.size + 1) 28 ds.toArray ∧ Below w.heap.size w wr) (fun i _ => a.parts.length - (intOf i).toNat)
            case atStart => exact ⟨0, rfl, Nat.zero_le _, by simp, G2.out, G3.out, GW.out⟩
            case round =>
              clear c2 c3 e2 e3 G2 G3 GW
              obtain ⟨j, rfl, hj, heq, hb2, hb3, hw⟩ := hrel
              have GE := hide heq
              have G2 := hide hb2
              have G3 := hide hb3
              have GW := hide hw
              clear heq hb2 hb3 hw
              obtain ⟨wo, rfl⟩ : ∃ wo : World, wo = wr := ⟨_, rfl⟩
              have c2 : wo.cell? ⟨w.heap.size, 5, none⟩ = some (.slice Ap a.parts.length cp) := by rw [G2.out.cell]; simpa using hp1
              have c3 : wo.cell? ⟨w.heap.size + 1, 5, none⟩ = some (.slice Ap2 b.parts.length cp2) := by rw [G3.out.cell]; simpa using hp2
              by_cases hlt : j < a.parts.length
              · have hlt2 : j < b.parts.length := by rw [← H6.out]; exact hlt
                obtain ⟨x, o, rfl, hx, hc1⟩ := HPP.out.1 (by omega)
                obtain ⟨x2, o2, rfl, hx2, hc2⟩ := HPP.out.2 (by omega)
                obtain ⟨hl1, hr1⟩ := hc1 j hlt
                obtain ⟨hl2, hr2⟩ := hc2 j hlt2
                have GS := hide (List.getElem?_eq_getElem hlt)
                have GS2 := hide (List.getElem?_eq_getElem hlt2)
                have HP1 := hide (HIS.out.1 j _ GS.out)
                have HP2 := hide (HIS.out.2 j _ GS2.out)
                have HRW : Hid (∀ W, Below wo.heap.size wo W → W.rangeAt x (o + j * 6) (C j)) := hide fun W hW q v hv => (hW.cell (p := ⟨x, o + j * 6 + q, none⟩) (Nat.lt_of_lt_of_le hx GW.out.size)).trans ((GW.out.cell (p := ⟨x, o + j * 6 + q, none⟩) hx).trans (hr1 q v hv))
                have HRW2 : Hid (∀ W, Below wo.heap.size wo W → W.rangeAt x2 (o2 + j * 6) (C2 j)) := hide fun W hW q v hv => (hW.cell (p := ⟨x2, o2 + j * 6 + q, none⟩) (Nat.lt_of_lt_of_le hx2 GW.out.size)).trans ((GW.out.cell (p := ⟨x2, o2 + j * 6 + q, none⟩) hx2).trans (hr2 q v hv))
                have hpd := HDP.out _ (List.getElem_mem hlt)
                have HC := hide (fun (W : World) (hW : Below wo.heap.size wo W) => HI.out a.parts[j] b.parts[j] (C j) (C2 j) W (by omega) (HP1.out.more (GW.out.trans (hW.mono GW.out.size))) (HP2.out.more (GW.out.trans (hW.mono GW.out.size))))
                have HT : Hid (a.parts[j] = b.parts[j] → a.parts.take (j + 1) = b.parts.take (j + 1)) := hide fun e => by rw [List.take_succ_eq_append_getElem hlt, List.take_succ_eq_append_getElem hlt2, GE.out, e]
                have HD : Hid (a.parts[j] ≠ b.parts[j] → eqB a b = false) := hide fun e => by
                  refine eqB_false fun h => e ?_
                  simp only [h]
                have hi1 : (Try.prog.info? 28).map (·.size) = some (C j).length := by rw [hl1]; kernel_rfl
                have hi2 : (Try.prog.info? 28).map (·.size) = some (C2 j).length := by rw [hl2]; kernel_rfl
                have hu := Try.underlying28
                have j1 : (0 : Int) ≤ (j : Int) := by omega
                have j2 : (j : Int) < (a.parts.length : Int) := by omega
                have j3 : (j : Int) < (b.parts.length : Int) := by omega
                clear hc1 hc2 hr1 hr2 HP1 HP2 GS GS2
                generalize a.parts[j] = s1 at *
                generalize b.parts[j] = s2 at *
                generalize C j = e1 at *
                generalize C2 j = e2 at *
                cases hss : eqB s1 s2
                all_goals
                  have HSS := hide hss
                  rw [hss] at HC
                  clear hss
                  have HC2c := hide (And.intro c2 c3)
                  go_wp2_with fail
                  refine wp_region_held_drew (S := fun w' => Below wo.heap.size wo w') (by kernel_rfl) (Below.refl _ _).drew (fun hHeld => ?_)
                  (refine takeH (i := 0) (v := .pointer (some ⟨w.heap.size, 5, none⟩)) rfl rfl (by kernel_rfl) (by kernel_rfl) (by kernel_rfl) (fun _ _ _ h => h) (by rfl) (fun wz hSw => by go_simp) hHeld ?_; simp only [Act.put, List.setIfInBounds_toArray, List.set_cons_zero, List.set_cons_succ])
                  (refine takeH (i := 1) (v := .slice (some ⟨x, o, none⟩) a.parts.length cp) rfl rfl (by kernel_rfl) (by kernel_rfl) (by kernel_rfl) (fun _ _ _ h => h) (by rfl) (fun wz hSw => by have hcx := (hSw.cell (p := ⟨w.heap.size, 5, none⟩) G2.out.lt).trans HC2c.out.1; go_simp) hHeld ?_; simp only [Act.put, List.setIfInBounds_toArray, List.set_cons_zero, List.set_cons_succ])
                  (refine takeH (i := 2) (v := .int .i64 j) rfl rfl (by kernel_rfl) (by kernel_rfl) (by kernel_rfl) (fun _ _ _ h => h) (by rfl) (fun wz hSw => by go_simp) hHeld ?_; simp only [Act.put, List.setIfInBounds_toArray, List.set_cons_zero, List.set_cons_succ])
                  (refine takeH (i := 3) (v := .pointer (some ⟨x, o + j * 6, none⟩)) rfl rfl (by kernel_rfl) (by kernel_rfl) (by kernel_rfl) (fun _ _ _ h => h) (by rfl) (fun wz hSw => by go_simp) hHeld ?_; simp only [Act.put, List.setIfInBounds_toArray, List.set_cons_zero, List.set_cons_succ])
                  (refine takeH (i := 4) (v := .agg (e1).toArray) rfl rfl (by kernel_rfl) (by kernel_rfl) (by kernel_rfl) (fun _ _ _ h => h) (by rfl) (fun wz hw => load_exec 28 (.tmp 100) rfl (x) (o + j * 6) rfl (e1) _ (HRW.out _ hw) hu rfl hi1) hHeld ?_; simp only [Act.put, List.setIfInBounds_toArray, List.set_cons_zero, List.set_cons_succ])
                  (refine takeH (i := 5) (v := .pointer (some ⟨w.heap.size + 1, 5, none⟩)) rfl rfl (by kernel_rfl) (by kernel_rfl) (by kernel_rfl) (fun _ _ _ h => h) (by rfl) (fun wz hSw => by go_simp) hHeld ?_; simp only [Act.put, List.setIfInBounds_toArray, List.set_cons_zero, List.set_cons_succ])
                  (refine takeH (i := 6) (v := .slice (some ⟨x2, o2, none⟩) b.parts.length cp2) rfl rfl (by kernel_rfl) (by kernel_rfl) (by kernel_rfl) (fun _ _ _ h => h) (by rfl) (fun wz hSw => by have hcx := (hSw.cell (p := ⟨w.heap.size + 1, 5, none⟩) G3.out.lt).trans HC2c.out.2; go_simp) hHeld ?_; simp only [Act.put, List.setIfInBounds_toArray, List.set_cons_zero, List.set_cons_succ])
                  (refine takeH (i := 7) (v := .int .i64 j) rfl rfl (by kernel_rfl) (by kernel_rfl) (by kernel_rfl) (fun _ _ _ h => h) (by rfl) (fun wz hSw => by go_simp) hHeld ?_; simp only [Act.put, List.setIfInBounds_toArray, List.set_cons_zero, List.set_cons_succ])
                  (refine takeH (i := 8) (v := .pointer (some ⟨x2, o2 + j * 6, none⟩)) rfl rfl (by kernel_rfl) (by kernel_rfl) (by kernel_rfl) (fun _ _ _ h => h) (by rfl) (fun wz hSw => by go_simp) hHeld ?_; simp only [Act.put, List.setIfInBounds_toArray, List.set_cons_zero, List.set_cons_succ])
                  (refine takeH (i := 9) (v := .agg (e2).toArray) rfl rfl (by kernel_rfl) (by kernel_rfl) (by kernel_rfl) (fun _ _ _ h => h) (by rfl) (fun wz hw => load_exec 28 (.tmp 105) rfl (x2) (o2 + j * 6) rfl (e2) _ (HRW2.out _ hw) hu rfl hi2) hHeld ?_; simp only [Act.put, List.setIfInBounds_toArray, List.set_cons_zero, List.set_cons_succ])
                  (refine oneH (i := 10) rfl (by kernel_rfl) (fun K hK => ?_); go_simp; refine (HC.out _ hHeld).mono ?_; rintro e w1 ⟨rfl, hb1⟩; have hq := hHeld.trans (hb1.mono hHeld.size); refine hK.out _ _ (hq) (fun hHeld => ?_); clear hK K)
                  (refine oneH (i := 11) rfl (by kernel_rfl) (fun K hK => ?_); go_simp; refine hK.out _ _ (hq) (fun hHeld => ?_); clear hK K)
                  refine wpAnyH_done (by kernel_rfl) ?_ _
                  have K2 := hide (G2.out.below hq G2.out.lt)
                  have K3 := hide (G3.out.below hq G3.out.lt)
                  have KW := hide (GW.out.trans (hq.mono GW.out.size))
                  clear hHeld hb1 hq hu hi1 hi2
                · go_wp2
                  go_ret
                  exact ⟨ret_eq (by rw [HD.out (fun e => by rw [eqB_true e] at HSS; cases HSS.out)]; rfl), KW.out⟩
                · go_wp2_with fail
                  exact ⟨⟨j + 1, by go_num, by omega, HT.out (eqB_iff.1 HSS.out), K2.out, K3.out, KW.out⟩, by simp [intOf]; omega⟩
              · have HE : Hid (eqB a b = true) := hide (by
                  have := GE.out
                  rw [List.take_of_length_le (by omega), List.take_of_length_le (by rw [← H6.out]; omega)] at this
                  exact eqB_true ((DVal.ext_iff' a b).2 ⟨H1.out, H2.out, H3.out, HEN.out, HEI.out, this⟩))
                go_wp2
                go_ret
                exact ⟨ret_eq (by rw [HE.out]; rfl), GW.out⟩
end Go.Proofs.Ytjjhjhjphhpeiaa

namespace Go.Proofs.Ytjjhjhjphhpeiaa

def b8 (n : Nat) : UInt8 := UInt8.ofNat n
end Go.Proofs.Ytjjhjhjphhpeiaa

namespace Go.Proofs.Ytjjhjhjphhpeiaa
open Go.RowKit

theorem flat_get {n : Nat} : ∀ {Cs : List (List Value)} {i j : Nat} {C : List Value}, (∀ D ∈ Cs, D.length = n) → Cs[i]? = some C → j < n → Cs.flatten[i * n + j]? = C[j]?
  | [], i, j, C, _, hi, _ => by simp at hi
  | D :: Cs, 0, j, C, hl, hi, hj => by
    have e : D = C := by simpa using hi
    subst e
    have h1 := hl D (by simp)
    rw [List.flatten_cons, List.getElem?_append_left (by omega)]
    simp
  | D :: Cs, i + 1, j, C, hl, hi, hj => by
    have h1 := hl D (by simp)
    have := flat_get (n := n) (Cs := Cs) (i := i) (j := j) (C := C) (fun x hx => hl x (by simp [hx])) (by simpa using hi) hj
    rw [List.flatten_cons, List.getElem?_append_right (by rw [Nat.add_mul]; omega), ← this]
    congr 1
    rw [Nat.add_mul]; omega
theorem reads_blk {w : World} {g : Nat} {t : TypeId} {size n : Nat} {cs : List Value} (hb : Blk w g t cs.toArray) (hl : cs.length = n * size) : Reads w w.heap.size size (some ⟨g, 0, none⟩) n cs :=
  ⟨hl, fun _ => ⟨g, 0, rfl, hb.lt, fun j u hu => by rw [Nat.zero_add, hb.cell]; simpa using hu⟩⟩
/-- The cells of a row of the call's own. -/
theorem own_cells {w : World} {base : Nat} {e : TypeId} {size n c : Nat} {A : Option Addr} {xs : List Value} (h : w.ownsRow base e size (.slice A n c) n xs) : RF w (fun b => (Value.slice A n c).ownBlock = some b) size A n xs := by
  refine ⟨h.1, fun hn => ?_⟩
  obtain ⟨g, cap, hv, _, hlt⟩ := h.form hn
  have hA : A = some ⟨g, 0, none⟩ := by injection hv
  subst hA
  exact ⟨g, 0, rfl, rfl, fun j u hu => by have := h.cells (g := g) rfl j u hu; rwa [Addr.add_lit] at this⟩
theorem own_cap {w : World} {base : Nat} {e : TypeId} {size n c : Nat} {A : Option Addr} {xs : List Value} (h : w.ownsRow base e size (.slice A n c) n xs) : n ≤ c := by
  rcases h.2 with ⟨hv, h0⟩ | ⟨g, cap, cur, hv, _, _, hnc, _⟩
  · omega
  · have : c = cap := by injection hv
    omega

section
variable {w w' : World} {B g : Nat} {kd n : Int} {s : Str} {names : List Str} {parts : List DVal} {An Ap : Option Addr} {cn cp : Nat}
end
end Go.Proofs.Ytjjhjhjphhpeiaa

namespace Go.Proofs.Ytjjhjhjphhpeiaa
open Go.RowKit

/-- What trees of memory have in common. -/
structure TreeLike {D : Type} (size : Nat) (Is : World → (Nat → Prop) → D → List Value → Prop) : Prop where
  pos : 0 < size
  keep : ∀ {w w' : World} {F : Nat → Prop} {d : D} {C : List Value}, Is w F d C → (∀ q : Addr, F q.block → w'.cell? q = w.cell? q) → Is w' F d C
  mono : ∀ {w : World} {F G : Nat → Prop} {d : D} {C : List Value}, Is w F d C → (∀ k, F k → G k) → Is w G d C
  length : ∀ {w : World} {F : Nat → Prop} {d : D} {C : List Value}, Is w F d C → C.length = size
  one : ∀ {w : World} {F : Nat → Prop} {d : D} {C : List Value}, Is w F d C → ∀ v ∈ C, v.oneCell' = true
theorem treeSch : TreeLike 3 IsSch := ⟨by omega, fun h k => h.keep k, fun h k => h.mono k, fun h => h.length, fun h => h.one⟩
/-- A row of the call's own, whose elements are trees that lie beside it. -/
structure RB {D : Type} (t : TypeId) (size : Nat) (Is : World → (Nat → Prop) → D → List Value → Prop) (w : World) (B : Nat) (A : Option Addr) (c : Nat) (ds : List D) (Cs : List (List Value)) : Prop where
  hl : Cs.length = ds.length
  h3 : ∀ C ∈ Cs, C.length = size
  h1 : ∀ C ∈ Cs, ∀ v ∈ C, v.oneCell' = true
  own : w.ownsRow B t size (.slice A ds.length c) ds.length Cs.flatten
  is : ∀ (i : Nat) (p : D), ds[i]? = some p → ∃ C, Cs[i]? = some C ∧ Is w (fun b => B ≤ b ∧ b < w.heap.size ∧ (Value.slice A ds.length c).ownBlock ≠ some b) p C

section
variable {D : Type} {t : TypeId} {size : Nat} {Is : World → (Nat → Prop) → D → List Value → Prop} {w w' : World} {B : Nat} {A : Option Addr} {c : Nat} {ds : List D} {Cs : List (List Value)}
theorem RB.nil (T : TreeLike size Is) (w : World) (B : Nat) : RB t size Is w B none 0 ([] : List D) [] :=
  ⟨rfl, fun _ h => (by cases h), fun _ h => (by cases h), World.ownsRow_nil _ _ _ _, fun i p hp => by simp at hp⟩
theorem RB.keep (T : TreeLike size Is) (h : RB t size Is w B A c ds Cs) (hf : Below w.heap.size w w') : RB t size Is w' B A c ds Cs :=
  ⟨h.hl, h.h3, h.h1, own_below' h.own hf, fun i p hp => by
    obtain ⟨C, hC, hv⟩ := h.is i p hp
    exact ⟨C, hC, T.mono (T.keep hv fun q hq => hf.cell hq.2.1) fun b hb => ⟨hb.1, Nat.lt_of_lt_of_le hb.2.1 hf.size, hb.2.2⟩⟩⟩
theorem RB.app (T : TreeLike size Is) {m : Nat} {A' : Option Addr} {c' : Nat} {x : D} {C : List Value} (h : RB t size Is w B A c ds Cs) (hm : ds.length = m)
    (hx : Is w (fun b => B ≤ b ∧ b < w.heap.size ∧ (Value.slice A m c).ownBlock ≠ some b) x C)
    (hown : w'.ownsRow B t size (.slice A' (m + 1) c') (m + 1) (Cs.flatten ++ C)) (hgr : w.grownBy w' (Value.slice A m c).ownBlock)
    (hlie : (Value.slice A' (m + 1) c').ownBlock = (Value.slice A m c).ownBlock ∨ (Value.slice A' (m + 1) c').ownBlock = some w.heap.size) :
    RB t size Is w' B A' c' (ds ++ [x]) (Cs ++ [C]) := by
  subst hm
  have hlen : (ds ++ [x]).length = ds.length + 1 := by simp
  have keepV : ∀ (p : D) (E : List Value), Is w (fun b => B ≤ b ∧ b < w.heap.size ∧ (Value.slice A ds.length c).ownBlock ≠ some b) p E → Is w' (fun b => B ≤ b ∧ b < w'.heap.size ∧ (Value.slice A' (ds.length + 1) c').ownBlock ≠ some b) p E := by
    intro p E hv
    refine T.mono (T.keep hv fun q hq => World.cell?_of_block (hgr.block q.block hq.2.1 (fun e => hq.2.2 e.symm))) fun b hb => ⟨hb.1, Nat.lt_of_lt_of_le hb.2.1 hgr.size, ?_⟩
    rcases hlie with e | e <;> rw [e]
    · exact hb.2.2
    · intro e; injection e with e; have := hb.2.1; omega
  refine ⟨by simp [h.hl], ?_, ?_, ?_, fun i p hp => ?_⟩
  · intro E hE
    rcases List.mem_append.1 hE with hE | hE
    · exact h.h3 E hE
    · rw [List.mem_singleton.1 hE]; exact T.length hx
  · intro E hE
    rcases List.mem_append.1 hE with hE | hE
    · exact h.h1 E hE
    · rw [List.mem_singleton.1 hE]; exact T.one hx
  · rw [hlen, List.flatten_append]
    simpa using hown
  · rw [hlen]
    have hl := h.hl
    by_cases hi : i < ds.length
    · rw [List.getElem?_append_left hi] at hp
      obtain ⟨E, hE, hv⟩ := h.is i p hp
      exact ⟨E, by rw [List.getElem?_append_left (by omega)]; exact hE, keepV p E hv⟩
    · have hil : i = ds.length := by
        have := (List.getElem?_eq_some_iff.1 hp).1
        simp at this; omega
      subst hil
      rw [List.getElem?_append_right (Nat.le_refl _)] at hp
      simp at hp
      subst hp
      exact ⟨C, by rw [← hl, List.getElem?_append_right (Nat.le_refl _)]; simp, keepV _ _ hx⟩
/-- What has been built is a row of trees. -/
theorem RB.done (T : TreeLike size Is) (h : RB t size Is w B A c ds Cs) : ∃ b o, ∃ C : Nat → List Value, (0 < ds.length → A = some ⟨b, o, none⟩ ∧ (B ≤ b ∧ b < w.heap.size)) ∧
    (∀ (i : Nat) (p : D), ds[i]? = some p → (C i).length = size ∧ w.rangeAt b (o + i * size) (C i)) ∧ (∀ (i : Nat) (p : D), ds[i]? = some p → Is w (fun b => B ≤ b ∧ b < w.heap.size) p (C i)) ∧ ds.length ≤ c := by
  have hrp := own_cells h.own
  rcases Nat.eq_zero_or_pos ds.length with h0 | h0
  · have hp0 : ds = [] := List.eq_nil_of_length_eq_zero h0
    subst hp0
    exact ⟨0, 0, fun _ => [], fun h => absurd h (by simp), fun i p hp => (by simp at hp), fun i p hp => (by simp at hp), own_cap h.own⟩
  · obtain ⟨b, o, hA, hFb, hc⟩ := hrp.2 h0
    have hFb' := h.own.lt b hFb
    refine ⟨b, o, fun i => Cs.getD i [], fun _ => ⟨hA, hFb'⟩, fun i p hp => ?_, fun i p hp => ?_, own_cap h.own⟩
    · obtain ⟨C, hC, hv⟩ := h.is i p hp
      have e : (fun i => Cs.getD i []) i = C := by simp [List.getD, hC]
      rw [e]
      refine ⟨T.length hv, fun j v hj => ?_⟩
      have hj6 : j < size := by rw [← T.length hv]; exact (List.getElem?_eq_some_iff.1 hj).1
      have := flat_get h.h3 hC hj6
      rw [Nat.add_assoc]
      exact hc (i * size + j) v (this.trans hj)
    · obtain ⟨C, hC, hv⟩ := h.is i p hp
      have e : (fun i => Cs.getD i []) i = C := by simp [List.getD, hC]
      rw [e]
      exact T.mono hv fun b hb => ⟨hb.1, hb.2.1⟩
end
end Go.Proofs.Ytjjhjhjphhpeiaa

namespace Go.Proofs.Ytjjhjhjphhpeiaa
open Go.RowKit

/-- The call answers schema s, made of new memory. -/
def NewSch (s : DSch) (w : World) (e : Ending) (w' : World) : Prop := ∃ cs : List Value, e = .returned (.agg cs.toArray) ∧ IsSch w' (fun b => w.heap.size ≤ b ∧ b < w'.heap.size) s cs ∧ Below w.heap.size w w'
theorem info_strK : (Try.prog.info? 9).map (fun i => (i.zero, i.size, i.bytes)) = some (some (sv []), 1, 16) := by kernel_rfl
theorem info_schK : (Try.prog.info? 47).map (fun i => (i.zero, i.size, i.bytes)) = some (some (.agg #[.int .i64 0, .slice none 0 0, .slice none 0 0]), 3, 56) := by kernel_rfl
theorem info_schS : (Try.prog.info? 47).map (·.size) = some 3 := by kernel_rfl

set_option maxHeartbeats 2000000 in
set_option maxRecDepth 20000 in
theorem schCopy_calls (k : Nat) : ∀ (s : DSch) (cs : List Value) (w : World), s.depth ≤ k → s.weight ≤ 1000000 → IsSch w (· < w.heap.size) s cs →
    Calls Try.prog 102 #[.agg cs.toArray] w (NewSch s w) := by
  induction k with
  | zero => intro s cs w h; have := s.depth_pos; omega
  | succ k ih =>
    intro s cs w hk hwt hs
    have HDP := hide (fun p (h : p ∈ s.parts) => DSch.depth_part h)
    have HWP := hide (fun p (h : p ∈ s.parts) => DSch.weight_part h)
    have hww := s.words_weight
    have hpw := s.parts_weight
    have HI := hide ih
    obtain ⟨Ap', cp', C', hp1', _, _, hP', hA'⟩ := hs.partsF
    cases hs with
    | @mk kind words parts Aw Ap cw cp b o C hki hw hz hcw hmw hA hC hP hcp hmp =>
    simp only [DSch.words, DSch.parts] at *
    obtain ⟨rfl, rfl⟩ : Ap' = Ap ∧ cp' = cp := by simpa [eq_comm] using hp1'
    have HPA := hide hA'
    have HPP := hide hP'
    have HKI := hide hki
    have HZ := hide hz
    have HW := hide hw
    clear ih hA hC hP hA' hP' hz hw hki hp1'
    obtain ⟨i9, hi9, hz9, hs9, hb9⟩ := info_parts info_strK
    obtain ⟨i25, hi25, hz25, hs25, hb25⟩ := info_parts info_schK
    have HW0 := hide (((Below.refl w.heap.size w).alloc (Nat.le_refl _) (.cells #[.int .i64 kind, .slice Aw words.length cw, .slice Ap' parts.length cp'] 47)))
    have HX := hide (Blk.new w 47 #[.int .i64 kind, .slice Aw words.length cw, .slice Ap' parts.length cp'])
    have hRD := HW.out.reads (B := w.heap.size) (fun _ h => h)
    have HRD := hide hRD
    clear hRD
    go_enter Try.func102, Try.ntmps102
    go_upto_region 1 with fail
    go_cut [8] (fun v wx => ∃ (Aq : Option Addr) (cq : Nat), v = .slice Aq words.length cq ∧ wx.ownsRow (w.heap.size + 1 + 1) 9 1 (.slice Aq words.length cq) words.length (words.map sv) ∧ Blk wx w.heap.size 47 #[.int .i64 kind, .slice Aq words.length cq, .slice Ap' parts.length cp'] ∧ (∃ Z : Array Value, Z.size = 3 ∧ Blk wx (w.heap.size + 1) 47 Z) ∧ Below w.heap.size w wx)
    case first =>
      have HW1 := hide (HW0.out.alloc (by simp) (.cells #[.int .i64 0, .slice none 0 0, .slice none 0 0] 47))
      have HX1 := hide (HX.out.alloc (.cells #[.int .i64 0, .slice none 0 0, .slice none 0 0] 47))
      have HZ1 := hide (Blk.new2 w (.cells #[.int .i64 kind, .slice Aw words.length cw, .slice Ap' parts.length cp'] 47) 47 #[.int .i64 0, .slice none 0 0, .slice none 0 0])
      have HRE := hide ((HRD.out.keep (fun p hp => HW1.out.cell hp)))
      go_wp2_with (first
        | (at_builtin; refine wpList_append_any _ rfl _ _ 22 rfl _ 9 i9 (sv []) 1 16 Try.underlying22 hi9 hz9 hs9 hb9 rfl (by decide) (.slice none 0 0) 0 [] (by rfl) (World.ownsRow_nil _ (w.heap.size + 1 + 1) _ _) _ _ words.length _ (words.map sv) (by rfl) HRE.out (by intro u hu; obtain ⟨x, _, rfl⟩ := List.mem_map.1 hu; rfl) (by unfold maxLen; omega) (by omega) (by simp) ?_; intro Aq cq wq ownq growq lieq; simp only [Nat.zero_add, List.nil_append] at ownq ⊢; have HBK := hide (HX1.out.grown growq (by simp [Value.ownBlock])); have f3 := HBK.out.frozen 1; have e3 := HBK.out.cell 1; have HOW := hide ownq; have HGQ := hide growq; have HLI := hide lieq; clear ownq growq lieq)
        | fail)
      go_meet
      have hF : Fr (fun k => k = w.heap.size) wq (wq.setCell ⟨w.heap.size, 1, none⟩ (.slice Aq words.length cq)) := (Fr.refl (fun k => k = w.heap.size) wq).setCell (p := ⟨w.heap.size, 1, none⟩) (.inl rfl) _
      refine ⟨Aq, cq, rfl, own_fr HOW.out hF (fun q hk e => by have := (HOW.out.lt q hk).1; omega), by simpa using HBK.out.set_ 1 (.slice Aq words.length cq), ⟨_, rfl, (HZ1.out.grown HGQ.out (by simp [Value.ownBlock])).fr hF (by omega)⟩, ?_⟩
      exact ((HW1.out.grown HGQ.out (by simp; omega) (fun b hb => by simp [Value.ownBlock] at hb))).trans (hF.below (by have := HBK.out.lt; omega) fun x hx h => by omega)
    case rest =>
      obtain ⟨Aq, cq, rfl, hwo, h1, ⟨Z, hZ, h2⟩, hw⟩ := hcut
      have HWO := hide hwo
      have G1 := hide h1
      have G2 := hide h2
      have GZ := hide hZ
      have GW := hide hw
      have hlt1 := h2.lt
      clear hwo h1 h2 hw hZ HX HW0
      have c2 : wc.cell? ⟨w.heap.size, 2, none⟩ = some (.slice Ap' parts.length cp') := G1.out.cell 2
      go_wp2_with fail
      go_loopw [3, 13] (fun rv iv wr => ∃ (j : Nat) (A : Option Addr) (c : Nat) (Cs : List (List Value)), rv = .slice A j c ∧ iv = .int .i64 j ∧ j ≤ parts.length ∧ RB 47 3 IsSch wr wc.heap.size A c (parts.take j) Cs ∧ Below wc.heap.size wc wr) (fun _ i _ => parts.length - (intOf i).toNat)
      case atStart => exact ⟨0, none, 0, [], rfl, rfl, Nat.zero_le _, RB.nil treeSch _ _, Below.refl _ _⟩
      case round =>
        clear c2
        obtain ⟨j, A, c, Cs, rfl, rfl, hj, hrb, hw⟩ := hrel
        obtain ⟨wo, rfl⟩ : ∃ wo : World, wo = wr := ⟨_, rfl⟩
        have KW := hide hw
        have HRB := hide hrb
        have hlj : (parts.take j).length = j := by simp; omega
        have HLJ := hide hlj
        clear hw hrb hlj
        by_cases hlt : j < parts.length
        · obtain ⟨x, o5, rfl, hx, hC⟩ := HPA.out (by omega)
          obtain ⟨hl3, hr⟩ := hC j hlt
          have HPI := hide (HPP.out j _ (List.getElem?_eq_getElem hlt))
          have HGO := hide (GW.out.trans (KW.out.mono GW.out.size))
          have HRW : Hid (wo.rangeAt x (o5 + j * 3) (C' j)) := hide fun q v hv => (HGO.out.cell (p := ⟨x, o5 + j * 3 + q, none⟩) hx).trans (hr q v hv)
          have HL3 := hide hl3
          have HONE := hide (HPI.out.one)
          have hdp := HDP.out _ (List.getElem_mem hlt)
          have hwp := HWP.out _ (List.getElem_mem hlt)
          have HT := hide (List.take_succ_eq_append_getElem hlt)
          clear hC hl3 hr
          generalize parts[j] = pj at *
          generalize C' j = Cj at *
          have hst := fun (W : World) => run_store_new (P := Try.prog) W 47 [.int .i64 0, .slice none 0 0, .slice none 0 0] Cj (by rw [HL3.out]; rfl) HONE.out
          go_wp2_with (first
            | (refine wpList_load_mid rfl 47 _ rfl x (o5 + j * 3) rfl Cj _ HRW.out rfl rfl (by rw [HL3.out]; kernel_rfl) ?_)
            | (refine wpList_load_blk rfl 47 _ rfl _ rfl _ _ (Blk.new _ _ _) _ rfl rfl (by rw [List.size_toArray, HL3.out]; kernel_rfl) ?_)
            | fail)
          have K6 := hide ((Below.refl wo.heap.size wo).alloc (Nat.le_refl _) (.cells Cj.toArray 47))
          clear HRW
          refine (HI.out pj Cj _ (by omega) (by omega) (HPI.out.more (HGO.out.trans (K6.out.mono HGO.out.size)))).mono ?_
          rintro e w1 ⟨cs1, rfl, hv1, hb1⟩
          have HB1 := hide (K6.out.trans (hb1.mono K6.out.size))
          have HV1 := hide (hv1.mono (G := fun b => wo.heap.size ≤ b ∧ b < w1.heap.size) fun b hb => ⟨Nat.le_trans (by simp) hb.1, hb.2⟩)
          have H1L := hide hv1.length
          have H1O := hide hv1.one
          clear hv1 hb1
          have V2 := hide (HRB.out.keep treeSch (HB1.out.alloc HB1.out.size (.cells cs1.toArray 47)))
          have HOW := hide (V2.out.own)
          rw [HLJ.out] at HOW
          have hRD := reads_blk (n := 1) (size := 3) (Blk.new w1 47 cs1.toArray) (by rw [H1L.out])
          have HRD1 := hide hRD
          clear hRD
          have hs1 := HB1.out.size
          have hs2 := KW.out.size
          go_wp2_with (first
            | (rw [foldl_zip_all _ _ (by rw [H1L.out]; rfl), if_neg (by rw [H1L.out]; decide)])
            | (at_builtin; refine wpList_append_any _ rfl _ _ 45 rfl _ 47 i25 (.agg #[.int .i64 0, .slice none 0 0, .slice none 0 0]) 3 56 Try.underlying45 hi25 hz25 hs25 hb25 rfl (by decide) _ j Cs.flatten (by rfl) HOW.out _ _ 1 _ cs1 (by rfl) HRD1.out H1O.out (by unfold maxLen; omega) (by omega) (by simp only [World.size_alloc]; omega) ?_; intro Aq2 cq2 wq2 ownq growq lieq; have HOQ := hide ownq; have HGQ := hide growq; have HLI := hide lieq; clear ownq growq lieq)
            | fail)
          have hOW0 := HRB.out.own
          rw [HLJ.out] at hOW0
          have hx1 : IsSch (w1.alloc (.cells cs1.toArray 47)) (fun b => wc.heap.size ≤ b ∧ b < (w1.alloc (.cells cs1.toArray 47)).heap.size ∧ (Value.slice A j c).ownBlock ≠ some b) pj cs1 :=
            (HV1.out.keep fun q hq => ((Below.refl w1.heap.size w1).alloc (Nat.le_refl _) (.cells cs1.toArray 47)).cell hq.2).mono fun b hb => ⟨by omega, by simp only [World.size_alloc]; omega, fun e => by have := (hOW0.lt _ e).2; omega⟩
          exact ⟨⟨j + 1, Aq2, cq2, Cs ++ [cs1], rfl, by go_num, by omega, by rw [HT.out]; exact V2.out.app treeSch HLJ.out hx1 HOQ.out HGQ.out HLI.out, (((KW.out.trans (HB1.out.mono hs2)).alloc (by omega) _).grown HGQ.out (by simp only [World.size_alloc]; omega) (fun b hb => (hOW0.lt _ hb).1))⟩, by simp [intOf]; omega⟩
        · obtain rfl : j = parts.length := by omega
          have HR2 : Hid (RB 47 3 IsSch wo wc.heap.size A c parts Cs) := hide (by have := HRB.out; rwa [List.take_length] at this)
          have K1 := hide (G1.out.below KW.out (by omega))
          have K2 := hide (G2.out.below KW.out (by omega))
          have c2 : wo.cell? ⟨w.heap.size, 2, none⟩ = some (.slice Ap' parts.length cp') := K1.out.cell 2
          have f2 : wo.frozen? ⟨w.heap.size, 2, none⟩ = false := K1.out.frozen 2
          have K1S := hide (K1.out.set_ 2 (.slice A parts.length c))
          have K2F := hide (K2.out.far (p := ⟨w.heap.size, 2, none⟩) (by simp) (.slice A parts.length c))
          go_wp2_with (first
            | (refine wpList_load_blk rfl 47 _ rfl _ rfl _ _ (K1S.out) _ rfl rfl info_schS ?_)
            | (refine wpList_store_blk rfl 47 _ _ rfl _ rfl #[.int .i64 kind, .slice Aq words.length cq, .slice A parts.length c] rfl _ _ (K2F.out) (by rw [GZ.out] <;> rfl) info_schS (by simp [Value.oneCell']) ?_; intro wf hbf hff; have HBF := hide hbf; have HFF := hide hff; clear hbf hff)
            | fail)
          refine bodyPost_ret (results_cell_row rfl _ _ (w.heap.size + 1) 47 #[.int .i64 kind, .slice Aq words.length cq, .slice A parts.length c] (0, 0) _ rfl HBF.out rfl rfl info_schS) rfl ?_
          have HFS : Hid (Fr (fun b => w.heap.size ≤ b ∧ b < w.heap.size + 1 + 1) wo wf) := hide (((Fr.refl (fun b => w.heap.size ≤ b ∧ b < w.heap.size + 1 + 1) wo).setCell (p := ⟨w.heap.size, 2, none⟩) (.inl (by show w.heap.size ≤ w.heap.size ∧ w.heap.size < _; omega)) _).trans (HFF.out.mono fun k _ hk => .inl (by omega)))
          have hsf := HFS.out.size
          have hsw := KW.out.size
          obtain ⟨b', o', C2, q1, q2, q3, q4⟩ := HR2.out.done treeSch
          have hwd : RF wf (fun b => w.heap.size ≤ b ∧ b < wf.heap.size) 1 Aq words.length (words.map sv) := by
            have h1 := own_cells HWO.out
            refine (h1.keep fun q hq => ?_).mono fun b hb => ?_
            · have := HWO.out.lt _ hq
              exact (HFS.out.cell (p := q) (by omega) (by omega)).trans (KW.out.cell (by omega))
            · have := HWO.out.lt _ hb
              omega
          refine ⟨_, rfl, .mk HKI.out hwd HZ.out (own_cap HWO.out) (by omega) (fun h => ⟨(q1 h).1, ⟨by have := (q1 h).2; omega, by have := (q1 h).2; omega⟩⟩) (fun i p hp => ⟨(q2 i p hp).1, fun j v hv => ?_⟩) (fun i p hp => ((q3 i p hp).keep fun q hq => HFS.out.cell hq.2 (by have := hq.1; omega)).mono fun b hb => by omega) q4 (by omega), ?_⟩
          · have h0 := (q1 (by have := (List.getElem?_eq_some_iff.1 hp).1; omega)).2
            exact (HFS.out.cell (p := ⟨b', o' + i * 3 + j, none⟩) h0.2 (by show ¬ (_ ≤ b' ∧ b' < _); omega)).trans ((q2 i p hp).2 j v hv)
          · exact (GW.out.trans (KW.out.mono GW.out.size)).trans (HFS.out.below (by omega) fun x hx h => by omega)
end Go.Proofs.Ytjjhjhjphhpeiaa

namespace Go.Proofs.Ytjjhjhjphhpeiaa
open Go.RowKit

/-- Whose is the room behind a slice's last element? -/
inductive Own where
  | no
  | full
  | row (g : Nat)
/-- A value as a tree; 'loc': the address of a variable of the call's own; 'rd': the address of cells that stay as they are; 'win': a slice over a variable of the call's own (first cell, length, capacity). -/
inductive D where
  | v (x : Value)
  | agg (cs : List D)
  | tup (cs : List D)
  | fn (f : Fn) (fs cs : List D)
  | ifc (t : TypeId) (d : D)
  | loc (k off : Nat)
  | rd (cs : List D) (off : Nat)
  | sl (o : Own) (es : List D)
  | win (k off n c : Nat)
/-- What lies at a name of the call's own: a variable, or a row that may grow. -/
inductive Ob where
  | box (t : TypeId) (cs : List D)
  | row (e : TypeId) (n : Nat)
structure St where
  next : Nat
  ob : Nat → Option Ob

abbrev undefD : D := .tup []
def D.isAgg : D → Bool
  | .agg _ => true
  | _ => false
def D.cells : D → List D
  | .agg cs => cs
  | d => [d]
def D.width (d : D) : Nat := d.cells.length
def szOf (P : Program) (t : TypeId) : Nat := ((P.info? t).map (·.size)).getD 0

/-- The blocks behind names ('some none': a row without room, and without a block). -/
abbrev Names := Nat → Option (Option Nat)

/-- The cell is not written any more. -/
def Fix (P : Program) (S : St) (η : Names) (b i : Nat) : Prop := ∀ k o, η k = some (some b) → S.ob k = some o → match o with
  | .box _ _ => False
  | .row e n => i < n * szOf P e

section
variable (P : Program) (w : World) (η : Names) (X : Nat → Nat → Prop)
def OwnAt (A : Option Addr) (n c : Nat) : Own → Prop
  | .no => True
  | .full => c = n
  | .row g => (η g = some none ∧ c = n) ∨ ∃ (b : Nat) (cur : Array Value) (e : TypeId), η g = some (some b) ∧ A = some ⟨b, 0, none⟩ ∧ w.heap[b]? = some (.cells cur e (0, 0)) ∧ cur.size = c * szOf P e
mutual
def Rep : D → Value → Prop
  | .v x, y => y = x
  | .agg cs, y => ∃ vs : List Value, y = .agg vs.toArray ∧ RepL cs vs ∧ ∀ x ∈ vs, x.oneCell' = true
  | .tup cs, y => ∃ vs : List Value, y = .tuple vs.toArray ∧ RepL cs vs
  | .fn f fs cs, y => ∃ us vs : List Value, y = .func f us.toArray vs.toArray ∧ RepL fs us ∧ RepL cs vs
  | .ifc t d, y => ∃ x, y = .iface t x ∧ Rep d x
  | .loc k off, y => ∃ b, η k = some (some b) ∧ y = .pointer (some ⟨b, off, none⟩)
  | .rd cs off, y => ∃ b o, y = .pointer (some ⟨b, o + off, none⟩) ∧ RepC cs b o
  | .sl own es, y => ∃ A c, y = .slice A es.length c ∧ es.length ≤ c ∧ es.length ≤ 140737488355328 ∧ OwnAt P w η A es.length c own ∧ (0 < es.length → ∃ b o z, A = some ⟨b, o, none⟩ ∧ 0 < z ∧ RepE z es b o)
  | .win k off n c, y => (∃ b, η k = some (some b) ∧ y = .slice (some ⟨b, off, none⟩) n c ∧ n ≤ c ∧ n ≤ 140737488355328) ∨ (η k = some none ∧ n = 0 ∧ c = 0 ∧ ∃ A, y = .slice A 0 0)
def RepL : List D → List Value → Prop
  | [], vs => vs = []
  | d :: ds, vs => ∃ x xs, vs = x :: xs ∧ Rep d x ∧ RepL ds xs
/-- The cells from (b, o) on. -/
def RepC : List D → Nat → Nat → Prop
  | [], _, _ => True
  | d :: ds, b, o => (X b o ∧ ∃ x, w.cell? ⟨b, o, none⟩ = some x ∧ x.oneCell' = true ∧ Rep d x) ∧ RepC ds b (o + 1)
/-- The elements of z cells each, from (b, o) on. -/
def RepE (z : Nat) : List D → Nat → Nat → Prop
  | [], _, _ => True
  | d :: ds, b, o => (RepA z d b o ∧ (d.isAgg = false → z = 1 ∧ X b o ∧ ∃ x, w.cell? ⟨b, o, none⟩ = some x ∧ x.oneCell' = true ∧ Rep d x)) ∧ RepE z ds b (o + z)
def RepA (z : Nat) : D → Nat → Nat → Prop
  | .agg cs, b, o => cs.length = z ∧ RepC cs b o
  | _, _, _ => True
end
end

/-- The names that a tree bears. -/
def Own.all (N : Nat → Prop) : Own → Prop
  | .row g => N g
  | _ => True
mutual
def D.all (N : Nat → Prop) : D → Prop
  | .v _ => True
  | .agg cs => allL N cs
  | .tup cs => allL N cs
  | .fn _ fs cs => allL N fs ∧ allL N cs
  | .ifc _ d => D.all N d
  | .loc k _ => N k
  | .rd cs _ => allL N cs
  | .sl o es => o.all N ∧ allL N es
  | .win k _ _ _ => N k
def allL (N : Nat → Prop) : List D → Prop
  | [] => True
  | d :: ds => D.all N d ∧ allL N ds
end
theorem allL_iff {N : Nat → Prop} : ∀ {l : List D}, allL N l ↔ ∀ d ∈ l, d.all N
  | [] => by simp [allL]
  | d :: l => by simp [allL, allL_iff (l := l)]
theorem Own.all_mono {N M : Nat → Prop} (h : ∀ k, N k → M k) {o : Own} (ho : o.all N) : o.all M := by
  cases o <;> simp only [Own.all] at * <;> exact h _ ho
mutual
theorem D.all_mono {N M : Nat → Prop} (h : ∀ k, N k → M k) : ∀ {d : D}, d.all N → d.all M
  | .v _, hd => trivial
  | .agg cs, hd => by simp only [D.all] at *; exact allL_mono h hd
  | .tup cs, hd => by simp only [D.all] at *; exact allL_mono h hd
  | .fn _ fs cs, hd => by simp only [D.all] at *; exact ⟨allL_mono h hd.1, allL_mono h hd.2⟩
  | .ifc _ d, hd => by simp only [D.all] at *; exact D.all_mono h hd
  | .loc k _, hd => by simp only [D.all] at *; exact h _ hd
  | .rd cs _, hd => by simp only [D.all] at *; exact allL_mono h hd
  | .sl o es, hd => by simp only [D.all] at *; exact ⟨Own.all_mono h hd.1, allL_mono h hd.2⟩
  | .win k _ _ _, hd => by simp only [D.all] at *; exact h _ hd
theorem allL_mono {N M : Nat → Prop} (h : ∀ k, N k → M k) : ∀ {l : List D}, allL N l → allL M l
  | [], _ => trivial
  | d :: ds, hd => by simp only [allL] at *; exact ⟨D.all_mono h hd.1, allL_mono h hd.2⟩
end
mutual
theorem D.all_true : ∀ d : D, d.all (fun _ => True)
  | .v _ => trivial
  | .agg cs => by simp only [D.all]; exact allL_true cs
  | .tup cs => by simp only [D.all]; exact allL_true cs
  | .fn _ fs cs => by simp only [D.all]; exact ⟨allL_true fs, allL_true cs⟩
  | .ifc _ d => by simp only [D.all]; exact D.all_true d
  | .loc k _ => trivial
  | .rd cs _ => by simp only [D.all]; exact allL_true cs
  | .sl o es => by simp only [D.all]; exact ⟨by cases o <;> trivial, allL_true es⟩
  | .win k _ _ _ => trivial
theorem allL_true : ∀ l : List D, allL (fun _ => True) l
  | [] => trivial
  | d :: ds => by simp only [allL]; exact ⟨D.all_true d, allL_true ds⟩
end

/-- What was fixed stays as it was; the names of N keep their blocks. -/
structure Keep (N : Nat → Prop) (w : World) (η : Names) (X : Nat → Nat → Prop) (w' : World) (η' : Names) (X' : Nat → Nat → Prop) : Prop where
  size : w.heap.size ≤ w'.heap.size
  fix : ∀ b i, b < w.heap.size → X b i → X' b i ∧ w'.cell? ⟨b, i, none⟩ = w.cell? ⟨b, i, none⟩
  eta : ∀ k b, N k → η k = some b → η' k = some b
  shp : ∀ (b : Nat) (cur : Array Value) (e : TypeId), w.heap[b]? = some (.cells cur e (0, 0)) → ∃ cur' : Array Value, w'.heap[b]? = some (.cells cur' e (0, 0)) ∧ cur'.size = cur.size

section
variable {P : Program} {N : Nat → Prop} {w : World} {η : Names} {X : Nat → Nat → Prop} {w' : World} {η' : Names} {X' : Nat → Nat → Prop}
theorem OwnAt.keep (K : Keep N w η X w' η' X') {A : Option Addr} {n c : Nat} {o : Own} (ho : o.all N) (h : OwnAt P w η A n c o) : OwnAt P w' η' A n c o := by
  cases o with
  | no => trivial
  | full => exact h
  | row g =>
    rcases h with h | ⟨b, cur, e, h1, h2, h3, h4⟩
    · exact .inl ⟨K.eta _ _ ho h.1, h.2⟩
    · obtain ⟨cur', h6, h7⟩ := K.shp _ _ _ h3
      exact .inr ⟨b, cur', e, K.eta _ _ ho h1, h2, h6, by rw [h7, h4]⟩
theorem Keep.cell (K : Keep N w η X w' η' X') {b i : Nat} {x : Value} (hx : X b i) (h : w.cell? ⟨b, i, none⟩ = some x) : X' b i ∧ w'.cell? ⟨b, i, none⟩ = some x := by
  have := K.fix b i (World.block_lt_of_cell? w ⟨b, i, none⟩ h) hx
  exact ⟨this.1, this.2.trans h⟩
mutual
theorem Rep.keep (K : Keep N w η X w' η' X') : ∀ {d : D} {y : Value}, d.all N → Rep P w η X d y → Rep P w' η' X' d y
  | .v x, y, _, h => by simp only [Rep] at *; exact h
  | .agg cs, y, hd, h => by
    simp only [Rep, D.all] at *
    obtain ⟨vs, h1, h2, h3⟩ := h
    exact ⟨vs, h1, RepL.keep K hd h2, h3⟩
  | .tup cs, y, hd, h => by
    simp only [Rep, D.all] at *
    obtain ⟨vs, h1, h2⟩ := h
    exact ⟨vs, h1, RepL.keep K hd h2⟩
  | .fn f fs cs, y, hd, h => by
    simp only [Rep, D.all] at *
    obtain ⟨us, vs, h1, h2, h3⟩ := h
    exact ⟨us, vs, h1, RepL.keep K hd.1 h2, RepL.keep K hd.2 h3⟩
  | .ifc t d, y, hd, h => by
    simp only [Rep, D.all] at *
    obtain ⟨x, h1, h2⟩ := h
    exact ⟨x, h1, Rep.keep K hd h2⟩
  | .loc k off, y, hd, h => by
    simp only [Rep, D.all] at *
    obtain ⟨b, h1, h2⟩ := h
    exact ⟨b, K.eta _ _ hd h1, h2⟩
  | .rd cs off, y, hd, h => by
    simp only [Rep, D.all] at *
    obtain ⟨b, o, h1, h3⟩ := h
    exact ⟨b, o, h1, RepC.keep K hd h3⟩
  | .sl own es, y, hd, h => by
    simp only [Rep, D.all] at *
    obtain ⟨A, c, h1, h2, h3, h4, h5⟩ := h
    refine ⟨A, c, h1, h2, h3, h4.keep K hd.1, fun h0 => ?_⟩
    obtain ⟨b, o, z, e1, e3, e4⟩ := h5 h0
    exact ⟨b, o, z, e1, e3, RepE.keep K z hd.2 e4⟩
  | .win k off n c, y, hd, h => by
    simp only [Rep, D.all] at *
    rcases h with ⟨b, h1, h2⟩ | ⟨h1, h2⟩
    · exact .inl ⟨b, K.eta _ _ hd h1, h2⟩
    · exact .inr ⟨K.eta _ _ hd h1, h2⟩
theorem RepL.keep (K : Keep N w η X w' η' X') : ∀ {l : List D} {vs : List Value}, allL N l → RepL P w η X l vs → RepL P w' η' X' l vs
  | [], vs, _, h => by simp only [RepL] at *; exact h
  | d :: ds, vs, hd, h => by
    simp only [RepL, allL] at *
    obtain ⟨x, xs, h1, h2, h3⟩ := h
    exact ⟨x, xs, h1, Rep.keep K hd.1 h2, RepL.keep K hd.2 h3⟩
theorem RepC.keep (K : Keep N w η X w' η' X') : ∀ {l : List D} {b o : Nat}, allL N l → RepC P w η X l b o → RepC P w' η' X' l b o
  | [], b, o, _, h => by simp only [RepC] at *
  | d :: ds, b, o, hd, h => by
    simp only [RepC, allL] at *
    obtain ⟨⟨h1, x, h2, h3, h4⟩, h5⟩ := h
    obtain ⟨k1, k2⟩ := K.cell h1 h2
    exact ⟨⟨k1, x, k2, h3, Rep.keep K hd.1 h4⟩, RepC.keep K hd.2 h5⟩
theorem RepE.keep (K : Keep N w η X w' η' X') (z : Nat) : ∀ {l : List D} {b o : Nat}, allL N l → RepE P w η X z l b o → RepE P w' η' X' z l b o
  | [], b, o, _, h => by simp only [RepE] at *
  | d :: ds, b, o, hd, h => by
    simp only [RepE, allL] at *
    obtain ⟨⟨h1, h2⟩, h5⟩ := h
    refine ⟨⟨RepA.keep K z hd.1 h1, fun hn => ?_⟩, RepE.keep K z hd.2 h5⟩
    obtain ⟨e1, e2, x, e3, e4, e5⟩ := h2 hn
    obtain ⟨k1, k2⟩ := K.cell e2 e3
    exact ⟨e1, k1, x, k2, e4, Rep.keep K hd.1 e5⟩
theorem RepA.keep (K : Keep N w η X w' η' X') (z : Nat) : ∀ {d : D} {b o : Nat}, d.all N → RepA P w η X z d b o → RepA P w' η' X' z d b o
  | .agg cs, b, o, hd, h => by
    simp only [RepA, D.all] at *
    exact ⟨h.1, RepC.keep K hd h.2⟩
  | .v _, _, _, _, _ => by simp only [RepA]
  | .tup _, _, _, _, _ => by simp only [RepA]
  | .fn _ _ _, _, _, _, _ => by simp only [RepA]
  | .ifc _ _, _, _, _, _ => by simp only [RepA]
  | .loc _ _, _, _, _, _ => by simp only [RepA]
  | .rd _ _, _, _, _, _ => by simp only [RepA]
  | .sl _ _, _, _, _, _ => by simp only [RepA]
  | .win _ _ _ _, _, _, _, _ => by simp only [RepA]
end
theorem RepL.length : ∀ {l : List D} {vs : List Value}, RepL P w η X l vs → vs.length = l.length
  | [], vs, h => by simp only [RepL] at h; simp [h]
  | d :: ds, vs, h => by
    simp only [RepL] at h
    obtain ⟨x, xs, rfl, _, h3⟩ := h
    simp [RepL.length h3]
theorem RepL.get : ∀ {l : List D} {vs : List Value} (i : Nat) {d : D}, RepL P w η X l vs → l[i]? = some d → ∃ x, vs[i]? = some x ∧ Rep P w η X d x
  | [], vs, i, d, h, hi => by simp at hi
  | d :: ds, vs, i, d', h, hi => by
    simp only [RepL] at h
    obtain ⟨x, xs, rfl, h2, h3⟩ := h
    cases i with
    | zero => simp at hi; exact ⟨x, rfl, hi ▸ h2⟩
    | succ i => simpa using RepL.get i h3 (by simpa using hi)
theorem RepL.append : ∀ {l m : List D} {vs us : List Value}, RepL P w η X l vs → RepL P w η X m us → RepL P w η X (l ++ m) (vs ++ us)
  | [], m, vs, us, h, k => by simp only [RepL] at h; simpa [h] using k
  | d :: ds, m, vs, us, h, k => by
    simp only [RepL] at h
    obtain ⟨x, xs, rfl, h2, h3⟩ := h
    simp only [List.cons_append, RepL]
    exact ⟨x, xs ++ us, rfl, h2, RepL.append h3 k⟩
theorem RepL.drop : ∀ {l : List D} {vs : List Value} (i : Nat), RepL P w η X l vs → RepL P w η X (l.drop i) (vs.drop i)
  | [], vs, i, h => by simp only [RepL] at h; subst h; simp [RepL]
  | d :: ds, vs, 0, h => h
  | d :: ds, vs, i + 1, h => by
    simp only [RepL] at h
    obtain ⟨x, xs, rfl, h2, h3⟩ := h
    simpa using RepL.drop i h3
theorem RepL.take : ∀ {l : List D} {vs : List Value} (i : Nat), RepL P w η X l vs → RepL P w η X (l.take i) (vs.take i)
  | [], vs, i, h => by simp only [RepL] at h; subst h; simp [RepL]
  | d :: ds, vs, 0, h => by simp [RepL]
  | d :: ds, vs, i + 1, h => by
    simp only [RepL] at h
    obtain ⟨x, xs, rfl, h2, h3⟩ := h
    simp only [List.take_succ_cons, RepL]
    exact ⟨x, _, rfl, h2, RepL.take i h3⟩
theorem RepC.range : ∀ {l : List D} {b o : Nat}, RepC P w η X l b o → ∃ vs, vs.length = l.length ∧ w.rangeAt b o vs ∧ RepL P w η X l vs ∧ ∀ x ∈ vs, x.oneCell' = true
  | [], b, o, _ => ⟨[], rfl, fun j v h => by simp at h, by simp [RepL], fun x h => by cases h⟩
  | d :: ds, b, o, h => by
    simp only [RepC] at h
    obtain ⟨⟨h1, x, h2, h3, h4⟩, h5⟩ := h
    obtain ⟨vs, k1, k2, k3, k4⟩ := RepC.range h5
    refine ⟨x :: vs, by simp [k1], fun j v hj => ?_, by simp only [RepL]; exact ⟨x, vs, rfl, h4, k3⟩, fun u hu => ?_⟩
    · cases j with
      | zero => simp at hj; rw [Nat.add_zero, h2, hj]
      | succ j => have := k2 j v (by simpa using hj); rwa [show o + 1 + j = o + (j + 1) by omega] at this
    · rcases List.mem_cons.1 hu with rfl | hu
      · exact h3
      · exact k4 u hu
theorem RepC.drop : ∀ {l : List D} {b o : Nat} (i : Nat), RepC P w η X l b o → RepC P w η X (l.drop i) b (o + i)
  | [], b, o, i, _ => by simp [RepC]
  | d :: ds, b, o, 0, h => h
  | d :: ds, b, o, i + 1, h => by
    simp only [RepC] at h
    have := RepC.drop i h.2
    rw [show o + 1 + i = o + (i + 1) by omega] at this
    simpa using this
theorem RepC.take : ∀ {l : List D} {b o : Nat} (i : Nat), RepC P w η X l b o → RepC P w η X (l.take i) b o
  | [], b, o, i, _ => by simp [RepC]
  | d :: ds, b, o, 0, h => by simp [RepC]
  | d :: ds, b, o, i + 1, h => by
    simp only [RepC] at h
    simp only [List.take_succ_cons, RepC]
    exact ⟨h.1, RepC.take i h.2⟩
theorem RepC.mk : ∀ {l : List D} {vs : List Value} {b o : Nat}, RepL P w η X l vs → w.rangeAt b o vs → (∀ j, j < vs.length → X b (o + j)) → (∀ x ∈ vs, x.oneCell' = true) → RepC P w η X l b o
  | [], vs, b, o, _, _, _, _ => by simp [RepC]
  | d :: ds, vs, b, o, h, hr, hx, h1 => by
    simp only [RepL] at h
    obtain ⟨x, xs, rfl, h2, h3⟩ := h
    simp only [RepC]
    refine ⟨⟨by simpa using hx 0 (by simp), x, by simpa using hr 0 x rfl, h1 x (by simp), h2⟩, RepC.mk h3 (fun j v hj => ?_) (fun j hj => ?_) (fun y hy => h1 y (by simp [hy]))⟩
    · have := hr (j + 1) v (by simpa using hj); rwa [show o + 1 + j = o + (j + 1) by omega]
    · have := hx (j + 1) (by simp; omega); rwa [show o + 1 + j = o + (j + 1) by omega]
/-- One element's cells. -/
def RepEl (P : Program) (w : World) (η : Names) (X : Nat → Nat → Prop) (z : Nat) (d : D) (b o : Nat) : Prop := RepA P w η X z d b o ∧ (d.isAgg = false → z = 1 ∧ X b o ∧ ∃ x, w.cell? ⟨b, o, none⟩ = some x ∧ x.oneCell' = true ∧ Rep P w η X d x)
theorem RepEl.cells {z : Nat} {d : D} {b o : Nat} (h : RepEl P w η X z d b o) : d.width = z ∧ RepC P w η X d.cells b o := by
  obtain ⟨h1, h2⟩ := h
  cases hd : d.isAgg with
  | true =>
    cases d <;> simp [D.isAgg] at hd
    simp only [RepA] at h1
    exact ⟨h1.1, h1.2⟩
  | false =>
    obtain ⟨e1, e2, x, e3, e4, e5⟩ := h2 hd
    have hc : d.cells = [d] := by cases d <;> simp [D.isAgg] at hd <;> rfl
    refine ⟨by rw [D.width, hc, e1]; rfl, ?_⟩
    rw [hc]
    simp only [RepC]
    exact ⟨⟨e2, x, e3, e4, e5⟩, trivial⟩
theorem RepEl.mk {d : D} {b o : Nat} (h : RepC P w η X d.cells b o) : RepEl P w η X d.width d b o := by
  cases hd : d.isAgg with
  | true =>
    cases d <;> simp [D.isAgg] at hd
    exact ⟨by simp only [RepA]; exact ⟨rfl, h⟩, fun h' => by simp [D.isAgg] at h'⟩
  | false =>
    have hc : d.cells = [d] := by cases d <;> simp [D.isAgg] at hd <;> rfl
    have hw : d.width = 1 := by rw [D.width, hc]; rfl
    rw [hc] at h
    simp only [RepC] at h
    exact ⟨by cases d <;> simp [D.isAgg] at hd <;> simp only [RepA], fun _ => ⟨hw, h.1.1, h.1.2⟩⟩
theorem RepE.cons {z : Nat} {d : D} {l : List D} {b o : Nat} : RepE P w η X z (d :: l) b o ↔ RepEl P w η X z d b o ∧ RepE P w η X z l b (o + z) := by simp only [RepE, RepEl]
theorem RepE.get {z : Nat} : ∀ {l : List D} {b o : Nat} (i : Nat) {d : D}, RepE P w η X z l b o → l[i]? = some d → RepEl P w η X z d b (o + i * z)
  | [], b, o, i, d, h, hi => by simp at hi
  | d :: ds, b, o, 0, d', h, hi => by simp at hi; subst hi; simpa using (RepE.cons.1 h).1
  | d :: ds, b, o, i + 1, d', h, hi => by
    have := RepE.get i (RepE.cons.1 h).2 (by simpa using hi)
    rwa [show o + z + i * z = o + (i + 1) * z by rw [Nat.add_mul]; omega] at this
theorem RepE.mk {z : Nat} : ∀ {l : List D} {b o : Nat}, (∀ i d, l[i]? = some d → RepEl P w η X z d b (o + i * z)) → RepE P w η X z l b o
  | [], b, o, h => by simp [RepE]
  | d :: ds, b, o, h => RepE.cons.2 ⟨by simpa using h 0 d rfl, RepE.mk fun i d' hi => by
      have := h (i + 1) d' (by simpa using hi)
      rwa [show o + z + i * z = o + (i + 1) * z by rw [Nat.add_mul]; omega]⟩
end

mutual
/-- A tree that stands for a value bears known names alone. -/
theorem Rep.names {P : Program} {w : World} {η : Names} {X : Nat → Nat → Prop} : ∀ {d : D} {y : Value}, Rep P w η X d y → d.all (fun k => (η k).isSome = true)
  | .v x, y, _ => trivial
  | .agg cs, y, h => by
    simp only [Rep] at h
    obtain ⟨vs, h1, h2, h3⟩ := h
    simp only [D.all]
    exact RepL.names h2
  | .tup cs, y, h => by
    simp only [Rep] at h
    obtain ⟨vs, h1, h2⟩ := h
    simp only [D.all]
    exact RepL.names h2
  | .fn f fs cs, y, h => by
    simp only [Rep] at h
    obtain ⟨us, vs, h1, h2, h3⟩ := h
    simp only [D.all]
    exact ⟨RepL.names h2, RepL.names h3⟩
  | .ifc t d, y, h => by
    simp only [Rep] at h
    obtain ⟨x, h1, h2⟩ := h
    simp only [D.all]
    exact Rep.names h2
  | .loc k off, y, h => by
    simp only [Rep] at h
    obtain ⟨b, h1, h2⟩ := h
    simp only [D.all, h1, Option.isSome_some]
  | .rd cs off, y, h => by
    simp only [Rep] at h
    obtain ⟨b, o, h1, h3⟩ := h
    simp only [D.all]
    exact RepC.names h3
  | .sl own es, y, h => by
    simp only [Rep] at h
    obtain ⟨A, c, h1, h2, h3, h4, h5⟩ := h
    simp only [D.all]
    refine ⟨?_, ?_⟩
    · cases own with
      | no => trivial
      | full => trivial
      | row g =>
        simp only [Own.all]
        rcases h4 with ⟨h4, _⟩ | ⟨b, cur, e, h4, _⟩ <;> rw [h4] <;> rfl
    · rcases Nat.eq_zero_or_pos es.length with h0 | h0
      · have := List.eq_nil_of_length_eq_zero h0
        subst this
        simp only [allL]
      · obtain ⟨b, o, z, e1, e3, e4⟩ := h5 h0
        exact RepE.names e4
  | .win k off n c, y, h => by
    simp only [Rep] at h
    rcases h with ⟨b, h1, h2⟩ | ⟨h1, h2⟩ <;> simp only [D.all, h1, Option.isSome_some]
theorem RepL.names {P : Program} {w : World} {η : Names} {X : Nat → Nat → Prop} : ∀ {l : List D} {vs : List Value}, RepL P w η X l vs → allL (fun k => (η k).isSome = true) l
  | [], vs, _ => trivial
  | d :: ds, vs, h => by
    simp only [RepL] at h
    obtain ⟨x, xs, h1, h2, h3⟩ := h
    simp only [allL]
    exact ⟨Rep.names h2, RepL.names h3⟩
theorem RepC.names {P : Program} {w : World} {η : Names} {X : Nat → Nat → Prop} : ∀ {l : List D} {b o : Nat}, RepC P w η X l b o → allL (fun k => (η k).isSome = true) l
  | [], _, _, _ => trivial
  | d :: ds, b, o, h => by
    simp only [RepC] at h
    obtain ⟨⟨h1, x, h2, h3, h4⟩, h5⟩ := h
    simp only [allL]
    exact ⟨Rep.names h4, RepC.names h5⟩
theorem RepE.names {P : Program} {w : World} {η : Names} {X : Nat → Nat → Prop} {z : Nat} : ∀ {l : List D} {b o : Nat}, RepE P w η X z l b o → allL (fun k => (η k).isSome = true) l
  | [], _, _, _ => trivial
  | d :: ds, b, o, h => by
    simp only [RepE] at h
    obtain ⟨⟨h1, h2⟩, h5⟩ := h
    simp only [allL]
    refine ⟨?_, RepE.names h5⟩
    cases hd : d.isAgg with
    | true => exact RepA.names hd h1
    | false =>
      obtain ⟨e1, e2, x, e3, e4, e5⟩ := h2 hd
      exact Rep.names e5
theorem RepA.names {P : Program} {w : World} {η : Names} {X : Nat → Nat → Prop} {z : Nat} : ∀ {d : D} {b o : Nat}, d.isAgg = true → RepA P w η X z d b o → d.all (fun k => (η k).isSome = true)
  | .agg cs, b, o, _, h => by
    simp only [RepA] at h
    simp only [D.all]
    exact RepC.names h.2
  | .v _, _, _, h, _ => by cases h
  | .tup _, _, _, h, _ => by cases h
  | .fn _ _ _, _, _, h, _ => by cases h
  | .ifc _ _, _, _, h, _ => by cases h
  | .loc _ _, _, _, h, _ => by cases h
  | .rd _ _, _, _, h, _ => by cases h
  | .sl _ _, _, _, h, _ => by cases h
  | .win _ _ _ _, _, _, h, _ => by cases h
end

/-- Package-level variables that are known: none. -/
def globs : List (Nat × Value) := []
def globAt (g : Nat) : Option D := none
def GlobOk (base : Nat) (w : World) : Prop := ∀ p ∈ globs, p.1 < base ∧ w.cell? ⟨p.1, 0, none⟩ = some p.2
theorem globOk_none (base : Nat) (w : World) : GlobOk base w := fun _ h => by cases h
theorem GlobOk.below {base : Nat} {w w' : World} (h : GlobOk base w) (hb : Below base w w') : GlobOk base w' := fun p hp => ⟨(h p hp).1, (hb.cell (p := ⟨p.1, 0, none⟩) (h p hp).1).trans (h p hp).2⟩
theorem glob_rep {P : Program} {w : World} {η : Names} {X : Nat → Nat → Prop} {base g : Nat} {d : D} (h : GlobOk base w) (hd : globAt g = some d) : ∃ v, w.cell? ⟨g, 0, none⟩ = some v ∧ Rep P w η X d v := by
  cases hd
/-- The memory behind a state: S's names have blocks of their own, from 'base' on. -/
structure Mem (P : Program) (base : Nat) (S : St) (η : Names) (w : World) : Prop where
  base_ : base ≤ w.heap.size
  dead : ∀ k, S.next ≤ k → η k = none
  fresh : ∀ k, S.next ≤ k → S.ob k = none
  live : ∀ k t cs, S.ob k = some (.box t cs) → ∃ b, η k = some (some b)
  inj : ∀ k k' b, η k = some (some b) → η k' = some (some b) → (S.ob k).isSome = true → (S.ob k').isSome = true → k = k'
  in_ : ∀ k b, η k = some (some b) → base ≤ b ∧ b < w.heap.size
  box : ∀ k t cs b, S.ob k = some (.box t cs) → η k = some (some b) → ∃ vs : List Value, w.heap[b]? = some (.cells vs.toArray t (0, 0)) ∧ RepL P w η (Fix P S η) cs vs ∧ ∀ x ∈ vs, x.oneCell' = true
  row : ∀ k e n b, S.ob k = some (.row e n) → η k = some (some b) → ∃ cur : Array Value, w.heap[b]? = some (.cells cur e (0, 0)) ∧ n * szOf P e ≤ cur.size
  glob : GlobOk base w
end Go.Proofs.Ytjjhjhjphhpeiaa

namespace Go.Proofs.Ytjjhjhjphhpeiaa
open Go.RowKit

/-- What a computation without memory yields. -/
def pureRun {α : Type} (P : Program) : Sem α → Option α
  | .pure a => some a
  | .program k => pureRun P (k P)
  | .mark _ k => pureRun P k
  | _ => none
theorem pureRun_run {α : Type} {P : Program} {s : Sem α} {x : α} (w : World) (h : pureRun P s = some x) : s.run P w = .ok x w := by
  induction s with
  | pure a => simp [pureRun] at h; subst h; rfl
  | program k ih => simp only [pureRun] at h; simp only [Sem.run]; exact ih _ h
  | mark m k ih => simp only [pureRun] at h; simp only [Sem.run]; exact ih h
  | _ => simp [pureRun] at h

/-- Constants. -/
def ofV : Value → D
  | .slice none 0 0 => .sl .full []
  | x => .v x
abbrev Fm := Nat → D
def put (f : Fm) : Option Tmp → D → Fm
  | none, _ => f
  | some t, d => fun i => bif Nat.beq i t then d else f i
def ev (f : Fm) : Operand → D
  | .tmp t => f t
  | .const v => ofV v
  | .global g => .v (.pointer (some ⟨g, 0, none⟩))
  | .func g => .fn (.func g) [] []
def okT (P : Program) (t : TypeId) : Bool := (P.underlying t).isSome && (P.info? t).isSome
def aggT (P : Program) (t : TypeId) : Bool := match P.underlying t with
  | some (.struct _) | some (.array _ _) => true
  | _ => false
def fld (P : Program) (t : TypeId) (i : Nat) : Option (Nat × TypeId) := match P.underlying t with
  | some (.struct fs) => (fs[i]?).map fun f => (f.offset, f.type)
  | _ => none
def elT (P : Program) (t : TypeId) : Option TypeId := match P.underlying t with
  | some (.slice e) => some e
  | _ => none
def arT (P : Program) (t : TypeId) : Option (Nat × TypeId) := match P.underlying t with
  | some (.array n e) => some (n, e)
  | _ => none
def strT (P : Program) (t : TypeId) : Bool := match P.underlying t with
  | some .string => true
  | _ => false
def u8T (P : Program) (t : TypeId) : Bool := match P.underlying t with
  | some (.int .u8) => true
  | _ => false
/-- A byte as a tree, and back. -/
def bD (b : UInt8) : D := .v (.int .u8 b.toNat)
def bOf : D → UInt8
  | .v (.int .u8 n) => n.toNat.toUInt8
  | _ => 0
def bytesD (es : List D) : List UInt8 := es.map bOf
def ptrT (P : Program) (t : TypeId) : Bool := match P.underlying t with
  | some (.pointer _) => true
  | _ => false
def ifaceT (P : Program) (t : TypeId) : Bool := match P.underlying t with
  | some (.interface _) => true
  | _ => false
def rdOk (P : Program) (t : TypeId) (cs : List D) (off : Nat) : Prop := okT P t = true ∧ (bif aggT P t then off + szOf P t ≤ cs.length else off < cs.length)
def rdVal (P : Program) (t : TypeId) (cs : List D) (off : Nat) : D := bif aggT P t then .agg ((cs.drop off).take (szOf P t)) else cs.getD off undefD

def bnd (f : Fm) (o : Option Operand) (d : Int) : Option Int := match o with
  | none => some d
  | some x => match ev f x with
    | .v (.int _ i) => some i
    | _ => none
/-- Where a part of a slice begins (one without room stays where it is). -/
def winOff (c l off z : Nat) : Nat := bif Nat.beq c l then off else off + l * z
theorem winOff_zero (c off z : Nat) : winOff c 0 off z = off := by unfold winOff; cases Nat.beq c 0 <;> simp
theorem winOff_lt {c l off z : Nat} (h : l < c) : winOff c l off z = off + l * z := by
  unfold winOff
  cases hb : Nat.beq c l with
  | false => rfl
  | true => have := Nat.eq_of_beq_eq_true hb; omega
def vals : List D → Option (List Value)
  | [] => some []
  | .v x :: l => (vals l).map (x :: ·)
  | _ => none
def isConstB : Operand → Bool
  | .const _ => true
  | _ => false
/-- Are plain cells the same? -/
def cellEq : Value → Value → Bool
  | .string a, .string b => a.toList == b.toList
  | .int _ a, .int _ b => a == b
  | .bool a, .bool b => a == b
  | _, _ => false
def valsEq : List Value → List Value → Bool
  | [], [] => true
  | a :: l, b :: m => cellEq a b && valsEq l m
  | _, _ => false
/-- The machine's answer, where two structs (arrays) of plain cells are compared. -/
def EqOk (P : Program) (op : BinOp) (t : TypeId) (x y : Operand) (us vs : List Value) (r : Bool) : Prop := ∀ w, (do eqGuard op t x y (.agg us.toArray) (.agg vs.toArray); binOp op t (.agg us.toArray) (.agg vs.toArray) : Sem Value).run P w = .ok (.bool r) w
def dbinA (P : Program) (op : BinOp) (t : TypeId) (x y : Operand) : Option (List Value) → Option (List Value) → Option (Prop × D)
  | some us, some vs => match op with
    | .eql => some (EqOk P .eql t x y us vs (valsEq us vs), .v (.bool (valsEq us vs)))
    | .neq => some (EqOk P .neq t x y us vs (!valsEq us vs), .v (.bool (!valsEq us vs)))
    | _ => none
  | _, _ => none
/-- Two values of an interface type, each with something in it: are they the same? -/
def ifcB (t1 : TypeId) (a : D) (t2 : TypeId) (b : D) : Bool := t1 == t2 && (match a, b with | .v p, .v q => valsEq [p] [q] | _, _ => false)
def IfcEq (P : Program) (t : TypeId) (x y : Operand) (t1 : TypeId) (a : D) (t2 : TypeId) (b : D) : Prop :=
  ∀ w η X u v, Rep P w η X a u → Rep P w η X b v → (do eqGuard .eql t x y (.iface t1 u) (.iface t2 v); binOp .eql t (.iface t1 u) (.iface t2 v) : Sem Value).run P w = .ok (.bool (ifcB t1 a t2 b)) w
def dbin (P : Program) (op : BinOp) (t : TypeId) (x y : Operand) (a b : D) : Option (Prop × D) := match a, b with
  | .agg cs, .agg ds => dbinA P op t x y (vals cs) (vals ds)
  | .v a, .v b => (pureRun P (do eqGuard op t x y a b; binOp op t a b)).map fun r => (True, .v r)
  | .ifc _ _, .v .nilIface | .v .nilIface, .ifc _ _ => match op with
    | .eql => some (ifaceT P t = true, .v (.bool false))
    | .neq => some (ifaceT P t = true, .v (.bool true))
    | _ => none
  | .loc _ _, .v (.pointer none) => match op with
    | .eql => some (ptrT P t = true, .v (.bool false))
    | .neq => some (ptrT P t = true, .v (.bool true))
    | _ => none
  | .rd _ _, .v (.pointer none) => match op with
    | .eql => some (ptrT P t = true, .v (.bool false))
    | .neq => some (ptrT P t = true, .v (.bool true))
    | _ => none
  | .ifc t1 a, .ifc t2 b => match op with
    | .eql => some (IfcEq P t x y t1 a t2 b, .v (.bool (ifcB t1 a t2 b)))
    | _ => none
  | _, _ => none
def dlen (P : Program) (b : Builtin) (ts : Array TypeId) (a : List D) : Option (Prop × D) := match b, a with
  | .len, [.sl _ es] => some ((ts[0]?.bind (elT P)).isSome = true, .v (.int .i64 es.length))
  | .len, [.win _ _ n _] => some ((ts[0]?.bind (elT P)).isSome = true, .v (.int .i64 n))
  | .cap, [.sl .full es] => some ((ts[0]?.bind (elT P)).isSome = true, .v (.int .i64 es.length))
  | .cap, [.win _ _ _ c] => some ((ts[0]?.bind (elT P)).isSome = true, .v (.int .i64 c))
  | _, _ => none
def dbuiltin (P : Program) (b : Builtin) (ts : Array TypeId) (ty : TypeId) (cs : Array Bool) (a : List D) : Option (Prop × D) := match vals a with
  | some vs => match pureRun P (builtin b ts ty cs vs.toArray) with
    | some (.value r) => some (True, .v r)
    | _ => dlen P b ts a
  | none => dlen P b ts a

/-- What an operation yields that leaves memory alone, and on what condition. -/
def dval (P : Program) (f : Fm) (S : St) (ty : TypeId) : Op → Option (Prop × D)
  | .move x | .assign x => some (True, ev f x)
  | .pick c a b => match ev f c with
    | .v (.bool t) => some (True, bif t then ev f a else ev f b)
    | _ => none
  | .load t a => match ev f a with
    | .loc k off => match S.ob k with
      | some (.box _ cs) => some (rdOk P t cs off, rdVal P t cs off)
      | _ => none
    | .rd cs off => some (rdOk P t cs off, rdVal P t cs off)
    | .v (.pointer (some a)) => match globAt a.block with
      | some d => some (a = ⟨a.block, 0, none⟩ ∧ okT P t = true ∧ aggT P t = false, d)
      | none => none
    | _ => none
  | .fieldAddr t x i => match fld P t i with
    | some (fo, ft) => match ev f x with
      | .loc k off => some (okT P ft = true ∧ szOf P ft ≠ 0, .loc k (off + fo))
      | .rd cs off => some (okT P ft = true ∧ szOf P ft ≠ 0, .rd cs (off + fo))
      | _ => none
    | none => none
  | .field t x i => match fld P t i with
    | some (fo, ft) => match ev f x with
      | .agg cs => some (rdOk P ft cs fo, rdVal P ft cs fo)
      | _ => none
    | none => none
  | .indexAddr t x ix => match ev f ix with
    | .v (.int _ i) => match ev f x with
      | .sl _ es => match elT P t with
        | some e => some (okT P e = true ∧ 0 ≤ i ∧ i < es.length ∧ (es.getD i.toNat undefD).width = szOf P e, .rd (es.getD i.toNat undefD).cells 0)
        | none => none
      | .win k off n _ => match elT P t with
        | some e => some (okT P e = true ∧ 0 ≤ i ∧ i < n, .loc k (off + i.toNat * szOf P e))
        | none => none
      | .loc k off => match arT P t with
        | some (n, e) => some (okT P e = true ∧ 0 ≤ i ∧ i < n, .loc k (off + i.toNat * szOf P e))
        | none => none
      | .rd cs off => match arT P t with
        | some (n, e) => some (okT P e = true ∧ 0 ≤ i ∧ i < n, .rd cs (off + i.toNat * szOf P e))
        | none => none
      | _ => none
    | _ => none
  | .index t x ix => match ev f ix with
    | .v (.int _ i) => match ev f x with
      | .agg cs => match arT P t with
        | some (n, e) => some (0 ≤ i ∧ i < n ∧ rdOk P e cs (i.toNat * szOf P e), rdVal P e cs (i.toNat * szOf P e))
        | none => none
      | .v (.string s) => some (strT P t = true ∧ 0 ≤ i ∧ i < s.size, .v (.int .u8 (s.data.toList.getD i.toNat 0).toNat))
      | _ => none
    | _ => none
  | .extract x i => match ev f x with
    | .tup ds => some (i < ds.length, ds.getD i undefD)
    | _ => none
  | .makeFunc fn fs cs => some (True, .fn fn (fs.toList.map (ev f)) (cs.toList.map (ev f)))
  | .makeInterface t x => some ((P.underlying t).isSome = true ∧ ifaceT P t = false, .ifc t (ev f x))
  | .nilCheck x => match ev f x with
    | .loc k off => some (True, .loc k off)
    | .rd cs off => some (True, .rd cs off)
    | .fn (.func g) fs cs => some (True, .fn (.func g) fs cs)
    | _ => none
  | .slice t x lo hi none => match ev f x with
    | .sl _ es => match elT P t with
      | some e => match bnd f lo 0 with
        | some l => match bnd f hi es.length with
          | some h => some (okT P e = true ∧ 0 ≤ l ∧ l ≤ h ∧ h ≤ es.length ∧ (l = 0 ∨ ∀ d ∈ es, d.width = szOf P e), .sl .no ((es.take h.toNat).drop l.toNat))
          | none => none
        | none => none
      | none => none
    | .win k off n c => match elT P t with
      | some e => match bnd f lo 0 with
        | some l => match bnd f hi n with
          | some h => some (okT P e = true ∧ 0 ≤ l ∧ l ≤ h ∧ h ≤ c ∧ h ≤ 140737488355328, .win k (winOff c l.toNat off (szOf P e)) (h.toNat - l.toNat) (c - l.toNat))
          | none => none
        | none => none
      | none => none
    | .v (.string s) => match bnd f lo 0 with
      | some l => match bnd f hi s.size with
        | some h => some (strT P t = true ∧ 0 ≤ l ∧ l ≤ h ∧ h ≤ s.size, .v (.string (s.extract l.toNat h.toNat)))
        | none => none
      | none => none
    | _ => none
  | .slice t x lo hi (some mx) => match ev f x with
    | .sl _ es => match elT P t with
      | some e => match bnd f lo 0 with
        | some l => match bnd f hi es.length with
          | some h => match bnd f (some mx) 0 with
            | some m => some (okT P e = true ∧ 0 ≤ l ∧ l ≤ h ∧ h = m ∧ h ≤ es.length ∧ hi.isSome = true ∧ (l = 0 ∨ ∀ d ∈ es, d.width = szOf P e), .sl .full ((es.take h.toNat).drop l.toNat))
            | none => none
          | none => none
        | none => none
      | none => none
    | .win k off n c => match elT P t with
      | some e => match bnd f lo 0 with
        | some l => match bnd f hi n with
          | some h => match bnd f (some mx) 0 with
            | some m => some (okT P e = true ∧ 0 ≤ l ∧ l ≤ h ∧ h ≤ m ∧ m ≤ c ∧ h ≤ 140737488355328 ∧ hi.isSome = true, .win k (winOff m.toNat l.toNat off (szOf P e)) (h.toNat - l.toNat) (m.toNat - l.toNat))
            | none => none
          | none => none
        | none => none
      | none => none
    | _ => none
  | .binOp op t x y _ => dbin P op t x y (ev f x) (ev f y)
  | .unOp op _ x => match ev f x with
    | .v a => (pureRun P (Op.unary op a)).map fun r => (True, .v r)
    | _ => none
  | .convert s d x => match ev f x with
    | .v a => (pureRun P (convert s d a)).map fun r => (True, .v r)
    | .sl _ es => match elT P s with
      | some e => some (u8T P e = true ∧ strT P d = true ∧ es = (bytesD es).map bD, .v (.string ⟨(bytesD es).toArray⟩))
      | none => none
    | _ => none
  | .call c => match c.callee with
    | .builtin b => dbuiltin P b c.argTypes ty (c.args.map isConstB) (c.args.toList.map (ev f))
    | _ => none
  | _ => none

/-! ### That the machine yields it -/
section
variable {P : Program} {w : World} {η : Names} {X : Nat → Nat → Prop} {f : Fm} {a : Act} {S : St} {base : Nat}
theorem Rep.ofV (x : Value) : Rep P w η X (ofV x) x := by
  unfold Go.Proofs.Ytjjhjhjphhpeiaa.ofV
  split
  · simp only [Rep]
    exact ⟨none, 0, rfl, Nat.le_refl _, by simp, rfl, fun h => absurd h (by simp)⟩
  · simp only [Rep]
/-- The frame as trees. -/
def RepF (P : Program) (w : World) (η : Names) (X : Nat → Nat → Prop) (f : Fm) (a : Act) : Prop := ∀ t, t < a.tmps.size → Rep P w η X (f t) (a.tmps.getD t undef)
def opnOk (n : Nat) : Operand → Bool
  | .tmp t => Nat.blt t n
  | _ => true
theorem RepF.ev (h : RepF P w η X f a) {x : Operand} (hx : opnOk a.tmps.size x = true) : Rep P w η X (ev f x) (a.eval x) := by
  cases x with
  | tmp t => exact h t (by simpa [opnOk, Nat.blt_eq] using hx)
  | const v => exact Rep.ofV v
  | global g => simp only [Proofs.Ytjjhjhjphhpeiaa.ev, Rep]; rfl
  | func g => simp only [Proofs.Ytjjhjhjphhpeiaa.ev, Rep, RepL]; exact ⟨[], [], rfl, rfl, rfl⟩
theorem RepF.put (h : RepF P w η X f a) {d : D} {v : Value} (hd : Rep P w η X d v) (o : Option Tmp) : RepF P w η X (put f o d) (a.put o v) := by
  cases o with
  | none => exact h
  | some t =>
    intro i hi
    have hi' : i < a.tmps.size := by simpa [Act.put] using hi
    simp only [Proofs.Ytjjhjhjphhpeiaa.put, Act.put]
    by_cases e : i = t
    · subst e
      simpa [Nat.beq_eq_true_eq, hi'] using hd
    · have hb : Nat.beq i t = false := by
        cases h : Nat.beq i t with
        | false => rfl
        | true => exact absurd (Nat.eq_of_beq_eq_true h) e
      have := h i hi'
      simpa [hb, Array.getElem?_setIfInBounds_ne (Ne.symm e)] using this
theorem okT_spec {t : TypeId} (h : okT P t = true) : ∃ d i, P.underlying t = some d ∧ P.info? t = some i ∧ szOf P t = i.size := by
  simp only [okT, Bool.and_eq_true, Option.isSome_iff_exists] at h
  obtain ⟨⟨d, hd⟩, i, hi⟩ := h
  exact ⟨d, i, hd, hi, by simp [szOf, hi]⟩
theorem aggT_spec {t : TypeId} {d : TypeDesc} (h : P.underlying t = some d) : aggT P t = d.isRow := by
  unfold aggT
  rw [h]
  cases d <;> rfl
theorem run_load_cells {t : TypeId} {cs : List D} {b o off : Nat} (hok : rdOk P t cs off) (h : RepC P w η X cs b o) :
    ∃ v, (Instr.loadAt t (.pointer (some ⟨b, o + off, none⟩))).run P w = .ok v w ∧ Rep P w η X (rdVal P t cs off) v := by
  obtain ⟨h1, h2⟩ := hok
  obtain ⟨d, i, hu, hi, hsz⟩ := okT_spec h1
  cases hg : aggT P t with
  | true =>
    simp only [hg, cond_true] at h2
    obtain ⟨vs, k1, k2, k3, k4⟩ := ((h.drop off).take (szOf P t)).range
    have hl : vs.length = szOf P t := by rw [k1, List.length_take, List.length_drop]; omega
    refine ⟨.agg vs.toArray, run_loadAt_mid w b (o + off) t vs d k2 hu (by rw [← aggT_spec hu, hg]) (by rw [hi]; simp [hl, hsz]), ?_⟩
    simp only [rdVal, hg, cond_true, Rep]
    exact ⟨vs, rfl, k3, k4⟩
  | false =>
    simp only [hg, cond_false] at h2
    have hdr := h.drop off
    rw [List.drop_eq_getElem_cons h2] at hdr
    simp only [RepC] at hdr
    obtain ⟨⟨_, x, hx, _, hr⟩, _⟩ := hdr
    refine ⟨x, ?_, ?_⟩
    · have hn := aggT_spec hu
      rw [hg] at hn
      have hagg : (isAgg t).run P w = .ok false w := by
        unfold isAgg
        rw [Sem.run_bind, run_underlying hu w]
        cases d <;> simp_all
      simp [Instr.loadAt, Instr.sureAddr, loadVar, Sem.run_bind, hagg, load, Sem.run, hx]
    · simp only [rdVal, hg, cond_false]
      rw [List.getD_eq_getElem?_getD, List.getElem?_eq_getElem h2]
      exact hr
theorem run_part_cells {t : TypeId} {cs : List D} {vs : List Value} {off : Nat} (hok : rdOk P t cs off) (h : RepL P w η X cs vs) (h1 : ∀ x ∈ vs, x.oneCell' = true) :
    ∃ v, (part t vs.toArray off).run P w = .ok v w ∧ Rep P w η X (rdVal P t cs off) v := by
  obtain ⟨h1', h2⟩ := hok
  obtain ⟨d, i, hu, hi, hsz⟩ := okT_spec h1'
  have hl := h.length
  have hn := aggT_spec hu
  have hagg : (isAgg t).run P w = .ok (aggT P t) w := by
    unfold isAgg
    rw [Sem.run_bind, run_underlying hu w]
    rw [hn]
    cases d <;> rfl
  cases hg : aggT P t with
  | true =>
    simp only [hg, cond_true] at h2
    refine ⟨.agg ((vs.drop off).take (szOf P t)).toArray, ?_, ?_⟩
    · rw [hg] at hagg
      simp [part, Sem.run_bind, hagg, sizeOf, typeInfo, hi, hsz]
    · simp only [rdVal, hg, cond_true, Rep]
      exact ⟨_, rfl, (h.drop off).take _, fun x hx => h1 x (List.mem_of_mem_drop (List.mem_of_mem_take hx))⟩
  | false =>
    simp only [hg, cond_false] at h2
    obtain ⟨x, hx, hr⟩ := h.get off (List.getElem?_eq_getElem h2)
    refine ⟨x, ?_, ?_⟩
    · rw [hg] at hagg
      have hlt : off < vs.length := by omega
      rw [List.getElem?_eq_getElem hlt] at hx
      simp [part, Sem.run_bind, hagg, hx, List.getElem?_eq_getElem hlt]
    · simp only [rdVal, hg, cond_false]
      rw [List.getD_eq_getElem?_getD, List.getElem?_eq_getElem h2]
      exact hr
theorem vals_rep : ∀ {l : List D} {vs us : List Value}, vals l = some vs → RepL P w η X l us → us = vs
  | [], vs, us, h, k => by simp only [RepL] at k; simp [vals] at h; rw [k, h]
  | d :: l, vs, us, h, k => by
    simp only [RepL] at k
    obtain ⟨x, xs, rfl, k1, k2⟩ := k
    cases d <;> simp only [vals] at h <;> try (cases h; done)
    rename_i y
    simp only [Rep] at k1
    subst k1
    cases hv : vals l with
    | none => rw [hv] at h; cases h
    | some ws =>
      rw [hv] at h
      simp at h
      rw [vals_rep hv k2, h]
theorem repL_map (h : RepF P w η X f a) : ∀ {l : List Operand}, (∀ x ∈ l, opnOk a.tmps.size x = true) → RepL P w η X (l.map (ev f)) (l.map a.eval)
  | [], _ => by simp [RepL]
  | x :: l, hx => by
    simp only [List.map_cons, RepL]
    exact ⟨_, _, rfl, h.ev (hx x (by simp)), repL_map h fun y hy => hx y (by simp [hy])⟩

theorem elT_spec {t e : TypeId} (h : elT P t = some e) : P.underlying t = some (.slice e) := by
  unfold elT at h
  split at h
  · injection h with h; subst h; assumption
  · cases h
theorem arT_spec {t e : TypeId} {n : Nat} (h : arT P t = some (n, e)) : P.underlying t = some (.array n e) := by
  unfold arT at h
  split at h
  · injection h with h; injection h with h1 h2; subst h1 h2; assumption
  · cases h
theorem u8T_spec {t : TypeId} (h : u8T P t = true) : P.underlying t = some (.int .u8) := by
  unfold u8T at h
  split at h
  · assumption
  · cases h
theorem RepE.bytes {z : Nat} {l : List UInt8} {b o : Nat} (h : RepE P w η X z (l.map bD) b o) {j : Nat} {u : UInt8} (hj : l[j]? = some u) : w.cell? ⟨b, o + j, none⟩ = some (bv u) := by
  have h0 := RepE.get j (d := bD u) h (by rw [List.getElem?_map, hj]; rfl)
  obtain ⟨hz, _, x, h1, _, h2⟩ := h0.2 rfl
  subst hz
  rw [Nat.mul_one] at h1
  rw [h1]
  simp only [bD, Rep] at h2
  rw [h2]
theorem strT_spec {t : TypeId} (h : strT P t = true) : P.underlying t = some .string := by
  unfold strT at h
  split at h
  · assumption
  · cases h
theorem fld_spec {t ft : TypeId} {i fo : Nat} (h : fld P t i = some (fo, ft)) : ∃ fs fd, P.underlying t = some (.struct fs) ∧ fs[i]? = some fd ∧ fd.offset = fo ∧ fd.type = ft := by
  unfold fld at h
  split at h
  · rename_i fs hfs
    cases hx : fs[i]? with
    | none => rw [hx] at h; cases h
    | some fd =>
      rw [hx] at h
      simp at h
      exact ⟨fs, fd, hfs, hx, h.1, h.2⟩
  · cases h
theorem run_fieldAt {t ft : TypeId} {i fo b o : Nat} (h : fld P t i = some (fo, ft)) (hok : okT P ft = true ∧ szOf P ft ≠ 0) : (Instr.fieldAt t (.pointer (some ⟨b, o, none⟩)) i).run P w = .ok (.pointer (some ⟨b, o + fo, none⟩)) w := by
  obtain ⟨fs, fd, h1, h2, h3, h4⟩ := fld_spec h
  obtain ⟨h5, h6⟩ := hok
  obtain ⟨d, ti, h7, h8, h9⟩ := okT_spec h5
  subst h4
  rw [h9] at h6
  simp [Instr.fieldAt, Sem.run_bind, run_underlying h1, h2, Instr.sureAddr, fieldPlace, sizeOf, typeInfo, h8, h6, Addr.add_lit, h3]
theorem run_indexAt_slice {t e : TypeId} {k : IntKind} {i : Int} {b o n c : Nat} (h : elT P t = some e) (he : okT P e = true) (h0 : 0 ≤ i) (h1 : i < n) : (Instr.indexAt t (.slice (some ⟨b, o, none⟩) n c) (.int k i)).run P w = .ok (.pointer (some ⟨b, o + i.toNat * szOf P e, none⟩)) w := by
  have hu := elT_spec h
  obtain ⟨d, ti, h7, h8, h9⟩ := okT_spec he
  simp [Instr.indexAt, Sem.run_bind, asIntOf, run_underlying hu, h0, h1, sizeOf, typeInfo, h8, h9, Addr.add_lit]
theorem run_indexAt_array {t e : TypeId} {k : IntKind} {i : Int} {b o n : Nat} (h : arT P t = some (n, e)) (he : okT P e = true) (h0 : 0 ≤ i) (h1 : i < n) : (Instr.indexAt t (.pointer (some ⟨b, o, none⟩)) (.int k i)).run P w = .ok (.pointer (some ⟨b, o + i.toNat * szOf P e, none⟩)) w := by
  have hu := arT_spec h
  obtain ⟨d, ti, h7, h8, h9⟩ := okT_spec he
  simp [Instr.indexAt, Instr.sureAddr, Sem.run_bind, asIntOf, run_underlying hu, h0, h1, sizeOf, typeInfo, h8, h9, Addr.add_lit]
theorem bnd_spec (h : RepF P w η X f a) {o : Option Operand} (ho : ∀ x, o = some x → opnOk a.tmps.size x = true) {d i : Int} (hb : bnd f o d = some i) : (o = none ∧ i = d) ∨ ∃ k, o.map a.eval = some (.int k i) := by
  cases o with
  | none => left; simp [bnd] at hb; exact ⟨rfl, hb.symm⟩
  | some x =>
    right
    have := h.ev (ho x rfl)
    unfold bnd at hb
    simp only at hb
    split at hb
    · rename_i k j hx
      rw [hx] at this
      simp only [Rep] at this
      injection hb with hb
      exact ⟨k, by simp [this, hb]⟩
    · cases hb
theorem run_bounds (h : RepF P w η X f a) {lo hi : Option Operand} (hlo : ∀ x, lo = some x → opnOk a.tmps.size x = true) (hhi : ∀ x, hi = some x → opnOk a.tmps.size x = true) (isS : Bool) {len cap : Nat} {l m : Int} (hl : bnd f lo 0 = some l) (hm : bnd f hi len = some m)
    (h0 : 0 ≤ l) (h1 : l ≤ m) (h2 : m ≤ cap) : (Instr.sliceBounds isS len cap (lo.map a.eval) (hi.map a.eval) none).run P w = .ok (l.toNat, m.toNat, cap) w := by
  rcases bnd_spec h hlo hl with ⟨rfl, rfl⟩ | ⟨k, e1⟩ <;> rcases bnd_spec h hhi hm with ⟨rfl, rfl⟩ | ⟨k', e2⟩
  · simp [Instr.sliceBounds]
  · have : m ≤ (cap : Int) := by omega
    simp [Instr.sliceBounds, e2, Instr.sliceBound, asIntOf, h1, this]
  · have : l ≤ (len : Int) := by omega
    simp [Instr.sliceBounds, e1, Instr.sliceBound, asIntOf, h0, this]
  · have h4 : m ≤ (cap : Int) := by omega
    have h5 : 0 ≤ m := by omega
    have h6 : l ≤ max m 0 := by omega
    simp [Instr.sliceBounds, e1, e2, Instr.sliceBound, asIntOf, h0, h4, h5, h6]
theorem Rep.win_slice {k off n c : Nat} {y : Value} (h : Rep P w η X (.win k off n c) y) : ∃ A, y = .slice A n c ∧ n ≤ c ∧ n ≤ 140737488355328 ∧ ((∃ b, η k = some (some b) ∧ A = some ⟨b, off, none⟩) ∨ (η k = some none ∧ n = 0 ∧ c = 0)) := by
  simp only [Rep] at h
  rcases h with ⟨b, h1, h2, h3, h4⟩ | ⟨h1, rfl, rfl, A, h4⟩
  · exact ⟨_, h2, h3, h4, .inl ⟨b, h1, rfl⟩⟩
  · exact ⟨_, h4, Nat.le_refl _, by omega, .inr ⟨h1, rfl, rfl⟩⟩
theorem rep_win_part {kk off n c l h m z : Nat} {A : Option Addr} (e0 : (∃ b, η kk = some (some b) ∧ A = some ⟨b, off, none⟩) ∨ (η kk = some none ∧ n = 0 ∧ c = 0)) (hm : m ≤ c) (hlm : l ≤ m) (h1 : h - l ≤ m - l) (h2 : h ≤ 140737488355328) : Rep P w η X (.win kk (winOff m l off z) (h - l) (m - l)) (.slice (if m = l then A else A.map (·.add (l * z))) (h - l) (m - l)) := by
  simp only [Rep, winOff]
  rcases e0 with ⟨b, e0, rfl⟩ | ⟨e0, rfl, rfl⟩
  · refine .inl ⟨b, e0, ?_, h1, by omega⟩
    by_cases e : m = l
    · subst e
      simp
    · have : Nat.beq m l = false := by
        cases hb : Nat.beq m l with
        | false => rfl
        | true => exact absurd (Nat.eq_of_beq_eq_true hb) e
      rw [if_neg e, this]
      simp [Addr.add_lit]
  · have e1 : m = 0 := by omega
    have e2 : l = 0 := by omega
    subst e1 e2
    exact .inr ⟨e0, by omega, rfl, A, by rw [if_pos rfl]; congr 1; omega⟩
/-- A part of a slice. -/
theorem Rep.part {A : Option Addr} {n c l h : Nat} {es : List D} {z : Nat} {own : Own} (hz : es.length = n) (h1 : l ≤ h) (h2 : h ≤ n) (hc : n ≤ c) (hb : n ≤ 140737488355328) (hw : l = 0 ∨ ∀ d ∈ es, d.width = z)
    (hE : 0 < n → ∃ b o z, A = some ⟨b, o, none⟩ ∧ 0 < z ∧ RepE P w η X z es b o) {m : Nat} (hm : h ≤ m) (hown : OwnAt P w η (if m = l then A else A.map (·.add (l * z))) (h - l) (m - l) own) :
    Rep P w η X (.sl own ((es.take h).drop l)) (.slice (if m = l then A else A.map (·.add (l * z))) (h - l) (m - l)) := by
  have hlen : ((es.take h).drop l).length = h - l := by rw [List.length_drop, List.length_take]; omega
  simp only [Rep]
  refine ⟨_, m - l, by rw [hlen], by omega, by omega, by rw [hlen]; exact hown, fun h0 => ?_⟩
  rw [hlen] at h0
  obtain ⟨b, o, z', hA, h0z, hr⟩ := hE (by omega)
  rw [if_neg (by omega), hA]
  have hzz : l = 0 ∨ z' = z := by
    rcases hw with hw | hw
    · exact .inl hw
    · right
      cases es with
      | nil =>
        exfalso
        have hz0 : (0 : Nat) = n := hz
        clear hr hE hA hw hown hlen
        omega
      | cons d es =>
        have := (RepE.cons.1 hr).1.cells.1
        rw [← this]
        exact hw d (by simp)
  refine ⟨b, o + l * z, z', by simp [Addr.add_lit], h0z, RepE.mk fun i d hi => ?_⟩
  have hi' : es[l + i]? = some d := by
    rw [List.getElem?_drop, List.getElem?_take] at hi
    split at hi
    · exact hi
    · cases hi
  have := RepE.get (l + i) hr hi'
  rcases hzz with rfl | rfl
  · simpa using this
  · rwa [show o + l * z' + i * z' = o + (l + i) * z' by rw [Nat.add_mul]; omega]
theorem run_slice_part {t e : TypeId} {A : Option Addr} {n c l h m : Nat} {lo hi mx : Option Value} (ht : elT P t = some e) (he : okT P e = true) (hb : (Instr.sliceBounds true n c lo hi mx).run P w = .ok (l, h, m) w) :
    (Instr.sliceAt t (.slice A n c) lo hi mx).run P w = .ok (.slice (if m = l then A else A.map (·.add (l * szOf P e))) (h - l) (m - l)) w := by
  have hu := elT_spec ht
  obtain ⟨d, ti, h7, h8, h9⟩ := okT_spec he
  simp [Instr.sliceAt, Instr.slice, Sem.run_bind, run_underlying hu, hb, sizeOf, typeInfo, h8, h9]

def opsOk (n : Nat) (op : Op) : Bool := op.operands.all (opnOk n)
theorem opsOk_spec {n : Nat} {op : Op} (h : opsOk n op = true) : ∀ x ∈ op.operands, opnOk n x = true := Array.all_eq_true_iff_forall_mem.1 h
theorem map_some_eq {α β : Type} {o : Option α} {g : α → β} {y : β} (h : o.map g = some y) : ∃ x, o = some x ∧ g x = y := by
  cases o with
  | none => cases h
  | some x => injection h with h; exact ⟨x, rfl, h⟩
theorem dval_index (hf : RepF P w η X f a) {o : Oper} (hop : ∀ x ∈ o.op.operands, opnOk a.tmps.size x = true) (t : TypeId) (x ix : Operand) (ho : o.op = .indexAddr t x ix) {c : Prop} {d : D} (h : dval P f S o.type o.op = some (c, d)) (hc : c) :
    ∃ v, (execOp a.eval o).run P w = .ok (.value v) w ∧ Rep P w η X d v := by
  rw [ho] at h hop
  have h1 := hf.ev (hop x (by simp [Op.operands]))
  have h2 := hf.ev (hop ix (by simp [Op.operands]))
  simp only [dval] at h
  split at h
  · rename_i k i hi
    rw [hi] at h2
    simp only [Rep] at h2
    split at h
    · rename_i own es hx
      rw [hx] at h1
      simp only [Rep] at h1
      obtain ⟨A, cap, e1, e2, e3, e4, e5⟩ := h1
      split at h
      · rename_i e he
        injection h with h
        injection h with hp hd
        subst hp hd
        obtain ⟨k1, k2, k3, k4⟩ := hc
        obtain ⟨b, p, z, rfl, hz, hr⟩ := e5 (by omega)
        have hlt : i.toNat < es.length := by omega
        have hget : es[i.toNat]? = some (es.getD i.toNat undefD) := by rw [List.getD_eq_getElem?_getD, List.getElem?_eq_getElem hlt]; rfl
        have hel := (RepE.get i.toNat hr hget).cells
        refine ⟨.pointer (some ⟨b, p + i.toNat * szOf P e, none⟩), ?_, ?_⟩
        · unfold execOp
          simp only [ho, e1, h2, Sem.run_bind, run_indexAt_slice he k1 k2 k3, Result.andThen_ok]
          rfl
        · simp only [Rep]
          refine ⟨b, p + i.toNat * szOf P e, rfl, ?_⟩
          have := hel.2
          rwa [← hel.1, k4] at this
      · cases h
    · rename_i kk off n c' hx
      rw [hx] at h1
      obtain ⟨A, e1, e2, e3, e0⟩ := h1.win_slice
      split at h
      · rename_i e he
        injection h with h
        injection h with hp hd
        subst hp hd
        obtain ⟨k1, k2, k3⟩ := hc
        rcases e0 with ⟨b, e0, rfl⟩ | ⟨_, rfl, _⟩
        rotate_left
        · omega
        refine ⟨.pointer (some ⟨b, off + i.toNat * szOf P e, none⟩), ?_, ?_⟩
        · unfold execOp
          simp only [ho, e1, h2, Sem.run_bind, run_indexAt_slice he k1 k2 k3, Result.andThen_ok]
          rfl
        · simp only [Rep]
          exact ⟨b, e0, rfl⟩
      · cases h
    · rename_i kk off hx
      rw [hx] at h1
      simp only [Rep] at h1
      obtain ⟨b, e1, e2⟩ := h1
      split at h
      · rename_i n e he
        injection h with h
        injection h with hp hd
        subst hp hd
        obtain ⟨k1, k2, k3⟩ := hc
        refine ⟨.pointer (some ⟨b, off + i.toNat * szOf P e, none⟩), ?_, ?_⟩
        · unfold execOp
          simp only [ho, e2, h2, Sem.run_bind, run_indexAt_array he k1 k2 k3, Result.andThen_ok]
          rfl
        · simp only [Rep]
          exact ⟨b, e1, rfl⟩
      · cases h
    · rename_i cs off hx
      rw [hx] at h1
      simp only [Rep] at h1
      obtain ⟨b, p, e1, e2⟩ := h1
      split at h
      · rename_i n e he
        injection h with h
        injection h with hp hd
        subst hp hd
        obtain ⟨k1, k2, k3⟩ := hc
        refine ⟨.pointer (some ⟨b, p + off + i.toNat * szOf P e, none⟩), ?_, ?_⟩
        · unfold execOp
          simp only [ho, e1, h2, Sem.run_bind, run_indexAt_array he k1 k2 k3, Result.andThen_ok]
          rfl
        · simp only [Rep]
          exact ⟨b, p, by rw [Nat.add_assoc], e2⟩
      · cases h
    · cases h
  · cases h
theorem dval_slice (hf : RepF P w η X f a) {o : Oper} (hop : ∀ x ∈ o.op.operands, opnOk a.tmps.size x = true) (t : TypeId) (x : Operand) (lo hi : Option Operand) (ho : o.op = .slice t x lo hi none) {c : Prop} {d : D} (h : dval P f S o.type o.op = some (c, d)) (hc : c) :
    ∃ v, (execOp a.eval o).run P w = .ok (.value v) w ∧ Rep P w η X d v := by
  rw [ho] at h hop
  have h1 := hf.ev (hop x (by simp [Op.operands]))
  have hlo : ∀ y, lo = some y → opnOk a.tmps.size y = true := fun y hy => hop y (by simp [Op.operands, hy])
  have hhi : ∀ y, hi = some y → opnOk a.tmps.size y = true := fun y hy => hop y (by simp [Op.operands, hy])
  simp only [dval] at h
  split at h
  · rename_i own es hx
    rw [hx] at h1
    simp only [Rep] at h1
    obtain ⟨A, cap, e1, e2, e3, e4, e5⟩ := h1
    split at h
    · rename_i e he
      split at h
      · rename_i l hl
        split at h
        · rename_i m hm
          injection h with h
          injection h with hp hd
          subst hp hd
          obtain ⟨k1, k2, k3, k4, k5⟩ := hc
          have hb := run_bounds (P := P) (w := w) hf hlo hhi true hl hm k2 k3 (show m ≤ (cap : Int) by omega)
          refine ⟨_, ?_, Rep.part (z := szOf P e) (m := cap) rfl (show l.toNat ≤ m.toNat by omega) (by omega) e2 e3 (by rcases k5 with k5 | k5; exact .inl (by omega); exact .inr k5) e5 (by omega) trivial⟩
          unfold execOp
          simp only [ho, e1, Sem.run_bind]
          rw [show Option.map a.eval (none : Option Operand) = none from rfl, run_slice_part he k1 hb]
          rfl
        · cases h
      · cases h
    · cases h
  · rename_i kk off n c' hx
    rw [hx] at h1
    obtain ⟨A, e1, e2, e3, e0⟩ := h1.win_slice
    split at h
    · rename_i e he
      split at h
      · rename_i l hl
        split at h
        · rename_i m hm
          injection h with h
          injection h with hp hd
          subst hp hd
          obtain ⟨k1, k2, k3, k4, k5⟩ := hc
          have hb := run_bounds (P := P) (w := w) hf hlo hhi true hl hm k2 k3 k4
          refine ⟨_, ?_, rep_win_part (l := l.toNat) (h := m.toNat) (m := c') (z := szOf P e) e0 (Nat.le_refl _) (by omega) (by omega) (by omega)⟩
          unfold execOp
          simp only [ho, e1, Sem.run_bind]
          rw [show Option.map a.eval (none : Option Operand) = none from rfl, run_slice_part he k1 hb]
          rfl
        · cases h
      · cases h
    · cases h
  · rename_i s hx
    rw [hx] at h1
    simp only [Rep] at h1
    split at h
    · rename_i l hl
      split at h
      · rename_i m hm
        injection h with h
        injection h with hp hd
        subst hp hd
        obtain ⟨k1, k2, k3, k4⟩ := hc
        have hb := run_bounds (P := P) (w := w) hf hlo hhi false hl hm k2 k3 k4
        refine ⟨_, ?_, by simp only [Rep]; rfl⟩
        have hu := strT_spec k1
        unfold execOp
        simp [ho, h1, Instr.sliceAt, Instr.slice, Sem.run_bind, run_underlying hu, hb]
      · cases h
    · cases h
  · cases h
theorem dval_slice3 (hf : RepF P w η X f a) {o : Oper} (hop : ∀ x ∈ o.op.operands, opnOk a.tmps.size x = true) (t : TypeId) (x : Operand) (lo hi : Option Operand) (mx : Operand) (ho : o.op = .slice t x lo hi (some mx)) {c : Prop} {d : D} (h : dval P f S o.type o.op = some (c, d)) (hc : c) :
    ∃ v, (execOp a.eval o).run P w = .ok (.value v) w ∧ Rep P w η X d v := by
  rw [ho] at h hop
  have h1 := hf.ev (hop x (by simp [Op.operands]))
  have hlo : ∀ y, lo = some y → opnOk a.tmps.size y = true := fun y hy => hop y (by simp [Op.operands, hy])
  have hhi : ∀ y, hi = some y → opnOk a.tmps.size y = true := fun y hy => hop y (by simp [Op.operands, hy])
  have hmx : ∀ y, some mx = some y → opnOk a.tmps.size y = true := fun y hy => hop y (by simp [Op.operands, hy])
  simp only [dval] at h
  split at h
  · rename_i own es hx
    rw [hx] at h1
    simp only [Rep] at h1
    obtain ⟨A, cap, e1, e2, e3, e4, e5⟩ := h1
    split at h
    · rename_i e he
      split at h
      · rename_i l hl
        split at h
        · rename_i m hm
          split at h
          · rename_i q hq
            injection h with h
            injection h with hp hd
            subst hp hd
            obtain ⟨k1, k2, k3, k4, k5, k6, k7⟩ := hc
            subst k4
            have hb : (Instr.sliceBounds true es.length cap (lo.map a.eval) (hi.map a.eval) (some (a.eval mx))).run P w = .ok (l.toNat, m.toNat, m.toNat) w := by
              obtain ⟨y, rfl⟩ := Option.isSome_iff_exists.1 k6
              rcases bnd_spec hf hhi hm with ⟨e, _⟩ | ⟨k', e2'⟩
              · cases e
              rcases bnd_spec hf hmx hq with ⟨e, _⟩ | ⟨k'', e3'⟩
              · cases e
              simp only [Option.map_some, Option.some.injEq] at e2' e3'
              have g1 : m ≤ (cap : Int) := by omega
              have g2 : (0 : Int) ≤ m := by omega
              have g3 : l ≤ max m 0 := by omega
              rcases bnd_spec hf hlo hl with ⟨rfl, rfl⟩ | ⟨k, e1'⟩
              · simp [Instr.sliceBounds, e2', e3', Instr.sliceBound, asIntOf, g1, g2]
                omega
              · simp [Instr.sliceBounds, e1', e2', e3', Instr.sliceBound, asIntOf, g1, g2, g3, k2]
                omega
            refine ⟨_, ?_, Rep.part (z := szOf P e) (m := m.toNat) rfl (show l.toNat ≤ m.toNat by omega) (by omega) e2 e3 (by rcases k7 with k7 | k7; exact .inl (by omega); exact .inr k7) e5 (Nat.le_refl _) rfl⟩
            unfold execOp
            simp only [ho, e1, Sem.run_bind]
            rw [show Option.map a.eval (some mx) = some (a.eval mx) from rfl, run_slice_part he k1 hb]
            rfl
          · cases h
        · cases h
      · cases h
    · cases h
  · rename_i kk off n c' hx
    rw [hx] at h1
    obtain ⟨A, e1, e2, e3, e0⟩ := h1.win_slice
    split at h
    · rename_i e he
      split at h
      · rename_i l hl
        split at h
        · rename_i m hm
          split at h
          · rename_i q hq
            injection h with h
            injection h with hp hd
            subst hp hd
            obtain ⟨k1, k2, k3, k4, k5, k6, k7⟩ := hc
            have hb : (Instr.sliceBounds true n c' (lo.map a.eval) (hi.map a.eval) (some (a.eval mx))).run P w = .ok (l.toNat, m.toNat, q.toNat) w := by
              obtain ⟨y, rfl⟩ := Option.isSome_iff_exists.1 k7
              rcases bnd_spec hf hhi hm with ⟨e, _⟩ | ⟨k', e2'⟩
              · cases e
              rcases bnd_spec hf hmx hq with ⟨e, _⟩ | ⟨k'', e3'⟩
              · cases e
              simp only [Option.map_some, Option.some.injEq] at e2' e3'
              have g1 : q ≤ (c' : Int) := by omega
              have g2 : (0 : Int) ≤ q := by omega
              have g3 : l ≤ max m 0 := by omega
              have g4 : (0 : Int) ≤ m := by omega
              have g5 : m ≤ max q 0 := by omega
              rcases bnd_spec hf hlo hl with ⟨rfl, rfl⟩ | ⟨k, e1'⟩
              · simp [Instr.sliceBounds, e2', e3', Instr.sliceBound, asIntOf, g1, g2, g4, g5]
              · simp [Instr.sliceBounds, e1', e2', e3', Instr.sliceBound, asIntOf, g1, g2, g3, g4, g5, k2]
            refine ⟨_, ?_, rep_win_part (l := l.toNat) (h := m.toNat) (m := q.toNat) (z := szOf P e) e0 (by omega) (by omega) (by omega) (by omega)⟩
            unfold execOp
            simp only [ho, e1, Sem.run_bind]
            rw [show Option.map a.eval (some mx) = some (a.eval mx) from rfl, run_slice_part he k1 hb]
            rfl
          · cases h
        · cases h
      · cases h
    · cases h
  · cases h

theorem equal_iface_nil {t tt : TypeId} {q : Value} {ms : Array (String × TypeId)} (hm : P.underlying t = some (.interface ms)) : (Op.equal t (.iface tt q) .nilIface).run P w = .ok false w := by
  have key : ∀ d, (Op.equalIn (d + 1) t (.iface tt q) .nilIface).run P w = .ok false w := fun d => by
    simp only [Op.equalIn, Sem.run_bind, run_underlying hm, Result.andThen_ok]
    rfl
  exact key 9999
theorem equal_nil_iface {t tt : TypeId} {q : Value} {ms : Array (String × TypeId)} (hm : P.underlying t = some (.interface ms)) : (Op.equal t .nilIface (.iface tt q)).run P w = .ok false w := by
  have key : ∀ d, (Op.equalIn (d + 1) t .nilIface (.iface tt q)).run P w = .ok false w := fun d => by
    simp only [Op.equalIn, Sem.run_bind, run_underlying hm, Result.andThen_ok]
    rfl
  exact key 9999
theorem equal_ptr_nil {t e : TypeId} {q : Addr} (hm : P.underlying t = some (.pointer e)) : (Op.equal t (.pointer (some q)) (.pointer none)).run P w = .ok false w := by
  have key : ∀ d, (Op.equalIn (d + 1) t (.pointer (some q)) (.pointer none)).run P w = .ok false w := fun d => by
    simp only [Op.equalIn, Sem.run_bind, run_underlying hm, Result.andThen_ok]
    rfl
  exact key 9999
theorem dbin_sound {op : BinOp} {t : TypeId} {x y : Operand} {d1 d2 : D} {u v : Value} (h1 : Rep P w η X d1 u) (h2 : Rep P w η X d2 v) {c : Prop} {d : D} (h : dbin P op t x y d1 d2 = some (c, d)) (hc : c) :
    ∃ r, (do eqGuard op t x y u v; binOp op t u v : Sem Value).run P w = .ok r w ∧ Rep P w η X d r := by
  unfold dbin at h
  split at h
  · rename_i p q
    simp only [Rep] at h1 h2
    obtain ⟨us, rfl, hu, _⟩ := h1
    obtain ⟨vs, rfl, hv, _⟩ := h2
    unfold dbinA at h
    split at h
    · rename_i us' vs' e1 e2
      have h3 := vals_rep e1 hu
      have h4 := vals_rep e2 hv
      subst h3 h4
      split at h <;> try (cases h; done)
      all_goals
        injection h with h
        injection h with hp hd
        subst hp hd
        exact ⟨_, hc w, by simp only [Rep]⟩
    · cases h
  · rename_i p q
    simp only [Rep] at h1 h2
    subst h1 h2
    obtain ⟨r, hr, he⟩ := map_some_eq h
    injection he with _ he
    subst he
    exact ⟨r, pureRun_run w hr, by simp only [Rep]⟩
  · rename_i tt dd
    simp only [Rep] at h1 h2
    obtain ⟨q, rfl, _⟩ := h1
    subst h2
    split at h <;> try (cases h; done)
    all_goals
      injection h with h
      injection h with hp hd
      subst hp hd
      unfold ifaceT at hc
      split at hc <;> try (cases hc; done)
      rename_i ms hm
      refine ⟨_, ?_, by simp only [Rep]; rfl⟩
      simp [eqGuard, binOp, equal_iface_nil hm]
  · rename_i tt dd
    simp only [Rep] at h1 h2
    obtain ⟨q, rfl, _⟩ := h2
    subst h1
    split at h <;> try (cases h; done)
    all_goals
      injection h with h
      injection h with hp hd
      subst hp hd
      unfold ifaceT at hc
      split at hc <;> try (cases hc; done)
      rename_i ms hm
      refine ⟨_, ?_, by simp only [Rep]; rfl⟩
      simp [eqGuard, binOp, equal_nil_iface hm]
  · simp only [Rep] at h1 h2
    obtain ⟨b, _, rfl⟩ := h1
    subst h2
    split at h <;> try (cases h; done)
    all_goals
      injection h with h
      injection h with hp hd
      subst hp hd
      unfold ptrT at hc
      split at hc <;> try (cases hc; done)
      rename_i ms hm
      refine ⟨_, ?_, by simp only [Rep]; rfl⟩
      simp [eqGuard, binOp, equal_ptr_nil hm]
  · simp only [Rep] at h1 h2
    obtain ⟨b, o, rfl, _⟩ := h1
    subst h2
    split at h <;> try (cases h; done)
    all_goals
      injection h with h
      injection h with hp hd
      subst hp hd
      unfold ptrT at hc
      split at hc <;> try (cases hc; done)
      rename_i ms hm
      refine ⟨_, ?_, by simp only [Rep]; rfl⟩
      simp [eqGuard, binOp, equal_ptr_nil hm]
  · rename_i t1 a t2 b
    simp only [Rep] at h1 h2
    obtain ⟨p, rfl, hp⟩ := h1
    obtain ⟨q, rfl, hq⟩ := h2
    split at h <;> try (cases h; done)
    injection h with h
    injection h with hpp hd
    subst hpp hd
    exact ⟨_, hc w η X p q hp hq, by simp only [Rep]⟩
  · cases h
theorem dlen_sound {b : Builtin} {ts : Array TypeId} {ty : TypeId} {cs : Array Bool} {l : List D} {us : List Value} (hr : RepL P w η X l us) {c : Prop} {d : D} (h : dlen P b ts l = some (c, d)) (hc : c) :
    ∃ v, (builtin b ts ty cs us.toArray).run P w = .ok (.value v) w ∧ Rep P w η X d v := by
  unfold dlen at h
  split at h
  · rename_i own es
    injection h with h
    injection h with hp hd
    subst hp hd
    simp only [RepL, Rep] at hr
    obtain ⟨x, xs, rfl, ⟨A, cap, rfl, _⟩, rfl⟩ := hr
    obtain ⟨e, he⟩ := Option.isSome_iff_exists.1 hc
    cases ht : ts[0]? with
    | none => rw [ht] at he; cases he
    | some t =>
      rw [ht] at he
      have hu := elT_spec (t := t) he
      refine ⟨_, ?_, by simp only [Rep]; rfl⟩
      simp [builtin, Builtin.len_, ht, Sem.run_bind, run_underlying hu, goInt]
  · rename_i kk n
    injection h with h
    injection h with hp hd
    subst hp hd
    simp only [RepL] at hr
    obtain ⟨x, xs, rfl, hrw, rfl⟩ := hr
    obtain ⟨A, rfl, _⟩ := hrw.win_slice
    obtain ⟨e, he⟩ := Option.isSome_iff_exists.1 hc
    cases ht : ts[0]? with
    | none => rw [ht] at he; cases he
    | some t =>
      rw [ht] at he
      have hu := elT_spec (t := t) he
      refine ⟨_, ?_, by simp only [Rep]; rfl⟩
      simp [builtin, Builtin.len_, ht, Sem.run_bind, run_underlying hu, goInt]
  · rename_i es
    injection h with h
    injection h with hp hd
    subst hp hd
    simp only [RepL, Rep, OwnAt] at hr
    obtain ⟨x, xs, rfl, ⟨A, cap, rfl, _, _, rfl, _⟩, rfl⟩ := hr
    obtain ⟨e, he⟩ := Option.isSome_iff_exists.1 hc
    cases ht : ts[0]? with
    | none => rw [ht] at he; cases he
    | some t =>
      rw [ht] at he
      have hu := elT_spec (t := t) he
      refine ⟨_, ?_, by simp only [Rep]; rfl⟩
      simp [builtin, Builtin.cap_, ht, Sem.run_bind, run_underlying hu, goInt]
  · rename_i kk off n c'
    injection h with h
    injection h with hp hd
    subst hp hd
    simp only [RepL] at hr
    obtain ⟨x, xs, rfl, hrw, rfl⟩ := hr
    obtain ⟨A, rfl, _⟩ := hrw.win_slice
    obtain ⟨e, he⟩ := Option.isSome_iff_exists.1 hc
    cases ht : ts[0]? with
    | none => rw [ht] at he; cases he
    | some t =>
      rw [ht] at he
      have hu := elT_spec (t := t) he
      refine ⟨_, ?_, by simp only [Rep]; rfl⟩
      simp [builtin, Builtin.cap_, ht, Sem.run_bind, run_underlying hu, goInt]
  · cases h
theorem dbuiltin_sound {b : Builtin} {ts : Array TypeId} {ty : TypeId} {cs : Array Bool} {l : List D} {us : List Value} (hr : RepL P w η X l us) {c : Prop} {d : D} (h : dbuiltin P b ts ty cs l = some (c, d)) (hc : c) :
    ∃ v, (builtin b ts ty cs us.toArray).run P w = .ok (.value v) w ∧ Rep P w η X d v := by
  unfold dbuiltin at h
  split at h
  · rename_i vs hv
    have := vals_rep hv hr
    subst this
    split at h
    · rename_i r hp
      injection h with h
      injection h with _ hd
      subst hd
      exact ⟨r, pureRun_run w hp, by simp only [Rep]⟩
    · exact dlen_sound hr h hc
  · exact dlen_sound hr h hc
theorem run_builtin_op (ρ : Operand → Value) (dst : Option Tmp) (b : Builtin) (args : Array Operand) (ats : Array TypeId) (ty : TypeId) (pos : String) (after : Array Edge) (guard : Option (Nat × Bool)) :
    (execOp ρ ⟨dst, .call ⟨.builtin b, args, ats⟩, ty, pos, after, guard⟩).run P w = (builtin b ats ty (args.map isConstB) (args.map ρ)).run P w := by
  unfold execOp
  simp only [resolve, invoke, Sem.run_bind, Sem.run_pure, Result.andThen_ok]
  congr 2
set_option maxHeartbeats 1000000 in
theorem dval_sound (hM : Mem P base S η w) (hf : RepF P w η (Fix P S η) f a) {o : Oper} (hop : opsOk a.tmps.size o.op = true) {c : Prop} {d : D} (h : dval P f S o.type o.op = some (c, d)) (hc : c) :
    ∃ v, (execOp a.eval o).run P w = .ok (.value v) w ∧ Rep P w η (Fix P S η) d v := by
  have hop := opsOk_spec hop
  have rd : ∀ {t : TypeId} {cs : List D} {b off : Nat}, rdOk P t cs off → (∃ vs : List Value, w.rangeAt b 0 vs ∧ RepL P w η (Fix P S η) cs vs ∧ ∀ x ∈ vs, x.oneCell' = true) →
      ∃ v, (Instr.loadAt t (.pointer (some ⟨b, off, none⟩))).run P w = .ok v w ∧ Rep P w η (Fix P S η) (rdVal P t cs off) v := by
    intro t cs b off hok ⟨vs, hr, hl, h1⟩
    obtain ⟨h1', h2⟩ := hok
    obtain ⟨d, i, hu, hi, hsz⟩ := okT_spec h1'
    have hll := hl.length
    cases hg : aggT P t with
    | true =>
      simp only [hg, cond_true] at h2
      have hlen : ((vs.drop off).take (szOf P t)).length = szOf P t := by rw [List.length_take, List.length_drop]; omega
      refine ⟨.agg ((vs.drop off).take (szOf P t)).toArray, run_loadAt_mid w b off t _ d (fun j v hj => ?_) hu (by rw [← aggT_spec hu, hg]) (by rw [hi, hlen, hsz]; rfl), ?_⟩
      · rw [List.getElem?_take] at hj
        split at hj
        · rw [List.getElem?_drop] at hj
          have := hr (off + j) v hj
          rwa [Nat.zero_add] at this
        · cases hj
      · simp only [rdVal, hg, cond_true, Rep]
        exact ⟨_, rfl, (hl.drop off).take _, fun x hx => h1 x (List.mem_of_mem_drop (List.mem_of_mem_take hx))⟩
    | false =>
      simp only [hg, cond_false] at h2
      obtain ⟨x, hx, hrx⟩ := hl.get off (List.getElem?_eq_getElem h2)
      have hcell := hr off x hx
      rw [Nat.zero_add] at hcell
      refine ⟨x, ?_, ?_⟩
      · have hn := aggT_spec hu
        rw [hg] at hn
        have hagg : (isAgg t).run P w = .ok false w := by
          unfold isAgg
          rw [Sem.run_bind, run_underlying hu w]
          cases d <;> simp_all
        simp [Instr.loadAt, Instr.sureAddr, loadVar, Sem.run_bind, hagg, load, Sem.run, hcell]
      · simp only [rdVal, hg, cond_false]
        rw [List.getD_eq_getElem?_getD, List.getElem?_eq_getElem h2]
        exact hrx
  obtain ⟨dst, op, ty, pos, after, guard⟩ := o
  cases op with
  | move x =>
    simp only [dval] at h
    injection h with h; injection h with _ h; subst h
    exact ⟨_, rfl, hf.ev (hop x (by simp [Op.operands]))⟩
  | assign x =>
    simp only [dval] at h
    injection h with h; injection h with _ h; subst h
    exact ⟨_, rfl, hf.ev (hop x (by simp [Op.operands]))⟩
  | pick g x y =>
    simp only [dval] at h
    have h1 := hf.ev (hop g (by simp [Op.operands]))
    have h2 := hf.ev (hop x (by simp [Op.operands]))
    have h3 := hf.ev (hop y (by simp [Op.operands]))
    split at h
    · rename_i t ht
      rw [ht] at h1
      simp only [Rep] at h1
      injection h with h; injection h with _ h; subst h
      refine ⟨bif t then a.eval x else a.eval y, ?_, by cases t; exact h3; exact h2⟩
      unfold execOp
      simp only [h1, asBool]
      cases t <;> rfl
    · cases h
  | load t x =>
    simp only [dval] at h
    have h1 := hf.ev (hop x (by simp [Op.operands]))
    split at h
    · rename_i k off hx
      rw [hx] at h1
      simp only [Rep] at h1
      obtain ⟨b, e1, e2⟩ := h1
      split at h
      · rename_i t' cs hk
        injection h with h; injection h with hp hd; subst hp hd
        obtain ⟨vs, k1, k2, k3⟩ := hM.box k t' cs b hk e1
        obtain ⟨v, hv, hr⟩ := rd (b := b) (off := off) hc ⟨vs, fun j v hj => by rw [Nat.zero_add, cell_of_row w b j _ _ _ k1]; simpa using hj, k2, k3⟩
        refine ⟨v, ?_, hr⟩
        unfold execOp
        simp only [e2, Sem.run_bind, hv, Result.andThen_ok]
        rfl
      · cases h
    · rename_i cs off hx
      rw [hx] at h1
      simp only [Rep] at h1
      obtain ⟨b, p, e1, e2⟩ := h1
      injection h with h; injection h with hp hd; subst hp hd
      obtain ⟨v, hv, hr⟩ := run_load_cells (P := P) hc e2
      refine ⟨v, ?_, hr⟩
      unfold execOp
      simp only [e1, Sem.run_bind, hv, Result.andThen_ok]
      rfl
    · rename_i q hx
      rw [hx] at h1
      simp only [Rep] at h1
      split at h
      · rename_i d' hg
        injection h with h; injection h with hp hd; subst hp hd
        obtain ⟨c1, c2, c3⟩ := hc
        obtain ⟨v, hv, hr⟩ := glob_rep (P := P) (η := η) (X := Fix P S η) hM.glob hg
        rw [← c1] at hv
        clear c1
        refine ⟨v, ?_, hr⟩
        obtain ⟨dd, i, hu, hi, hsz⟩ := okT_spec c2
        have hn := aggT_spec hu
        rw [c3] at hn
        have hagg : (isAgg t).run P w = .ok false w := by
          unfold isAgg
          rw [Sem.run_bind, run_underlying hu w]
          cases dd <;> simp_all
        unfold execOp
        simp [h1, Instr.loadAt, Instr.sureAddr, loadVar, Sem.run_bind, hagg, load, Sem.run, hv]
      · cases h
    · cases h
  | fieldAddr t x i =>
    simp only [dval] at h
    have h1 := hf.ev (hop x (by simp [Op.operands]))
    split at h
    · rename_i fo ft hfl
      split at h
      · rename_i k off hx
        rw [hx] at h1
        simp only [Rep] at h1
        obtain ⟨b, e1, e2⟩ := h1
        injection h with h; injection h with hp hd; subst hp hd
        refine ⟨.pointer (some ⟨b, off + fo, none⟩), ?_, by simp only [Rep]; exact ⟨b, e1, rfl⟩⟩
        unfold execOp
        simp only [e2, Sem.run_bind, run_fieldAt hfl hc, Result.andThen_ok]
        rfl
      · rename_i cs off hx
        rw [hx] at h1
        simp only [Rep] at h1
        obtain ⟨b, p, e1, e2⟩ := h1
        injection h with h; injection h with hp hd; subst hp hd
        refine ⟨.pointer (some ⟨b, p + off + fo, none⟩), ?_, by simp only [Rep]; exact ⟨b, p, by rw [Nat.add_assoc], e2⟩⟩
        unfold execOp
        simp only [e1, Sem.run_bind, run_fieldAt hfl hc, Result.andThen_ok]
        rfl
      · cases h
    · cases h
  | field t x i =>
    simp only [dval] at h
    have h1 := hf.ev (hop x (by simp [Op.operands]))
    split at h
    · rename_i fo ft hfl
      split at h
      · rename_i cs hx
        rw [hx] at h1
        simp only [Rep] at h1
        obtain ⟨vs, e1, e2, e3⟩ := h1
        injection h with h; injection h with hp hd; subst hp hd
        obtain ⟨v, hv, hr⟩ := run_part_cells (P := P) hc e2 e3
        obtain ⟨fs, fd, g1, g2, g3, g4⟩ := fld_spec hfl
        refine ⟨v, ?_, hr⟩
        unfold execOp
        simp [e1, Instr.field, Sem.run_bind, run_underlying g1, g2, asAgg, g3, g4, hv]
      · cases h
    · cases h
  | indexAddr t x ix => exact dval_index hf hop t x ix rfl h hc
  | index t x ix =>
    simp only [dval] at h
    have h1 := hf.ev (hop x (by simp [Op.operands]))
    have h2 := hf.ev (hop ix (by simp [Op.operands]))
    split at h
    · rename_i k i hi
      rw [hi] at h2
      simp only [Rep] at h2
      split at h
      · rename_i cs hx
        rw [hx] at h1
        simp only [Rep] at h1
        obtain ⟨vs, e1, e2, e3⟩ := h1
        split at h
        · rename_i n e he
          injection h with h; injection h with hp hd; subst hp hd
          obtain ⟨k1, k2, k3⟩ := hc
          obtain ⟨v, hv, hr⟩ := run_part_cells (P := P) k3 e2 e3
          have hu := arT_spec he
          obtain ⟨_, ti, _, h8, h9⟩ := okT_spec k3.1
          rw [h9] at hv
          refine ⟨v, ?_, hr⟩
          unfold execOp
          simp [e1, h2, Instr.index, Sem.run_bind, asIntOf, run_underlying hu, k1, k2, sizeOf, typeInfo, h8, hv]
        · cases h
      · rename_i s hx
        rw [hx] at h1
        simp only [Rep] at h1
        injection h with h; injection h with hp hd; subst hp hd
        obtain ⟨k1, k2, k3⟩ := hc
        have hu := strT_spec k1
        have hlt : i.toNat < s.size := by omega
        have hlt' : i.toNat < s.data.size := hlt
        refine ⟨_, ?_, by simp only [Rep]; rfl⟩
        unfold execOp
        simp [h1, h2, Instr.index, Sem.run_bind, asIntOf, run_underlying hu, k2, hlt]
        rfl
      · cases h
    · cases h
  | extract x i =>
    simp only [dval] at h
    have h1 := hf.ev (hop x (by simp [Op.operands]))
    split at h
    · rename_i ds hx
      rw [hx] at h1
      simp only [Rep] at h1
      obtain ⟨vs, e1, e2⟩ := h1
      injection h with h; injection h with hp hd; subst hp hd
      have hl := e2.length
      obtain ⟨v, hv, hr⟩ := e2.get i (List.getElem?_eq_getElem hc)
      have hlt : i < vs.length := by omega
      rw [List.getElem?_eq_getElem hlt] at hv
      injection hv with hv
      refine ⟨v, ?_, ?_⟩
      · unfold execOp
        simp [e1, Instr.extract, List.getElem?_eq_getElem hlt, hv]
      · rw [List.getD_eq_getElem?_getD, List.getElem?_eq_getElem hc]
        exact hr
    · cases h
  | makeFunc fn fs cs =>
    simp only [dval] at h
    injection h with h; injection h with _ hd; subst hd
    refine ⟨.func fn (fs.toList.map a.eval).toArray (cs.toList.map a.eval).toArray, ?_, ?_⟩
    · unfold execOp
      simp [Instr.makeFunc]
      exact ⟨by apply Array.ext'; simp, by apply Array.ext'; simp⟩
    · simp only [Rep]
      exact ⟨_, _, rfl, repL_map hf fun x hx => hop x (by simp only [Op.operands, Array.mem_append]; exact .inl (by simpa using hx)), repL_map hf fun x hx => hop x (by simp only [Op.operands, Array.mem_append]; exact .inr (by simpa using hx))⟩
  | makeInterface t x =>
    simp only [dval] at h
    injection h with h; injection h with hp hd; subst hp hd
    obtain ⟨k1, k2⟩ := hc
    obtain ⟨d', hu⟩ := Option.isSome_iff_exists.1 k1
    refine ⟨.iface t (a.eval x), ?_, by simp only [Rep]; exact ⟨_, rfl, hf.ev (hop x (by simp [Op.operands]))⟩⟩
    unfold execOp
    unfold ifaceT at k2
    rw [hu] at k2
    cases d' <;> first | (simp [Instr.makeInterface, Sem.run_bind, run_underlying hu]; done) | cases k2
  | nilCheck x =>
    simp only [dval] at h
    have h1 := hf.ev (hop x (by simp [Op.operands]))
    split at h
    · rename_i k off hx
      rw [hx] at h1
      injection h with h; injection h with _ hd; subst hd
      refine ⟨a.eval x, ?_, h1⟩
      simp only [Rep] at h1
      obtain ⟨b, e1, e2⟩ := h1
      unfold execOp
      simp [e2]
    · rename_i cs off hx
      rw [hx] at h1
      injection h with h; injection h with _ hd; subst hd
      refine ⟨a.eval x, ?_, h1⟩
      simp only [Rep] at h1
      obtain ⟨b, p, e1, e2⟩ := h1
      unfold execOp
      simp [e1]
    · rename_i g fs cs hx
      rw [hx] at h1
      injection h with h; injection h with _ hd; subst hd
      refine ⟨a.eval x, ?_, h1⟩
      simp only [Rep] at h1
      obtain ⟨us, vs, e1, e2, e3⟩ := h1
      unfold execOp
      simp [e1]
    · cases h
  | slice t x lo hi mx =>
    cases mx with
    | none => exact dval_slice hf hop t x lo hi rfl h hc
    | some mx => exact dval_slice3 hf hop t x lo hi mx rfl h hc
  | binOp op t x y yt =>
    simp only [dval] at h
    obtain ⟨r, hr, hR⟩ := dbin_sound (hf.ev (hop x (by simp [Op.operands]))) (hf.ev (hop y (by simp [Op.operands]))) h hc
    refine ⟨r, ?_, hR⟩
    unfold execOp
    simp only
    rw [Sem.run_bind, hr]
    rfl
  | unOp op t x =>
    simp only [dval] at h
    have h1 := hf.ev (hop x (by simp [Op.operands]))
    split at h
    · rename_i u hx
      rw [hx] at h1
      simp only [Rep] at h1
      obtain ⟨r, hr, he⟩ := map_some_eq h
      injection he with _ he
      subst he
      refine ⟨r, ?_, by simp only [Rep]⟩
      unfold execOp
      simp only [h1]
      rw [Sem.run_bind, pureRun_run w hr]
      rfl
    · cases h
  | convert s t x =>
    simp only [dval] at h
    have h1 := hf.ev (hop x (by simp [Op.operands]))
    split at h
    · rename_i u hx
      rw [hx] at h1
      simp only [Rep] at h1
      obtain ⟨r, hr, he⟩ := map_some_eq h
      injection he with _ he
      subst he
      refine ⟨r, ?_, by simp only [Rep]⟩
      unfold execOp
      simp only [h1]
      rw [Sem.run_bind, pureRun_run w hr]
      rfl
    · rename_i own es hx
      rw [hx] at h1
      split at h
      · rename_i e he
        injection h with h
        injection h with hc' hd
        subst hc' hd
        obtain ⟨k1, k2, k3⟩ := hc
        simp only [Rep] at h1
        obtain ⟨A, c, h1, hle, _, _, hE⟩ := h1
        have hlen : es.length = (bytesD es).length := by simp [bytesD]
        have hrd : Reads w w.heap.size 1 A es.length ((bytesD es).map bv) := by
          refine ⟨by rw [List.length_map, ← hlen, Nat.mul_one], fun hp => ?_⟩
          obtain ⟨b, o, z, hA, _, hz⟩ := hE hp
          rw [k3] at hz
          refine ⟨b, o, hA, ?_, fun j u hj => ?_⟩
          · have hp' : 0 < (bytesD es).length := by omega
            have := hz.bytes (List.getElem?_eq_getElem hp')
            exact World.block_lt_of_cell? w _ this
          · rw [List.getElem?_map] at hj
            obtain ⟨u', hu', rfl⟩ := Option.map_eq_some_iff.1 hj
            exact hz.bytes hu'
        refine ⟨.string ⟨(bytesD es).toArray⟩, ?_, by simp only [Rep]⟩
        unfold execOp
        simp only [h1]
        rw [Sem.run_bind, run_string_of_bytes s t e (elT_spec he) (u8T_spec k1) (strT_spec k2) hrd]
        rfl
      · cases h
    · cases h
  | call cl =>
    obtain ⟨callee, args, ats⟩ := cl
    cases callee with
    | builtin b =>
      simp only [dval] at h
      have hr := repL_map hf (l := args.toList) fun x hx => hop x (by simp only [Op.operands, Call.operands, Array.mem_append]; exact .inr (by simpa using hx))
      obtain ⟨v, hv, hR⟩ := dbuiltin_sound hr h hc
      refine ⟨v, ?_, hR⟩
      have e : (args.toList.map a.eval).toArray = args.map a.eval := by apply Array.ext'; simp
      rw [e] at hv
      rw [run_builtin_op]
      exact hv
    | value x => simp [dval] at h
    | invoke r m => simp [dval] at h
  | _ => simp [dval] at h
end
end Go.Proofs.Ytjjhjhjphhpeiaa
