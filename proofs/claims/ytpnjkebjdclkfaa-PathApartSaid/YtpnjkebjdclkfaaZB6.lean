/- Texts of a proof, part 6. Conditions: none. -/
import Derived.Test.YtpnjkebjdclkfaaZB5
set_option linter.unusedVariables false
set_option linter.unusedSimpArgs false
/- Schemas, walked: the document's default. Conditions: none. -/
namespace Go.Proofs.Ytpnjkebjdclkfaa
open Go.RowKit

set_option maxHeartbeats 2000000 in
set_option maxRecDepth 20000 in
theorem refDefault_calls (k : Nat) : ∀ (s : DSch) (cs : List Value) (w : World), s.depth ≤ k → s.weight ≤ 1000000 → DefOk k s → IsSch w (· < w.heap.size) s cs →
    Calls Try.prog 14 #[.agg cs.toArray] w (NewVal (defV k s) w) := by
  induction k with
  | zero => intro s cs w h; have := s.depth_pos; omega
  | succ k ih =>
    intro s cs w hk hwt hok hs
    obtain ⟨hk1, hki⟩ := hs.kind_
    obtain ⟨Aw, cw, hw1, hwr, hwz, hwc, hwm⟩ := hs.words_
    obtain ⟨Ap, cp, C, hp1, hpc, hpm, hP, hA⟩ := hs.partsF
    have HWR := hide hwr
    have HWZ := hide hwz
    have HPA := hide hA
    have HPP := hide hP
    have HI := hide ih
    have HKI := hide hki
    have HDP := hide (fun p (h : p ∈ s.parts) => DSch.depth_part h)
    have HWP := hide (fun p (h : p ∈ s.parts) => DSch.weight_part h)
    have HSP : Hid (defV (k + 1) s = .mk s.kind 0 (if s.kind = 4 then s.words.getD 0 [] else []) (if s.kind = 5 then s.words else []) [] (if s.kind = 5 then s.parts.map (defV k) else [])) := hide rfl
    have hww := s.words_weight
    have hpw := s.parts_weight
    obtain ⟨hok4, hok5⟩ := hok
    generalize hres : defV (k + 1) s = res at *
    clear ih hs hwr hwz hP hA hres
    have HW0 := hide (((Below.refl w.heap.size w).alloc (Nat.le_refl _) (.cells cs.toArray 25)))
    have HX := hide (Blk.new w 25 cs.toArray)
    go_enter Try.func14, Try.ntmps14
    go_upto_region 1 with fail
    go_cut [3] (fun p wx => p = .pointer (some ⟨w.heap.size + 1 + 1, 0, none⟩) ∧ Blk wx w.heap.size 25 cs.toArray ∧ (∃ Z : Array Value, Z.size = 6 ∧ Blk wx (w.heap.size + 1) 31 Z) ∧ Blk wx (w.heap.size + 1 + 1) 31 #[.int .i64 s.kind, .int .i64 0, sv [], .slice none 0 0, .slice none 0 0, .slice none 0 0] ∧ Below w.heap.size w wx)
    case first =>
      go_wp2_with fail
      go_meet
      refine ⟨rfl, (HX.out.alloc _).alloc _, ⟨_, rfl, (Blk.new2 _ _ _ _).alloc _⟩, ?_, (HW0.out.alloc (by simp) _).alloc (by simp; omega) _⟩
      exact Blk.new3 _ _ _ _ _
    case rest =>
      obtain ⟨rfl, h1, ⟨Z, hZ, h2⟩, h3, hw⟩ := hcut
      have G1 := hide h1
      have G2 := hide h2
      have GZ := hide hZ
      have G3 := hide h3
      have GW := hide hw
      clear h1 h2 h3 hw hZ HX HW0
      have c0 : wc.cell? ⟨w.heap.size, 0, none⟩ = some (.int .i64 s.kind) := by rw [G1.out.cell]; simpa using hk1
      have c1 : wc.cell? ⟨w.heap.size, 1, none⟩ = some (.slice Aw s.words.length cw) := by rw [G1.out.cell]; simpa using hw1
      have key : s.kind = 4 ∨ s.kind = 5 ∨ (s.kind ≠ 4 ∧ s.kind ≠ 5) := by omega
      have GV : Hid (VB wc (w.heap.size + 1 + 1) (w.heap.size + 1 + 1) s.kind 0 [] [] [] none none 0 0) := hide (VB.start (by have := G3.out.lt; omega) G3.out (Nat.le_refl _))
      rcases key with h4 | h5 | ⟨n4, n5⟩
      · have hl0 := hok4 h4
        obtain ⟨x, o, rfl, hx, hcw⟩ := HWR.out.at_ hl0
        have e4 : (s.kind == 4) = true := by simp [h4]
        have e5 : (s.kind == 5) = false := by simp [h4]
        have d1 : wc.cell? ⟨x, o, none⟩ = some (sv s.words[0]) := (GW.out.cell (p := ⟨x, o, none⟩) hx).trans hcw
        have d2 : wc.cell? ⟨w.heap.size + 1 + 1, 2, none⟩ = some (sv []) := G3.out.cell 2
        have d3 := G3.out.frozen 2
        have hz := HWZ.out _ (List.getElem_mem hl0)
        have HZ := hide hz
        have HRS : Hid (res = .mk s.kind 0 s.words[0] [] [] []) := hide (by rw [HSP.out, if_pos h4, if_neg (by omega), if_neg (by omega)]; simp [List.getD, hl0])
        have G3S := hide (G3.out.set_ 2 (sv s.words[0]))
        have G2F := hide (G2.out.far (p := ⟨w.heap.size + 1 + 1, 2, none⟩) (by simp) (sv s.words[0]))
        have G1F := hide (G1.out.far (p := ⟨w.heap.size + 1 + 1, 2, none⟩) (by simp; omega) (sv s.words[0]))
        have GWS := hide (GW.out.setCell (p := ⟨w.heap.size + 1 + 1, 2, none⟩) (by simp; omega) (sv s.words[0]))
        clear hcw hz h4
        generalize s.words[0] = x0 at *
        go_wp2_with fail
        go_loopw [4] (fun i wr => i = .int .i64 0 ∧ Blk wr w.heap.size 25 cs.toArray ∧ Blk wr (w.heap.size + 1) 31 Z ∧ Blk wr (w.heap.size + 1 + 1) 31 #[.int .i64 s.kind, .int .i64 0, sv x0, .slice none 0 0, .slice none 0 0, .slice none 0 0] ∧ Below w.heap.size w wr) (fun i _ => 0)
        case atStart => exact ⟨rfl, G1F.out, G2F.out, G3S.out, GWS.out⟩
        case round =>
          clear c0 c1 d1 d2 d3 G1 G2 G3 GW GV G3S G2F G1F GWS
          obtain ⟨rfl, h1, h2, h3, hw⟩ := hrel
          have G1 := hide h1
          have G2 := hide h2
          have G3 := hide h3
          have GW := hide hw
          clear h1 h2 h3 hw
          obtain ⟨wo, rfl⟩ : ∃ wo : World, wo = wr := ⟨_, rfl⟩
          have c0 : wo.cell? ⟨w.heap.size, 0, none⟩ = some (.int .i64 s.kind) := by rw [G1.out.cell]; simpa using hk1
          have c1 : wo.cell? ⟨w.heap.size, 1, none⟩ = some (.slice (some ⟨x, o, none⟩) s.words.length cw) := by rw [G1.out.cell]; simpa using hw1
          all_goals
            go_wp2_with (first
              | (refine wpList_load_blk rfl 31 _ rfl _ rfl _ _ (G3.out) _ rfl rfl info_val ?_)
              | (refine wpList_store_blk rfl 31 _ _ rfl _ rfl #[.int .i64 s.kind, .int .i64 0, sv x0, .slice none 0 0, .slice none 0 0, .slice none 0 0] rfl _ _ (G2.out) (by rw [GZ.out] <;> rfl) info_val (by simp [Value.oneCell']) ?_; intro wf hbf hff; have HBF := hide hbf; have HFF := hide hff; clear hbf hff)
              | fail)
            refine bodyPost_ret (results_cell_row rfl _ _ (w.heap.size + 1) 31 #[.int .i64 s.kind, .int .i64 0, sv x0, .slice none 0 0, .slice none 0 0, .slice none 0 0] (0, 0) _ rfl HBF.out rfl rfl info_val) rfl ?_
            rw [HRS.out]
            have hv := (VB.start (W := wf) (B := w.heap.size + 1 + 1) (g := w.heap.size + 1 + 1) (kd := s.kind) (n := 0) (s := x0) (by have := HFF.out.size; have := G3.out.lt; omega) (G3.out.fr HFF.out (by omega)) (Nat.le_refl _)).done HKI.out (WalkArith.wf_i64 (by omega)) HZ.out (fun _ h => by cases h) (by simp) (by simp)
            exact ⟨_, rfl, hv.mono fun b hb => ⟨by omega, hb.2⟩, GW.out.trans (HFF.out.below GW.out.size fun x hx h => by omega)⟩
      · obtain ⟨hpl, hdk⟩ := hok5 h5
        have e4 : (s.kind == 4) = false := by simp [h5]
        have e5 : (s.kind == 5) = true := by simp [h5]
        have HRS : Hid (res = .mk s.kind 0 [] s.words [] (s.parts.map (defV k))) := hide (by rw [HSP.out, if_neg (by omega), if_pos h5, if_pos h5])
        have HDK := hide hdk
        have H5 := hide h5
        clear h5 hok4 hok5 hdk HSP
        obtain ⟨i9, hi9, hz9, hs9, hb9⟩ := info_parts info_str
        obtain ⟨i31, hi31, hz31, hs31, hb31⟩ := info_parts info_value
        go_wp2_with fail
        go_loopw [4] (fun i wr => ∃ (j : Nat) (An Av : Option Addr) (cn cv : Nat), i = .int .i64 j ∧ j ≤ s.words.length ∧ VB wr (w.heap.size + 1 + 1) (w.heap.size + 1 + 1) s.kind 0 [] (s.words.take j) ((s.parts.take j).map (defV k)) An Av cn cv ∧ Blk wr w.heap.size 25 cs.toArray ∧ Blk wr (w.heap.size + 1) 31 Z ∧ Below w.heap.size w wr) (fun i _ => s.words.length - (intOf i).toNat)
        case atStart => exact ⟨0, none, none, 0, 0, rfl, Nat.zero_le _, GV.out, G1.out, G2.out, GW.out⟩
        case round =>
          clear c0 c1 G1 G2 G3 GW GV
          obtain ⟨j, An, Av, cn, cv, rfl, hj, hv, h1, h2, hw⟩ := hrel
          have GV := hide hv
          have G1 := hide h1
          have G2 := hide h2
          have GW := hide hw
          clear hv h1 h2 hw
          obtain ⟨wo, rfl⟩ : ∃ wo : World, wo = wr := ⟨_, rfl⟩
          have hlw : (s.words.take j).length = j := by simp; omega
          have hlp : ((s.parts.take j).map (defV k)).length = j := by simp; omega
          by_cases hlt : j < s.words.length
          · have hlt2 : j < s.parts.length := by omega
            obtain ⟨x, o, rfl, hx, hcw⟩ := HWR.out.at_ hlt
            have d1 : wo.cell? ⟨x, o + j, none⟩ = some (sv s.words[j]) := (GW.out.cell (p := ⟨x, o + j, none⟩) hx).trans hcw
            have HT : Hid (s.words.take (j + 1) = s.words.take j ++ [s.words[j]] ∧ (s.parts.take (j + 1)).map (defV k) = (s.parts.take j).map (defV k) ++ [defV k s.parts[j]]) := hide ⟨List.take_succ_eq_append_getElem hlt, by rw [List.take_succ_eq_append_getElem hlt2, List.map_append]; rfl⟩
            have HL := hide (And.intro hlw hlp)
            have hle7 := hlw
            have hg3 := GV.out.blk.lt
            have c0 : wo.cell? ⟨w.heap.size, 0, none⟩ = some (.int .i64 s.kind) := by rw [G1.out.cell]; simpa using hk1
            have c1 : wo.cell? ⟨w.heap.size, 1, none⟩ = some (.slice (some ⟨x, o, none⟩) s.words.length cw) := by rw [G1.out.cell]; simpa using hw1
            have c3 : wo.cell? ⟨w.heap.size + 1 + 1, 3, none⟩ = some (.slice An j cn) := by rw [GV.out.blk.cell, hle7]; rfl
            have HFC : Hid (∀ q : Addr, q.block < w.heap.size + 1 + 1 → ∀ W, Fr (fun b => (Value.slice An j cn).ownBlock = some b) wo W → W.cell? q = wo.cell? q) := hide fun q hq W hW =>
              (hW.cell (p := q) (by omega) (fun e => by have h1 := GV.out.nm; rw [hle7] at h1; have := (h1.lt _ e).1; omega))
            have HC3 : Hid (∀ W, Fr (fun b => (Value.slice An j cn).ownBlock = some b) wo W → W.cell? ⟨w.heap.size + 1 + 1, 3, none⟩ = some (.slice An j cn)) := hide fun W hW =>
              (hW.cell (p := ⟨w.heap.size + 1 + 1, 3, none⟩) hg3 (fun e => by have h1 := GV.out.ng; rw [hle7] at h1; exact h1 e)).trans c3
            have HC1 : Hid (∀ W, Fr (fun b => (Value.slice An j cn).ownBlock = some b) wo W → W.cell? ⟨w.heap.size, 1, none⟩ = some (.slice (some ⟨x, o, none⟩) s.words.length cw)) := hide fun W hW =>
              (HFC.out ⟨w.heap.size, 1, none⟩ (by show w.heap.size < _; omega) W hW).trans c1
            have HCX : Hid (∀ W, Fr (fun b => (Value.slice An j cn).ownBlock = some b) wo W → W.cell? ⟨x, o + j, none⟩ = some (sv s.words[j])) := hide fun W hW =>
              (HFC.out ⟨x, o + j, none⟩ (by show x < _; omega) W hW).trans d1
            clear hcw hlw hlp hx d1 c3
            generalize hwj : s.words[j] = xj at *
            clear hwj
            go_wp2_with fail
            refine wp_region_held_tail 10 (S := Fr (fun b => (Value.slice An j cn).ownBlock = some b) wo) (by kernel_rfl) (by kernel_rfl) ((Fr.refl _ _).drew) (fun hHeld => ?_); simp only [List.take_succ_cons, List.take_zero, List.drop_succ_cons, List.drop_zero]
            (refine takeH (i := 0) (v := .pointer (some ⟨w.heap.size + 1 + 1, 3, none⟩)) rfl rfl (by kernel_rfl) (by kernel_rfl) (by kernel_rfl) (fun _ _ _ h => h) (by rfl) (fun wz hSw => by go_simp) hHeld ?_; simp only [Act.put, List.setIfInBounds_toArray, List.set_cons_zero, List.set_cons_succ])
            (refine takeH (i := 1) (v := .slice An j cn) rfl rfl (by kernel_rfl) (by kernel_rfl) (by kernel_rfl) (fun _ _ _ h => h) (by rfl) (fun wz hSw => by (have hc5 := HC3.out _ hSw; go_simp)) hHeld ?_; simp only [Act.put, List.setIfInBounds_toArray, List.set_cons_zero, List.set_cons_succ])
            (refine takeH (i := 2) (v := .pointer (some ⟨w.heap.size, 1, none⟩)) rfl rfl (by kernel_rfl) (by kernel_rfl) (by kernel_rfl) (fun _ _ _ h => h) (by rfl) (fun wz hSw => by go_simp) hHeld ?_; simp only [Act.put, List.setIfInBounds_toArray, List.set_cons_zero, List.set_cons_succ])
            (refine takeH (i := 3) (v := .slice (some ⟨x, o, none⟩) s.words.length cw) rfl rfl (by kernel_rfl) (by kernel_rfl) (by kernel_rfl) (fun _ _ _ h => h) (by rfl) (fun wz hSw => by (have hc5 := HC1.out _ hSw; go_simp)) hHeld ?_; simp only [Act.put, List.setIfInBounds_toArray, List.set_cons_zero, List.set_cons_succ])
            (refine takeH (i := 4) (v := .int .i64 j) rfl rfl (by kernel_rfl) (by kernel_rfl) (by kernel_rfl) (fun _ _ _ h => h) (by rfl) (fun wz hSw => by go_simp) hHeld ?_; simp only [Act.put, List.setIfInBounds_toArray, List.set_cons_zero, List.set_cons_succ])
            (refine takeH (i := 5) (v := .pointer (some ⟨x, o + j, none⟩)) rfl rfl (by kernel_rfl) (by kernel_rfl) (by kernel_rfl) (fun _ _ _ h => h) (by rfl) (fun wz hSw => by go_simp) hHeld ?_; simp only [Act.put, List.setIfInBounds_toArray, List.set_cons_zero, List.set_cons_succ])
            (refine takeH (i := 6) (v := sv xj) rfl rfl (by kernel_rfl) (by kernel_rfl) (by kernel_rfl) (fun _ _ _ h => h) (by rfl) (fun wz hSw => by (have hc5 := HCX.out _ hSw; go_simp)) hHeld ?_; simp only [Act.put, List.setIfInBounds_toArray, List.set_cons_zero, List.set_cons_succ])
            have HB2 := hide (((Below.refl wo.heap.size wo).drew.alloc (Nat.le_refl _) (.cells #[sv xj] 9)))
            refine oneH (i := 7) rfl (by kernel_rfl) (fun K hK => ?_)
            go_simp
            refine hK.out _ _ (Fr.of_below' HB2.out _) (fun hHeld => ?_)
            clear hK K
            refine oneH (i := 8) rfl (by kernel_rfl) (fun K hK => ?_)
            have V2 := hide (GV.out.keep HB2.out)
            have p4 := V2.out.nm
            rw [hle7] at p4
            have hRD := reads_blk (n := 1) (size := 1) (Blk.new wo.drew 9 #[sv xj]) rfl
            have hs2 := HB2.out.size
            refine step_append_any rfl (.tmp 29) (.tmp 35) 22 rfl (w.heap.size + 1 + 1) 9 i9 (sv []) 1 16 Try.underlying22 hi9 hz9 hs9 hb9 rfl (by decide) _ j ((s.words.take j).map sv) (by rfl) p4 _ _ 1 1 [sv xj] (by rfl) hRD (by simp [Value.oneCell']) (by unfold maxLen; omega) (by omega) (Nat.le_trans (by omega) hs2) ?_
            intro Aq cq wq ownq growq lieq
            have HVN := hide (V2.out.name' hle7 ownq growq lieq)
            have hblk := V2.out.blk.grown growq (fun e => by have h1 := V2.out.ng; rw [hle7] at h1; exact h1 e.symm)
            have f3 := hblk.frozen 3
            have e3' : wq.cell? ⟨w.heap.size + 1 + 1, 3, none⟩ = some (.slice An j cn) := by rw [hblk.cell, hle7]; rfl
            have HS3 := hide (((Fr.of_below' HB2.out (fun b => (Value.slice An j cn).ownBlock = some b)).trans (Fr.of_grown growq (fun b hb => .inl hb))))
            have HN := hide (HVN.out)
            have FN : Hid (Fr (fun b => w.heap.size + 1 + 1 ≤ b) wo (wq.setCell ⟨w.heap.size + 1 + 1, 3, none⟩ (.slice Aq (j + 1) cq))) := hide ((((Fr.of_below' HB2.out _).trans (Fr.of_grown growq fun b hb => .inl (p4.lt b hb).1))).setCell (p := ⟨w.heap.size + 1 + 1, 3, none⟩) (.inl (Nat.le_refl _)) _)
            clear p4 ownq growq lieq hblk hRD V2 HB2 HVN c0 c1 HC1 HC3 HCX HFC
            refine hK.out _ _ HS3.out (fun hHeld => ?_)
            clear hK K
            simp only [Act.put, List.setIfInBounds_toArray, List.set_cons_zero, List.set_cons_succ]
            (refine takeH (i := 9) (v := .pointer (some ⟨w.heap.size + 1 + 1, 3, none⟩)) rfl rfl (by kernel_rfl) (by kernel_rfl) (by kernel_rfl) (fun _ _ _ h => h) (by rfl) (fun wz hSw => by go_simp) hHeld ?_; simp only [Act.put, List.setIfInBounds_toArray, List.set_cons_zero, List.set_cons_succ])
            refine wpAnyH_done (by kernel_rfl) ?_ _; simp only [Exit.then]
            go_wp2_with fail
            generalize hwN : wq.setCell ⟨w.heap.size + 1 + 1, 3, none⟩ (.slice Aq (j + 1) cq) = wn at *
            clear hwN f3 e3' HS3 hHeld hs2 hle7
            obtain ⟨b, o5, rfl, hb, hC⟩ := HPA.out (by omega)
            obtain ⟨hl3, hr⟩ := hC j hlt2
            have hgn := HN.out.blk.lt
            have HPI := hide (HPP.out j _ (List.getElem?_eq_getElem hlt2))
            have hle7 := HL.out.1
            have hle8 := HL.out.2
            have c0 : wn.cell? ⟨w.heap.size + 1 + 1, 5, none⟩ = some (.slice Av j cv) := by rw [HN.out.blk.cell, hle8]; rfl
            have HFC : Hid (∀ q : Addr, q.block < w.heap.size + 1 + 1 → ∀ W, Fr (fun b => (Value.slice Av j cv).ownBlock = some b) wn W → W.cell? q = wo.cell? q) := hide fun q hq W hW =>
              (hW.cell (p := q) (by omega) (fun e => by have h1 := (HN.out.pt); rw [hle8] at h1; obtain ⟨Cs, _, _, _, p4, _⟩ := h1; have := (p4.lt _ e).1; omega)).trans (FN.out.cell (by have := G2.out.lt; omega) (by omega))
            have HC5 : Hid (∀ W, Fr (fun b => (Value.slice Av j cv).ownBlock = some b) wn W → W.cell? ⟨w.heap.size + 1 + 1, 5, none⟩ = some (.slice Av j cv)) := hide fun W hW =>
              (hW.cell (p := ⟨w.heap.size + 1 + 1, 5, none⟩) hgn (fun e => by have h1 := HN.out.pg; rw [hle8] at h1; exact h1 e)).trans c0
            have HC2 : Hid (∀ W, Fr (fun b => (Value.slice Av j cv).ownBlock = some b) wn W → W.cell? ⟨w.heap.size, 2, none⟩ = some (.slice (some ⟨b, o5, none⟩) s.parts.length cp)) := hide fun W hW =>
              (HFC.out ⟨w.heap.size, 2, none⟩ (by show w.heap.size < _; omega) W hW).trans (by rw [G1.out.cell]; simpa using hp1)
            have HRW : Hid (∀ W, Fr (fun b => (Value.slice Av j cv).ownBlock = some b) wn W → W.rangeAt b (o5 + j * 3) (C j)) := hide fun W hW q v hv =>
              (HFC.out ⟨b, o5 + j * 3 + q, none⟩ (by show b < _; omega) W hW).trans ((GW.out.cell (p := ⟨b, o5 + j * 3 + q, none⟩) hb).trans (hr q v hv))
            have HL3 := hide hl3
            have hdp := HDP.out _ (List.getElem_mem hlt2)
            have hwp := HWP.out _ (List.getElem_mem hlt2)
            have hdf := HDK.out _ (List.getElem_mem hlt2)
            have HDF := hide hdf
            have HWN : Hid (Below w.heap.size w wn) := hide (GW.out.trans (FN.out.below (by have := G2.out.lt; omega) fun x hx h => by omega))
            clear hC hl3 hr c0 hdf
            generalize s.parts[j] = pj at *
            generalize C j = Cj at *
            refine wp_region_held_tail 11 (S := Fr (fun b => (Value.slice Av j cv).ownBlock = some b) wn) (by kernel_rfl) (by kernel_rfl) ((Fr.refl _ _).drew) (fun hHeld => ?_); simp only [List.take_succ_cons, List.take_zero, List.drop_succ_cons, List.drop_zero]
            (refine takeH (i := 0) (v := .pointer (some ⟨w.heap.size + 1 + 1, 5, none⟩)) rfl rfl (by kernel_rfl) (by kernel_rfl) (by kernel_rfl) (fun _ _ _ h => h) (by rfl) (fun wz hSw => by go_simp) hHeld ?_; simp only [Act.put, List.setIfInBounds_toArray, List.set_cons_zero, List.set_cons_succ])
            (refine takeH (i := 1) (v := .slice Av j cv) rfl rfl (by kernel_rfl) (by kernel_rfl) (by kernel_rfl) (fun _ _ _ h => h) (by rfl) (fun wz hSw => by (have hc5 := HC5.out _ hSw; go_simp)) hHeld ?_; simp only [Act.put, List.setIfInBounds_toArray, List.set_cons_zero, List.set_cons_succ])
            (refine takeH (i := 2) (v := .pointer (some ⟨w.heap.size, 2, none⟩)) rfl rfl (by kernel_rfl) (by kernel_rfl) (by kernel_rfl) (fun _ _ _ h => h) (by rfl) (fun wz hSw => by go_simp) hHeld ?_; simp only [Act.put, List.setIfInBounds_toArray, List.set_cons_zero, List.set_cons_succ])
            (refine takeH (i := 3) (v := .slice (some ⟨b, o5, none⟩) s.parts.length cp) rfl rfl (by kernel_rfl) (by kernel_rfl) (by kernel_rfl) (fun _ _ _ h => h) (by rfl) (fun wz hSw => by (have hc5 := HC2.out _ hSw; go_simp)) hHeld ?_; simp only [Act.put, List.setIfInBounds_toArray, List.set_cons_zero, List.set_cons_succ])
            (refine takeH (i := 4) (v := .int .i64 j) rfl rfl (by kernel_rfl) (by kernel_rfl) (by kernel_rfl) (fun _ _ _ h => h) (by rfl) (fun wz hSw => by go_simp) hHeld ?_; simp only [Act.put, List.setIfInBounds_toArray, List.set_cons_zero, List.set_cons_succ])
            (refine takeH (i := 5) (v := .pointer (some ⟨b, o5 + j * 3, none⟩)) rfl rfl (by kernel_rfl) (by kernel_rfl) (by kernel_rfl) (fun _ _ _ h => h) (by rfl) (fun wz hSw => by go_simp) hHeld ?_; simp only [Act.put, List.setIfInBounds_toArray, List.set_cons_zero, List.set_cons_succ])
            (refine takeH (i := 6) (v := .agg (Cj).toArray) rfl rfl (by kernel_rfl) (by kernel_rfl) (by kernel_rfl) (fun _ _ _ h => h) (by rfl) (fun wz hw => load_exec 25 (.tmp 43) rfl (b) (o5 + j * 3) rfl (Cj) _ (HRW.out _ hw) rfl rfl (by rw [HL3.out]; kernel_rfl)) hHeld ?_; simp only [Act.put, List.setIfInBounds_toArray, List.set_cons_zero, List.set_cons_succ])
            refine oneH (i := 7) rfl (by kernel_rfl) (fun K hK => ?_)
            go_simp
            refine (HI.out pj Cj _ (by omega) (by omega) HDF.out (HPI.out.more (HWN.out.trans ((Below.refl wn.heap.size wn).drew.mono HWN.out.size)))).mono ?_
            rintro e w1 ⟨cs1, rfl, hv1, hb1⟩
            have hB1 : Below wn.heap.size wn w1 := (Below.refl wn.heap.size wn).drew.trans hb1
            refine hK.out _ _ (Fr.of_below' hB1 _) (fun hHeld => ?_)
            clear hK K
            have hv1' := hv1.mono (G := fun b => wn.heap.size ≤ b ∧ b < w1.heap.size) fun b hb => hb
            have HV1 := hide hv1'
            have HB1 := hide hB1
            have H1L := hide hv1.length
            have H1O := hide hv1.one
            clear hv1 hv1' hB1 hb1
            refine oneH (i := 8) rfl (by kernel_rfl) (fun K hK => ?_)
            go_simp
            rw [foldl_zip_all _ _ (by rw [H1L.out]; rfl), if_neg (by rw [H1L.out]; decide)]
            go_simp
            have HB2 := hide (HB1.out.alloc HB1.out.size (.cells cs1.toArray 31))
            refine hK.out _ _ (Fr.of_below' HB2.out _) (fun hHeld => ?_)
            clear hK K
            refine oneH (i := 9) rfl (by kernel_rfl) (fun K hK => ?_)
            have V2 := hide (HN.out.keep HB2.out)
            obtain ⟨Cs, p1, p2, p3, p4, p5⟩ := V2.out.pt
            rw [hle8] at p4
            have hRD := reads_blk (n := 1) (size := 6) (Blk.new w1 31 cs1.toArray) (by rw [H1L.out])
            have hs2 := HB2.out.size
            refine step_append_any rfl (.tmp 39) (.tmp 46) 29 rfl (w.heap.size + 1 + 1) 31 i31 (.agg #[.int .i64 0, .int .i64 0, sv [], .slice none 0 0, .slice none 0 0, .slice none 0 0]) 6 104 Try.underlying29 hi31 hz31 hs31 hb31 rfl (by decide) _ j Cs.flatten (by rfl) p4 _ _ 1 1 cs1 (by rfl) hRD H1O.out (by unfold maxLen; omega) (by omega) (by omega) ?_
            intro Aq2 cq2 wq2 ownq growq lieq
            have hx : IsVal (w1.alloc (.cells cs1.toArray 31)) (VF (w.heap.size + 1 + 1) (w.heap.size + 1 + 1) (.slice Aq (List.take j s.words ++ [xj]).length cq) (.slice Av (List.map (defV k) (List.take j s.parts)).length cv) (w1.alloc (.cells cs1.toArray 31))) (defV k pj) cs1 := by
              have q1 := HN.out.nm
              obtain ⟨Ds, _, _, _, q2, _⟩ := HN.out.pt
              refine (HV1.out.keep fun q hq => ((Below.refl w1.heap.size w1).alloc (Nat.le_refl _) (.cells cs1.toArray 31)).cell hq.2).mono fun b hb => ⟨by omega, by simp only [World.size_alloc]; omega, fun e => ?_, fun e => ?_, by omega⟩
              · have := (q1.lt _ e).2; omega
              · have := (q2.lt _ e).2; omega
            have HVN := hide (V2.out.part' hle8 p1 p2 p3 p5 hx ownq growq lieq)
            have hblk := V2.out.blk.grown growq (fun e => by have h1 := V2.out.pg; rw [hle8] at h1; exact h1 e.symm)
            have f5 := hblk.frozen 5
            have e5' : wq2.cell? ⟨w.heap.size + 1 + 1, 5, none⟩ = some (.slice Av j cv) := by rw [hblk.cell, hle8]; rfl
            have HS3 := hide (((Fr.of_below' HB2.out (fun b => (Value.slice Av j cv).ownBlock = some b)).trans (Fr.of_grown growq (fun b hb => .inl hb))))
            have FN2 : Hid (Fr (fun b => w.heap.size + 1 + 1 ≤ b) wo (wq2.setCell ⟨w.heap.size + 1 + 1, 5, none⟩ (.slice Aq2 (j + 1) cq2))) := hide (((FN.out.trans ((Fr.of_below' HB2.out _).trans (Fr.of_grown growq fun b hb => .inl (.inl (p4.lt b hb).1))))).setCell (p := ⟨w.heap.size + 1 + 1, 5, none⟩) (.inl (Nat.le_refl _)) _)
            clear p1 p2 p3 p4 p5 hx ownq growq lieq hblk hRD V2 HB2 HB1 HV1
            refine hK.out _ _ HS3.out (fun hHeld => ?_)
            clear hK K
            simp only [Act.put, List.setIfInBounds_toArray, List.set_cons_zero, List.set_cons_succ]
            (refine takeH (i := 10) (v := .pointer (some ⟨w.heap.size + 1 + 1, 5, none⟩)) rfl rfl (by kernel_rfl) (by kernel_rfl) (by kernel_rfl) (fun _ _ _ h => h) (by rfl) (fun wz hSw => by go_simp) hHeld ?_; simp only [Act.put, List.setIfInBounds_toArray, List.set_cons_zero, List.set_cons_succ])
            refine wpAnyH_done (by kernel_rfl) ?_ _; simp only [Exit.then]
            go_wp2
            exact ⟨⟨j + 1, Aq, Aq2, cq, cq2, by go_num, by omega, by rw [HT.out.1, HT.out.2]; exact HVN.out, G1.out.fr FN2.out (by omega), G2.out.fr FN2.out (by omega), GW.out.trans (FN2.out.below (by have := G2.out.lt; omega) fun x hx h => by omega)⟩, by simp [intOf]; omega⟩
          · obtain rfl : j = s.words.length := by omega
            have HRS2 : Hid (res = .mk s.kind 0 [] (s.words.take s.words.length) [] ((s.parts.take s.words.length).map (defV k))) := hide (by rw [HRS.out, List.take_length, List.take_of_length_le (by omega)])
            have G2F := G2
            have c0 : wo.cell? ⟨w.heap.size, 0, none⟩ = some (.int .i64 s.kind) := by rw [G1.out.cell]; simpa using hk1
            have c1 : wo.cell? ⟨w.heap.size, 1, none⟩ = some (.slice Aw s.words.length cw) := by rw [G1.out.cell]; simpa using hw1
            have HNS : Hid (∀ x ∈ s.words.take s.words.length, x.length ≤ maxLen) := hide fun x hx => HWZ.out x (List.mem_of_mem_take hx)
            have hsz := GV.out.blk
            generalize s.words.take s.words.length = W at *
            generalize (s.parts.take s.words.length).map (defV k) = PV at *
            have GB := hide hsz
            clear hsz
            go_wp2_with (first
              | (refine wpList_load_blk rfl 31 _ rfl _ rfl _ _ (GB.out) _ rfl rfl info_val ?_)
              | (refine wpList_store_blk rfl 31 _ _ rfl _ rfl #[.int .i64 s.kind, .int .i64 0, sv [], .slice An W.length cn, .slice none 0 0, .slice Av PV.length cv] rfl _ _ (G2F.out) (by rw [GZ.out] <;> rfl) info_val (by simp [Value.oneCell']) ?_; intro wf hbf hff; have HBF := hide hbf; have HFF := hide hff; clear hbf hff)
              | fail)
            refine bodyPost_ret (results_cell_row rfl _ _ (w.heap.size + 1) 31 #[.int .i64 s.kind, .int .i64 0, sv [], .slice An W.length cn, .slice none 0 0, .slice Av PV.length cv] (0, 0) _ rfl HBF.out rfl rfl info_val) rfl ?_
            rw [HRS2.out]
            have hv := (GV.out.keepF (w' := wf) HFF.out (fun b hb => by omega)).done HKI.out (WalkArith.wf_i64 (by omega)) (by simp) HNS.out (by omega) (by omega)
            exact ⟨_, rfl, hv.mono fun b hb => ⟨by omega, hb.2⟩, GW.out.trans (HFF.out.below GW.out.size fun x hx h => by omega)⟩
      · have e4 : (s.kind == 4) = false := by simpa using n4
        have e5 : (s.kind == 5) = false := by simpa using n5
        have HRS : Hid (res = .mk s.kind 0 [] [] [] []) := hide (by rw [HSP.out, if_neg n4, if_neg n5, if_neg n5])
        clear n4 n5
        have HZ : Hid (([] : Str).length ≤ maxLen) := hide (by simp)
        have hx0 : ∃ x0 : Str, x0 = [] := ⟨_, rfl⟩
        obtain ⟨x0, hx0⟩ := hx0
        have HRS : Hid (res = .mk s.kind 0 x0 [] [] []) := hide (hx0 ▸ HRS.out)
        have HZ : Hid (x0.length ≤ maxLen) := hide (hx0 ▸ HZ.out)
        have G3 : Hid (Blk wc (w.heap.size + 1 + 1) 31 #[.int .i64 s.kind, .int .i64 0, sv x0, .slice none 0 0, .slice none 0 0, .slice none 0 0]) := hide (hx0 ▸ G3.out)
        clear hx0
        go_wp2_with fail
        go_loopw [4] (fun i wr => i = .int .i64 0 ∧ Blk wr w.heap.size 25 cs.toArray ∧ Blk wr (w.heap.size + 1) 31 Z ∧ Blk wr (w.heap.size + 1 + 1) 31 #[.int .i64 s.kind, .int .i64 0, sv x0, .slice none 0 0, .slice none 0 0, .slice none 0 0] ∧ Below w.heap.size w wr) (fun i _ => 0)
        case atStart => exact ⟨rfl, G1.out, G2.out, G3.out, GW.out⟩
        case round =>
          clear c0 c1 G1 G2 G3 GW GV
          obtain ⟨rfl, h1, h2, h3, hw⟩ := hrel
          have G1 := hide h1
          have G2 := hide h2
          have G3 := hide h3
          have GW := hide hw
          clear h1 h2 h3 hw
          obtain ⟨wo, rfl⟩ : ∃ wo : World, wo = wr := ⟨_, rfl⟩
          have c0 : wo.cell? ⟨w.heap.size, 0, none⟩ = some (.int .i64 s.kind) := by rw [G1.out.cell]; simpa using hk1
          have c1 : wo.cell? ⟨w.heap.size, 1, none⟩ = some (.slice Aw s.words.length cw) := by rw [G1.out.cell]; simpa using hw1
          rcases Nat.eq_zero_or_pos s.words.length with hl0 | hl0
          all_goals
            first
              | (rw [hl0] at c1; clear hl0)
              | skip
            go_wp2_with (first
              | (refine wpList_load_blk rfl 31 _ rfl _ rfl _ _ (G3.out) _ rfl rfl info_val ?_)
              | (refine wpList_store_blk rfl 31 _ _ rfl _ rfl #[.int .i64 s.kind, .int .i64 0, sv x0, .slice none 0 0, .slice none 0 0, .slice none 0 0] rfl _ _ (G2.out) (by rw [GZ.out] <;> rfl) info_val (by simp [Value.oneCell']) ?_; intro wf hbf hff; have HBF := hide hbf; have HFF := hide hff; clear hbf hff)
              | fail)
            refine bodyPost_ret (results_cell_row rfl _ _ (w.heap.size + 1) 31 #[.int .i64 s.kind, .int .i64 0, sv x0, .slice none 0 0, .slice none 0 0, .slice none 0 0] (0, 0) _ rfl HBF.out rfl rfl info_val) rfl ?_
            rw [HRS.out]
            have hv := (VB.start (W := wf) (B := w.heap.size + 1 + 1) (g := w.heap.size + 1 + 1) (kd := s.kind) (n := 0) (s := x0) (by have := HFF.out.size; have := G3.out.lt; omega) (G3.out.fr HFF.out (by omega)) (Nat.le_refl _)).done HKI.out (WalkArith.wf_i64 (by omega)) HZ.out (fun _ h => by cases h) (by simp) (by simp)
            exact ⟨_, rfl, hv.mono fun b hb => ⟨by omega, hb.2⟩, GW.out.trans (HFF.out.below GW.out.size fun x hx h => by omega)⟩
end Go.Proofs.Ytpnjkebjdclkfaa

/- Rows of trees of memory that are being built. Conditions: none. -/
namespace Go.Proofs.Ytpnjkebjdclkfaa
open Go.RowKit

/-- What trees of memory have in common. -/
structure TreeLike {D : Type} (size : Nat) (Is : World → (Nat → Prop) → D → List Value → Prop) : Prop where
  pos : 0 < size
  keep : ∀ {w w' : World} {F : Nat → Prop} {d : D} {C : List Value}, Is w F d C → (∀ q : Addr, F q.block → w'.cell? q = w.cell? q) → Is w' F d C
  mono : ∀ {w : World} {F G : Nat → Prop} {d : D} {C : List Value}, Is w F d C → (∀ k, F k → G k) → Is w G d C
  length : ∀ {w : World} {F : Nat → Prop} {d : D} {C : List Value}, Is w F d C → C.length = size
  one : ∀ {w : World} {F : Nat → Prop} {d : D} {C : List Value}, Is w F d C → ∀ v ∈ C, v.oneCell' = true
theorem treeSch : TreeLike 3 IsSch := ⟨by omega, fun h k => h.keep k, fun h k => h.mono k, fun h => h.length, fun h => h.one⟩
theorem treeVal : TreeLike 6 IsVal := ⟨by omega, fun h k => h.keep k, fun h k => h.mono k, fun h => h.length, fun h => h.one⟩

/-- A row of the call's own, whose elements are trees that lie beside it. -/
structure RB {D : Type} (t : TypeId) (size : Nat) (Is : World → (Nat → Prop) → D → List Value → Prop) (w : World) (B : Nat) (A : Option Addr) (c : Nat) (ds : List D) (Cs : List (List Value)) : Prop where
  hl : Cs.length = ds.length
  h3 : ∀ C ∈ Cs, C.length = size
  h1 : ∀ C ∈ Cs, ∀ v ∈ C, v.oneCell' = true
  own : w.ownsRow B t size (.slice A ds.length c) ds.length Cs.flatten
  is : ∀ (i : Nat) (p : D), ds[i]? = some p → ∃ C, Cs[i]? = some C ∧ Is w (fun b => B ≤ b ∧ b < w.heap.size ∧ (Value.slice A ds.length c).ownBlock ≠ some b) p C

section
variable {D : Type} {t : TypeId} {size : Nat} {Is : World → (Nat → Prop) → D → List Value → Prop} {w w' : World} {B : Nat} {A : Option Addr} {c : Nat} {ds : List D} {Cs : List (List Value)}
theorem RB.nil (T : TreeLike size Is) (w : World) (B : Nat) : RB t size Is w B none 0 ([] : List D) [] :=
  ⟨rfl, fun _ h => (by cases h), fun _ h => (by cases h), World.ownsRow_nil _ _ _ _, fun i p hp => by simp at hp⟩
theorem RB.keep (T : TreeLike size Is) (h : RB t size Is w B A c ds Cs) (hf : Below w.heap.size w w') : RB t size Is w' B A c ds Cs :=
  ⟨h.hl, h.h3, h.h1, own_below' h.own hf, fun i p hp => by
    obtain ⟨C, hC, hv⟩ := h.is i p hp
    exact ⟨C, hC, T.mono (T.keep hv fun q hq => hf.cell hq.2.1) fun b hb => ⟨hb.1, Nat.lt_of_lt_of_le hb.2.1 hf.size, hb.2.2⟩⟩⟩
theorem RB.app (T : TreeLike size Is) {m : Nat} {A' : Option Addr} {c' : Nat} {x : D} {C : List Value} (h : RB t size Is w B A c ds Cs) (hm : ds.length = m)
    (hx : Is w (fun b => B ≤ b ∧ b < w.heap.size ∧ (Value.slice A m c).ownBlock ≠ some b) x C)
    (hown : w'.ownsRow B t size (.slice A' (m + 1) c') (m + 1) (Cs.flatten ++ C)) (hgr : w.grownBy w' (Value.slice A m c).ownBlock)
    (hlie : (Value.slice A' (m + 1) c').ownBlock = (Value.slice A m c).ownBlock ∨ (Value.slice A' (m + 1) c').ownBlock = some w.heap.size) :
    RB t size Is w' B A' c' (ds ++ [x]) (Cs ++ [C]) := by
  subst hm
  have hlen : (ds ++ [x]).length = ds.length + 1 := by simp
  have keepV : ∀ (p : D) (E : List Value), Is w (fun b => B ≤ b ∧ b < w.heap.size ∧ (Value.slice A ds.length c).ownBlock ≠ some b) p E → Is w' (fun b => B ≤ b ∧ b < w'.heap.size ∧ (Value.slice A' (ds.length + 1) c').ownBlock ≠ some b) p E := by
    intro p E hv
    refine T.mono (T.keep hv fun q hq => World.cell?_of_block (hgr.block q.block hq.2.1 (fun e => hq.2.2 e.symm))) fun b hb => ⟨hb.1, Nat.lt_of_lt_of_le hb.2.1 hgr.size, ?_⟩
    rcases hlie with e | e <;> rw [e]
    · exact hb.2.2
    · intro e; injection e with e; have := hb.2.1; omega
  refine ⟨by simp [h.hl], ?_, ?_, ?_, fun i p hp => ?_⟩
  · intro E hE
    rcases List.mem_append.1 hE with hE | hE
    · exact h.h3 E hE
    · rw [List.mem_singleton.1 hE]; exact T.length hx
  · intro E hE
    rcases List.mem_append.1 hE with hE | hE
    · exact h.h1 E hE
    · rw [List.mem_singleton.1 hE]; exact T.one hx
  · rw [hlen, List.flatten_append]
    simpa using hown
  · rw [hlen]
    have hl := h.hl
    by_cases hi : i < ds.length
    · rw [List.getElem?_append_left hi] at hp
      obtain ⟨E, hE, hv⟩ := h.is i p hp
      exact ⟨E, by rw [List.getElem?_append_left (by omega)]; exact hE, keepV p E hv⟩
    · have hil : i = ds.length := by
        have := (List.getElem?_eq_some_iff.1 hp).1
        simp at this; omega
      subst hil
      rw [List.getElem?_append_right (Nat.le_refl _)] at hp
      simp at hp
      subst hp
      exact ⟨C, by rw [← hl, List.getElem?_append_right (Nat.le_refl _)]; simp, keepV _ _ hx⟩
/-- What has been built is a row of trees. -/
theorem RB.done (T : TreeLike size Is) (h : RB t size Is w B A c ds Cs) : ∃ b o, ∃ C : Nat → List Value, (0 < ds.length → A = some ⟨b, o, none⟩ ∧ (B ≤ b ∧ b < w.heap.size)) ∧
    (∀ (i : Nat) (p : D), ds[i]? = some p → (C i).length = size ∧ w.rangeAt b (o + i * size) (C i)) ∧ (∀ (i : Nat) (p : D), ds[i]? = some p → Is w (fun b => B ≤ b ∧ b < w.heap.size) p (C i)) ∧ ds.length ≤ c := by
  have hrp := own_cells h.own
  rcases Nat.eq_zero_or_pos ds.length with h0 | h0
  · have hp0 : ds = [] := List.eq_nil_of_length_eq_zero h0
    subst hp0
    exact ⟨0, 0, fun _ => [], fun h => absurd h (by simp), fun i p hp => (by simp at hp), fun i p hp => (by simp at hp), own_cap h.own⟩
  · obtain ⟨b, o, hA, hFb, hc⟩ := hrp.2 h0
    have hFb' := h.own.lt b hFb
    refine ⟨b, o, fun i => Cs.getD i [], fun _ => ⟨hA, hFb'⟩, fun i p hp => ?_, fun i p hp => ?_, own_cap h.own⟩
    · obtain ⟨C, hC, hv⟩ := h.is i p hp
      have e : (fun i => Cs.getD i []) i = C := by simp [List.getD, hC]
      rw [e]
      refine ⟨T.length hv, fun j v hj => ?_⟩
      have hj6 : j < size := by rw [← T.length hv]; exact (List.getElem?_eq_some_iff.1 hj).1
      have := flat_get h.h3 hC hj6
      rw [Nat.add_assoc]
      exact hc (i * size + j) v (this.trans hj)
    · obtain ⟨C, hC, hv⟩ := h.is i p hp
      have e : (fun i => Cs.getD i []) i = C := by simp [List.getD, hC]
      rw [e]
      exact T.mono hv fun b hb => ⟨hb.1, hb.2.1⟩
end
end Go.Proofs.Ytpnjkebjdclkfaa

/- Schemas, walked: the copy. Conditions: none. -/
namespace Go.Proofs.Ytpnjkebjdclkfaa
open Go.RowKit

/-- The call answers schema s, made of new memory. -/
def NewSch (s : DSch) (w : World) (e : Ending) (w' : World) : Prop := ∃ cs : List Value, e = .returned (.agg cs.toArray) ∧ IsSch w' (fun b => w.heap.size ≤ b ∧ b < w'.heap.size) s cs ∧ Below w.heap.size w w'
theorem info_strK : (Try.prog.info? 9).map (fun i => (i.zero, i.size, i.bytes)) = some (some (sv []), 1, 16) := by kernel_rfl
theorem info_schK : (Try.prog.info? 25).map (fun i => (i.zero, i.size, i.bytes)) = some (some (.agg #[.int .i64 0, .slice none 0 0, .slice none 0 0]), 3, 56) := by kernel_rfl
theorem info_schS : (Try.prog.info? 25).map (·.size) = some 3 := by kernel_rfl

set_option maxHeartbeats 2000000 in
set_option maxRecDepth 20000 in
theorem schCopy_calls (k : Nat) : ∀ (s : DSch) (cs : List Value) (w : World), s.depth ≤ k → s.weight ≤ 1000000 → IsSch w (· < w.heap.size) s cs →
    Calls Try.prog 20 #[.agg cs.toArray] w (NewSch s w) := by
  induction k with
  | zero => intro s cs w h; have := s.depth_pos; omega
  | succ k ih =>
    intro s cs w hk hwt hs
    have HDP := hide (fun p (h : p ∈ s.parts) => DSch.depth_part h)
    have HWP := hide (fun p (h : p ∈ s.parts) => DSch.weight_part h)
    have hww := s.words_weight
    have hpw := s.parts_weight
    have HI := hide ih
    obtain ⟨Ap', cp', C', hp1', _, _, hP', hA'⟩ := hs.partsF
    cases hs with
    | @mk kind words parts Aw Ap cw cp b o C hki hw hz hcw hmw hA hC hP hcp hmp =>
    simp only [DSch.words, DSch.parts] at *
    obtain ⟨rfl, rfl⟩ : Ap' = Ap ∧ cp' = cp := by simpa [eq_comm] using hp1'
    have HPA := hide hA'
    have HPP := hide hP'
    have HKI := hide hki
    have HZ := hide hz
    have HW := hide hw
    clear ih hA hC hP hA' hP' hz hw hki hp1'
    obtain ⟨i9, hi9, hz9, hs9, hb9⟩ := info_parts info_strK
    obtain ⟨i25, hi25, hz25, hs25, hb25⟩ := info_parts info_schK
    have HW0 := hide (((Below.refl w.heap.size w).alloc (Nat.le_refl _) (.cells #[.int .i64 kind, .slice Aw words.length cw, .slice Ap' parts.length cp'] 25)))
    have HX := hide (Blk.new w 25 #[.int .i64 kind, .slice Aw words.length cw, .slice Ap' parts.length cp'])
    have hRD := HW.out.reads (B := w.heap.size) (fun _ h => h)
    have HRD := hide hRD
    clear hRD
    go_enter Try.func20, Try.ntmps20
    go_upto_region 1 with fail
    go_cut [8] (fun v wx => ∃ (Aq : Option Addr) (cq : Nat), v = .slice Aq words.length cq ∧ wx.ownsRow (w.heap.size + 1 + 1) 9 1 (.slice Aq words.length cq) words.length (words.map sv) ∧ Blk wx w.heap.size 25 #[.int .i64 kind, .slice Aq words.length cq, .slice Ap' parts.length cp'] ∧ (∃ Z : Array Value, Z.size = 3 ∧ Blk wx (w.heap.size + 1) 25 Z) ∧ Below w.heap.size w wx)
    case first =>
      have HW1 := hide (HW0.out.alloc (by simp) (.cells #[.int .i64 0, .slice none 0 0, .slice none 0 0] 25))
      have HX1 := hide (HX.out.alloc (.cells #[.int .i64 0, .slice none 0 0, .slice none 0 0] 25))
      have HZ1 := hide (Blk.new2 w (.cells #[.int .i64 kind, .slice Aw words.length cw, .slice Ap' parts.length cp'] 25) 25 #[.int .i64 0, .slice none 0 0, .slice none 0 0])
      have HRE := hide ((HRD.out.keep (fun p hp => HW1.out.cell hp)))
      go_wp2_with (first
        | (at_builtin; refine wpList_append_any _ rfl _ _ 22 rfl _ 9 i9 (sv []) 1 16 Try.underlying22 hi9 hz9 hs9 hb9 rfl (by decide) (.slice none 0 0) 0 [] (by rfl) (World.ownsRow_nil _ (w.heap.size + 1 + 1) _ _) _ _ words.length _ (words.map sv) (by rfl) HRE.out (by intro u hu; obtain ⟨x, _, rfl⟩ := List.mem_map.1 hu; rfl) (by unfold maxLen; omega) (by omega) (by simp) ?_; intro Aq cq wq ownq growq lieq; simp only [Nat.zero_add, List.nil_append] at ownq ⊢; have HBK := hide (HX1.out.grown growq (by simp [Value.ownBlock])); have f3 := HBK.out.frozen 1; have e3 := HBK.out.cell 1; have HOW := hide ownq; have HGQ := hide growq; have HLI := hide lieq; clear ownq growq lieq)
        | fail)
      go_meet
      have hF : Fr (fun k => k = w.heap.size) wq (wq.setCell ⟨w.heap.size, 1, none⟩ (.slice Aq words.length cq)) := (Fr.refl (fun k => k = w.heap.size) wq).setCell (p := ⟨w.heap.size, 1, none⟩) (.inl rfl) _
      refine ⟨Aq, cq, rfl, own_fr HOW.out hF (fun q hk e => by have := (HOW.out.lt q hk).1; omega), by simpa using HBK.out.set_ 1 (.slice Aq words.length cq), ⟨_, rfl, (HZ1.out.grown HGQ.out (by simp [Value.ownBlock])).fr hF (by omega)⟩, ?_⟩
      exact ((HW1.out.grown HGQ.out (by simp; omega) (fun b hb => by simp [Value.ownBlock] at hb))).trans (hF.below (by have := HBK.out.lt; omega) fun x hx h => by omega)
    case rest =>
      obtain ⟨Aq, cq, rfl, hwo, h1, ⟨Z, hZ, h2⟩, hw⟩ := hcut
      have HWO := hide hwo
      have G1 := hide h1
      have G2 := hide h2
      have GZ := hide hZ
      have GW := hide hw
      have hlt1 := h2.lt
      clear hwo h1 h2 hw hZ HX HW0
      have c2 : wc.cell? ⟨w.heap.size, 2, none⟩ = some (.slice Ap' parts.length cp') := G1.out.cell 2
      go_wp2_with fail
      go_loopw [3, 13] (fun rv iv wr => ∃ (j : Nat) (A : Option Addr) (c : Nat) (Cs : List (List Value)), rv = .slice A j c ∧ iv = .int .i64 j ∧ j ≤ parts.length ∧ RB 25 3 IsSch wr wc.heap.size A c (parts.take j) Cs ∧ Below wc.heap.size wc wr) (fun _ i _ => parts.length - (intOf i).toNat)
      case atStart => exact ⟨0, none, 0, [], rfl, rfl, Nat.zero_le _, RB.nil treeSch _ _, Below.refl _ _⟩
      case round =>
        clear c2
        obtain ⟨j, A, c, Cs, rfl, rfl, hj, hrb, hw⟩ := hrel
        obtain ⟨wo, rfl⟩ : ∃ wo : World, wo = wr := ⟨_, rfl⟩
        have KW := hide hw
        have HRB := hide hrb
        have hlj : (parts.take j).length = j := by simp; omega
        have HLJ := hide hlj
        clear hw hrb hlj
        by_cases hlt : j < parts.length
        · obtain ⟨x, o5, rfl, hx, hC⟩ := HPA.out (by omega)
          obtain ⟨hl3, hr⟩ := hC j hlt
          have HPI := hide (HPP.out j _ (List.getElem?_eq_getElem hlt))
          have HGO := hide (GW.out.trans (KW.out.mono GW.out.size))
          have HRW : Hid (wo.rangeAt x (o5 + j * 3) (C' j)) := hide fun q v hv => (HGO.out.cell (p := ⟨x, o5 + j * 3 + q, none⟩) hx).trans (hr q v hv)
          have HL3 := hide hl3
          have HONE := hide (HPI.out.one)
          have hdp := HDP.out _ (List.getElem_mem hlt)
          have hwp := HWP.out _ (List.getElem_mem hlt)
          have HT := hide (List.take_succ_eq_append_getElem hlt)
          clear hC hl3 hr
          generalize parts[j] = pj at *
          generalize C' j = Cj at *
          have hst := fun (W : World) => run_store_new (P := Try.prog) W 25 [.int .i64 0, .slice none 0 0, .slice none 0 0] Cj (by rw [HL3.out]; rfl) HONE.out
          go_wp2_with (first
            | (refine wpList_load_mid rfl 25 _ rfl x (o5 + j * 3) rfl Cj _ HRW.out rfl rfl (by rw [HL3.out]; kernel_rfl) ?_)
            | (refine wpList_load_blk rfl 25 _ rfl _ rfl _ _ (Blk.new _ _ _) _ rfl rfl (by rw [List.size_toArray, HL3.out]; kernel_rfl) ?_)
            | fail)
          have K6 := hide ((Below.refl wo.heap.size wo).alloc (Nat.le_refl _) (.cells Cj.toArray 25))
          clear HRW
          refine (HI.out pj Cj _ (by omega) (by omega) (HPI.out.more (HGO.out.trans (K6.out.mono HGO.out.size)))).mono ?_
          rintro e w1 ⟨cs1, rfl, hv1, hb1⟩
          have HB1 := hide (K6.out.trans (hb1.mono K6.out.size))
          have HV1 := hide (hv1.mono (G := fun b => wo.heap.size ≤ b ∧ b < w1.heap.size) fun b hb => ⟨Nat.le_trans (by simp) hb.1, hb.2⟩)
          have H1L := hide hv1.length
          have H1O := hide hv1.one
          clear hv1 hb1
          have V2 := hide (HRB.out.keep treeSch (HB1.out.alloc HB1.out.size (.cells cs1.toArray 25)))
          have HOW := hide (V2.out.own)
          rw [HLJ.out] at HOW
          have hRD := reads_blk (n := 1) (size := 3) (Blk.new w1 25 cs1.toArray) (by rw [H1L.out])
          have HRD1 := hide hRD
          clear hRD
          have hs1 := HB1.out.size
          have hs2 := KW.out.size
          go_wp2_with (first
            | (rw [foldl_zip_all _ _ (by rw [H1L.out]; rfl), if_neg (by rw [H1L.out]; decide)])
            | (at_builtin; refine wpList_append_any _ rfl _ _ 23 rfl _ 25 i25 (.agg #[.int .i64 0, .slice none 0 0, .slice none 0 0]) 3 56 Try.underlying23 hi25 hz25 hs25 hb25 rfl (by decide) _ j Cs.flatten (by rfl) HOW.out _ _ 1 _ cs1 (by rfl) HRD1.out H1O.out (by unfold maxLen; omega) (by omega) (by simp only [World.size_alloc]; omega) ?_; intro Aq2 cq2 wq2 ownq growq lieq; have HOQ := hide ownq; have HGQ := hide growq; have HLI := hide lieq; clear ownq growq lieq)
            | fail)
          have hOW0 := HRB.out.own
          rw [HLJ.out] at hOW0
          have hx1 : IsSch (w1.alloc (.cells cs1.toArray 25)) (fun b => wc.heap.size ≤ b ∧ b < (w1.alloc (.cells cs1.toArray 25)).heap.size ∧ (Value.slice A j c).ownBlock ≠ some b) pj cs1 :=
            (HV1.out.keep fun q hq => ((Below.refl w1.heap.size w1).alloc (Nat.le_refl _) (.cells cs1.toArray 25)).cell hq.2).mono fun b hb => ⟨by omega, by simp only [World.size_alloc]; omega, fun e => by have := (hOW0.lt _ e).2; omega⟩
          exact ⟨⟨j + 1, Aq2, cq2, Cs ++ [cs1], rfl, by go_num, by omega, by rw [HT.out]; exact V2.out.app treeSch HLJ.out hx1 HOQ.out HGQ.out HLI.out, (((KW.out.trans (HB1.out.mono hs2)).alloc (by omega) _).grown HGQ.out (by simp only [World.size_alloc]; omega) (fun b hb => (hOW0.lt _ hb).1))⟩, by simp [intOf]; omega⟩
        · obtain rfl : j = parts.length := by omega
          have HR2 : Hid (RB 25 3 IsSch wo wc.heap.size A c parts Cs) := hide (by have := HRB.out; rwa [List.take_length] at this)
          have K1 := hide (G1.out.below KW.out (by omega))
          have K2 := hide (G2.out.below KW.out (by omega))
          have c2 : wo.cell? ⟨w.heap.size, 2, none⟩ = some (.slice Ap' parts.length cp') := K1.out.cell 2
          have f2 : wo.frozen? ⟨w.heap.size, 2, none⟩ = false := K1.out.frozen 2
          have K1S := hide (K1.out.set_ 2 (.slice A parts.length c))
          have K2F := hide (K2.out.far (p := ⟨w.heap.size, 2, none⟩) (by simp) (.slice A parts.length c))
          go_wp2_with (first
            | (refine wpList_load_blk rfl 25 _ rfl _ rfl _ _ (K1S.out) _ rfl rfl info_schS ?_)
            | (refine wpList_store_blk rfl 25 _ _ rfl _ rfl #[.int .i64 kind, .slice Aq words.length cq, .slice A parts.length c] rfl _ _ (K2F.out) (by rw [GZ.out] <;> rfl) info_schS (by simp [Value.oneCell']) ?_; intro wf hbf hff; have HBF := hide hbf; have HFF := hide hff; clear hbf hff)
            | fail)
          refine bodyPost_ret (results_cell_row rfl _ _ (w.heap.size + 1) 25 #[.int .i64 kind, .slice Aq words.length cq, .slice A parts.length c] (0, 0) _ rfl HBF.out rfl rfl info_schS) rfl ?_
          have HFS : Hid (Fr (fun b => w.heap.size ≤ b ∧ b < w.heap.size + 1 + 1) wo wf) := hide (((Fr.refl (fun b => w.heap.size ≤ b ∧ b < w.heap.size + 1 + 1) wo).setCell (p := ⟨w.heap.size, 2, none⟩) (.inl (by show w.heap.size ≤ w.heap.size ∧ w.heap.size < _; omega)) _).trans (HFF.out.mono fun k _ hk => .inl (by omega)))
          have hsf := HFS.out.size
          have hsw := KW.out.size
          obtain ⟨b', o', C2, q1, q2, q3, q4⟩ := HR2.out.done treeSch
          have hwd : RF wf (fun b => w.heap.size ≤ b ∧ b < wf.heap.size) 1 Aq words.length (words.map sv) := by
            have h1 := own_cells HWO.out
            refine (h1.keep fun q hq => ?_).mono fun b hb => ?_
            · have := HWO.out.lt _ hq
              exact (HFS.out.cell (p := q) (by omega) (by omega)).trans (KW.out.cell (by omega))
            · have := HWO.out.lt _ hb
              omega
          refine ⟨_, rfl, .mk HKI.out hwd HZ.out (own_cap HWO.out) (by omega) (fun h => ⟨(q1 h).1, ⟨by have := (q1 h).2; omega, by have := (q1 h).2; omega⟩⟩) (fun i p hp => ⟨(q2 i p hp).1, fun j v hv => ?_⟩) (fun i p hp => ((q3 i p hp).keep fun q hq => HFS.out.cell hq.2 (by have := hq.1; omega)).mono fun b hb => by omega) q4 (by omega), ?_⟩
          · have h0 := (q1 (by have := (List.getElem?_eq_some_iff.1 hp).1; omega)).2
            exact (HFS.out.cell (p := ⟨b', o' + i * 3 + j, none⟩) h0.2 (by show ¬ (_ ≤ b' ∧ b' < _); omega)).trans ((q2 i p hp).2 j v hv)
          · exact (GW.out.trans (KW.out.mono GW.out.size)).trans (HFS.out.below (by omega) fun x hx h => by omega)
end Go.Proofs.Ytpnjkebjdclkfaa

/- Schemas, walked: the document's own 'right'. Conditions: none. -/
namespace Go.Proofs.Ytpnjkebjdclkfaa
open Go.RowKit

def badHead (kd : Int) (nw : Nat) : Prop := kd < 1 ∨ 6 < kd ∨ 8 < nw ∨ (kd ≠ 4 ∧ kd ≠ 5 ∧ 0 < nw) ∨ (kd = 4 ∧ nw = 0)
instance (kd : Int) (nw : Nat) : Decidable (badHead kd nw) := by unfold badHead; exact inferInstance
def wantS (kd : Int) (nw : Nat) : Nat := if kd = 5 then nw else if kd = 6 then 1 else 0
/-- Two words clash. -/
def clash (kd : Int) (x y : Str) : Bool := decide (x = y) || (decide (kd = 5) && sLt x y)
def wordOk (kd : Int) (l : List Str) (i : Nat) : Bool := nameB (l.getD i []) && (List.range i).all fun j => !clash kd (l.getD i []) (l.getD j [])
def hereS (s : DSch) : Bool := !decide (badHead s.kind s.words.length) && (decide (s.parts.length = wantS s.kind s.words.length) && (List.range s.words.length).all (wordOk s.kind s.words))
def soundS : Nat → DSch → Bool
  | 0, _ => true
  | k + 1, s => hereS s && s.parts.all (soundS k)
def headB (kd : Int) (nw : Nat) : Bool := decide (badHead kd nw)
theorem headB_t {kd : Int} {nw : Nat} (h : badHead kd nw) : headB kd nw = true := decide_eq_true h
theorem headB_f {kd : Int} {nw : Nat} (h : ¬ badHead kd nw) : headB kd nw = false := decide_eq_false h

set_option maxHeartbeats 4000000 in
set_option maxRecDepth 20000 in
theorem refSound_calls (k : Nat) : ∀ (s : DSch) (cs : List Value) (w : World), s.depth ≤ k → IsSch w (· < w.heap.size) s cs →
    Calls Try.prog 59 #[.agg cs.toArray] w (Gives (.bool (soundS k s)) w) := by
  induction k with
  | zero => intro s cs w h; have := s.depth_pos; omega
  | succ k ih =>
    intro s cs w hk hs
    obtain ⟨hk1, hki⟩ := hs.kind_
    obtain ⟨Aw, cw, hw1, hwr, hwz, hwc, hwm⟩ := hs.words_
    obtain ⟨Ap, cp, C, hp1, hpc, hpm, hP, hA⟩ := hs.partsF
    have HW0 := hide ((Below.refl w.heap.size w).alloc (Nat.le_refl _) (.cells cs.toArray 25))
    have HX := hide (Blk.new w 25 cs.toArray)
    have HWR := hide hwr
    have HWZ := hide hwz
    have HPA := hide hA
    have HPP := hide hP
    have HI := hide ih
    have HDP := hide (fun p (h : p ∈ s.parts) => DSch.depth_part h)
    have HSP : Hid (soundS (k + 1) s = ((!headB s.kind s.words.length && (decide (s.parts.length = wantS s.kind s.words.length) && (List.range s.words.length).all (wordOk s.kind s.words))) && s.parts.all (soundS k))) := hide rfl
    have hkb := i64_wf hki
    clear ih hs hwr hwz hP hA hki
    generalize hres : soundS (k + 1) s = res at *
    clear hres
    go_enter Try.func59, Try.ntmps59
    go_upto_region 1 with fail
    go_cut [47] (fun c wx => c = .bool (headB s.kind s.words.length) ∧ wx = w.alloc (.cells cs.toArray 25))
    case first =>
      generalize s.kind = kd at *
      generalize s.words.length = nw at *
      have key : kd < 1 ∨ 6 < kd ∨ (1 ≤ kd ∧ kd ≤ 6 ∧ 8 < nw) ∨ ((kd = 1 ∨ kd = 2 ∨ kd = 3 ∨ kd = 6) ∧ nw = 0) ∨ ((kd = 1 ∨ kd = 2 ∨ kd = 3 ∨ kd = 6) ∧ 0 < nw ∧ nw ≤ 8) ∨ (kd = 4 ∧ nw = 0) ∨ (kd = 4 ∧ 0 < nw ∧ nw ≤ 8) ∨ (kd = 5 ∧ nw ≤ 8) := by omega
      rcases key with h | h | h | h | h | h | h | h
      · have HR : Hid (headB kd nw = true) := hide (headB_t (by unfold badHead; omega))
        go_wp2_with fail
        go_meet
        exact ⟨by rw [HR.out], rfl⟩
      · have HR : Hid (headB kd nw = true) := hide (headB_t (by unfold badHead; omega))
        have l1 : 1 ≤ kd := by omega
        go_wp2_with fail
        go_meet
        exact ⟨by rw [HR.out] <;> (first | rfl | (simp; done) | (simp; omega)), rfl⟩
      · have HR : Hid (headB kd nw = true) := hide (headB_t (by unfold badHead; omega))
        obtain ⟨l1, l6, l8⟩ := h
        go_wp2_with fail
        go_meet
        exact ⟨by rw [HR.out] <;> (first | rfl | (simp; done) | (simp; omega)), rfl⟩
      all_goals
        first
          | (have HR : Hid (headB kd nw = true) := hide (headB_t (by unfold badHead; omega)))
          | (have HR : Hid (headB kd nw = false) := hide (headB_f (by unfold badHead; omega)))
        have l1 : 1 ≤ kd := by omega
        have l6 : kd ≤ 6 := by omega
        have l8 : nw ≤ 8 := by omega
        first
          | (have f4 : (kd != 4) = true := by simp; omega)
          | (have f4 : (kd != 4) = false := by simp; omega)
        first
          | (have e4 : (kd == 4) = true := by simp; omega)
          | (have e4 : (kd == 4) = false := by simp; omega)
        first
          | (have f5 : (kd != 5) = true := by simp; omega)
          | (have f5 : (kd != 5) = false := by simp; omega)
        first
          | (have l0 : 0 < nw := by omega; have z0 : ((nw : Int) == 0) = false := by simp; omega)
          | (have l0 : nw ≤ 0 := by omega; have z0 : ((nw : Int) == 0) = true := by simp; omega)
          | skip
        have HH := hide h
        clear h
        go_wp2_with fail
        all_goals
          go_meet
          have h := HH.out
          exact ⟨by rw [HR.out] <;> (first | rfl | (simp; done) | (simp; omega)), rfl⟩
    case rest =>
      obtain ⟨rfl, rfl⟩ := hcut
      cases hh : headB s.kind s.words.length
      case true =>
        rw [hh] at HSP
        have HR : Hid (res = false) := hide (by rw [HSP.out]; simp)
        clear hh HSP
        go_wp2
        go_ret
        exact ⟨ret_eq (by rw [HR.out]; rfl), HW0.out⟩
      case false =>
        have hgood : ¬ badHead s.kind s.words.length := of_decide_eq_false hh
        rw [hh, Bool.not_false, Bool.true_and] at HSP
        have hn8 : s.words.length ≤ 8 := by unfold badHead at hgood; omega
        have HWANT : Hid (wantS s.kind s.words.length = if s.kind = 5 then s.words.length else if s.kind = 6 then 1 else 0) := hide rfl
        clear hh hgood
        generalize hwn : wantS s.kind s.words.length = want at *
        have hwant8 : want ≤ 8 := by rw [HWANT.out]; split <;> (try split) <;> omega
        clear hwn
        go_upto_if 50 with fail
        go_cut [3] (fun c wx => c = .int .i64 (((if s.kind = 5 then s.words.length else 0 : Nat)) : Int) ∧ wx = w.alloc (.cells cs.toArray 25))
        case first =>
          by_cases h5 : s.kind = 5
          · have e5 : (s.kind == 5) = true := by simp [h5]
            have HH := hide h5
            clear h5
            go_wp2_with fail
            go_meet
            exact ⟨by rw [if_pos HH.out], rfl⟩
          · have e5 : (s.kind == 5) = false := by simpa using h5
            have HH := hide h5
            clear h5
            go_wp2_with fail
            go_meet
            exact ⟨by rw [if_neg HH.out]; rfl, rfl⟩
        case rest =>
          obtain ⟨rfl, rfl⟩ := hcut
          generalize hx5 : (if s.kind = 5 then s.words.length else 0 : Nat) = x5
          have HX5 := hide hx5
          clear hx5
          go_upto_if 56 with fail
          go_cut [3] (fun c wx => c = .int .i64 (want : Int) ∧ wx = w.alloc (.cells cs.toArray 25))
          case first =>
            by_cases h6 : s.kind = 6
            · have e6 : (s.kind == 6) = true := by simp [h6]
              have HH := hide h6
              clear h6
              go_wp2_with fail
              go_meet
              exact ⟨by rw [HWANT.out, if_neg (by rw [HH.out]; decide), if_pos HH.out]; rfl, rfl⟩
            · have e6 : (s.kind == 6) = false := by simpa using h6
              have HH := hide h6
              clear h6
              go_wp2_with fail
              go_meet
              exact ⟨by rw [HWANT.out, ← HX5.out, if_neg HH.out], rfl⟩
          case rest =>
            obtain ⟨rfl, rfl⟩ := hcut
            clear HX5 HWANT
            by_cases hpw : s.parts.length = want
            case neg =>
              have hne : ((s.parts.length : Int) != (want : Int)) = true := by simp; omega
              have HR : Hid (res = false) := hide (by rw [HSP.out, decide_eq_false hpw]; simp)
              clear hpw HSP
              go_wp2
              go_ret
              exact ⟨ret_eq (by rw [HR.out]; rfl), HW0.out⟩
            have hne : ((s.parts.length : Int) != (want : Int)) = false := by simp [hpw]
            rw [decide_eq_true hpw, Bool.true_and] at HSP
            clear hpw
            go_wp2_with fail
            go_loopw [4] (fun i wr => ∃ (n : Nat), i = .int .i64 n ∧ n ≤ s.words.length ∧ (∀ r, r < n → wordOk s.kind s.words r = true) ∧ Blk wr w.heap.size 25 cs.toArray ∧ Below w.heap.size w wr) (fun i _ => s.words.length - (intOf i).toNat)
            case atStart => exact ⟨0, rfl, Nat.zero_le _, fun r hr => by omega, HX.out, HW0.out⟩
            case round =>
              obtain ⟨n, rfl, hn, hok, hblk, hw⟩ := hrel
              have GN := hide hok
              have GB := hide hblk
              have GW := hide hw
              clear hok hblk hw HX HW0 hne
              obtain ⟨wo, rfl⟩ : ∃ wo : World, wo = wr := ⟨_, rfl⟩
              have c1 : wo.cell? ⟨w.heap.size, 1, none⟩ = some (.slice Aw s.words.length cw) := by rw [GB.out.cell]; simpa using hw1
              by_cases hlt : n < s.words.length
              · obtain ⟨x, o, rfl, hx, hcw⟩ := HWR.out.at_ hlt
                have d1 : wo.cell? ⟨x, o + n, none⟩ = some (sv s.words[n]) := (GW.out.cell (p := ⟨x, o + n, none⟩) hx).trans hcw
                have hz := HWZ.out _ (List.getElem_mem hlt)
                have HCN := hide (fun (W : World) => refName_calls s.words[n] W hz)
                have HG := hide (show s.words.getD n [] = s.words[n] by simp [List.getD, hlt])
                have HBAD : Hid (wordOk s.kind s.words n = false → res = false) := hide fun h => by
                  rw [HSP.out, show (List.range s.words.length).all (wordOk s.kind s.words) = false from List.all_eq_false.2 ⟨n, List.mem_range.2 hlt, by rw [h]; simp⟩]
                  rfl
                have HOK : Hid (wordOk s.kind s.words n = (nameB (s.words.getD n []) && (List.range n).all fun j => !clash s.kind (s.words.getD n []) (s.words.getD j []))) := hide rfl
                rw [HG.out] at HOK
                clear hcw hz HG
                generalize hsn : s.words[n] = sn at *
                have HSN := hide hsn
                clear hsn
                cases hnm : nameB sn
                case false =>
                  rw [hnm] at HCN HOK
                  clear hnm
                  go_wp2_with fail
                  refine (HCN.out _).mono ?_
                  rintro e w1 ⟨rfl, rfl⟩
                  go_wp2
                  go_ret
                  exact ⟨ret_eq (by rw [HBAD.out (by rw [HOK.out]; rfl)]; rfl), GW.out⟩
                case true =>
                  rw [hnm, Bool.true_and] at HOK
                  rw [hnm] at HCN
                  clear hnm
                  go_wp2_with fail
                  refine (HCN.out _).mono ?_
                  rintro e w1 ⟨rfl, rfl⟩
                  go_wp2_with fail
                  go_loopw [5] (fun i wr => ∃ (j : Nat), i = .int .i64 j ∧ j ≤ n ∧ (∀ r, r < j → clash s.kind sn (s.words.getD r []) = false) ∧ Blk wr w.heap.size 25 cs.toArray ∧ Below w.heap.size w wr) (fun i _ => n - (intOf i).toNat)
                  case atStart => exact ⟨0, rfl, Nat.zero_le _, fun r hr => by omega, GB.out, GW.out⟩
                  case round =>
                    clear c1 d1 GB GW
                    obtain ⟨j, rfl, hj, hcl, hblk, hw⟩ := hrel
                    have GJ := hide hcl
                    have GB := hide hblk
                    have GW := hide hw
                    clear hcl hblk hw
                    have c0 : wr.cell? ⟨w.heap.size, 0, none⟩ = some (.int .i64 s.kind) := by rw [GB.out.cell]; simpa using hk1
                    have c1 : wr.cell? ⟨w.heap.size, 1, none⟩ = some (.slice (some ⟨x, o, none⟩) s.words.length cw) := by rw [GB.out.cell]; simpa using hw1
                    by_cases hjn : j < n
                    · have hjl : j < s.words.length := by omega
                      obtain ⟨x', o', e', _, hcj⟩ := HWR.out.at_ hjl
                      obtain ⟨rfl, rfl⟩ : x = x' ∧ o = o' := by injection e' with e'; injection e' with e1 e2; exact ⟨e1, e2⟩
                      obtain ⟨x', o', e'', _, hcn⟩ := HWR.out.at_ hlt
                      obtain ⟨rfl, rfl⟩ : x = x' ∧ o = o' := by injection e'' with e'; injection e' with e1 e2; exact ⟨e1, e2⟩
                      rw [HSN.out] at hcn
                      have d1 : wr.cell? ⟨x, o + n, none⟩ = some (sv sn) := (GW.out.cell (p := ⟨x, o + n, none⟩) hx).trans hcn
                      have d2 : wr.cell? ⟨x, o + j, none⟩ = some (sv s.words[j]) := (GW.out.cell (p := ⟨x, o + j, none⟩) hx).trans hcj
                      have HG := hide (show s.words.getD j [] = s.words[j] by simp [List.getD, hjl])
                      have HBJ : Hid (clash s.kind sn (s.words.getD j []) = true → res = false) := hide fun h => HBAD.out (by
                        rw [HOK.out, List.all_eq_false]
                        exact ⟨j, List.mem_range.2 hjn, by rw [h]; simp⟩)
                      rw [HG.out] at HBJ
                      have HCJ : Hid (clash s.kind sn s.words[j] = false → ∀ r, r < j + 1 → clash s.kind sn (s.words.getD r []) = false) := hide fun h r hr => by
                        by_cases e : r = j
                        · rw [e, HG.out]; exact h
                        · exact GJ.out r (by omega)
                      have j1 : (0 : Int) ≤ (n : Int) := by omega
                      have j2 : (n : Int) < (s.words.length : Int) := by omega
                      have j3 : (0 : Int) ≤ (j : Int) := by omega
                      have j4 : (j : Int) < (s.words.length : Int) := by omega
                      clear hcj hcn e' e'' HG
                      generalize s.words[j] = sj at *
                      cases hss : (sn == sj)
                      case true =>
                        have HC : Hid (clash s.kind sn sj = true) := hide (by unfold clash; rw [show sn = sj by simpa using hss]; simp)
                        go_wp2_with fail
                        go_quiet (fail)
                        go_wp2
                        go_ret
                        exact ⟨ret_eq (by rw [HBJ.out HC.out]; rfl), below_drewN GW.out _⟩
                      case false =>
                        have hne : sn ≠ sj := by simpa using hss
                        have HNE := hide hne
                        clear hne
                        by_cases h5 : s.kind = 5
                        · have e5 : (s.kind == 5) = true := by simp [h5]
                          have H5 := hide h5
                          clear h5
                          cases hl : Op.bytesLess sn sj
                          case true =>
                            have HC : Hid (clash s.kind sn sj = true) := hide (by unfold clash; rw [H5.out, show sLt sn sj = true from hl]; simp)
                            go_wp2_with fail
                            go_quiet (fail)
                            go_wp2
                            go_ret
                            exact ⟨ret_eq (by rw [HBJ.out HC.out]; rfl), below_drewN GW.out _⟩
                          case false =>
                            have HC : Hid (clash s.kind sn sj = false) := hide (by unfold clash; rw [show sLt sn sj = false from hl, decide_eq_false HNE.out]; simp)
                            go_wp2_with fail
                            go_quiet (fail)
                            go_wp2_with fail
                            exact ⟨⟨j + 1, by go_num, by omega, HCJ.out HC.out, GB.out.drewN _, below_drewN GW.out _⟩, by simp [intOf]; omega⟩
                        · have e5 : (s.kind == 5) = false := by simpa using h5
                          have HC : Hid (clash s.kind sn sj = false) := hide (by unfold clash; rw [decide_eq_false h5, decide_eq_false HNE.out]; simp)
                          clear h5
                          go_wp2_with fail
                          go_quiet (fail)
                          go_wp2_with fail
                          exact ⟨⟨j + 1, by go_num, by omega, HCJ.out HC.out, GB.out.drewN _, below_drewN GW.out _⟩, by simp [intOf]; omega⟩
                    · obtain rfl : j = n := by omega
                      have HG : Hid (∀ r, r < j + 1 → wordOk s.kind s.words r = true) := hide fun r hr => by
                        by_cases e : r = j
                        · rw [e, HOK.out, List.all_eq_true]
                          exact fun q hq => by rw [GJ.out q (List.mem_range.1 hq)]; rfl
                        · exact GN.out r (by omega)
                      go_wp2_with fail
                      exact ⟨⟨j + 1, by go_num, by omega, HG.out, GB.out, GW.out⟩, by simp [intOf]; omega⟩
              · have HW : Hid (res = s.parts.all (soundS k)) := hide (by
                  rw [HSP.out, show (List.range s.words.length).all (wordOk s.kind s.words) = true from List.all_eq_true.2 fun r hr => GN.out r (by have := List.mem_range.1 hr; omega), Bool.true_and])
                clear HSP GN
                go_wp2_with fail
                go_loopw [6] (fun i wr => ∃ (j : Nat), i = .int .i64 j ∧ j ≤ s.parts.length ∧ (∀ p ∈ s.parts.take j, soundS k p = true) ∧ Blk wr w.heap.size 25 cs.toArray ∧ Below w.heap.size w wr) (fun i _ => s.parts.length - (intOf i).toNat)
                case atStart => exact ⟨0, rfl, Nat.zero_le _, by simp, GB.out, GW.out⟩
                case round =>
                  clear c1 GB GW
                  obtain ⟨j, rfl, hj, hok, hblk, hw⟩ := hrel
                  have GN := hide hok
                  have GB := hide hblk
                  have GW := hide hw
                  clear hok hblk hw
                  have c2 : wr.cell? ⟨w.heap.size, 2, none⟩ = some (.slice Ap s.parts.length cp) := by rw [GB.out.cell]; simpa using hp1
                  by_cases hlt2 : j < s.parts.length
                  · obtain ⟨x, o, rfl, hx, hc⟩ := HPA.out (by omega)
                    obtain ⟨hl3, hr⟩ := hc j hlt2
                    have HRW : Hid (wr.rangeAt x (o + j * 3) (C j)) := hide fun q v hv => (GW.out.cell (p := ⟨x, o + j * 3 + q, none⟩) hx).trans (hr q v hv)
                    have HL3 := hide hl3
                    have HPI := hide ((HPP.out j _ (List.getElem?_eq_getElem hlt2)).more GW.out)
                    have hpd := HDP.out _ (List.getElem_mem hlt2)
                    have HC := hide (HI.out s.parts[j] (C j) wr (by omega) HPI.out)
                    have HB : Hid (soundS k s.parts[j] = false → res = false) := hide fun h => by
                      rw [HW.out, List.all_eq_false]
                      exact ⟨_, List.getElem_mem hlt2, by rw [h]; simp⟩
                    have HT : Hid (soundS k s.parts[j] = true → ∀ p ∈ s.parts.take (j + 1), soundS k p = true) := hide fun h p hp => by
                      rw [List.take_succ_eq_append_getElem hlt2] at hp
                      rcases List.mem_append.1 hp with h1 | h1
                      · exact GN.out p h1
                      · rw [List.mem_singleton.1 h1]; exact h
                    clear hc hr hl3 hpd
                    generalize s.parts[j] = p at *
                    generalize C j = D at *
                    cases hss : soundS k p
                    all_goals
                      have HSS := hide hss
                      rw [hss] at HC
                      clear hss
                      go_wp2_with (first | (refine wpList_load_mid rfl 25 _ rfl x (o + j * 3) rfl D _ HRW.out rfl rfl (by rw [HL3.out]; kernel_rfl) ?_) | fail)
                      refine HC.out.mono ?_
                      rintro e w1 ⟨rfl, hb1⟩
                      have KB := hide (GB.out.below hb1 GB.out.lt)
                      have KW := hide (GW.out.trans (hb1.mono GW.out.size))
                      clear hb1
                    · go_wp2
                      go_ret
                      exact ⟨ret_eq (by rw [HB.out HSS.out]; rfl), KW.out⟩
                    · go_wp2_with fail
                      exact ⟨⟨j + 1, by go_num, by omega, HT.out HSS.out, KB.out, KW.out⟩, by simp [intOf]; omega⟩
                  · have HE : Hid (res = true) := hide (by
                      rw [HW.out, List.all_eq_true]
                      intro p hp
                      exact GN.out p (by rw [List.take_of_length_le (by omega)]; exact hp))
                    go_wp2
                    go_ret
                    exact ⟨ret_eq (by rw [HE.out]; rfl), GW.out⟩
end Go.Proofs.Ytpnjkebjdclkfaa

/- The plain law of the schemas: right by the program and by the document. Conditions: none. -/
namespace Go.Proofs.Ytpnjkebjdclkfaa

theorem sLt_trans {a b c : Str} (h1 : sLt a b = true) (h2 : sLt b c = true) : sLt a c = true := by
  rw [sLt_iff, decide_eq_true_eq] at *
  exact List.lt_trans h1 h2
theorem sLt_irrefl (a : Str) : sLt a a = false := by
  rw [sLt_iff, decide_eq_false_iff_not]
  exact List.lt_irrefl a
theorem sLt_total {a b : Str} (h1 : sLt a b = false) (h2 : a ≠ b) : sLt b a = true := by
  rw [sLt_iff, decide_eq_false_iff_not] at h1
  rw [sLt_iff, decide_eq_true_eq]
  exact Classical.byContradiction fun h => h2 (List.le_antisymm (List.not_lt.1 h) (List.not_lt.1 h1))

/-- unlike each other, pair by pair. -/
theorem unlike_iff (l : List Str) : unlikeB l = true ↔ ∀ i, i < l.length → ∀ j, j < i → l.getD i [] ≠ l.getD j [] := by
  unfold unlikeB
  rw [List.all_eq_true]
  constructor
  · intro h i hi j hj e
    have := h i (List.mem_range.2 hi)
    simp only [Bool.not_eq_true', decide_eq_false_iff_not] at this
    refine this ?_
    rw [e]
    have hjl : j < l.length := by omega
    rw [show l.getD j [] = (l.take i)[j]'(by simp; omega) by simp [List.getD, hjl]]
    exact List.getElem_mem _
  · intro h i hi
    have hi' := List.mem_range.1 hi
    simp only [Bool.not_eq_true', decide_eq_false_iff_not]
    intro hm
    obtain ⟨j, hj, e⟩ := List.getElem_of_mem hm
    have hji : j < i := by simp at hj; omega
    refine h i hi' j hji ?_
    have hjl : j < l.length := by omega
    rw [← e]
    simp [List.getD, hjl]
theorem sorted_iff (l : List Str) : sortedB l = true ↔ ∀ i, i + 1 < l.length → sLt (l.getD (i + 1) []) (l.getD i []) = false := by
  unfold sortedB
  rw [List.all_eq_true]
  constructor
  · intro h i hi
    have := h i (List.mem_range.2 (by omega))
    simpa using this
  · intro h i hi
    have := List.mem_range.1 hi
    simpa using h i (by omega)
/-- Sorted and unlike: each ahead of each later one. -/
theorem rising_iff (l : List Str) : risingB l = true ↔ ∀ i, i < l.length → ∀ j, j < i → l.getD i [] ≠ l.getD j [] ∧ sLt (l.getD i []) (l.getD j []) = false := by
  unfold risingB
  rw [Bool.and_eq_true, unlike_iff, sorted_iff]
  constructor
  · rintro ⟨hs, hu⟩ i hi j hj
    refine ⟨hu i hi j hj, ?_⟩
    have key : ∀ d, ∀ j, j + d + 1 < l.length → sLt (l.getD j []) (l.getD (j + d + 1) []) = true := by
      intro d
      induction d with
      | zero =>
        intro j hj
        exact sLt_total (hs j (by omega)) (hu (j + 1) (by omega) j (by omega))
      | succ d ih =>
        intro j hj
        exact sLt_trans (ih j (by omega)) (sLt_total (hs (j + d + 1) (by omega)) (hu (j + d + 1 + 1) (by omega) (j + d + 1) (by omega)))
    have h1 := key (i - j - 1) j (by omega)
    rw [show j + (i - j - 1) + 1 = i by omega] at h1
    cases h2 : sLt (l.getD i []) (l.getD j [])
    · rfl
    · have := sLt_trans h1 h2
      rw [sLt_irrefl] at this
      cases this
  · intro h
    exact ⟨fun i hi => (h (i + 1) hi i (by omega)).2, fun i hi j hj => (h i hi j hj).1⟩

theorem namesB_iff (l : List Str) : namesB l = true ↔ l.length ≤ 8 ∧ ∀ i, i < l.length → nameB (l.getD i []) = true := by
  unfold namesB
  rw [Bool.and_eq_true, decide_eq_true_eq, List.all_eq_true]
  constructor
  · rintro ⟨h1, h2⟩
    exact ⟨h1, fun i hi => h2 _ (by simp [List.getD, hi])⟩
  · rintro ⟨h1, h2⟩
    refine ⟨h1, fun x hx => ?_⟩
    obtain ⟨i, hi, rfl⟩ := List.getElem_of_mem hx
    have := h2 i hi
    simpa [List.getD, hi] using this
theorem clash_f (kd : Int) (x y : Str) : clash kd x y = false ↔ x ≠ y ∧ (kd = 5 → sLt x y = false) := by
  unfold clash
  by_cases h5 : kd = 5
  · simp [h5]
  · simp [h5]
theorem words_iff (kd : Int) (l : List Str) : (List.range l.length).all (wordOk kd l) = true ↔ (∀ i, i < l.length → nameB (l.getD i []) = true) ∧ ∀ i, i < l.length → ∀ j, j < i → clash kd (l.getD i []) (l.getD j []) = false := by
  rw [List.all_eq_true]
  constructor
  · intro h
    refine ⟨fun i hi => ?_, fun i hi j hj => ?_⟩
    · have := h i (List.mem_range.2 hi)
      unfold wordOk at this
      exact (Bool.and_eq_true _ _ ▸ this).1
    · have := h i (List.mem_range.2 hi)
      unfold wordOk at this
      have h2 := List.all_eq_true.1 (Bool.and_eq_true _ _ ▸ this).2 j (List.mem_range.2 hj)
      simpa using h2
  · rintro ⟨h1, h2⟩ i hi
    have hi' := List.mem_range.1 hi
    unfold wordOk
    rw [h1 i hi', Bool.true_and, List.all_eq_true]
    intro j hj
    rw [h2 i hi' j (List.mem_range.1 hj)]
    rfl
/-- By itself: the program and the document agree. -/
theorem plain_here (s : DSch) : plainS s = hereS s := by
  rw [Bool.eq_iff_iff]
  unfold plainS hereS
  rw [Bool.and_eq_true, Bool.and_eq_true, Bool.not_eq_true', decide_eq_false_iff_not, decide_eq_true_eq, words_iff]
  generalize s.kind = kd
  generalize s.words = l
  generalize s.parts.length = np
  have nil : l.length = 0 → (∀ i, i < l.length → nameB (l.getD i []) = true) ∧ ∀ i, i < l.length → ∀ j, j < i → clash kd (l.getD i []) (l.getD j []) = false := fun h => ⟨fun i hi => by omega, fun i hi => by omega⟩
  by_cases h1 : kd = 1 ∨ kd = 2 ∨ kd = 3
  · rw [if_pos h1]
    simp only [Bool.and_eq_true, decide_eq_true_eq]
    have hw : wantS kd l.length = 0 := by unfold wantS; rw [if_neg (by omega), if_neg (by omega)]
    rw [hw]
    constructor
    · rintro ⟨a, b⟩; exact ⟨by unfold badHead; omega, b, nil a⟩
    · rintro ⟨a, b, _⟩; unfold badHead at a; exact ⟨by omega, b⟩
  · rw [if_neg h1]
    by_cases h4 : kd = 4
    · subst h4
      rw [if_pos rfl]
      simp only [Bool.and_eq_true, decide_eq_true_eq, namesB_iff, unlike_iff]
      have hw : wantS 4 l.length = 0 := by simp [wantS]
      rw [hw]
      constructor
      · rintro ⟨a, ⟨b1, b2⟩, c, d⟩
        exact ⟨by unfold badHead; omega, d, b2, fun i hi j hj => (clash_f _ _ _).2 ⟨c i hi j hj, fun h => by omega⟩⟩
      · rintro ⟨a, b, c, d⟩
        unfold badHead at a
        exact ⟨by omega, ⟨by omega, c⟩, fun i hi j hj => ((clash_f _ _ _).1 (d i hi j hj)).1, b⟩
    · rw [if_neg h4]
      by_cases h5 : kd = 5
      · subst h5
        rw [if_pos rfl]
        simp only [Bool.and_eq_true, decide_eq_true_eq, namesB_iff, rising_iff]
        have hw : wantS 5 l.length = l.length := by simp [wantS]
        rw [hw]
        constructor
        · rintro ⟨⟨b1, b2⟩, c, d⟩
          exact ⟨by unfold badHead; omega, d, b2, fun i hi j hj => (clash_f _ _ _).2 ⟨(c i hi j hj).1, fun _ => (c i hi j hj).2⟩⟩
        · rintro ⟨a, b, c, d⟩
          unfold badHead at a
          exact ⟨⟨by omega, c⟩, fun i hi j hj => ⟨((clash_f _ _ _).1 (d i hi j hj)).1, ((clash_f _ _ _).1 (d i hi j hj)).2 rfl⟩, b⟩
      · rw [if_neg h5]
        by_cases h6 : kd = 6
        · subst h6
          rw [if_pos rfl]
          simp only [Bool.and_eq_true, decide_eq_true_eq]
          have hw : wantS 6 l.length = 1 := by simp [wantS]
          rw [hw]
          constructor
          · rintro ⟨a, b⟩; exact ⟨by unfold badHead; omega, b, nil a⟩
          · rintro ⟨a, b, _⟩; unfold badHead at a; exact ⟨by omega, b⟩
        · rw [if_neg h6]
          constructor
          · intro h; cases h
          · rintro ⟨a, _⟩; unfold badHead at a; omega
theorem depths_all (l : List DSch) (k : Nat) : DSch.depths l ≤ k ↔ ∀ p ∈ l, p.depth ≤ k := by
  induction l with
  | nil => simp [DSch.depths]
  | cons x l ih =>
    simp only [DSch.depths, List.mem_cons, forall_eq_or_imp]
    rw [← ih]; omega
/-- The program's 'right' is the document's. -/
theorem right_sound (k : Nat) : ∀ (s : DSch) (m : Nat), s.depth ≤ m → rightS k s = (decide (s.depth ≤ k) && soundS m s) := by
  induction k with
  | zero => intro s m _; have := s.depth_pos; simp [rightS]; omega
  | succ k ih =>
    intro s m hm
    obtain ⟨m, rfl⟩ : ∃ n, m = n + 1 := ⟨m - 1, by have := s.depth_pos; omega⟩
    have hd := s.depth_eq
    rw [Bool.eq_iff_iff]
    simp only [rightS, soundS, Bool.and_eq_true, decide_eq_true_eq, plain_here, List.all_eq_true]
    have hall := depths_all s.parts
    constructor
    · rintro ⟨h1, h2⟩
      have h3 : ∀ p ∈ s.parts, p.depth ≤ k ∧ soundS m p = true := fun p hp => by
        have := h2 p hp
        rw [ih p m (by have := DSch.depth_part hp; omega)] at this
        simpa using this
      exact ⟨by have := (hall k).2 (fun p hp => (h3 p hp).1); omega, h1, fun p hp => (h3 p hp).2⟩
    · rintro ⟨h0, h1, h2⟩
      refine ⟨h1, fun p hp => ?_⟩
      rw [ih p m (by have := DSch.depth_part hp; omega), h2 p hp, Bool.and_true, decide_eq_true_eq]
      exact (hall k).1 (by omega) p hp
end Go.Proofs.Ytpnjkebjdclkfaa

/- Schemas, walked: the document's Same. Conditions: none. -/
namespace Go.Proofs.Ytpnjkebjdclkfaa
open Go.RowKit

set_option maxHeartbeats 2000000 in
set_option maxRecDepth 20000 in
theorem refSchSame_calls (k : Nat) : ∀ (a b : DSch) (cs ds : List Value) (w : World), a.depth ≤ k → IsSch w (· < w.heap.size) a cs → IsSch w (· < w.heap.size) b ds →
    Calls Try.prog 19 #[.agg cs.toArray, .agg ds.toArray] w (Gives (.bool (eqB a b)) w) := by
  induction k with
  | zero => intro a b cs ds w h; have := a.depth_pos; omega
  | succ k ih =>
    intro a b cs ds w hk ha hb
    obtain ⟨hk1, hki⟩ := ha.kind_
    obtain ⟨hk2, hki2⟩ := hb.kind_
    obtain ⟨Aw, cw, hw1, hwr, hwz, hwc, hwm⟩ := ha.words_
    obtain ⟨Aw2, cw2, hw2, hwr2, hwz2, hwc2, hwm2⟩ := hb.words_
    obtain ⟨Ap, cp, C, hp1, hpc, hpm, hP, hA⟩ := ha.partsF
    obtain ⟨Ap2, cp2, C2, hp2, hpc2, hpm2, hP2, hA2⟩ := hb.partsF
    have HW0 := hide (((Below.refl w.heap.size w).alloc (Nat.le_refl _) (.cells cs.toArray 25)).alloc (by simp) (.cells ds.toArray 25))
    have HX2 := hide ((Blk.new w 25 cs.toArray).alloc (.cells ds.toArray 25))
    have HX3 := hide (Blk.new2 w (.cells cs.toArray 25) 25 ds.toArray)
    have HWR := hide (And.intro hwr hwr2)
    have HPP := hide (And.intro hA hA2)
    have HIS := hide (And.intro hP hP2)
    have HI := hide ih
    have HSP := hide (schEq_split a b)
    have HDP := hide (fun p (h : p ∈ a.parts) => DSch.depth_part h)
    clear ih ha hb hA hA2 hP hP2 hwr hwr2 hwz hwz2
    by_cases h1 : a.kind = b.kind
    case neg =>
      have hkk : (a.kind != b.kind) = true := by simpa using h1
      rw [decide_eq_false h1, Bool.false_and] at HSP
      clear h1
      go_enter Try.func19, Try.ntmps19
      go_wp2
      go_ret
      exact ⟨ret_eq (by rw [HSP.out]; rfl), HW0.out⟩
    have hkk : (a.kind != b.kind) = false := by simpa using h1
    rw [decide_eq_true h1, Bool.true_and] at HSP
    have H1 := hide h1
    clear h1
    by_cases h2 : a.words.length = b.words.length
    case neg =>
      have hww : ((a.words.length : Int) != (b.words.length : Int)) = true := by simp; omega
      have HF : Hid (eqB a b = false) := hide (by rw [HSP.out, decide_eq_false (fun e => h2 (by rw [e])), Bool.false_and])
      clear h2
      go_enter Try.func19, Try.ntmps19
      go_wp2
      go_ret
      exact ⟨ret_eq (by rw [HF.out]; rfl), HW0.out⟩
    have hww : ((a.words.length : Int) != (b.words.length : Int)) = false := by simp [h2]
    have H2 := hide h2
    clear h2
    by_cases h3 : a.parts.length = b.parts.length
    case neg =>
      have hpp : ((a.parts.length : Int) != (b.parts.length : Int)) = true := by simp; omega
      have HF : Hid (eqB a b = false) := hide (by rw [HSP.out, eqB_false (fun e => h3 (by rw [e])), Bool.and_false])
      clear h3
      go_enter Try.func19, Try.ntmps19
      go_wp2
      go_ret
      exact ⟨ret_eq (by rw [HF.out]; rfl), HW0.out⟩
    have hpp : ((a.parts.length : Int) != (b.parts.length : Int)) = false := by simp [h3]
    have H3 := hide h3
    clear h3
    go_enter Try.func19, Try.ntmps19
    go_wp2_with fail
    go_loopw [5] (fun i wr => ∃ (j : Nat), i = .int .i64 j ∧ j ≤ a.words.length ∧ a.words.take j = b.words.take j ∧ Blk wr w.heap.size 25 cs.toArray ∧ Blk wr (w.heap.size + 1) 25 ds.toArray ∧ Below w.heap.size w wr) (fun i _ => a.words.length - (intOf i).toNat)
    case atStart => exact ⟨0, rfl, Nat.zero_le _, by simp, HX2.out, HX3.out, HW0.out⟩
    case round =>
      obtain ⟨j, rfl, hj, heq, hb2, hb3, hw⟩ := hrel
      have GE := hide heq
      have G2 := hide hb2
      have G3 := hide hb3
      have GW := hide hw
      clear heq hb2 hb3 hw HX2 HX3 HW0
      obtain ⟨wo, rfl⟩ : ∃ wo : World, wo = wr := ⟨_, rfl⟩
      have c2 : wo.cell? ⟨w.heap.size, 1, none⟩ = some (.slice Aw a.words.length cw) := by rw [G2.out.cell]; simpa using hw1
      have c3 : wo.cell? ⟨w.heap.size + 1, 1, none⟩ = some (.slice Aw2 b.words.length cw2) := by rw [G3.out.cell]; simpa using hw2
      by_cases hlt : j < a.words.length
      · have hlt2 : j < b.words.length := by rw [← H2.out]; exact hlt
        obtain ⟨x, o, rfl, hx, hc1⟩ := HWR.out.1.at_ hlt
        obtain ⟨x2, o2, rfl, hx2, hc2⟩ := HWR.out.2.at_ hlt2
        have d1 : wo.cell? ⟨x, o + j, none⟩ = some (sv a.words[j]) := (GW.out.cell (p := ⟨x, o + j, none⟩) hx).trans hc1
        have d2 : wo.cell? ⟨x2, o2 + j, none⟩ = some (sv b.words[j]) := (GW.out.cell (p := ⟨x2, o2 + j, none⟩) hx2).trans hc2
        have HT : Hid (a.words[j] = b.words[j] → a.words.take (j + 1) = b.words.take (j + 1)) := hide fun e => by rw [List.take_succ_eq_append_getElem hlt, List.take_succ_eq_append_getElem hlt2, GE.out, e]
        have HD : Hid (a.words[j] ≠ b.words[j] → eqB a b = false) := hide fun e => by
          rw [HSP.out, decide_eq_false, Bool.false_and]
          intro h
          exact e (by simp only [h])
        have j1 : (0 : Int) ≤ (j : Int) := by omega
        have j2 : (j : Int) < (a.words.length : Int) := by omega
        have j3 : (j : Int) < (b.words.length : Int) := by omega
        clear hc1 hc2
        generalize a.words[j] = s1 at *
        generalize b.words[j] = s2 at *
        cases hss : (s1 == s2)
        · have HSS := hide hss
          go_wp2_with fail
          go_quiet (fail)
          go_wp2
          go_ret
          exact ⟨ret_eq (by rw [HD.out (by simpa using HSS.out)]; rfl), below_drewN GW.out _⟩
        · have HSS := hide hss
          go_wp2_with fail
          go_quiet (fail)
          go_wp2_with fail
          exact ⟨⟨j + 1, by go_num, by omega, HT.out (by simpa using HSS.out), G2.out.drewN _, G3.out.drewN _, below_drewN GW.out _⟩, by simp [intOf]; omega⟩
      · have HEW : Hid (eqB a b = eqB a.parts b.parts) := hide (by
          have e : a.words = b.words := by
            have := GE.out
            rw [List.take_of_length_le (by omega), List.take_of_length_le (by rw [← H2.out]; omega)] at this
            exact this
          rw [HSP.out, decide_eq_true e, Bool.true_and])
        clear GE HSP
        have p2 : wo.cell? ⟨w.heap.size, 2, none⟩ = some (.slice Ap a.parts.length cp) := by rw [G2.out.cell]; simpa using hp1
        have p3 : wo.cell? ⟨w.heap.size + 1, 2, none⟩ = some (.slice Ap2 b.parts.length cp2) := by rw [G3.out.cell]; simpa using hp2
        go_wp2_with fail
        go_loopw [6] (fun i wr => ∃ (j : Nat), i = .int .i64 j ∧ j ≤ a.parts.length ∧ a.parts.take j = b.parts.take j ∧ Blk wr w.heap.size 25 cs.toArray ∧ Blk wr (w.heap.size + 1) 25 ds.toArray ∧ Below w.heap.size w wr) (fun i _ => a.parts.length - (intOf i).toNat)
        case atStart => exact ⟨0, rfl, Nat.zero_le _, by simp, G2.out, G3.out, GW.out⟩
        case round =>
          clear c2 c3 p2 p3 G2 G3 GW
          obtain ⟨j, rfl, hj, heq, hb2, hb3, hw⟩ := hrel
          have GE := hide heq
          have G2 := hide hb2
          have G3 := hide hb3
          have GW := hide hw
          clear heq hb2 hb3 hw
          obtain ⟨wo, rfl⟩ : ∃ wo : World, wo = wr := ⟨_, rfl⟩
          have c2 : wo.cell? ⟨w.heap.size, 2, none⟩ = some (.slice Ap a.parts.length cp) := by rw [G2.out.cell]; simpa using hp1
          have c3 : wo.cell? ⟨w.heap.size + 1, 2, none⟩ = some (.slice Ap2 b.parts.length cp2) := by rw [G3.out.cell]; simpa using hp2
          by_cases hlt : j < a.parts.length
          · have hlt2 : j < b.parts.length := by rw [← H3.out]; exact hlt
            obtain ⟨x, o, rfl, hx, hc1⟩ := HPP.out.1 (by omega)
            obtain ⟨x2, o2, rfl, hx2, hc2⟩ := HPP.out.2 (by omega)
            obtain ⟨hl1, hr1⟩ := hc1 j hlt
            obtain ⟨hl2, hr2⟩ := hc2 j hlt2
            have GS := hide (List.getElem?_eq_getElem hlt)
            have GS2 := hide (List.getElem?_eq_getElem hlt2)
            have HP1 := hide (HIS.out.1 j _ GS.out)
            have HP2 := hide (HIS.out.2 j _ GS2.out)
            have HRW : Hid (∀ W, Below wo.heap.size wo W → W.rangeAt x (o + j * 3) (C j)) := hide fun W hW q v hv => (hW.cell (p := ⟨x, o + j * 3 + q, none⟩) (Nat.lt_of_lt_of_le hx GW.out.size)).trans ((GW.out.cell (p := ⟨x, o + j * 3 + q, none⟩) hx).trans (hr1 q v hv))
            have HRW2 : Hid (∀ W, Below wo.heap.size wo W → W.rangeAt x2 (o2 + j * 3) (C2 j)) := hide fun W hW q v hv => (hW.cell (p := ⟨x2, o2 + j * 3 + q, none⟩) (Nat.lt_of_lt_of_le hx2 GW.out.size)).trans ((GW.out.cell (p := ⟨x2, o2 + j * 3 + q, none⟩) hx2).trans (hr2 q v hv))
            have hpd := HDP.out _ (List.getElem_mem hlt)
            have HC := hide (fun (W : World) (hW : Below wo.heap.size wo W) => HI.out a.parts[j] b.parts[j] (C j) (C2 j) W (by omega) (HP1.out.more (GW.out.trans (hW.mono GW.out.size))) (HP2.out.more (GW.out.trans (hW.mono GW.out.size))))
            have HT : Hid (a.parts[j] = b.parts[j] → a.parts.take (j + 1) = b.parts.take (j + 1)) := hide fun e => by rw [List.take_succ_eq_append_getElem hlt, List.take_succ_eq_append_getElem hlt2, GE.out, e]
            have HD : Hid (a.parts[j] ≠ b.parts[j] → eqB a b = false) := hide fun e => by
              rw [HEW.out]
              refine eqB_false fun h => e ?_
              simp only [h]
            have hi1 : (Try.prog.info? 25).map (·.size) = some (C j).length := by rw [hl1]; kernel_rfl
            have hi2 : (Try.prog.info? 25).map (·.size) = some (C2 j).length := by rw [hl2]; kernel_rfl
            have hu := Try.underlying25
            have j1 : (0 : Int) ≤ (j : Int) := by omega
            have j2 : (j : Int) < (a.parts.length : Int) := by omega
            have j3 : (j : Int) < (b.parts.length : Int) := by omega
            clear hc1 hc2 hr1 hr2 HP1 HP2 GS GS2
            generalize a.parts[j] = s1 at *
            generalize b.parts[j] = s2 at *
            generalize C j = e1 at *
            generalize C2 j = e2 at *
            cases hss : eqB s1 s2
            all_goals
              have HSS := hide hss
              rw [hss] at HC
              clear hss
              have HC2c := hide (And.intro c2 c3)
              go_wp2_with fail
              refine wp_region_held_drew (S := fun w' => Below wo.heap.size wo w') (by kernel_rfl) (Below.refl _ _).drew (fun hHeld => ?_)
              (refine takeH (i := 0) (v := .pointer (some ⟨w.heap.size, 2, none⟩)) rfl rfl (by kernel_rfl) (by kernel_rfl) (by kernel_rfl) (fun _ _ _ h => h) (by rfl) (fun wz hSw => by go_simp) hHeld ?_; simp only [Act.put, List.setIfInBounds_toArray, List.set_cons_zero, List.set_cons_succ])
              (refine takeH (i := 1) (v := .slice (some ⟨x, o, none⟩) a.parts.length cp) rfl rfl (by kernel_rfl) (by kernel_rfl) (by kernel_rfl) (fun _ _ _ h => h) (by rfl) (fun wz hSw => by have hcx := (hSw.cell (p := ⟨w.heap.size, 2, none⟩) G2.out.lt).trans HC2c.out.1; go_simp) hHeld ?_; simp only [Act.put, List.setIfInBounds_toArray, List.set_cons_zero, List.set_cons_succ])
              (refine takeH (i := 2) (v := .int .i64 j) rfl rfl (by kernel_rfl) (by kernel_rfl) (by kernel_rfl) (fun _ _ _ h => h) (by rfl) (fun wz hSw => by go_simp) hHeld ?_; simp only [Act.put, List.setIfInBounds_toArray, List.set_cons_zero, List.set_cons_succ])
              (refine takeH (i := 3) (v := .pointer (some ⟨x, o + j * 3, none⟩)) rfl rfl (by kernel_rfl) (by kernel_rfl) (by kernel_rfl) (fun _ _ _ h => h) (by rfl) (fun wz hSw => by go_simp) hHeld ?_; simp only [Act.put, List.setIfInBounds_toArray, List.set_cons_zero, List.set_cons_succ])
              (refine takeH (i := 4) (v := .agg (e1).toArray) rfl rfl (by kernel_rfl) (by kernel_rfl) (by kernel_rfl) (fun _ _ _ h => h) (by rfl) (fun wz hw => load_exec 25 (.tmp 58) rfl (x) (o + j * 3) rfl (e1) _ (HRW.out _ hw) hu rfl hi1) hHeld ?_; simp only [Act.put, List.setIfInBounds_toArray, List.set_cons_zero, List.set_cons_succ])
              (refine takeH (i := 5) (v := .pointer (some ⟨w.heap.size + 1, 2, none⟩)) rfl rfl (by kernel_rfl) (by kernel_rfl) (by kernel_rfl) (fun _ _ _ h => h) (by rfl) (fun wz hSw => by go_simp) hHeld ?_; simp only [Act.put, List.setIfInBounds_toArray, List.set_cons_zero, List.set_cons_succ])
              (refine takeH (i := 6) (v := .slice (some ⟨x2, o2, none⟩) b.parts.length cp2) rfl rfl (by kernel_rfl) (by kernel_rfl) (by kernel_rfl) (fun _ _ _ h => h) (by rfl) (fun wz hSw => by have hcx := (hSw.cell (p := ⟨w.heap.size + 1, 2, none⟩) G3.out.lt).trans HC2c.out.2; go_simp) hHeld ?_; simp only [Act.put, List.setIfInBounds_toArray, List.set_cons_zero, List.set_cons_succ])
              (refine takeH (i := 7) (v := .int .i64 j) rfl rfl (by kernel_rfl) (by kernel_rfl) (by kernel_rfl) (fun _ _ _ h => h) (by rfl) (fun wz hSw => by go_simp) hHeld ?_; simp only [Act.put, List.setIfInBounds_toArray, List.set_cons_zero, List.set_cons_succ])
              (refine takeH (i := 8) (v := .pointer (some ⟨x2, o2 + j * 3, none⟩)) rfl rfl (by kernel_rfl) (by kernel_rfl) (by kernel_rfl) (fun _ _ _ h => h) (by rfl) (fun wz hSw => by go_simp) hHeld ?_; simp only [Act.put, List.setIfInBounds_toArray, List.set_cons_zero, List.set_cons_succ])
              (refine takeH (i := 9) (v := .agg (e2).toArray) rfl rfl (by kernel_rfl) (by kernel_rfl) (by kernel_rfl) (fun _ _ _ h => h) (by rfl) (fun wz hw => load_exec 25 (.tmp 63) rfl (x2) (o2 + j * 3) rfl (e2) _ (HRW2.out _ hw) hu rfl hi2) hHeld ?_; simp only [Act.put, List.setIfInBounds_toArray, List.set_cons_zero, List.set_cons_succ])
              (refine oneH (i := 10) rfl (by kernel_rfl) (fun K hK => ?_); go_simp; refine (HC.out _ hHeld).mono ?_; rintro e w1 ⟨rfl, hb1⟩; have hq := hHeld.trans (hb1.mono hHeld.size); refine hK.out _ _ (hq) (fun hHeld => ?_); clear hK K)
              (refine oneH (i := 11) rfl (by kernel_rfl) (fun K hK => ?_); go_simp; refine hK.out _ _ (hq) (fun hHeld => ?_); clear hK K)
              refine wpAnyH_done (by kernel_rfl) ?_ _
              have K2 := hide (G2.out.below hq G2.out.lt)
              have K3 := hide (G3.out.below hq G3.out.lt)
              have KW := hide (GW.out.trans (hq.mono GW.out.size))
              clear hHeld hb1 hq hu hi1 hi2
            · go_wp2
              go_ret
              exact ⟨ret_eq (by rw [HD.out (fun e => by rw [eqB_true e] at HSS; cases HSS.out)]; rfl), KW.out⟩
            · go_wp2_with fail
              exact ⟨⟨j + 1, by go_num, by omega, HT.out (eqB_iff.1 HSS.out), K2.out, K3.out, KW.out⟩, by simp [intOf]; omega⟩
          · have HE : Hid (eqB a b = true) := hide (by
              have := GE.out
              rw [List.take_of_length_le (by omega), List.take_of_length_le (by rw [← H3.out]; omega)] at this
              rw [HEW.out, eqB_true this])
            go_wp2
            go_ret
            exact ⟨ret_eq (by rw [HE.out]; rfl), GW.out⟩
end Go.Proofs.Ytpnjkebjdclkfaa

/- Values, walked: the document's Same. Conditions: none. -/
namespace Go.Proofs.Ytpnjkebjdclkfaa
open Go.RowKit

set_option maxHeartbeats 4000000 in
set_option maxRecDepth 20000 in
theorem refValSame_calls (k : Nat) : ∀ (a b : DVal) (cs ds : List Value) (w : World), a.depth ≤ k → IsVal w (· < w.heap.size) a cs → IsVal w (· < w.heap.size) b ds →
    Calls Try.prog 21 #[.agg cs.toArray, .agg ds.toArray] w (Gives (.bool (eqB a b)) w) := by
  induction k with
  | zero => intro a b cs ds w h; have := a.depth_pos; omega
  | succ k ih =>
    intro a b cs ds w hk ha hb
    obtain ⟨hk1, hki⟩ := ha.kind_
    obtain ⟨hk2, hki2⟩ := hb.kind_
    obtain ⟨hn1, hni⟩ := ha.n_
    obtain ⟨hn2, hni2⟩ := hb.n_
    obtain ⟨hs1, hsl⟩ := ha.s_
    obtain ⟨hs2, hsl2⟩ := hb.s_
    obtain ⟨Aw, cw, hw1, hwr, hwz, hwc, hwm⟩ := ha.names_
    obtain ⟨Aw2, cw2, hw2, hwr2, hwz2, hwc2, hwm2⟩ := hb.names_
    obtain ⟨Ai, ci, hi1, hir, hiz, hic, him⟩ := ha.ids_
    obtain ⟨Ai2, ci2, hi2, hir2, hiz2, hic2, him2⟩ := hb.ids_
    obtain ⟨Ap, cp, C, hp1, hpc, hpm, hP, hA⟩ := ha.partsF
    obtain ⟨Ap2, cp2, C2, hp2, hpc2, hpm2, hP2, hA2⟩ := hb.partsF
    have HW0 := hide (((Below.refl w.heap.size w).alloc (Nat.le_refl _) (.cells cs.toArray 31)).alloc (by simp) (.cells ds.toArray 31))
    have HX2 := hide ((Blk.new w 31 cs.toArray).alloc (.cells ds.toArray 31))
    have HX3 := hide (Blk.new2 w (.cells cs.toArray 31) 31 ds.toArray)
    have HWR := hide (And.intro hwr hwr2)
    have HIR := hide (And.intro hir hir2)
    have HPP := hide (And.intro hA hA2)
    have HIS := hide (And.intro hP hP2)
    have HIU := hide (And.intro hiz hiz2)
    have HI := hide ih
    have HDP := hide (fun p (h : p ∈ a.parts) => DVal.depth_part h)
    clear ih ha hb hA hA2 hP hP2 hwr hwr2 hwz hwz2 hir hir2 hiz hiz2
    by_cases h1 : a.kind = b.kind
    case neg =>
      have hkk : (a.kind != b.kind) = true := by simp; omega
      have HF : Hid (eqB a b = false) := hide (eqB_false fun e => h1 (by rw [e]))
      clear h1
      go_enter Try.func21, Try.ntmps21
      go_wp2
      go_ret
      exact ⟨ret_eq (by rw [HF.out]; rfl), HW0.out⟩
    have hne1 : (a.kind != b.kind) = false := by simp [h1]
    have H1 := hide h1
    clear h1
    by_cases h2 : a.n = b.n
    case neg =>
      have hkk : (a.n != b.n) = true := by simp; omega
      have HF : Hid (eqB a b = false) := hide (eqB_false fun e => h2 (by rw [e]))
      clear h2
      go_enter Try.func21, Try.ntmps21
      go_wp2
      go_ret
      exact ⟨ret_eq (by rw [HF.out]; rfl), HW0.out⟩
    have hne2 : (a.n != b.n) = false := by simp [h2]
    have H2 := hide h2
    clear h2
    by_cases h3 : a.s = b.s
    case neg =>
      have hkk : (a.s != b.s) = true := by simpa using h3
      have hkk2 : (a.s == b.s) = false := by simpa using h3
      have HF : Hid (eqB a b = false) := hide (eqB_false fun e => h3 (by rw [e]))
      clear h3
      go_enter Try.func21, Try.ntmps21
      go_wp2
      go_ret
      exact ⟨ret_eq (by rw [HF.out]; rfl), HW0.out⟩
    have hne3 : (a.s != b.s) = false := by simp [h3]
    have H3 := hide h3
    clear h3
    by_cases h4 : a.names.length = b.names.length
    case neg =>
      have hkk : ((a.names.length : Int) != (b.names.length : Int)) = true := by simp; omega
      have HF : Hid (eqB a b = false) := hide (eqB_false fun e => h4 (by rw [e]))
      clear h4
      go_enter Try.func21, Try.ntmps21
      go_wp2
      go_ret
      exact ⟨ret_eq (by rw [HF.out]; rfl), HW0.out⟩
    have hne4 : ((a.names.length : Int) != (b.names.length : Int)) = false := by simp [h4]
    have H4 := hide h4
    clear h4
    by_cases h5 : a.ids.length = b.ids.length
    case neg =>
      have hkk : ((a.ids.length : Int) != (b.ids.length : Int)) = true := by simp; omega
      have HF : Hid (eqB a b = false) := hide (eqB_false fun e => h5 (by rw [e]))
      clear h5
      go_enter Try.func21, Try.ntmps21
      go_wp2
      go_ret
      exact ⟨ret_eq (by rw [HF.out]; rfl), HW0.out⟩
    have hne5 : ((a.ids.length : Int) != (b.ids.length : Int)) = false := by simp [h5]
    have H5 := hide h5
    clear h5
    by_cases h6 : a.parts.length = b.parts.length
    case neg =>
      have hkk : ((a.parts.length : Int) != (b.parts.length : Int)) = true := by simp; omega
      have HF : Hid (eqB a b = false) := hide (eqB_false fun e => h6 (by rw [e]))
      clear h6
      go_enter Try.func21, Try.ntmps21
      go_wp2
      go_ret
      exact ⟨ret_eq (by rw [HF.out]; rfl), HW0.out⟩
    have hne6 : ((a.parts.length : Int) != (b.parts.length : Int)) = false := by simp [h6]
    have H6 := hide h6
    clear h6
    go_enter Try.func21, Try.ntmps21
    go_wp2_with fail
    go_loopw [5] (fun i wr => ∃ (j : Nat), i = .int .i64 j ∧ j ≤ a.names.length ∧ a.names.take j = b.names.take j ∧ Blk wr w.heap.size 31 cs.toArray ∧ Blk wr (w.heap.size + 1) 31 ds.toArray ∧ Below w.heap.size w wr) (fun i _ => a.names.length - (intOf i).toNat)
    case atStart => exact ⟨0, rfl, Nat.zero_le _, by simp, HX2.out, HX3.out, HW0.out⟩
    case round =>
      clear HX2 HX3 HW0
      obtain ⟨j, rfl, hj, heq, hb2, hb3, hw⟩ := hrel
      have GE := hide heq
      have G2 := hide hb2
      have G3 := hide hb3
      have GW := hide hw
      clear heq hb2 hb3 hw
      obtain ⟨wo, rfl⟩ : ∃ wo : World, wo = wr := ⟨_, rfl⟩
      have c2 : wo.cell? ⟨w.heap.size, 3, none⟩ = some (.slice Aw a.names.length cw) := by rw [G2.out.cell]; simpa using hw1
      have c3 : wo.cell? ⟨w.heap.size + 1, 3, none⟩ = some (.slice Aw2 b.names.length cw2) := by rw [G3.out.cell]; simpa using hw2
      by_cases hlt : j < a.names.length
      · have hlt2 : j < b.names.length := by rw [← H4.out]; exact hlt
        obtain ⟨x, o, rfl, hx, hc1⟩ := HWR.out.1.at_ hlt
        obtain ⟨x2, o2, rfl, hx2, hc2⟩ := HWR.out.2.at_ hlt2
        have d1 : wo.cell? ⟨x, o + j, none⟩ = some (sv a.names[j]) := (GW.out.cell (p := ⟨x, o + j, none⟩) hx).trans hc1
        have d2 : wo.cell? ⟨x2, o2 + j, none⟩ = some (sv b.names[j]) := (GW.out.cell (p := ⟨x2, o2 + j, none⟩) hx2).trans hc2
        have HT : Hid (a.names[j] = b.names[j] → a.names.take (j + 1) = b.names.take (j + 1)) := hide fun e => by rw [List.take_succ_eq_append_getElem hlt, List.take_succ_eq_append_getElem hlt2, GE.out, e]
        have HD : Hid (a.names[j] ≠ b.names[j] → eqB a b = false) := hide fun e => eqB_false fun h => e (by simp only [h])
        have j1 : (0 : Int) ≤ (j : Int) := by omega
        have j2 : (j : Int) < (a.names.length : Int) := by omega
        have j3 : (j : Int) < (b.names.length : Int) := by omega
        clear hc1 hc2
        generalize a.names[j] = s1 at *
        generalize b.names[j] = s2 at *
        cases hss : (s1 == s2)
        · have HSS := hide hss
          go_wp2_with fail
          go_quiet (fail)
          go_wp2
          go_ret
          exact ⟨ret_eq (by rw [HD.out (by simpa using HSS.out)]; rfl), below_drewN GW.out _⟩
        · have HSS := hide hss
          go_wp2_with fail
          go_quiet (fail)
          go_wp2_with fail
          exact ⟨⟨j + 1, by go_num, by omega, HT.out (by simpa using HSS.out), G2.out.drewN _, G3.out.drewN _, below_drewN GW.out _⟩, by simp [intOf]; omega⟩
      · have HEN : Hid (a.names = b.names) := hide (by
          have := GE.out
          rw [List.take_of_length_le (by omega), List.take_of_length_le (by rw [← H4.out]; omega)] at this
          exact this)
        clear GE
        have e2 : wo.cell? ⟨w.heap.size, 4, none⟩ = some (.slice Ai a.ids.length ci) := by rw [G2.out.cell]; simpa using hi1
        have e3 : wo.cell? ⟨w.heap.size + 1, 4, none⟩ = some (.slice Ai2 b.ids.length ci2) := by rw [G3.out.cell]; simpa using hi2
        go_wp2_with fail
        go_loopw [6] (fun i wr => ∃ (j : Nat), i = .int .i64 j ∧ j ≤ a.ids.length ∧ a.ids.take j = b.ids.take j ∧ Blk wr w.heap.size 31 cs.toArray ∧ Blk wr (w.heap.size + 1) 31 ds.toArray ∧ Below w.heap.size w wr) (fun i _ => a.ids.length - (intOf i).toNat)
        case atStart => exact ⟨0, rfl, Nat.zero_le _, by simp, G2.out, G3.out, GW.out⟩
        case round =>
          clear c2 c3 e2 e3 G2 G3 GW
          obtain ⟨j, rfl, hj, heq, hb2, hb3, hw⟩ := hrel
          have GE := hide heq
          have G2 := hide hb2
          have G3 := hide hb3
          have GW := hide hw
          clear heq hb2 hb3 hw
          obtain ⟨wo, rfl⟩ : ∃ wo : World, wo = wr := ⟨_, rfl⟩
          have c2 : wo.cell? ⟨w.heap.size, 4, none⟩ = some (.slice Ai a.ids.length ci) := by rw [G2.out.cell]; simpa using hi1
          have c3 : wo.cell? ⟨w.heap.size + 1, 4, none⟩ = some (.slice Ai2 b.ids.length ci2) := by rw [G3.out.cell]; simpa using hi2
          by_cases hlt : j < a.ids.length
          · have hlt2 : j < b.ids.length := by rw [← H5.out]; exact hlt
            obtain ⟨x, o, rfl, hx, hc1⟩ := HIR.out.1.at_ hlt
            obtain ⟨x2, o2, rfl, hx2, hc2⟩ := HIR.out.2.at_ hlt2
            have d1 : wo.cell? ⟨x, o + j, none⟩ = some (uv a.ids[j]) := (GW.out.cell (p := ⟨x, o + j, none⟩) hx).trans hc1
            have d2 : wo.cell? ⟨x2, o2 + j, none⟩ = some (uv b.ids[j]) := (GW.out.cell (p := ⟨x2, o2 + j, none⟩) hx2).trans hc2
            have HT : Hid (a.ids[j] = b.ids[j] → a.ids.take (j + 1) = b.ids.take (j + 1)) := hide fun e => by rw [List.take_succ_eq_append_getElem hlt, List.take_succ_eq_append_getElem hlt2, GE.out, e]
            have HD : Hid (a.ids[j] ≠ b.ids[j] → eqB a b = false) := hide fun e => eqB_false fun h => e (by simp only [h])
            have j1 : (0 : Int) ≤ (j : Int) := by omega
            have j2 : (j : Int) < (a.ids.length : Int) := by omega
            have j3 : (j : Int) < (b.ids.length : Int) := by omega
            clear hc1 hc2
            generalize a.ids[j] = s1 at *
            generalize b.ids[j] = s2 at *
            unfold uv at d1 d2
            by_cases hss : s1 = s2
            · have hsb : ((s1 : Int) != (s2 : Int)) = false := by simp [hss]
              have HSS := hide hss
              clear hss
              go_wp2_with fail
              go_quiet (fail)
              go_wp2_with fail
              exact ⟨⟨j + 1, by go_num, by omega, HT.out HSS.out, G2.out.drewN _, G3.out.drewN _, below_drewN GW.out _⟩, by simp [intOf]; omega⟩
            · have hsb : ((s1 : Int) != (s2 : Int)) = true := by simp; omega
              have HSS := hide hss
              clear hss
              go_wp2_with fail
              go_quiet (fail)
              go_wp2
              go_ret
              exact ⟨ret_eq (by rw [HD.out HSS.out]; rfl), below_drewN GW.out _⟩
          · have HEI : Hid (a.ids = b.ids) := hide (by
              have := GE.out
              rw [List.take_of_length_le (by omega), List.take_of_length_le (by rw [← H5.out]; omega)] at this
              exact this)
            clear GE
            have e2 : wo.cell? ⟨w.heap.size, 5, none⟩ = some (.slice Ap a.parts.length cp) := by rw [G2.out.cell]; simpa using hp1
            have e3 : wo.cell? ⟨w.heap.size + 1, 5, none⟩ = some (.slice Ap2 b.parts.length cp2) := by rw [G3.out.cell]; simpa using hp2
            go_wp2_with fail
            go_loopw [7] (fun i wr => ∃ (j : Nat), i = .int .i64 j ∧ j ≤ a.parts.length ∧ a.parts.take j = b.parts.take j ∧ Blk wr w.heap.size 31 cs.toArray ∧ Blk wr (w.heap.size + 1) 31 ds.toArray ∧ Below w.heap.size w wr) (fun i _ => a.parts.length - (intOf i).toNat)
            case atStart => exact ⟨0, rfl, Nat.zero_le _, by simp, G2.out, G3.out, GW.out⟩
            case round =>
              clear c2 c3 e2 e3 G2 G3 GW
              obtain ⟨j, rfl, hj, heq, hb2, hb3, hw⟩ := hrel
              have GE := hide heq
              have G2 := hide hb2
              have G3 := hide hb3
              have GW := hide hw
              clear heq hb2 hb3 hw
              obtain ⟨wo, rfl⟩ : ∃ wo : World, wo = wr := ⟨_, rfl⟩
              have c2 : wo.cell? ⟨w.heap.size, 5, none⟩ = some (.slice Ap a.parts.length cp) := by rw [G2.out.cell]; simpa using hp1
              have c3 : wo.cell? ⟨w.heap.size + 1, 5, none⟩ = some (.slice Ap2 b.parts.length cp2) := by rw [G3.out.cell]; simpa using hp2
              by_cases hlt : j < a.parts.length
              · have hlt2 : j < b.parts.length := by rw [← H6.out]; exact hlt
                obtain ⟨x, o, rfl, hx, hc1⟩ := HPP.out.1 (by omega)
                obtain ⟨x2, o2, rfl, hx2, hc2⟩ := HPP.out.2 (by omega)
                obtain ⟨hl1, hr1⟩ := hc1 j hlt
                obtain ⟨hl2, hr2⟩ := hc2 j hlt2
                have GS := hide (List.getElem?_eq_getElem hlt)
                have GS2 := hide (List.getElem?_eq_getElem hlt2)
                have HP1 := hide (HIS.out.1 j _ GS.out)
                have HP2 := hide (HIS.out.2 j _ GS2.out)
                have HRW : Hid (∀ W, Below wo.heap.size wo W → W.rangeAt x (o + j * 6) (C j)) := hide fun W hW q v hv => (hW.cell (p := ⟨x, o + j * 6 + q, none⟩) (Nat.lt_of_lt_of_le hx GW.out.size)).trans ((GW.out.cell (p := ⟨x, o + j * 6 + q, none⟩) hx).trans (hr1 q v hv))
                have HRW2 : Hid (∀ W, Below wo.heap.size wo W → W.rangeAt x2 (o2 + j * 6) (C2 j)) := hide fun W hW q v hv => (hW.cell (p := ⟨x2, o2 + j * 6 + q, none⟩) (Nat.lt_of_lt_of_le hx2 GW.out.size)).trans ((GW.out.cell (p := ⟨x2, o2 + j * 6 + q, none⟩) hx2).trans (hr2 q v hv))
                have hpd := HDP.out _ (List.getElem_mem hlt)
                have HC := hide (fun (W : World) (hW : Below wo.heap.size wo W) => HI.out a.parts[j] b.parts[j] (C j) (C2 j) W (by omega) (HP1.out.more (GW.out.trans (hW.mono GW.out.size))) (HP2.out.more (GW.out.trans (hW.mono GW.out.size))))
                have HT : Hid (a.parts[j] = b.parts[j] → a.parts.take (j + 1) = b.parts.take (j + 1)) := hide fun e => by rw [List.take_succ_eq_append_getElem hlt, List.take_succ_eq_append_getElem hlt2, GE.out, e]
                have HD : Hid (a.parts[j] ≠ b.parts[j] → eqB a b = false) := hide fun e => by
                  refine eqB_false fun h => e ?_
                  simp only [h]
                have hi1 : (Try.prog.info? 31).map (·.size) = some (C j).length := by rw [hl1]; kernel_rfl
                have hi2 : (Try.prog.info? 31).map (·.size) = some (C2 j).length := by rw [hl2]; kernel_rfl
                have hu := Try.underlying31
                have j1 : (0 : Int) ≤ (j : Int) := by omega
                have j2 : (j : Int) < (a.parts.length : Int) := by omega
                have j3 : (j : Int) < (b.parts.length : Int) := by omega
                clear hc1 hc2 hr1 hr2 HP1 HP2 GS GS2
                generalize a.parts[j] = s1 at *
                generalize b.parts[j] = s2 at *
                generalize C j = e1 at *
                generalize C2 j = e2 at *
                cases hss : eqB s1 s2
                all_goals
                  have HSS := hide hss
                  rw [hss] at HC
                  clear hss
                  have HC2c := hide (And.intro c2 c3)
                  go_wp2_with fail
                  refine wp_region_held_drew (S := fun w' => Below wo.heap.size wo w') (by kernel_rfl) (Below.refl _ _).drew (fun hHeld => ?_)
                  (refine takeH (i := 0) (v := .pointer (some ⟨w.heap.size, 5, none⟩)) rfl rfl (by kernel_rfl) (by kernel_rfl) (by kernel_rfl) (fun _ _ _ h => h) (by rfl) (fun wz hSw => by go_simp) hHeld ?_; simp only [Act.put, List.setIfInBounds_toArray, List.set_cons_zero, List.set_cons_succ])
                  (refine takeH (i := 1) (v := .slice (some ⟨x, o, none⟩) a.parts.length cp) rfl rfl (by kernel_rfl) (by kernel_rfl) (by kernel_rfl) (fun _ _ _ h => h) (by rfl) (fun wz hSw => by have hcx := (hSw.cell (p := ⟨w.heap.size, 5, none⟩) G2.out.lt).trans HC2c.out.1; go_simp) hHeld ?_; simp only [Act.put, List.setIfInBounds_toArray, List.set_cons_zero, List.set_cons_succ])
                  (refine takeH (i := 2) (v := .int .i64 j) rfl rfl (by kernel_rfl) (by kernel_rfl) (by kernel_rfl) (fun _ _ _ h => h) (by rfl) (fun wz hSw => by go_simp) hHeld ?_; simp only [Act.put, List.setIfInBounds_toArray, List.set_cons_zero, List.set_cons_succ])
                  (refine takeH (i := 3) (v := .pointer (some ⟨x, o + j * 6, none⟩)) rfl rfl (by kernel_rfl) (by kernel_rfl) (by kernel_rfl) (fun _ _ _ h => h) (by rfl) (fun wz hSw => by go_simp) hHeld ?_; simp only [Act.put, List.setIfInBounds_toArray, List.set_cons_zero, List.set_cons_succ])
                  (refine takeH (i := 4) (v := .agg (e1).toArray) rfl rfl (by kernel_rfl) (by kernel_rfl) (by kernel_rfl) (fun _ _ _ h => h) (by rfl) (fun wz hw => load_exec 31 (.tmp 100) rfl (x) (o + j * 6) rfl (e1) _ (HRW.out _ hw) hu rfl hi1) hHeld ?_; simp only [Act.put, List.setIfInBounds_toArray, List.set_cons_zero, List.set_cons_succ])
                  (refine takeH (i := 5) (v := .pointer (some ⟨w.heap.size + 1, 5, none⟩)) rfl rfl (by kernel_rfl) (by kernel_rfl) (by kernel_rfl) (fun _ _ _ h => h) (by rfl) (fun wz hSw => by go_simp) hHeld ?_; simp only [Act.put, List.setIfInBounds_toArray, List.set_cons_zero, List.set_cons_succ])
                  (refine takeH (i := 6) (v := .slice (some ⟨x2, o2, none⟩) b.parts.length cp2) rfl rfl (by kernel_rfl) (by kernel_rfl) (by kernel_rfl) (fun _ _ _ h => h) (by rfl) (fun wz hSw => by have hcx := (hSw.cell (p := ⟨w.heap.size + 1, 5, none⟩) G3.out.lt).trans HC2c.out.2; go_simp) hHeld ?_; simp only [Act.put, List.setIfInBounds_toArray, List.set_cons_zero, List.set_cons_succ])
                  (refine takeH (i := 7) (v := .int .i64 j) rfl rfl (by kernel_rfl) (by kernel_rfl) (by kernel_rfl) (fun _ _ _ h => h) (by rfl) (fun wz hSw => by go_simp) hHeld ?_; simp only [Act.put, List.setIfInBounds_toArray, List.set_cons_zero, List.set_cons_succ])
                  (refine takeH (i := 8) (v := .pointer (some ⟨x2, o2 + j * 6, none⟩)) rfl rfl (by kernel_rfl) (by kernel_rfl) (by kernel_rfl) (fun _ _ _ h => h) (by rfl) (fun wz hSw => by go_simp) hHeld ?_; simp only [Act.put, List.setIfInBounds_toArray, List.set_cons_zero, List.set_cons_succ])
                  (refine takeH (i := 9) (v := .agg (e2).toArray) rfl rfl (by kernel_rfl) (by kernel_rfl) (by kernel_rfl) (fun _ _ _ h => h) (by rfl) (fun wz hw => load_exec 31 (.tmp 105) rfl (x2) (o2 + j * 6) rfl (e2) _ (HRW2.out _ hw) hu rfl hi2) hHeld ?_; simp only [Act.put, List.setIfInBounds_toArray, List.set_cons_zero, List.set_cons_succ])
                  (refine oneH (i := 10) rfl (by kernel_rfl) (fun K hK => ?_); go_simp; refine (HC.out _ hHeld).mono ?_; rintro e w1 ⟨rfl, hb1⟩; have hq := hHeld.trans (hb1.mono hHeld.size); refine hK.out _ _ (hq) (fun hHeld => ?_); clear hK K)
                  (refine oneH (i := 11) rfl (by kernel_rfl) (fun K hK => ?_); go_simp; refine hK.out _ _ (hq) (fun hHeld => ?_); clear hK K)
                  refine wpAnyH_done (by kernel_rfl) ?_ _
                  have K2 := hide (G2.out.below hq G2.out.lt)
                  have K3 := hide (G3.out.below hq G3.out.lt)
                  have KW := hide (GW.out.trans (hq.mono GW.out.size))
                  clear hHeld hb1 hq hu hi1 hi2
                · go_wp2
                  go_ret
                  exact ⟨ret_eq (by rw [HD.out (fun e => by rw [eqB_true e] at HSS; cases HSS.out)]; rfl), KW.out⟩
                · go_wp2_with fail
                  exact ⟨⟨j + 1, by go_num, by omega, HT.out (eqB_iff.1 HSS.out), K2.out, K3.out, KW.out⟩, by simp [intOf]; omega⟩
              · have HE : Hid (eqB a b = true) := hide (by
                  have := GE.out
                  rw [List.take_of_length_le (by omega), List.take_of_length_le (by rw [← H6.out]; omega)] at this
                  exact eqB_true ((DVal.ext_iff' a b).2 ⟨H1.out, H2.out, H3.out, HEN.out, HEI.out, this⟩))
                go_wp2
                go_ret
                exact ⟨ret_eq (by rw [HE.out]; rfl), GW.out⟩
end Go.Proofs.Ytpnjkebjdclkfaa

/- Schemas, walked: the program's default; the document's Right. Conditions: none. -/
namespace Go.Proofs.Ytpnjkebjdclkfaa
open Go.RowKit

def zeroV : DVal := .mk 0 0 [] [] [] []
theorem zero_is (w : World) (F : Nat → Prop) : IsVal w F zeroV [.int .i64 0, .int .i64 0, sv [], .slice none 0 0, .slice none 0 0, .slice none 0 0] :=
  .mk (b := 0) (o := 0) (C := fun _ => []) (WalkArith.wf_i64 (by omega)) (WalkArith.wf_i64 (by omega)) (by simp) RF.nil (fun _ h => by cases h) (Nat.le_refl _) (Nat.zero_le _) RF.nil (fun _ h => by cases h) (Nat.le_refl _) (Nat.zero_le _) (fun h => absurd h (by simp)) (fun i p hp => by simp at hp) (fun i p hp => by simp at hp) (Nat.le_refl _) (Nat.zero_le _)

set_option maxHeartbeats 1000000 in
set_option maxRecDepth 20000 in
theorem schDefault_calls (k : Nat) (s : DSch) (cs : List Value) (w : World) (hk : s.depth ≤ k) (hw : s.weight ≤ 1000000) (hok : rightS 5 s = true → DefOk k s) (hs : IsSch w (· < w.heap.size) s cs) :
    Calls Try.prog 22 #[.agg cs.toArray] w (NewVal (if rightS 5 s then defV k s else zeroV) w) := by
  have HW0 := hide (((Below.refl w.heap.size w).alloc (Nat.le_refl _) (.cells cs.toArray 25)).alloc (by simp) (.cells #[.int .i64 0, .int .i64 0, sv [], .slice none 0 0, .slice none 0 0, .slice none 0 0] 31))
  have HX := hide ((Blk.new w 25 cs.toArray).alloc (.cells #[.int .i64 0, .int .i64 0, sv [], .slice none 0 0, .slice none 0 0, .slice none 0 0] 31))
  have HX2 := hide (Blk.new2 w (.cells cs.toArray 25) 31 #[.int .i64 0, .int .i64 0, sv [], .slice none 0 0, .slice none 0 0, .slice none 0 0])
  have HL := hide (show (Try.prog.info? 25).map (·.size) = some cs.toArray.size by rw [List.size_toArray, hs.length]; kernel_rfl)
  have HC := hide (schRightP_calls s cs _ (hs.more HW0.out))
  have HS := hide hs
  have HOK := hide hok
  clear hs hok
  cases hr : rightS 5 s
  all_goals
    rw [hr] at HC
    have HR := hide hr
    clear hr
    go_enter Try.func22, Try.ntmps22
    go_wp2_with (first | (refine wpList_load_blk rfl 25 _ rfl _ rfl _ _ HX.out _ rfl rfl HL.out ?_) | fail)
    refine HC.out.mono ?_
    rintro e w1 ⟨rfl, hb1⟩
    have hsz := HX2.out.lt
    have K1 := hide (HX.out.below hb1 (by simp; omega))
    have K2 := hide (HX2.out.below hb1 hsz)
    have KW := hide (HW0.out.trans (hb1.mono HW0.out.size))
    clear hb1 HX HX2 HW0 HC
  · go_wp2_with (first
      | (refine wpList_store_blk rfl 31 _ _ rfl _ rfl #[.int .i64 0, .int .i64 0, sv [], .slice none 0 0, .slice none 0 0, .slice none 0 0] rfl _ _ (K2.out) (by rfl) info_val (by simp [Value.oneCell']) ?_; intro wf hbf hff; have HBF := hide hbf; have HFF := hide hff; clear hbf hff)
      | fail)
    refine bodyPost_ret (results_cell_row rfl _ _ (w.heap.size + 1) 31 #[.int .i64 0, .int .i64 0, sv [], .slice none 0 0, .slice none 0 0, .slice none 0 0] (0, 0) _ rfl HBF.out rfl rfl info_val) rfl ?_
    exact ⟨_, rfl, zero_is _ _, KW.out.trans (HFF.out.below KW.out.size fun x hx h => by omega)⟩
  · have HC2 := hide (schFirst_calls k s cs w1 hk hw (HOK.out HR.out) (HS.out.more KW.out))
    go_wp2_with (first | (refine wpList_load_blk rfl 25 _ rfl _ rfl _ _ K1.out _ rfl rfl HL.out ?_) | fail)
    refine HC2.out.mono ?_
    rintro e w2 ⟨ds, rfl, hv, hb2⟩
    have hs1 := K2.out.lt
    have K3 := hide (K2.out.below hb2 hs1)
    have KW2 := hide (KW.out.trans (hb2.mono KW.out.size))
    have HV := hide hv
    have HB2 := hide hb2
    have hl6 := hv.length
    have hone := hv.one
    have HLO := hide (And.intro hl6 hone)
    clear hv hb2 hl6 hone HC2
    go_wp2_with (first
      | (refine wpList_store_blk rfl 31 _ _ rfl _ rfl ds.toArray rfl _ _ (K3.out) (by simp [HLO.out.1]) (by rw [List.size_toArray, HLO.out.1]; exact info_val) (by simpa using HLO.out.2) ?_; intro wf hbf hff; have HBF := hide hbf; have HFF := hide hff; clear hbf hff)
      | fail)
    refine bodyPost_ret (results_cell_row rfl _ _ (w.heap.size + 1) 31 ds.toArray (0, 0) _ rfl HBF.out rfl rfl (by rw [List.size_toArray, HLO.out.1]; exact info_val)) rfl ?_
    have hs2 := KW.out.size
    have hs3 := HFF.out.size
    exact ⟨_, rfl, (HV.out.keep fun q hq => HFF.out.cell hq.2 (by have := hq.1; omega)).mono fun b hb => by omega, KW2.out.trans (HFF.out.below KW2.out.size fun x hx h => by omega)⟩

set_option maxHeartbeats 1000000 in
set_option maxRecDepth 20000 in
theorem refRight_calls (k : Nat) (s : DSch) (cs : List Value) (w : World) (hk : s.depth ≤ k) (hkk : k ≤ 1000000) (hs : IsSch w (· < w.heap.size) s cs) :
    Calls Try.prog 13 #[.agg cs.toArray] w (Gives (.bool (rightS 5 s)) w) := by
  have HW0 := hide ((Below.refl w.heap.size w).alloc (Nat.le_refl _) (.cells cs.toArray 25))
  have HX := hide (Blk.new w 25 cs.toArray)
  have HL := hide (show (Try.prog.info? 25).map (·.size) = some cs.toArray.size by rw [List.size_toArray, hs.length]; kernel_rfl)
  have HC := hide (refSchDepth_calls k s cs _ hk hkk (hs.more HW0.out))
  have HS := hide hs
  have HR := hide (right_sound 5 s k hk)
  clear hs
  by_cases h5 : s.depth ≤ 5
  case neg =>
    have e5 : ¬ ((s.depth : Int) ≤ 5) := by omega
    rw [decide_eq_false h5, Bool.false_and] at HR
    go_enter Try.func13, Try.ntmps13
    go_wp2_with (first | (refine wpList_load_blk rfl 25 _ rfl _ rfl _ _ HX.out _ rfl rfl HL.out ?_) | fail)
    refine HC.out.mono ?_
    rintro e w1 ⟨rfl, hb1⟩
    have KW := hide (HW0.out.trans (hb1.mono HW0.out.size))
    clear hb1
    go_wp2
    go_ret
    exact ⟨ret_eq (by rw [HR.out]; rfl), KW.out⟩
  case pos =>
    have e5 : ((s.depth : Int) ≤ 5) := by omega
    rw [decide_eq_true h5, Bool.true_and] at HR
    go_enter Try.func13, Try.ntmps13
    go_wp2_with (first | (refine wpList_load_blk rfl 25 _ rfl _ rfl _ _ HX.out _ rfl rfl HL.out ?_) | fail)
    refine HC.out.mono ?_
    rintro e w1 ⟨rfl, hb1⟩
    have hsz := HX.out.lt
    have K1 := hide (HX.out.below hb1 hsz)
    have KW := hide (HW0.out.trans (hb1.mono HW0.out.size))
    have HC2 := hide (refSound_calls k s cs w1 hk (HS.out.more KW.out))
    clear hb1 HX HW0 HC
    go_wp2_with (first | (refine wpList_load_blkG rfl 25 _ rfl _ rfl _ _ K1.out _ rfl rfl HL.out ?_) | fail)
    refine HC2.out.mono ?_
    rintro e w2 ⟨rfl, hb2⟩
    have KW2 := hide (KW.out.trans (hb2.mono KW.out.size))
    clear hb2
    go_wp2
    go_ret
    exact ⟨ret_eq (by rw [HR.out]; rfl), KW2.out⟩
end Go.Proofs.Ytpnjkebjdclkfaa

/- Schemas, walked: the law's own example; what soundness gives the default. Conditions: none. -/
namespace Go.Proofs.Ytpnjkebjdclkfaa
open Go.RowKit

theorem defOk_sound : ∀ (k : Nat) (s : DSch), soundS k s = true → DefOk k s
  | 0, _, _ => trivial
  | k + 1, s, h => by
    unfold soundS at h
    rw [Bool.and_eq_true] at h
    obtain ⟨h1, h2⟩ := h
    unfold hereS at h1
    simp only [Bool.and_eq_true, Bool.not_eq_true', decide_eq_false_iff_not, decide_eq_true_eq] at h1
    obtain ⟨hb, hp, _⟩ := h1
    unfold badHead at hb
    unfold wantS at hp
    refine ⟨fun h4 => by omega, fun h5 => ⟨by rw [if_pos h5] at hp; exact hp, fun p hm => defOk_sound k p (List.all_eq_true.1 h2 p hm)⟩⟩

def redS : Str := [114, 101, 100]
def blueS : Str := [98, 108, 117, 101]
def exS : DSch := .mk 4 [redS, blueS] []
def exV : DVal := .mk 4 0 redS [] [] []
theorem ex_right : rightS 5 exS = true := by
  rw [right_sound 5 exS 1 (by decide +kernel)]
  decide +kernel
theorem ex_def : defV 1 exS = exV := rfl
theorem exV_is (w : World) (F : Nat → Prop) : IsVal w F exV [.int .i64 4, .int .i64 0, sv redS, .slice none 0 0, .slice none 0 0, .slice none 0 0] :=
  .mk (b := 0) (o := 0) (C := fun _ => []) (WalkArith.wf_i64 (by omega)) (WalkArith.wf_i64 (by omega)) (by decide +kernel) RF.nil (fun _ h => by cases h) (Nat.le_refl _) (Nat.zero_le _) RF.nil (fun _ h => by cases h) (Nat.le_refl _) (Nat.zero_le _) (fun h => absurd h (by simp)) (fun i p hp => by simp at hp) (fun i p hp => by simp at hp) (Nat.le_refl _) (Nat.zero_le _)
theorem exS_is {w : World} {g : Nat} (hb : Blk w g 9 #[sv redS, sv blueS]) : IsSch w (· < w.heap.size) exS [.int .i64 4, .slice (some ⟨g, 0, none⟩) 2 2, .slice none 0 0] :=
  .mk (words := [redS, blueS]) (b := 0) (o := 0) (C := fun _ => []) (WalkArith.wf_i64 (by omega)) ⟨rfl, fun _ => ⟨g, 0, rfl, hb.lt, fun j u hu => by rw [Nat.zero_add, hb.cell]; simpa using hu⟩⟩ (by decide +kernel) (by simp) (by simp) (fun h => absurd h (by simp)) (fun i p hp => by simp at hp) (fun i p hp => by simp at hp) (Nat.le_refl _) (Nat.zero_le _)

set_option maxHeartbeats 1000000 in
set_option maxRecDepth 20000 in
theorem awake09_calls (w : World) : Calls Try.prog 12 #[] w (Gives (.bool true) w) := by
  have HEX := hide ex_right
  have HL : Hid ((Try.prog.info? 25).map (·.size) = some 3) := hide (by kernel_rfl)
  go_enter Try.func12, Try.ntmps12
  go_upto_region 1 with fail
  go_cut [1] (fun p wx => p = .pointer (some ⟨w.heap.size + 1, 0, none⟩) ∧ Blk wx w.heap.size 9 #[sv redS, sv blueS] ∧ Blk wx (w.heap.size + 1) 25 #[.int .i64 4, .slice (some ⟨w.heap.size, 0, none⟩) 2 2, .slice none 0 0] ∧ Below w.heap.size w wx)
  case first =>
    go_wp2_with fail
    go_meet
    refine ⟨rfl, (Blk.new w 9 #[sv redS, sv blueS]).alloc _, Blk.new2 w _ 25 #[.int .i64 4, .slice (some ⟨w.heap.size, 0, none⟩) 2 2, .slice none 0 0], ((Below.refl w.heap.size w).alloc (Nat.le_refl _) _).alloc (by simp) _⟩
  case rest =>
    obtain ⟨rfl, h1, h2, hw⟩ := hcut
    have G1 := hide h1
    have G2 := hide h2
    have GW := hide hw
    clear h1 h2 hw
    have HC := hide (schDefault_calls 1 exS _ wc (by decide +kernel) (by decide +kernel) (fun h => defOk_sound 1 exS (by decide +kernel)) (exS_is G1.out))
    rw [ex_right, if_pos rfl, ex_def] at HC
    go_wp2_with (first | (refine wpList_load_blk rfl 25 _ rfl _ rfl _ _ G2.out _ rfl rfl HL.out ?_) | fail)
    refine HC.out.mono ?_
    rintro e w1 ⟨ds, rfl, hv, hb1⟩
    have HV := hide (hv.mono (G := fun b => b < w1.heap.size) fun b hb => hb.2)
    have K1 := hide (G1.out.below hb1 G1.out.lt)
    have K2 := hide (G2.out.below hb1 G2.out.lt)
    have KW := hide (GW.out.trans (hb1.mono GW.out.size))
    clear hb1 hv HC G1 G2 GW
    have HC := hide (refValSame_calls 1 exV exV _ _ w1 (by decide +kernel) HV.out (exV_is w1 _))
    rw [eqB_true rfl] at HC
    go_wp2_with fail
    refine HC.out.mono ?_
    rintro e w2 ⟨rfl, hb1⟩
    have M1 := hide (K1.out.below hb1 K1.out.lt)
    have M2 := hide (K2.out.below hb1 K2.out.lt)
    have MW := hide (KW.out.trans (hb1.mono KW.out.size))
    clear hb1 HC K1 K2 KW HV
    have HC := hide (schRightP_calls exS _ w2 (exS_is M1.out))
    rw [ex_right] at HC
    go_wp2_with (first | (refine wpList_load_blkG (by rfl) 25 _ rfl _ rfl _ [.int .i64 4, .slice (some ⟨w.heap.size, 0, none⟩) 2 2, .slice none 0 0] M2.out _ rfl rfl HL.out ?_) | fail)
    refine HC.out.mono ?_
    rintro e w3 ⟨rfl, hb1⟩
    have K1 := hide (M1.out.below hb1 M1.out.lt)
    have K2 := hide (M2.out.below hb1 M2.out.lt)
    have KW := hide (MW.out.trans (hb1.mono MW.out.size))
    clear hb1 HC M1 M2 MW
    have HC := hide (schScalar_calls exS _ w3 (exS_is K1.out))
    go_wp2_with (first | (refine wpList_load_blkG (by rfl) 25 _ rfl _ rfl _ [.int .i64 4, .slice (some ⟨w.heap.size, 0, none⟩) 2 2, .slice none 0 0] K2.out _ rfl rfl HL.out ?_) | fail)
    refine HC.out.mono ?_
    rintro e w4 ⟨rfl, hb1⟩
    have MW := hide (KW.out.trans (hb1.mono KW.out.size))
    clear hb1
    go_wp2
    go_ret
    exact ⟨ret_eq (by rfl), MW.out⟩
end Go.Proofs.Ytpnjkebjdclkfaa

/- Values: the plain law: the program's 'right' is the document's. Conditions: none. -/
namespace Go.Proofs.Ytpnjkebjdclkfaa
open Go.RowKit
theorem plain_hereV (v : DVal) : plainV v = hereV v := by
  unfold plainV hereV riseV idsB
  have hR0 : v.names.length = 0 → (List.range v.names.length).all (riseOk v.names) = true := fun h => by rw [h]; rfl
  have hI0 : v.ids.length = 0 → (List.range v.ids.length).all (idOk v.ids) = true := fun h => by rw [h]; rfl
  have hs : decide (v.s = []) = decide (v.s.length = 0) := by rw [decide_eq_decide, List.length_eq_zero_iff]
  rw [hs]
  have hR : (List.range v.names.length).all (riseOk v.names) = true ∨ ((List.range v.names.length).all (riseOk v.names) = false ∧ 0 < v.names.length) := by
    cases h : (List.range v.names.length).all (riseOk v.names) with
    | true => exact .inl rfl
    | false => exact .inr ⟨rfl, Nat.pos_of_ne_zero fun e => by rw [hR0 e] at h; cases h⟩
  have hI : (List.range v.ids.length).all (idOk v.ids) = true ∨ ((List.range v.ids.length).all (idOk v.ids) = false ∧ 0 < v.ids.length) := by
    cases h : (List.range v.ids.length).all (idOk v.ids) with
    | true => exact .inl rfl
    | false => exact .inr ⟨rfl, Nat.pos_of_ne_zero fun e => by rw [hI0 e] at h; cases h⟩
  clear hR0 hI0 hs
  generalize (List.range v.names.length).all (riseOk v.names) = R at *
  generalize (List.range v.ids.length).all (idOk v.ids) = J at *
  generalize nameB v.s = bn at *
  generalize v.kind = kd at *
  generalize v.n = n at *
  generalize v.s.length = xl at *
  generalize v.names.length = nn at *
  generalize v.ids.length = ni at *
  generalize v.parts.length = np at *
  have hk : kd = 1 ∨ kd = 2 ∨ kd = 3 ∨ kd = 4 ∨ kd = 5 ∨ kd = 6 ∨ (kd < 1 ∨ 6 < kd) := by omega
  rw [Bool.eq_iff_iff]
  rcases hR with rfl | ⟨rfl, hR⟩ <;> rcases hI with rfl | ⟨rfl, hI⟩ <;> cases bn <;> rcases hk with rfl | rfl | rfl | rfl | rfl | rfl | hk
  all_goals first
    | (simp only [Int.reduceEq, reduceIte, Bool.and_eq_true, decide_eq_true_eq, Bool.not_eq_true', decide_eq_false_iff_not, Bool.false_eq_true, Bool.or_eq_true, and_true, true_and, and_false, false_and, false_iff, iff_false] <;> (try simp only [bad1, bad2, Int.reduceEq, Int.reduceLT, Bool.false_eq_true, Bool.true_eq_false, and_true, and_false, true_and, false_and, false_or, or_false, true_or, or_true, ne_eq, not_true_eq_false, not_false_eq_true]) <;> omega)
    | (rw [if_neg (by omega), if_neg (by omega), if_neg (by omega), if_neg (by omega), if_neg (by omega), if_neg (by omega)]; simp only [Bool.and_eq_true, decide_eq_true_eq, Bool.not_eq_true', decide_eq_false_iff_not, Bool.false_eq_true, Bool.or_eq_true, and_true, true_and, and_false, false_and, false_iff, iff_false] <;> (try simp only [bad1, bad2, Bool.false_eq_true, Bool.true_eq_false, and_true, and_false, true_and, false_and, false_or, or_false, true_or, or_true, ne_eq, not_true_eq_false, not_false_eq_true]) <;> omega)
theorem depthsV_all (l : List DVal) (k : Nat) : DVal.depths l ≤ k ↔ ∀ p ∈ l, p.depth ≤ k := by
  induction l with
  | nil => simp [DVal.depths]
  | cons x l ih =>
    simp only [DVal.depths, List.mem_cons, forall_eq_or_imp]
    rw [← ih]; omega
theorem right_soundV (k : Nat) : ∀ (s : DVal) (m : Nat), s.depth ≤ m → rightV k s = (decide (s.depth ≤ k) && soundV m s) := by
  induction k with
  | zero => intro s m _; have := s.depth_pos; simp [rightV]; omega
  | succ k ih =>
    intro s m hm
    obtain ⟨m, rfl⟩ : ∃ n, m = n + 1 := ⟨m - 1, by have := s.depth_pos; omega⟩
    have hd := s.depth_eq
    rw [Bool.eq_iff_iff]
    simp only [rightV, soundV, Bool.and_eq_true, decide_eq_true_eq, plain_hereV, List.all_eq_true]
    have hall := depthsV_all s.parts
    constructor
    · rintro ⟨h1, h2⟩
      have h3 : ∀ p ∈ s.parts, p.depth ≤ k ∧ soundV m p = true := fun p hp => by
        have := h2 p hp
        rw [ih p m (by have := DVal.depth_part hp; omega)] at this
        simpa using this
      exact ⟨by have := (hall k).2 (fun p hp => (h3 p hp).1); omega, h1, fun p hp => (h3 p hp).2⟩
    · rintro ⟨h0, h1, h2⟩
      refine ⟨h1, fun p hp => ?_⟩
      rw [ih p m (by have := DVal.depth_part hp; omega), h2 p hp, Bool.and_true, decide_eq_true_eq]
      exact (hall k).1 (by omega) p hp
/-- A contract over memory, of a value made anew. -/
theorem dpure_of_new {P : Program} {g : FuncId} {args : List D} {d : DVal} (hent : ∀ vs w, (callFunc g vs).run P w = .ok (.enter g vs) w) (h : ∀ (w : World) (η : Names) (X : Nat → Nat → Prop) (vs : List Value), RepL P w η X args vs → Calls P g vs.toArray w (NewVal d w)) : DPure P g args (encV d) :=
  fun S _ η w vs hM hr => ⟨hent _ _, (h w η _ vs hr).mono fun _ w' ⟨cs, he, hv, hb⟩ => ⟨encV d, _, η, .agg cs.toArray, ⟨rfl, rfl⟩, he, rep_val (F := fun b => w.heap.size ≤ b ∧ b < w'.heap.size) (fun b i hF k o h1 _ => by have := (hM.in_ k b h1).2; omega) hv, goes_below hM hb⟩⟩
theorem arg_val {P : Program} {w : World} {η : Names} {X : Nat → Nat → Prop} {v : DVal} {vs : List Value} (hok : okV v) (h : RepL P w η X [encV v] vs) : ∃ cs : List Value, vs = [.agg cs.toArray] ∧ IsVal w (· < w.heap.size) v cs := by
  simp only [RepL] at h
  obtain ⟨x, xs, rfl, h1, rfl⟩ := h
  obtain ⟨cs, rfl, hv⟩ := val_of_rep v.depth v (Nat.le_refl _) hok h1
  exact ⟨cs, rfl, hv⟩
theorem arg_sch {P : Program} {w : World} {η : Names} {X : Nat → Nat → Prop} {v : DSch} {vs : List Value} (hok : okS v) (h : RepL P w η X [encS v] vs) : ∃ cs : List Value, vs = [.agg cs.toArray] ∧ IsSch w (· < w.heap.size) v cs := by
  simp only [RepL] at h
  obtain ⟨x, xs, rfl, h1, rfl⟩ := h
  obtain ⟨cs, rfl, hv⟩ := sch_of_rep v.depth v (Nat.le_refl _) hok h1
  exact ⟨cs, rfl, hv⟩
/-- A plain answer of one value. -/
theorem dpure_val {P : Program} {g : FuncId} {v : DVal} {r : Value} (hok : okV v) (hent : ∀ vs w, (callFunc g vs).run P w = .ok (.enter g vs) w) (h : ∀ (w : World) (cs : List Value), IsVal w (· < w.heap.size) v cs → Calls P g #[.agg cs.toArray] w (Gives r w)) : DPure P g [encV v] (.v r) :=
  dpure_of_gives hent fun w η X vs hr => by obtain ⟨cs, rfl, hv⟩ := arg_val hok hr; exact h w cs hv
theorem dpure_sch {P : Program} {g : FuncId} {v : DSch} {r : Value} (hok : okS v) (hent : ∀ vs w, (callFunc g vs).run P w = .ok (.enter g vs) w) (h : ∀ (w : World) (cs : List Value), IsSch w (· < w.heap.size) v cs → Calls P g #[.agg cs.toArray] w (Gives r w)) : DPure P g [encS v] (.v r) :=
  dpure_of_gives hent fun w η X vs hr => by obtain ⟨cs, rfl, hv⟩ := arg_sch hok hr; exact h w cs hv
theorem greatV_d (v : DVal) (hok : okV v) : DPure Try.prog 24 [encV v] (.v (.bool (decide (roomV 12 v 300 < 0)))) := dpure_val hok (fun _ _ => by kernel_rfl) fun w cs h => greatV_calls v cs w h
theorem valRight_d (v : DVal) (hok : okV v) : DPure Try.prog 44 [encV v] (.v (.bool (rightV 5 v))) := dpure_val hok (fun _ _ => by kernel_rfl) fun w cs h => valRightP_calls v cs w h
theorem refValDepth_d (v : DVal) (hok : okV v) (hd : v.depth ≤ 1000000) : DPure Try.prog 46 [encV v] (.v (.int .i64 v.depth)) := dpure_val hok (fun _ _ => by kernel_rfl) fun w cs h => refValDepth_calls 1000000 v cs w hd (Nat.le_refl _) h
theorem refValRight_d (v : DVal) (hok : okV v) (hd : v.depth ≤ 1000000) : DPure Try.prog 27 [encV v] (.v (.bool (rightV 5 v))) := by
  have hr := right_soundV 5 v v.depth (Nat.le_refl _)
  refine dpure_of_dwp mixed Try.func27 rfl (fun _ _ => by kernel_rfl) (rs := [.tmp 2]) rfl (by kernel_rfl) trivial (fun S hS => ?_)
  simp only [go_sem, ↓reduceIte, Nat.reduceBEq, Nat.reduceAdd, Nat.reduceLeDiff, Nat.reduceEqDiff, Nat.reduceLT, add_ob, set_ob]
  refine DCalls.of_pure (refValDepth_d v hok hd) ?_
  simp only [go_sem, ↓reduceIte, Nat.reduceBEq, Nat.reduceAdd, Nat.reduceLeDiff, Nat.reduceEqDiff, Nat.reduceLT, add_ob, set_ob]
  by_cases h5 : v.depth ≤ 5
  · have b1 : decide ((v.depth : Int) ≤ 5) = true := by simp; omega
    simp only [go_sem, ↓reduceIte, Nat.reduceBEq, Nat.reduceAdd, Nat.reduceLeDiff, Nat.reduceEqDiff, Nat.reduceLT, add_ob, set_ob, b1]
    refine DCalls.of_pure (refSoundV_d v.depth v (Nat.le_refl _) hok) ?_
    simp only [go_sem, ↓reduceIte, Nat.reduceBEq, Nat.reduceAdd, Nat.reduceLeDiff, Nat.reduceEqDiff, Nat.reduceLT, add_ob, set_ob]
    exact ⟨by rw [hr, decide_eq_true h5]; rfl, (St.Sub.refl S).add hS _⟩
  · have b1 : decide ((v.depth : Int) ≤ 5) = false := by simp; omega
    simp only [go_sem, ↓reduceIte, Nat.reduceBEq, Nat.reduceAdd, Nat.reduceLeDiff, Nat.reduceEqDiff, Nat.reduceLT, add_ob, set_ob, b1]
    exact ⟨by rw [hr, decide_eq_false h5]; rfl, (St.Sub.refl S).add hS _⟩
end Go.Proofs.Ytpnjkebjdclkfaa
