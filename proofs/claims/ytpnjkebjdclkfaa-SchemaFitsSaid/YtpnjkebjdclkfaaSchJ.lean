/- Schemas, walked: the document's default. Conditions: none. -/
import Derived.Test.YtpnjkebjdclkfaaSchI
namespace Go.Proofs.Ytpnjkebjdclkfaa
open Go.RowKit

set_option maxHeartbeats 2000000 in
set_option maxRecDepth 20000 in
theorem refDefault_calls (k : Nat) : ∀ (s : DSch) (cs : List Value) (w : World), s.depth ≤ k → s.weight ≤ 1000000 → DefOk k s → IsSch w (· < w.heap.size) s cs →
    Calls Try.prog 14 #[.agg cs.toArray] w (NewVal (defV k s) w) := by
  induction k with
  | zero => intro s cs w h; have := s.depth_pos; omega
  | succ k ih =>
    intro s cs w hk hwt hok hs
    obtain ⟨hk1, hki⟩ := hs.kind_
    obtain ⟨Aw, cw, hw1, hwr, hwz, hwc, hwm⟩ := hs.words_
    obtain ⟨Ap, cp, C, hp1, hpc, hpm, hP, hA⟩ := hs.partsF
    have HWR := hide hwr
    have HWZ := hide hwz
    have HPA := hide hA
    have HPP := hide hP
    have HI := hide ih
    have HKI := hide hki
    have HDP := hide (fun p (h : p ∈ s.parts) => DSch.depth_part h)
    have HWP := hide (fun p (h : p ∈ s.parts) => DSch.weight_part h)
    have HSP : Hid (defV (k + 1) s = .mk s.kind 0 (if s.kind = 4 then s.words.getD 0 [] else []) (if s.kind = 5 then s.words else []) [] (if s.kind = 5 then s.parts.map (defV k) else [])) := hide rfl
    have hww := s.words_weight
    have hpw := s.parts_weight
    obtain ⟨hok4, hok5⟩ := hok
    generalize hres : defV (k + 1) s = res at *
    clear ih hs hwr hwz hP hA hres
    have HW0 := hide (((Below.refl w.heap.size w).alloc (Nat.le_refl _) (.cells cs.toArray 25)))
    have HX := hide (Blk.new w 25 cs.toArray)
    go_enter Try.func14, Try.ntmps14
    go_upto_region 1 with fail
    go_cut [3] (fun p wx => p = .pointer (some ⟨w.heap.size + 1 + 1, 0, none⟩) ∧ Blk wx w.heap.size 25 cs.toArray ∧ (∃ Z : Array Value, Z.size = 6 ∧ Blk wx (w.heap.size + 1) 31 Z) ∧ Blk wx (w.heap.size + 1 + 1) 31 #[.int .i64 s.kind, .int .i64 0, sv [], .slice none 0 0, .slice none 0 0, .slice none 0 0] ∧ Below w.heap.size w wx)
    case first =>
      go_wp2_with fail
      go_meet
      refine ⟨rfl, (HX.out.alloc _).alloc _, ⟨_, rfl, (Blk.new2 _ _ _ _).alloc _⟩, ?_, (HW0.out.alloc (by simp) _).alloc (by simp; omega) _⟩
      exact Blk.new3 _ _ _ _ _
    case rest =>
      obtain ⟨rfl, h1, ⟨Z, hZ, h2⟩, h3, hw⟩ := hcut
      have G1 := hide h1
      have G2 := hide h2
      have GZ := hide hZ
      have G3 := hide h3
      have GW := hide hw
      clear h1 h2 h3 hw hZ HX HW0
      have c0 : wc.cell? ⟨w.heap.size, 0, none⟩ = some (.int .i64 s.kind) := by rw [G1.out.cell]; simpa using hk1
      have c1 : wc.cell? ⟨w.heap.size, 1, none⟩ = some (.slice Aw s.words.length cw) := by rw [G1.out.cell]; simpa using hw1
      have key : s.kind = 4 ∨ s.kind = 5 ∨ (s.kind ≠ 4 ∧ s.kind ≠ 5) := by omega
      have GV : Hid (VB wc (w.heap.size + 1 + 1) (w.heap.size + 1 + 1) s.kind 0 [] [] [] none none 0 0) := hide (VB.start (by have := G3.out.lt; omega) G3.out (Nat.le_refl _))
      rcases key with h4 | h5 | ⟨n4, n5⟩
      · have hl0 := hok4 h4
        obtain ⟨x, o, rfl, hx, hcw⟩ := HWR.out.at_ hl0
        have e4 : (s.kind == 4) = true := by simp [h4]
        have e5 : (s.kind == 5) = false := by simp [h4]
        have d1 : wc.cell? ⟨x, o, none⟩ = some (sv s.words[0]) := (GW.out.cell (p := ⟨x, o, none⟩) hx).trans hcw
        have d2 : wc.cell? ⟨w.heap.size + 1 + 1, 2, none⟩ = some (sv []) := G3.out.cell 2
        have d3 := G3.out.frozen 2
        have hz := HWZ.out _ (List.getElem_mem hl0)
        have HZ := hide hz
        have HRS : Hid (res = .mk s.kind 0 s.words[0] [] [] []) := hide (by rw [HSP.out, if_pos h4, if_neg (by omega), if_neg (by omega)]; simp [List.getD, hl0])
        have G3S := hide (G3.out.set_ 2 (sv s.words[0]))
        have G2F := hide (G2.out.far (p := ⟨w.heap.size + 1 + 1, 2, none⟩) (by simp) (sv s.words[0]))
        have G1F := hide (G1.out.far (p := ⟨w.heap.size + 1 + 1, 2, none⟩) (by simp; omega) (sv s.words[0]))
        have GWS := hide (GW.out.setCell (p := ⟨w.heap.size + 1 + 1, 2, none⟩) (by simp; omega) (sv s.words[0]))
        clear hcw hz h4
        generalize s.words[0] = x0 at *
        go_wp2_with fail
        go_loopw [4] (fun i wr => i = .int .i64 0 ∧ Blk wr w.heap.size 25 cs.toArray ∧ Blk wr (w.heap.size + 1) 31 Z ∧ Blk wr (w.heap.size + 1 + 1) 31 #[.int .i64 s.kind, .int .i64 0, sv x0, .slice none 0 0, .slice none 0 0, .slice none 0 0] ∧ Below w.heap.size w wr) (fun i _ => 0)
        case atStart => exact ⟨rfl, G1F.out, G2F.out, G3S.out, GWS.out⟩
        case round =>
          clear c0 c1 d1 d2 d3 G1 G2 G3 GW GV G3S G2F G1F GWS
          obtain ⟨rfl, h1, h2, h3, hw⟩ := hrel
          have G1 := hide h1
          have G2 := hide h2
          have G3 := hide h3
          have GW := hide hw
          clear h1 h2 h3 hw
          obtain ⟨wo, rfl⟩ : ∃ wo : World, wo = wr := ⟨_, rfl⟩
          have c0 : wo.cell? ⟨w.heap.size, 0, none⟩ = some (.int .i64 s.kind) := by rw [G1.out.cell]; simpa using hk1
          have c1 : wo.cell? ⟨w.heap.size, 1, none⟩ = some (.slice (some ⟨x, o, none⟩) s.words.length cw) := by rw [G1.out.cell]; simpa using hw1
          all_goals
            go_wp2_with (first
              | (refine wpList_load_blk rfl 31 _ rfl _ rfl _ _ (G3.out) _ rfl rfl info_val ?_)
              | (refine wpList_store_blk rfl 31 _ _ rfl _ rfl #[.int .i64 s.kind, .int .i64 0, sv x0, .slice none 0 0, .slice none 0 0, .slice none 0 0] rfl _ _ (G2.out) (by rw [GZ.out] <;> rfl) info_val (by simp [Value.oneCell']) ?_; intro wf hbf hff; have HBF := hide hbf; have HFF := hide hff; clear hbf hff)
              | fail)
            refine bodyPost_ret (results_cell_row rfl _ _ (w.heap.size + 1) 31 #[.int .i64 s.kind, .int .i64 0, sv x0, .slice none 0 0, .slice none 0 0, .slice none 0 0] (0, 0) _ rfl HBF.out rfl rfl info_val) rfl ?_
            rw [HRS.out]
            have hv := (VB.start (W := wf) (B := w.heap.size + 1 + 1) (g := w.heap.size + 1 + 1) (kd := s.kind) (n := 0) (s := x0) (by have := HFF.out.size; have := G3.out.lt; omega) (G3.out.fr HFF.out (by omega)) (Nat.le_refl _)).done HKI.out (WalkArith.wf_i64 (by omega)) HZ.out (fun _ h => by cases h) (by simp) (by simp)
            exact ⟨_, rfl, hv.mono fun b hb => ⟨by omega, hb.2⟩, GW.out.trans (HFF.out.below GW.out.size fun x hx h => by omega)⟩
      · obtain ⟨hpl, hdk⟩ := hok5 h5
        have e4 : (s.kind == 4) = false := by simp [h5]
        have e5 : (s.kind == 5) = true := by simp [h5]
        have HRS : Hid (res = .mk s.kind 0 [] s.words [] (s.parts.map (defV k))) := hide (by rw [HSP.out, if_neg (by omega), if_pos h5, if_pos h5])
        have HDK := hide hdk
        have H5 := hide h5
        clear h5 hok4 hok5 hdk HSP
        obtain ⟨i9, hi9, hz9, hs9, hb9⟩ := info_parts info_str
        obtain ⟨i31, hi31, hz31, hs31, hb31⟩ := info_parts info_value
        go_wp2_with fail
        go_loopw [4] (fun i wr => ∃ (j : Nat) (An Av : Option Addr) (cn cv : Nat), i = .int .i64 j ∧ j ≤ s.words.length ∧ VB wr (w.heap.size + 1 + 1) (w.heap.size + 1 + 1) s.kind 0 [] (s.words.take j) ((s.parts.take j).map (defV k)) An Av cn cv ∧ Blk wr w.heap.size 25 cs.toArray ∧ Blk wr (w.heap.size + 1) 31 Z ∧ Below w.heap.size w wr) (fun i _ => s.words.length - (intOf i).toNat)
        case atStart => exact ⟨0, none, none, 0, 0, rfl, Nat.zero_le _, GV.out, G1.out, G2.out, GW.out⟩
        case round =>
          clear c0 c1 G1 G2 G3 GW GV
          obtain ⟨j, An, Av, cn, cv, rfl, hj, hv, h1, h2, hw⟩ := hrel
          have GV := hide hv
          have G1 := hide h1
          have G2 := hide h2
          have GW := hide hw
          clear hv h1 h2 hw
          obtain ⟨wo, rfl⟩ : ∃ wo : World, wo = wr := ⟨_, rfl⟩
          have hlw : (s.words.take j).length = j := by simp; omega
          have hlp : ((s.parts.take j).map (defV k)).length = j := by simp; omega
          by_cases hlt : j < s.words.length
          · have hlt2 : j < s.parts.length := by omega
            obtain ⟨x, o, rfl, hx, hcw⟩ := HWR.out.at_ hlt
            have d1 : wo.cell? ⟨x, o + j, none⟩ = some (sv s.words[j]) := (GW.out.cell (p := ⟨x, o + j, none⟩) hx).trans hcw
            have HT : Hid (s.words.take (j + 1) = s.words.take j ++ [s.words[j]] ∧ (s.parts.take (j + 1)).map (defV k) = (s.parts.take j).map (defV k) ++ [defV k s.parts[j]]) := hide ⟨List.take_succ_eq_append_getElem hlt, by rw [List.take_succ_eq_append_getElem hlt2, List.map_append]; rfl⟩
            have HL := hide (And.intro hlw hlp)
            have hle7 := hlw
            have hg3 := GV.out.blk.lt
            have c0 : wo.cell? ⟨w.heap.size, 0, none⟩ = some (.int .i64 s.kind) := by rw [G1.out.cell]; simpa using hk1
            have c1 : wo.cell? ⟨w.heap.size, 1, none⟩ = some (.slice (some ⟨x, o, none⟩) s.words.length cw) := by rw [G1.out.cell]; simpa using hw1
            have c3 : wo.cell? ⟨w.heap.size + 1 + 1, 3, none⟩ = some (.slice An j cn) := by rw [GV.out.blk.cell, hle7]; rfl
            have HFC : Hid (∀ q : Addr, q.block < w.heap.size + 1 + 1 → ∀ W, Fr (fun b => (Value.slice An j cn).ownBlock = some b) wo W → W.cell? q = wo.cell? q) := hide fun q hq W hW =>
              (hW.cell (p := q) (by omega) (fun e => by have h1 := GV.out.nm; rw [hle7] at h1; have := (h1.lt _ e).1; omega))
            have HC3 : Hid (∀ W, Fr (fun b => (Value.slice An j cn).ownBlock = some b) wo W → W.cell? ⟨w.heap.size + 1 + 1, 3, none⟩ = some (.slice An j cn)) := hide fun W hW =>
              (hW.cell (p := ⟨w.heap.size + 1 + 1, 3, none⟩) hg3 (fun e => by have h1 := GV.out.ng; rw [hle7] at h1; exact h1 e)).trans c3
            have HC1 : Hid (∀ W, Fr (fun b => (Value.slice An j cn).ownBlock = some b) wo W → W.cell? ⟨w.heap.size, 1, none⟩ = some (.slice (some ⟨x, o, none⟩) s.words.length cw)) := hide fun W hW =>
              (HFC.out ⟨w.heap.size, 1, none⟩ (by show w.heap.size < _; omega) W hW).trans c1
            have HCX : Hid (∀ W, Fr (fun b => (Value.slice An j cn).ownBlock = some b) wo W → W.cell? ⟨x, o + j, none⟩ = some (sv s.words[j])) := hide fun W hW =>
              (HFC.out ⟨x, o + j, none⟩ (by show x < _; omega) W hW).trans d1
            clear hcw hlw hlp hx d1 c3
            generalize hwj : s.words[j] = xj at *
            clear hwj
            go_wp2_with fail
            refine wp_region_held_tail 10 (S := Fr (fun b => (Value.slice An j cn).ownBlock = some b) wo) (by kernel_rfl) (by kernel_rfl) ((Fr.refl _ _).drew) (fun hHeld => ?_); simp only [List.take_succ_cons, List.take_zero, List.drop_succ_cons, List.drop_zero]
            (refine takeH (i := 0) (v := .pointer (some ⟨w.heap.size + 1 + 1, 3, none⟩)) rfl rfl (by kernel_rfl) (by kernel_rfl) (by kernel_rfl) (fun _ _ _ h => h) (by rfl) (fun wz hSw => by go_simp) hHeld ?_; simp only [Act.put, List.setIfInBounds_toArray, List.set_cons_zero, List.set_cons_succ])
            (refine takeH (i := 1) (v := .slice An j cn) rfl rfl (by kernel_rfl) (by kernel_rfl) (by kernel_rfl) (fun _ _ _ h => h) (by rfl) (fun wz hSw => by (have hc5 := HC3.out _ hSw; go_simp)) hHeld ?_; simp only [Act.put, List.setIfInBounds_toArray, List.set_cons_zero, List.set_cons_succ])
            (refine takeH (i := 2) (v := .pointer (some ⟨w.heap.size, 1, none⟩)) rfl rfl (by kernel_rfl) (by kernel_rfl) (by kernel_rfl) (fun _ _ _ h => h) (by rfl) (fun wz hSw => by go_simp) hHeld ?_; simp only [Act.put, List.setIfInBounds_toArray, List.set_cons_zero, List.set_cons_succ])
            (refine takeH (i := 3) (v := .slice (some ⟨x, o, none⟩) s.words.length cw) rfl rfl (by kernel_rfl) (by kernel_rfl) (by kernel_rfl) (fun _ _ _ h => h) (by rfl) (fun wz hSw => by (have hc5 := HC1.out _ hSw; go_simp)) hHeld ?_; simp only [Act.put, List.setIfInBounds_toArray, List.set_cons_zero, List.set_cons_succ])
            (refine takeH (i := 4) (v := .int .i64 j) rfl rfl (by kernel_rfl) (by kernel_rfl) (by kernel_rfl) (fun _ _ _ h => h) (by rfl) (fun wz hSw => by go_simp) hHeld ?_; simp only [Act.put, List.setIfInBounds_toArray, List.set_cons_zero, List.set_cons_succ])
            (refine takeH (i := 5) (v := .pointer (some ⟨x, o + j, none⟩)) rfl rfl (by kernel_rfl) (by kernel_rfl) (by kernel_rfl) (fun _ _ _ h => h) (by rfl) (fun wz hSw => by go_simp) hHeld ?_; simp only [Act.put, List.setIfInBounds_toArray, List.set_cons_zero, List.set_cons_succ])
            (refine takeH (i := 6) (v := sv xj) rfl rfl (by kernel_rfl) (by kernel_rfl) (by kernel_rfl) (fun _ _ _ h => h) (by rfl) (fun wz hSw => by (have hc5 := HCX.out _ hSw; go_simp)) hHeld ?_; simp only [Act.put, List.setIfInBounds_toArray, List.set_cons_zero, List.set_cons_succ])
            have HB2 := hide (((Below.refl wo.heap.size wo).drew.alloc (Nat.le_refl _) (.cells #[sv xj] 9)))
            refine oneH (i := 7) rfl (by kernel_rfl) (fun K hK => ?_)
            go_simp
            refine hK.out _ _ (Fr.of_below' HB2.out _) (fun hHeld => ?_)
            clear hK K
            refine oneH (i := 8) rfl (by kernel_rfl) (fun K hK => ?_)
            have V2 := hide (GV.out.keep HB2.out)
            have p4 := V2.out.nm
            rw [hle7] at p4
            have hRD := reads_blk (n := 1) (size := 1) (Blk.new wo.drew 9 #[sv xj]) rfl
            have hs2 := HB2.out.size
            refine step_append_any rfl (.tmp 29) (.tmp 35) 22 rfl (w.heap.size + 1 + 1) 9 i9 (sv []) 1 16 Try.underlying22 hi9 hz9 hs9 hb9 rfl (by decide) _ j ((s.words.take j).map sv) (by rfl) p4 _ _ 1 1 [sv xj] (by rfl) hRD (by simp [Value.oneCell']) (by unfold maxLen; omega) (by omega) (Nat.le_trans (by omega) hs2) ?_
            intro Aq cq wq ownq growq lieq
            have HVN := hide (V2.out.name' hle7 ownq growq lieq)
            have hblk := V2.out.blk.grown growq (fun e => by have h1 := V2.out.ng; rw [hle7] at h1; exact h1 e.symm)
            have f3 := hblk.frozen 3
            have e3' : wq.cell? ⟨w.heap.size + 1 + 1, 3, none⟩ = some (.slice An j cn) := by rw [hblk.cell, hle7]; rfl
            have HS3 := hide (((Fr.of_below' HB2.out (fun b => (Value.slice An j cn).ownBlock = some b)).trans (Fr.of_grown growq (fun b hb => .inl hb))))
            have HN := hide (HVN.out)
            have FN : Hid (Fr (fun b => w.heap.size + 1 + 1 ≤ b) wo (wq.setCell ⟨w.heap.size + 1 + 1, 3, none⟩ (.slice Aq (j + 1) cq))) := hide ((((Fr.of_below' HB2.out _).trans (Fr.of_grown growq fun b hb => .inl (p4.lt b hb).1))).setCell (p := ⟨w.heap.size + 1 + 1, 3, none⟩) (.inl (Nat.le_refl _)) _)
            clear p4 ownq growq lieq hblk hRD V2 HB2 HVN c0 c1 HC1 HC3 HCX HFC
            refine hK.out _ _ HS3.out (fun hHeld => ?_)
            clear hK K
            simp only [Act.put, List.setIfInBounds_toArray, List.set_cons_zero, List.set_cons_succ]
            (refine takeH (i := 9) (v := .pointer (some ⟨w.heap.size + 1 + 1, 3, none⟩)) rfl rfl (by kernel_rfl) (by kernel_rfl) (by kernel_rfl) (fun _ _ _ h => h) (by rfl) (fun wz hSw => by go_simp) hHeld ?_; simp only [Act.put, List.setIfInBounds_toArray, List.set_cons_zero, List.set_cons_succ])
            refine wpAnyH_done (by kernel_rfl) ?_ _; simp only [Exit.then]
            go_wp2_with fail
            generalize hwN : wq.setCell ⟨w.heap.size + 1 + 1, 3, none⟩ (.slice Aq (j + 1) cq) = wn at *
            clear hwN f3 e3' HS3 hHeld hs2 hle7
            obtain ⟨b, o5, rfl, hb, hC⟩ := HPA.out (by omega)
            obtain ⟨hl3, hr⟩ := hC j hlt2
            have hgn := HN.out.blk.lt
            have HPI := hide (HPP.out j _ (List.getElem?_eq_getElem hlt2))
            have hle7 := HL.out.1
            have hle8 := HL.out.2
            have c0 : wn.cell? ⟨w.heap.size + 1 + 1, 5, none⟩ = some (.slice Av j cv) := by rw [HN.out.blk.cell, hle8]; rfl
            have HFC : Hid (∀ q : Addr, q.block < w.heap.size + 1 + 1 → ∀ W, Fr (fun b => (Value.slice Av j cv).ownBlock = some b) wn W → W.cell? q = wo.cell? q) := hide fun q hq W hW =>
              (hW.cell (p := q) (by omega) (fun e => by have h1 := (HN.out.pt); rw [hle8] at h1; obtain ⟨Cs, _, _, _, p4, _⟩ := h1; have := (p4.lt _ e).1; omega)).trans (FN.out.cell (by have := G2.out.lt; omega) (by omega))
            have HC5 : Hid (∀ W, Fr (fun b => (Value.slice Av j cv).ownBlock = some b) wn W → W.cell? ⟨w.heap.size + 1 + 1, 5, none⟩ = some (.slice Av j cv)) := hide fun W hW =>
              (hW.cell (p := ⟨w.heap.size + 1 + 1, 5, none⟩) hgn (fun e => by have h1 := HN.out.pg; rw [hle8] at h1; exact h1 e)).trans c0
            have HC2 : Hid (∀ W, Fr (fun b => (Value.slice Av j cv).ownBlock = some b) wn W → W.cell? ⟨w.heap.size, 2, none⟩ = some (.slice (some ⟨b, o5, none⟩) s.parts.length cp)) := hide fun W hW =>
              (HFC.out ⟨w.heap.size, 2, none⟩ (by show w.heap.size < _; omega) W hW).trans (by rw [G1.out.cell]; simpa using hp1)
            have HRW : Hid (∀ W, Fr (fun b => (Value.slice Av j cv).ownBlock = some b) wn W → W.rangeAt b (o5 + j * 3) (C j)) := hide fun W hW q v hv =>
              (HFC.out ⟨b, o5 + j * 3 + q, none⟩ (by show b < _; omega) W hW).trans ((GW.out.cell (p := ⟨b, o5 + j * 3 + q, none⟩) hb).trans (hr q v hv))
            have HL3 := hide hl3
            have hdp := HDP.out _ (List.getElem_mem hlt2)
            have hwp := HWP.out _ (List.getElem_mem hlt2)
            have hdf := HDK.out _ (List.getElem_mem hlt2)
            have HDF := hide hdf
            have HWN : Hid (Below w.heap.size w wn) := hide (GW.out.trans (FN.out.below (by have := G2.out.lt; omega) fun x hx h => by omega))
            clear hC hl3 hr c0 hdf
            generalize s.parts[j] = pj at *
            generalize C j = Cj at *
            refine wp_region_held_tail 11 (S := Fr (fun b => (Value.slice Av j cv).ownBlock = some b) wn) (by kernel_rfl) (by kernel_rfl) ((Fr.refl _ _).drew) (fun hHeld => ?_); simp only [List.take_succ_cons, List.take_zero, List.drop_succ_cons, List.drop_zero]
            (refine takeH (i := 0) (v := .pointer (some ⟨w.heap.size + 1 + 1, 5, none⟩)) rfl rfl (by kernel_rfl) (by kernel_rfl) (by kernel_rfl) (fun _ _ _ h => h) (by rfl) (fun wz hSw => by go_simp) hHeld ?_; simp only [Act.put, List.setIfInBounds_toArray, List.set_cons_zero, List.set_cons_succ])
            (refine takeH (i := 1) (v := .slice Av j cv) rfl rfl (by kernel_rfl) (by kernel_rfl) (by kernel_rfl) (fun _ _ _ h => h) (by rfl) (fun wz hSw => by (have hc5 := HC5.out _ hSw; go_simp)) hHeld ?_; simp only [Act.put, List.setIfInBounds_toArray, List.set_cons_zero, List.set_cons_succ])
            (refine takeH (i := 2) (v := .pointer (some ⟨w.heap.size, 2, none⟩)) rfl rfl (by kernel_rfl) (by kernel_rfl) (by kernel_rfl) (fun _ _ _ h => h) (by rfl) (fun wz hSw => by go_simp) hHeld ?_; simp only [Act.put, List.setIfInBounds_toArray, List.set_cons_zero, List.set_cons_succ])
            (refine takeH (i := 3) (v := .slice (some ⟨b, o5, none⟩) s.parts.length cp) rfl rfl (by kernel_rfl) (by kernel_rfl) (by kernel_rfl) (fun _ _ _ h => h) (by rfl) (fun wz hSw => by (have hc5 := HC2.out _ hSw; go_simp)) hHeld ?_; simp only [Act.put, List.setIfInBounds_toArray, List.set_cons_zero, List.set_cons_succ])
            (refine takeH (i := 4) (v := .int .i64 j) rfl rfl (by kernel_rfl) (by kernel_rfl) (by kernel_rfl) (fun _ _ _ h => h) (by rfl) (fun wz hSw => by go_simp) hHeld ?_; simp only [Act.put, List.setIfInBounds_toArray, List.set_cons_zero, List.set_cons_succ])
            (refine takeH (i := 5) (v := .pointer (some ⟨b, o5 + j * 3, none⟩)) rfl rfl (by kernel_rfl) (by kernel_rfl) (by kernel_rfl) (fun _ _ _ h => h) (by rfl) (fun wz hSw => by go_simp) hHeld ?_; simp only [Act.put, List.setIfInBounds_toArray, List.set_cons_zero, List.set_cons_succ])
            (refine takeH (i := 6) (v := .agg (Cj).toArray) rfl rfl (by kernel_rfl) (by kernel_rfl) (by kernel_rfl) (fun _ _ _ h => h) (by rfl) (fun wz hw => load_exec 25 (.tmp 43) rfl (b) (o5 + j * 3) rfl (Cj) _ (HRW.out _ hw) rfl rfl (by rw [HL3.out]; kernel_rfl)) hHeld ?_; simp only [Act.put, List.setIfInBounds_toArray, List.set_cons_zero, List.set_cons_succ])
            refine oneH (i := 7) rfl (by kernel_rfl) (fun K hK => ?_)
            go_simp
            refine (HI.out pj Cj _ (by omega) (by omega) HDF.out (HPI.out.more (HWN.out.trans ((Below.refl wn.heap.size wn).drew.mono HWN.out.size)))).mono ?_
            rintro e w1 ⟨cs1, rfl, hv1, hb1⟩
            have hB1 : Below wn.heap.size wn w1 := (Below.refl wn.heap.size wn).drew.trans hb1
            refine hK.out _ _ (Fr.of_below' hB1 _) (fun hHeld => ?_)
            clear hK K
            have hv1' := hv1.mono (G := fun b => wn.heap.size ≤ b ∧ b < w1.heap.size) fun b hb => hb
            have HV1 := hide hv1'
            have HB1 := hide hB1
            have H1L := hide hv1.length
            have H1O := hide hv1.one
            clear hv1 hv1' hB1 hb1
            refine oneH (i := 8) rfl (by kernel_rfl) (fun K hK => ?_)
            go_simp
            rw [foldl_zip_all _ _ (by rw [H1L.out]; rfl), if_neg (by rw [H1L.out]; decide)]
            go_simp
            have HB2 := hide (HB1.out.alloc HB1.out.size (.cells cs1.toArray 31))
            refine hK.out _ _ (Fr.of_below' HB2.out _) (fun hHeld => ?_)
            clear hK K
            refine oneH (i := 9) rfl (by kernel_rfl) (fun K hK => ?_)
            have V2 := hide (HN.out.keep HB2.out)
            obtain ⟨Cs, p1, p2, p3, p4, p5⟩ := V2.out.pt
            rw [hle8] at p4
            have hRD := reads_blk (n := 1) (size := 6) (Blk.new w1 31 cs1.toArray) (by rw [H1L.out])
            have hs2 := HB2.out.size
            refine step_append_any rfl (.tmp 39) (.tmp 46) 29 rfl (w.heap.size + 1 + 1) 31 i31 (.agg #[.int .i64 0, .int .i64 0, sv [], .slice none 0 0, .slice none 0 0, .slice none 0 0]) 6 104 Try.underlying29 hi31 hz31 hs31 hb31 rfl (by decide) _ j Cs.flatten (by rfl) p4 _ _ 1 1 cs1 (by rfl) hRD H1O.out (by unfold maxLen; omega) (by omega) (by omega) ?_
            intro Aq2 cq2 wq2 ownq growq lieq
            have hx : IsVal (w1.alloc (.cells cs1.toArray 31)) (VF (w.heap.size + 1 + 1) (w.heap.size + 1 + 1) (.slice Aq (List.take j s.words ++ [xj]).length cq) (.slice Av (List.map (defV k) (List.take j s.parts)).length cv) (w1.alloc (.cells cs1.toArray 31))) (defV k pj) cs1 := by
              have q1 := HN.out.nm
              obtain ⟨Ds, _, _, _, q2, _⟩ := HN.out.pt
              refine (HV1.out.keep fun q hq => ((Below.refl w1.heap.size w1).alloc (Nat.le_refl _) (.cells cs1.toArray 31)).cell hq.2).mono fun b hb => ⟨by omega, by simp only [World.size_alloc]; omega, fun e => ?_, fun e => ?_, by omega⟩
              · have := (q1.lt _ e).2; omega
              · have := (q2.lt _ e).2; omega
            have HVN := hide (V2.out.part' hle8 p1 p2 p3 p5 hx ownq growq lieq)
            have hblk := V2.out.blk.grown growq (fun e => by have h1 := V2.out.pg; rw [hle8] at h1; exact h1 e.symm)
            have f5 := hblk.frozen 5
            have e5' : wq2.cell? ⟨w.heap.size + 1 + 1, 5, none⟩ = some (.slice Av j cv) := by rw [hblk.cell, hle8]; rfl
            have HS3 := hide (((Fr.of_below' HB2.out (fun b => (Value.slice Av j cv).ownBlock = some b)).trans (Fr.of_grown growq (fun b hb => .inl hb))))
            have FN2 : Hid (Fr (fun b => w.heap.size + 1 + 1 ≤ b) wo (wq2.setCell ⟨w.heap.size + 1 + 1, 5, none⟩ (.slice Aq2 (j + 1) cq2))) := hide (((FN.out.trans ((Fr.of_below' HB2.out _).trans (Fr.of_grown growq fun b hb => .inl (.inl (p4.lt b hb).1))))).setCell (p := ⟨w.heap.size + 1 + 1, 5, none⟩) (.inl (Nat.le_refl _)) _)
            clear p1 p2 p3 p4 p5 hx ownq growq lieq hblk hRD V2 HB2 HB1 HV1
            refine hK.out _ _ HS3.out (fun hHeld => ?_)
            clear hK K
            simp only [Act.put, List.setIfInBounds_toArray, List.set_cons_zero, List.set_cons_succ]
            (refine takeH (i := 10) (v := .pointer (some ⟨w.heap.size + 1 + 1, 5, none⟩)) rfl rfl (by kernel_rfl) (by kernel_rfl) (by kernel_rfl) (fun _ _ _ h => h) (by rfl) (fun wz hSw => by go_simp) hHeld ?_; simp only [Act.put, List.setIfInBounds_toArray, List.set_cons_zero, List.set_cons_succ])
            refine wpAnyH_done (by kernel_rfl) ?_ _; simp only [Exit.then]
            go_wp2
            exact ⟨⟨j + 1, Aq, Aq2, cq, cq2, by go_num, by omega, by rw [HT.out.1, HT.out.2]; exact HVN.out, G1.out.fr FN2.out (by omega), G2.out.fr FN2.out (by omega), GW.out.trans (FN2.out.below (by have := G2.out.lt; omega) fun x hx h => by omega)⟩, by simp [intOf]; omega⟩
          · obtain rfl : j = s.words.length := by omega
            have HRS2 : Hid (res = .mk s.kind 0 [] (s.words.take s.words.length) [] ((s.parts.take s.words.length).map (defV k))) := hide (by rw [HRS.out, List.take_length, List.take_of_length_le (by omega)])
            have G2F := G2
            have c0 : wo.cell? ⟨w.heap.size, 0, none⟩ = some (.int .i64 s.kind) := by rw [G1.out.cell]; simpa using hk1
            have c1 : wo.cell? ⟨w.heap.size, 1, none⟩ = some (.slice Aw s.words.length cw) := by rw [G1.out.cell]; simpa using hw1
            have HNS : Hid (∀ x ∈ s.words.take s.words.length, x.length ≤ maxLen) := hide fun x hx => HWZ.out x (List.mem_of_mem_take hx)
            have hsz := GV.out.blk
            generalize s.words.take s.words.length = W at *
            generalize (s.parts.take s.words.length).map (defV k) = PV at *
            have GB := hide hsz
            clear hsz
            go_wp2_with (first
              | (refine wpList_load_blk rfl 31 _ rfl _ rfl _ _ (GB.out) _ rfl rfl info_val ?_)
              | (refine wpList_store_blk rfl 31 _ _ rfl _ rfl #[.int .i64 s.kind, .int .i64 0, sv [], .slice An W.length cn, .slice none 0 0, .slice Av PV.length cv] rfl _ _ (G2F.out) (by rw [GZ.out] <;> rfl) info_val (by simp [Value.oneCell']) ?_; intro wf hbf hff; have HBF := hide hbf; have HFF := hide hff; clear hbf hff)
              | fail)
            refine bodyPost_ret (results_cell_row rfl _ _ (w.heap.size + 1) 31 #[.int .i64 s.kind, .int .i64 0, sv [], .slice An W.length cn, .slice none 0 0, .slice Av PV.length cv] (0, 0) _ rfl HBF.out rfl rfl info_val) rfl ?_
            rw [HRS2.out]
            have hv := (GV.out.keepF (w' := wf) HFF.out (fun b hb => by omega)).done HKI.out (WalkArith.wf_i64 (by omega)) (by simp) HNS.out (by omega) (by omega)
            exact ⟨_, rfl, hv.mono fun b hb => ⟨by omega, hb.2⟩, GW.out.trans (HFF.out.below GW.out.size fun x hx h => by omega)⟩
      · have e4 : (s.kind == 4) = false := by simpa using n4
        have e5 : (s.kind == 5) = false := by simpa using n5
        have HRS : Hid (res = .mk s.kind 0 [] [] [] []) := hide (by rw [HSP.out, if_neg n4, if_neg n5, if_neg n5])
        clear n4 n5
        have HZ : Hid (([] : Str).length ≤ maxLen) := hide (by simp)
        have hx0 : ∃ x0 : Str, x0 = [] := ⟨_, rfl⟩
        obtain ⟨x0, hx0⟩ := hx0
        have HRS : Hid (res = .mk s.kind 0 x0 [] [] []) := hide (hx0 ▸ HRS.out)
        have HZ : Hid (x0.length ≤ maxLen) := hide (hx0 ▸ HZ.out)
        have G3 : Hid (Blk wc (w.heap.size + 1 + 1) 31 #[.int .i64 s.kind, .int .i64 0, sv x0, .slice none 0 0, .slice none 0 0, .slice none 0 0]) := hide (hx0 ▸ G3.out)
        clear hx0
        go_wp2_with fail
        go_loopw [4] (fun i wr => i = .int .i64 0 ∧ Blk wr w.heap.size 25 cs.toArray ∧ Blk wr (w.heap.size + 1) 31 Z ∧ Blk wr (w.heap.size + 1 + 1) 31 #[.int .i64 s.kind, .int .i64 0, sv x0, .slice none 0 0, .slice none 0 0, .slice none 0 0] ∧ Below w.heap.size w wr) (fun i _ => 0)
        case atStart => exact ⟨rfl, G1.out, G2.out, G3.out, GW.out⟩
        case round =>
          clear c0 c1 G1 G2 G3 GW GV
          obtain ⟨rfl, h1, h2, h3, hw⟩ := hrel
          have G1 := hide h1
          have G2 := hide h2
          have G3 := hide h3
          have GW := hide hw
          clear h1 h2 h3 hw
          obtain ⟨wo, rfl⟩ : ∃ wo : World, wo = wr := ⟨_, rfl⟩
          have c0 : wo.cell? ⟨w.heap.size, 0, none⟩ = some (.int .i64 s.kind) := by rw [G1.out.cell]; simpa using hk1
          have c1 : wo.cell? ⟨w.heap.size, 1, none⟩ = some (.slice Aw s.words.length cw) := by rw [G1.out.cell]; simpa using hw1
          rcases Nat.eq_zero_or_pos s.words.length with hl0 | hl0
          all_goals
            first
              | (rw [hl0] at c1; clear hl0)
              | skip
            go_wp2_with (first
              | (refine wpList_load_blk rfl 31 _ rfl _ rfl _ _ (G3.out) _ rfl rfl info_val ?_)
              | (refine wpList_store_blk rfl 31 _ _ rfl _ rfl #[.int .i64 s.kind, .int .i64 0, sv x0, .slice none 0 0, .slice none 0 0, .slice none 0 0] rfl _ _ (G2.out) (by rw [GZ.out] <;> rfl) info_val (by simp [Value.oneCell']) ?_; intro wf hbf hff; have HBF := hide hbf; have HFF := hide hff; clear hbf hff)
              | fail)
            refine bodyPost_ret (results_cell_row rfl _ _ (w.heap.size + 1) 31 #[.int .i64 s.kind, .int .i64 0, sv x0, .slice none 0 0, .slice none 0 0, .slice none 0 0] (0, 0) _ rfl HBF.out rfl rfl info_val) rfl ?_
            rw [HRS.out]
            have hv := (VB.start (W := wf) (B := w.heap.size + 1 + 1) (g := w.heap.size + 1 + 1) (kd := s.kind) (n := 0) (s := x0) (by have := HFF.out.size; have := G3.out.lt; omega) (G3.out.fr HFF.out (by omega)) (Nat.le_refl _)).done HKI.out (WalkArith.wf_i64 (by omega)) HZ.out (fun _ h => by cases h) (by simp) (by simp)
            exact ⟨_, rfl, hv.mono fun b hb => ⟨by omega, hb.2⟩, GW.out.trans (HFF.out.below GW.out.size fun x hx h => by omega)⟩
end Go.Proofs.Ytpnjkebjdclkfaa
