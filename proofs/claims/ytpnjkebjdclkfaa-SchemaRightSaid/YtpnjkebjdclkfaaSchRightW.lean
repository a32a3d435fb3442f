/- SchemaRight, walked. Conditions: none. -/
import Derived.Test.YtpnjkebjdclkfaaSchM
namespace Go.Proofs.Ytpnjkebjdclkfaa
open Go.RowKit

set_option maxHeartbeats 4000000 in
set_option maxRecDepth 20000 in
theorem schemaRight_calls (a b : DSch) (cs ds : List Value) (w : World) (ha : IsSch w (· < w.heap.size) a cs) (hb : IsSch w (· < w.heap.size) b ds) :
    Calls Try.prog 3 #[.agg cs.toArray, .agg ds.toArray] w (Gives (.bool true) w) := by
  have HW0 := hide (((Below.refl w.heap.size w).alloc (Nat.le_refl _) (.cells cs.toArray 25)).alloc (by simp) (.cells ds.toArray 25))
  have HX2 := hide ((Blk.new w 25 cs.toArray).alloc (.cells ds.toArray 25))
  have HX3 := hide (Blk.new2 w (.cells cs.toArray 25) 25 ds.toArray)
  have HL := hide (show (Try.prog.info? 25).map (·.size) = some cs.toArray.size by rw [List.size_toArray, ha.length]; kernel_rfl)
  have HL2 := hide (show (Try.prog.info? 25).map (·.size) = some ds.toArray.size by rw [List.size_toArray, hb.length]; kernel_rfl)
  have HA := hide ha
  have HB := hide hb
  have HG1 := hide (greatS_calls a cs _ (ha.more HW0.out))
  have hkd := ha.kind_.1
  clear ha hb
  go_enter Try.func3, Try.ntmps3
  cases hg1 : decide (roomS 12 a 300 < 0)
  case true =>
    rw [hg1] at HG1
    go_wp2_with (first | (refine wpList_load_blk rfl 25 _ rfl _ rfl _ _ HX2.out _ rfl rfl HL.out ?_) | fail)
    refine HG1.out.mono ?_
    rintro e w1 ⟨rfl, hb1⟩
    have KW := hide (HW0.out.trans (hb1.mono HW0.out.size))
    clear hb1
    go_wp2_with fail
    refine (awake09_calls w1).mono ?_
    rintro e w2 ⟨rfl, hb2⟩
    have KW2 := hide (KW.out.trans (hb2.mono KW.out.size))
    clear hb2
    go_wp2
    go_ret
    exact ⟨ret_eq rfl, KW2.out⟩
  case false =>
    rw [hg1] at HG1
    go_wp2_with (first | (refine wpList_load_blk rfl 25 _ rfl _ rfl _ _ HX2.out _ rfl rfl HL.out ?_) | fail)
    refine HG1.out.mono ?_
    rintro e w1 ⟨rfl, hb1⟩
    have K2 := hide (HX2.out.below hb1 HX2.out.lt)
    have K3 := hide (HX3.out.below hb1 HX3.out.lt)
    have KW := hide (HW0.out.trans (hb1.mono HW0.out.size))
    have HG2 := hide (greatS_calls b ds _ (HB.out.more KW.out))
    clear hb1 HX2 HX3 HW0 HG1
    cases hg2 : decide (roomS 12 b 300 < 0)
    case true =>
      rw [hg2] at HG2
      go_wp2_with (first | (refine wpList_load_blkG (by rfl) 25 _ rfl _ rfl _ ds K3.out _ rfl rfl (by simpa using HL2.out) ?_) | fail)
      refine HG2.out.mono ?_
      rintro e w2 ⟨rfl, hb2⟩
      have KW2 := hide (KW.out.trans (hb2.mono KW.out.size))
      clear hb2
      go_wp2_with fail
      refine (awake09_calls w2).mono ?_
      rintro e w3 ⟨rfl, hb3⟩
      have KW3 := hide (KW2.out.trans (hb3.mono KW2.out.size))
      clear hb3
      go_wp2
      go_ret
      exact ⟨ret_eq rfl, KW3.out⟩
    case false =>
      rw [hg2] at HG2
      have hr1 := room_spec 12 a 300 (by have := of_decide_eq_false hg1; omega)
      have hwa : a.weight ≤ 300 := by have h1 := hr1.1; have := of_decide_eq_false hg1; omega
      have hda := DSch.depth_weight a.depth a (Nat.le_refl _)
      clear hr1 hg1 hg2
      go_wp2_with (first | (refine wpList_load_blkG (by rfl) 25 _ rfl _ rfl _ ds K3.out _ rfl rfl (by simpa using HL2.out) ?_) | fail)
      refine HG2.out.mono ?_
      rintro e w2 ⟨rfl, hb2⟩
      have M2 := hide (K2.out.below hb2 K2.out.lt)
      have M3 := hide (K3.out.below hb2 K3.out.lt)
      have MW := hide (KW.out.trans (hb2.mono KW.out.size))
      clear hb2 K2 K3 KW HG2
      have HC := hide (refRight_calls a.depth a cs w2 (Nat.le_refl _) (by omega) (HA.out.more MW.out))
      go_wp2_with (first | (refine wpList_load_blk rfl 25 _ rfl _ rfl _ _ M2.out _ rfl rfl HL.out ?_) | fail)
      refine HC.out.mono ?_
      rintro e w3 ⟨rfl, hb3⟩
      have hz := HA.out.length
      have K2 := hide ((M2.out.below hb3 M2.out.lt).alloc (.cells #[.int .i64 0, .int .i64 0, sv [], .slice none 0 0, .slice none 0 0, .slice none 0 0] 31))
      have K3 := hide ((M3.out.below hb3 M3.out.lt).alloc (.cells #[.int .i64 0, .int .i64 0, sv [], .slice none 0 0, .slice none 0 0, .slice none 0 0] 31))
      have K6 := hide (Blk.new w3 31 #[.int .i64 0, .int .i64 0, sv [], .slice none 0 0, .slice none 0 0, .slice none 0 0])
      have KW := hide ((MW.out.trans (hb3.mono MW.out.size)).alloc (by have h1 := MW.out.size; have h2 := hb3.size; omega) (.cells #[.int .i64 0, .int .i64 0, sv [], .slice none 0 0, .slice none 0 0, .slice none 0 0] 31))
      clear hb3 HC M2 M3 MW hz
      obtain ⟨R, hR⟩ : ∃ R : Bool, R = rightS 5 a := ⟨_, rfl⟩
      obtain ⟨D, hD⟩ : ∃ D : DVal, D = if rightS 5 a then defV a.depth a else zeroV := ⟨_, rfl⟩
      have HRD := hide (And.intro hR hD)
      go_upto_if 17 with fail
      go_cut [5] (fun v wx => v = .bool R ∧ ∃ vs : List Value, Blk wx w.heap.size 25 cs.toArray ∧ Blk wx (w.heap.size + 1) 25 ds.toArray ∧ Blk wx w3.heap.size 31 vs.toArray ∧ IsVal wx (· < wx.heap.size) D vs ∧ Below w.heap.size w wx)
      case first =>
        cases hr : rightS 5 a
        case false =>
          rw [hr] at hR hD
          clear hr HRD
          go_wp2_with fail
          go_meet
          refine ⟨by rw [hR], _, K2.out, K3.out, K6.out, ?_, KW.out⟩
          have eD : D = zeroV := by rw [hD]; simp
          rw [eD]
          exact zero_is _ _
        case true =>
          have HDF := hide (defOk_sound a.depth a (by
            have := right_sound 5 a a.depth (Nat.le_refl _)
            rw [hr] at this
            exact (Bool.and_eq_true _ _ ▸ this.symm).2))
          rw [hr] at hR hD
          clear hr HRD
          have HC := hide (refDefault_calls a.depth a cs _ (Nat.le_refl _) (by omega) HDF.out (HA.out.more KW.out))
          go_wp2_with (first | (refine wpList_load_blk rfl 25 _ rfl _ rfl _ _ K2.out _ rfl rfl HL.out ?_) | fail)
          refine HC.out.mono ?_
          rintro e w4 ⟨vs, rfl, hv, hb4⟩
          have M2 := hide (K2.out.below hb4 K2.out.lt)
          have M3 := hide (K3.out.below hb4 K3.out.lt)
          have M6 := hide (K6.out.below hb4 K6.out.lt)
          have MW := hide (KW.out.trans (hb4.mono KW.out.size))
          have HV := hide hv
          have HLO := hide (And.intro hv.length hv.one)
          have hlt6 := K6.out.lt
          have hsw := MW.out.size
          have h2lt := K3.out.lt
          clear hb4 hv HC K2 K3 KW
          go_wp2_with (first
            | (refine wpList_store_blk rfl 31 _ _ rfl _ rfl vs.toArray rfl _ _ (M6.out) (by simp [HLO.out.1]) (by rw [List.size_toArray, HLO.out.1]; exact info_val) (by simpa using HLO.out.2) ?_; intro wf hbf hff; have HBF := hide hbf; have HFF := hide hff; clear hbf hff)
            | fail)
          go_meet
          have hs3 : w.heap.size + 1 < w3.heap.size := by
            have := K6.out.lt
            have h5 := h2lt
            simp only [World.size_alloc] at h5
            rcases Nat.lt_or_ge (w.heap.size + 1) w3.heap.size with h | h
            · exact h
            · have h6 : w.heap.size + 1 = w3.heap.size := by omega
              have h7 := M3.out
              rw [h6] at h7
              exact absurd rfl (h7.ne_ M6.out (by decide))
          refine ⟨by rw [hR], vs, M2.out.fr HFF.out (by omega), M3.out.fr HFF.out (by omega), HBF.out, ?_, MW.out.trans (HFF.out.below hsw fun x hx h => by omega)⟩
          have eD : D = defV a.depth a := by rw [hD]; simp
          rw [eD]
          exact (HV.out.keep fun q hq => HFF.out.cell hq.2 (by have := hq.1; omega)).mono fun b hb => by have := HFF.out.size; omega
      case rest =>
        obtain ⟨rfl, vs, h1, h2, h3, h4, h5⟩ := hcut
        have G2 := hide h1
        have G3 := hide h2
        have G6 := hide h3
        have GV := hide h4
        have GW := hide h5
        have hl1 := HL.out
        have hla := HA.out.length
        have hlb := HB.out.length
        have hlv := h4.length
        have hda' : a.depth ≤ 1000000 := by omega
        clear h1 h2 h3 h4 h5 K2 K3 K6 KW hR hD
        have HC1 := hide (fun (W : World) (hW : Below wc.heap.size wc W) => schRightP_calls a cs W (HA.out.more (GW.out.trans (hW.mono GW.out.size))))
        rw [← HRD.out.1] at HC1
        have HC2 := hide (fun (W : World) (hW : Below wc.heap.size wc W) => schDepth_calls a.depth a cs W (Nat.le_refl _) hda' (HA.out.more (GW.out.trans (hW.mono GW.out.size))))
        have HC3 := hide (fun (W : World) (hW : Below wc.heap.size wc W) => refSchDepth_calls a.depth a cs W (Nat.le_refl _) hda' (HA.out.more (GW.out.trans (hW.mono GW.out.size))))
        have HC4 := hide (fun (W : World) (hW : Below wc.heap.size wc W) => schSame_calls a.depth a b cs ds W (Nat.le_refl _) (HA.out.more (GW.out.trans (hW.mono GW.out.size))) (HB.out.more (GW.out.trans (hW.mono GW.out.size))))
        have HC5 := hide (fun (W : World) (hW : Below wc.heap.size wc W) => refSchSame_calls a.depth a b cs ds W (Nat.le_refl _) (HA.out.more (GW.out.trans (hW.mono GW.out.size))) (HB.out.more (GW.out.trans (hW.mono GW.out.size))))
        have HC6 := hide (fun (W : World) (hW : Below wc.heap.size wc W) => schCopy_calls a.depth a cs W (Nat.le_refl _) (by omega) (HA.out.more (GW.out.trans (hW.mono GW.out.size))))
        have HC7 : Hid (∀ (W : World) (hW : Below wc.heap.size wc W) (es : List Value) (he : IsSch W (· < W.heap.size) a es), Calls Try.prog 19 #[.agg es.toArray, .agg cs.toArray] W (Gives (.bool true) W)) := hide (fun W hW es he => by have h := refSchSame_calls a.depth a a es cs W (Nat.le_refl _) he (HA.out.more (GW.out.trans (hW.mono GW.out.size))); rwa [eqB_true rfl] at h)
        have HC8 := hide (fun (W : World) (hW : Below wc.heap.size wc W) => schDefault_calls a.depth a cs W (Nat.le_refl _) (by omega) (fun hr => defOk_sound a.depth a (by
            have := right_sound 5 a a.depth (Nat.le_refl _)
            rw [hr] at this
            exact (Bool.and_eq_true _ _ ▸ this.symm).2)) (HA.out.more (GW.out.trans (hW.mono GW.out.size))))
        rw [← HRD.out.2] at HC8
        have HC9 : Hid (∀ (W : World) (hW : Below wc.heap.size wc W) (es : List Value) (he : IsVal W (· < W.heap.size) D es), Calls Try.prog 21 #[.agg es.toArray, .agg vs.toArray] W (Gives (.bool true) W)) := hide (fun W hW es he => by have h := refValSame_calls D.depth D D es vs W (Nat.le_refl _) he (GV.out.more hW); rwa [eqB_true rfl] at h)
        have HC10 := hide (fun (W : World) (hW : Below wc.heap.size wc W) => schScalar_calls a cs W (HA.out.more (GW.out.trans (hW.mono GW.out.size))))
        have HR2 : Hid (∀ W, Below wc.heap.size wc W → W.rangeAt w.heap.size 0 cs) := hide fun W hW j v hv => by
          have h := (G2.out.below hW G2.out.lt).cell j
          rw [Nat.zero_add, h]; simpa using hv
        have HR3 : Hid (∀ W, Below wc.heap.size wc W → W.rangeAt (w.heap.size + 1) 0 ds) := hide fun W hW j v hv => by
          have h := (G3.out.below hW G3.out.lt).cell j
          rw [Nat.zero_add, h]; simpa using hv
        have HR6 : Hid (∀ W, Below wc.heap.size wc W → W.rangeAt w3.heap.size 0 vs) := hide fun W hW j v hv => by
          have h := (G6.out.below hW G6.out.lt).cell j
          rw [Nat.zero_add, h]; simpa using hv
        have HK : Hid (∀ W, Below wc.heap.size wc W → W.cell? ⟨w.heap.size, 0, none⟩ = some (.int .i64 a.kind)) := hide fun W hW => by
          rw [(G2.out.below hW G2.out.lt).cell]; simpa using hkd
        have hu := Try.underlying25
        have huv := Try.underlying31
        have hi1 : (Try.prog.info? 25).map (·.size) = some cs.length := by rw [hla]; kernel_rfl
        have hi2 : (Try.prog.info? 25).map (·.size) = some ds.length := by rw [hlb]; kernel_rfl
        have hi6 : (Try.prog.info? 31).map (·.size) = some vs.length := by rw [hlv]; kernel_rfl
        have HAW := hide (fun W => awake09_calls W)
        have hsk : Hid ((a.kind ≤ 0 ∧ scalarS a.kind = false) ∨ (0 < a.kind ∧ a.kind < 5 ∧ scalarS a.kind = true) ∨ (0 < a.kind ∧ ¬ a.kind < 5 ∧ scalarS a.kind = false)) := hide (by
          unfold scalarS
          simp only [decide_eq_true_eq, decide_eq_false_iff_not]
          omega)
        clear HRD hl1 hkd HL HL2 HA HB G2 G3 G6 GV hwa hda hda' hla hlb hlv
        go_wp2_with fail
        refine wp_region_held_drew (S := fun w' => Below wc.heap.size wc w') (by kernel_rfl) (Below.refl _ _).drew (fun hHeld => ?_)
        (refine takeH (i := 0) (v := .agg (cs).toArray) rfl rfl (by kernel_rfl) (by kernel_rfl) (by kernel_rfl) (fun _ _ _ h => h) (by rfl) (fun wz hw => load_exec 25 (.tmp 2) rfl (w.heap.size) (0) rfl (cs) _ (HR2.out _ hw) hu rfl hi1) hHeld ?_; simp only [Act.put, List.setIfInBounds_toArray, List.set_cons_zero, List.set_cons_succ])
        (refine takeH (i := 2) (v := .bool R) rfl rfl (by kernel_rfl) (by kernel_rfl) (by kernel_rfl) (fun _ _ _ h => h) (by rfl) (fun wz hSw => by go_simp) hHeld ?_; simp only [Act.put, List.setIfInBounds_toArray, List.set_cons_zero, List.set_cons_succ])
        (refine oneH (i := 1) rfl (by kernel_rfl) (fun K hK => ?_); go_simp; refine (HC1.out _ hHeld).mono ?_; rintro e w4 ⟨rfl, hb4⟩; have q4 := hHeld.trans (hb4.mono hHeld.size); refine hK.out _ _ (q4) (fun hHeld => ?_); clear hK K)
        (refine takeH (i := 3) (v := .bool true) rfl rfl (by kernel_rfl) (by kernel_rfl) (by kernel_rfl) (fun _ _ _ h => h) (by rfl) (fun wz hSw => by go_simp) hHeld ?_; simp only [Act.put, List.setIfInBounds_toArray, List.set_cons_zero, List.set_cons_succ])
        (refine takeH (i := 4) (v := .bool true) rfl rfl (by kernel_rfl) (by kernel_rfl) (by kernel_rfl) (fun _ _ _ h => h) (by rfl) (fun wz hSw => by go_simp) hHeld ?_; simp only [Act.put, List.setIfInBounds_toArray, List.set_cons_zero, List.set_cons_succ])
        (refine takeH (i := 5) (v := .agg (cs).toArray) rfl rfl (by kernel_rfl) (by kernel_rfl) (by kernel_rfl) (fun _ _ _ h => h) (by rfl) (fun wz hw => load_exec 25 (.tmp 2) rfl (w.heap.size) (0) rfl (cs) _ (HR2.out _ hw) hu rfl hi1) hHeld ?_; simp only [Act.put, List.setIfInBounds_toArray, List.set_cons_zero, List.set_cons_succ])
        (refine takeH (i := 7) (v := .agg (cs).toArray) rfl rfl (by kernel_rfl) (by kernel_rfl) (by kernel_rfl) (fun _ _ _ h => h) (by rfl) (fun wz hw => load_exec 25 (.tmp 2) rfl (w.heap.size) (0) rfl (cs) _ (HR2.out _ hw) hu rfl hi1) hHeld ?_; simp only [Act.put, List.setIfInBounds_toArray, List.set_cons_zero, List.set_cons_succ])
        (refine oneH (i := 6) rfl (by kernel_rfl) (fun K hK => ?_); go_simp; refine (HC2.out _ q4).mono ?_; rintro e w5 ⟨rfl, hb5⟩; have q5 := q4.trans (hb5.mono q4.size); refine hK.out _ _ (q5) (fun hHeld => ?_); clear hK K)
        (refine oneH (i := 8) rfl (by kernel_rfl) (fun K hK => ?_); go_simp; refine (HC3.out _ q5).mono ?_; rintro e w6 ⟨rfl, hb6⟩; have q6 := q5.trans (hb6.mono q5.size); refine hK.out _ _ (q6) (fun hHeld => ?_); clear hK K)
        (refine takeH (i := 9) (v := .bool true) rfl rfl (by kernel_rfl) (by kernel_rfl) (by kernel_rfl) (fun _ _ _ h => h) (by rfl) (fun wz hSw => by go_simp) hHeld ?_; simp only [Act.put, List.setIfInBounds_toArray, List.set_cons_zero, List.set_cons_succ])
        (refine takeH (i := 10) (v := .bool true) rfl rfl (by kernel_rfl) (by kernel_rfl) (by kernel_rfl) (fun _ _ _ h => h) (by rfl) (fun wz hSw => by go_simp) hHeld ?_; simp only [Act.put, List.setIfInBounds_toArray, List.set_cons_zero, List.set_cons_succ])
        (refine takeH (i := 11) (v := .bool true) rfl rfl (by kernel_rfl) (by kernel_rfl) (by kernel_rfl) (fun _ _ _ h => h) (by rfl) (fun wz hSw => by go_simp) hHeld ?_; simp only [Act.put, List.setIfInBounds_toArray, List.set_cons_zero, List.set_cons_succ])
        (refine takeH (i := 12) (v := .agg (cs).toArray) rfl rfl (by kernel_rfl) (by kernel_rfl) (by kernel_rfl) (fun _ _ _ h => h) (by rfl) (fun wz hw => load_exec 25 (.tmp 2) rfl (w.heap.size) (0) rfl (cs) _ (HR2.out _ hw) hu rfl hi1) hHeld ?_; simp only [Act.put, List.setIfInBounds_toArray, List.set_cons_zero, List.set_cons_succ])
        (refine takeH (i := 13) (v := .agg (ds).toArray) rfl rfl (by kernel_rfl) (by kernel_rfl) (by kernel_rfl) (fun _ _ _ h => h) (by rfl) (fun wz hw => load_exec 25 (.tmp 3) rfl (w.heap.size + 1) (0) rfl (ds) _ (HR3.out _ hw) hu rfl hi2) hHeld ?_; simp only [Act.put, List.setIfInBounds_toArray, List.set_cons_zero, List.set_cons_succ])
        (refine takeH (i := 15) (v := .agg (cs).toArray) rfl rfl (by kernel_rfl) (by kernel_rfl) (by kernel_rfl) (fun _ _ _ h => h) (by rfl) (fun wz hw => load_exec 25 (.tmp 2) rfl (w.heap.size) (0) rfl (cs) _ (HR2.out _ hw) hu rfl hi1) hHeld ?_; simp only [Act.put, List.setIfInBounds_toArray, List.set_cons_zero, List.set_cons_succ])
        (refine takeH (i := 16) (v := .agg (ds).toArray) rfl rfl (by kernel_rfl) (by kernel_rfl) (by kernel_rfl) (fun _ _ _ h => h) (by rfl) (fun wz hw => load_exec 25 (.tmp 3) rfl (w.heap.size + 1) (0) rfl (ds) _ (HR3.out _ hw) hu rfl hi2) hHeld ?_; simp only [Act.put, List.setIfInBounds_toArray, List.set_cons_zero, List.set_cons_succ])
        (refine oneH (i := 14) rfl (by kernel_rfl) (fun K hK => ?_); go_simp; refine (HC4.out _ q6).mono ?_; rintro e w7 ⟨rfl, hb7⟩; have q7 := q6.trans (hb7.mono q6.size); refine hK.out _ _ (q7) (fun hHeld => ?_); clear hK K)
        (refine oneH (i := 17) rfl (by kernel_rfl) (fun K hK => ?_); go_simp; refine (HC5.out _ q7).mono ?_; rintro e w8 ⟨rfl, hb8⟩; have q8 := q7.trans (hb8.mono q7.size); refine hK.out _ _ (q8) (fun hHeld => ?_); clear hK K)
        (refine takeH (i := 18) (v := .bool true) rfl rfl (by kernel_rfl) (by kernel_rfl) (by kernel_rfl) (fun _ _ _ h => h) (by rfl) (fun wz hSw => by go_simp) hHeld ?_; simp only [Act.put, List.setIfInBounds_toArray, List.set_cons_zero, List.set_cons_succ])
        (refine takeH (i := 19) (v := .bool true) rfl rfl (by kernel_rfl) (by kernel_rfl) (by kernel_rfl) (fun _ _ _ h => h) (by rfl) (fun wz hSw => by go_simp) hHeld ?_; simp only [Act.put, List.setIfInBounds_toArray, List.set_cons_zero, List.set_cons_succ])
        (refine takeH (i := 20) (v := .bool true) rfl rfl (by kernel_rfl) (by kernel_rfl) (by kernel_rfl) (fun _ _ _ h => h) (by rfl) (fun wz hSw => by go_simp) hHeld ?_; simp only [Act.put, List.setIfInBounds_toArray, List.set_cons_zero, List.set_cons_succ])
        (refine takeH (i := 21) (v := .agg (cs).toArray) rfl rfl (by kernel_rfl) (by kernel_rfl) (by kernel_rfl) (fun _ _ _ h => h) (by rfl) (fun wz hw => load_exec 25 (.tmp 2) rfl (w.heap.size) (0) rfl (cs) _ (HR2.out _ hw) hu rfl hi1) hHeld ?_; simp only [Act.put, List.setIfInBounds_toArray, List.set_cons_zero, List.set_cons_succ])
        (refine takeH (i := 23) (v := .agg (cs).toArray) rfl rfl (by kernel_rfl) (by kernel_rfl) (by kernel_rfl) (fun _ _ _ h => h) (by rfl) (fun wz hw => load_exec 25 (.tmp 2) rfl (w.heap.size) (0) rfl (cs) _ (HR2.out _ hw) hu rfl hi1) hHeld ?_; simp only [Act.put, List.setIfInBounds_toArray, List.set_cons_zero, List.set_cons_succ])
        (refine oneH (i := 22) rfl (by kernel_rfl) (fun K hK => ?_); go_simp; refine (HC6.out _ q8).mono ?_; rintro e w9 ⟨es, rfl, hcp, hb9⟩; have q9 := q8.trans (hb9.mono q8.size); refine hK.out _ _ (q9) (fun hHeld => ?_); clear hK K)
        (refine oneH (i := 24) rfl (by kernel_rfl) (fun K hK => ?_); go_simp; refine (HC7.out _ q9 es (hcp.mono fun b hb => hb.2)).mono ?_; rintro e w10 ⟨rfl, hb10⟩; have q10 := q9.trans (hb10.mono q9.size); refine hK.out _ _ (q10) (fun hHeld => ?_); clear hK K)
        clear hcp
        (refine takeH (i := 25) (v := .bool true) rfl rfl (by kernel_rfl) (by kernel_rfl) (by kernel_rfl) (fun _ _ _ h => h) (by rfl) (fun wz hSw => by go_simp) hHeld ?_; simp only [Act.put, List.setIfInBounds_toArray, List.set_cons_zero, List.set_cons_succ])
        (refine takeH (i := 26) (v := .bool true) rfl rfl (by kernel_rfl) (by kernel_rfl) (by kernel_rfl) (fun _ _ _ h => h) (by rfl) (fun wz hSw => by go_simp) hHeld ?_; simp only [Act.put, List.setIfInBounds_toArray, List.set_cons_zero, List.set_cons_succ])
        (refine takeH (i := 27) (v := .agg (cs).toArray) rfl rfl (by kernel_rfl) (by kernel_rfl) (by kernel_rfl) (fun _ _ _ h => h) (by rfl) (fun wz hw => load_exec 25 (.tmp 2) rfl (w.heap.size) (0) rfl (cs) _ (HR2.out _ hw) hu rfl hi1) hHeld ?_; simp only [Act.put, List.setIfInBounds_toArray, List.set_cons_zero, List.set_cons_succ])
        (refine takeH (i := 29) (v := .agg (vs).toArray) rfl rfl (by kernel_rfl) (by kernel_rfl) (by kernel_rfl) (fun _ _ _ h => h) (by rfl) (fun wz hw => load_exec 31 (.tmp 6) rfl (w3.heap.size) (0) rfl (vs) _ (HR6.out _ hw) huv rfl hi6) hHeld ?_; simp only [Act.put, List.setIfInBounds_toArray, List.set_cons_zero, List.set_cons_succ])
        (refine oneH (i := 28) rfl (by kernel_rfl) (fun K hK => ?_); go_simp; refine (HC8.out _ q10).mono ?_; rintro e w11 ⟨fs, rfl, hcv, hb11⟩; have q11 := q10.trans (hb11.mono q10.size); refine hK.out _ _ (q11) (fun hHeld => ?_); clear hK K)
        (refine oneH (i := 30) rfl (by kernel_rfl) (fun K hK => ?_); go_simp; refine (HC9.out _ q11 fs (hcv.mono fun b hb => hb.2)).mono ?_; rintro e w12 ⟨rfl, hb12⟩; have q12 := q11.trans (hb12.mono q11.size); refine hK.out _ _ (q12) (fun hHeld => ?_); clear hK K)
        clear hcv
        (refine takeH (i := 31) (v := .bool true) rfl rfl (by kernel_rfl) (by kernel_rfl) (by kernel_rfl) (fun _ _ _ h => h) (by rfl) (fun wz hSw => by go_simp) hHeld ?_; simp only [Act.put, List.setIfInBounds_toArray, List.set_cons_zero, List.set_cons_succ])
        (refine takeH (i := 32) (v := .bool true) rfl rfl (by kernel_rfl) (by kernel_rfl) (by kernel_rfl) (fun _ _ _ h => h) (by rfl) (fun wz hSw => by go_simp) hHeld ?_; simp only [Act.put, List.setIfInBounds_toArray, List.set_cons_zero, List.set_cons_succ])
        (refine takeH (i := 33) (v := .agg (cs).toArray) rfl rfl (by kernel_rfl) (by kernel_rfl) (by kernel_rfl) (fun _ _ _ h => h) (by rfl) (fun wz hw => load_exec 25 (.tmp 2) rfl (w.heap.size) (0) rfl (cs) _ (HR2.out _ hw) hu rfl hi1) hHeld ?_; simp only [Act.put, List.setIfInBounds_toArray, List.set_cons_zero, List.set_cons_succ])
        (refine takeH (i := 35) (v := .pointer (some ⟨w.heap.size, 0, none⟩)) rfl rfl (by kernel_rfl) (by kernel_rfl) (by kernel_rfl) (fun _ _ _ h => h) (by rfl) (fun wz hSw => by go_simp) hHeld ?_; simp only [Act.put, List.setIfInBounds_toArray, List.set_cons_zero, List.set_cons_succ])
        (refine takeH (i := 36) (v := .int .i64 a.kind) rfl rfl (by kernel_rfl) (by kernel_rfl) (by kernel_rfl) (fun _ _ _ h => h) (by rfl) (fun wz hSw => by (have hc5 := HK.out _ hSw; go_simp)) hHeld ?_; simp only [Act.put, List.setIfInBounds_toArray, List.set_cons_zero, List.set_cons_succ])
        rcases hsk.out with ⟨k0, ks⟩ | ⟨k0, k5, ks⟩ | ⟨k0, k5, ks⟩
        · skip
          have HC11 := hide (fun (W : World) (hW : Below wc.heap.size wc W) => HC10.out W hW)
          rw [ks] at HC11
          (refine takeH (i := 37) (v := .bool false) rfl rfl (by kernel_rfl) (by kernel_rfl) (by kernel_rfl) (fun _ _ _ h => h) (by rfl) (fun wz hSw => by go_simp) hHeld ?_; simp only [Act.put, List.setIfInBounds_toArray, List.set_cons_zero, List.set_cons_succ])
          (refine oneH (i := 34) rfl (by kernel_rfl) (fun K hK => ?_); go_simp; refine (HC11.out _ q12).mono ?_; rintro e w13 ⟨rfl, hb13⟩; have q13 := q12.trans (hb13.mono q12.size); refine hK.out _ _ (q13) (fun hHeld => ?_); clear hK K)
          (refine takeH (i := 38) (v := .bool false) rfl rfl (by kernel_rfl) (by kernel_rfl) (by kernel_rfl) (fun _ _ _ h => h) (by rfl) (fun wz hSw => by go_simp) hHeld ?_; simp only [Act.put, List.setIfInBounds_toArray, List.set_cons_zero, List.set_cons_succ])
          (refine skipH (i := 39) rfl rfl (by kernel_rfl) (by kernel_rfl) (by kernel_rfl) (fun _ _ _ h => h) (by rfl) hHeld ?_; simp only [Act.put, List.setIfInBounds_toArray, List.set_cons_zero, List.set_cons_succ])
          (refine skipH (i := 40) rfl rfl (by kernel_rfl) (by kernel_rfl) (by kernel_rfl) (fun _ _ _ h => h) (by rfl) hHeld ?_; simp only [Act.put, List.setIfInBounds_toArray, List.set_cons_zero, List.set_cons_succ])
          (refine skipH (i := 41) rfl rfl (by kernel_rfl) (by kernel_rfl) (by kernel_rfl) (fun _ _ _ h => h) (by rfl) hHeld ?_; simp only [Act.put, List.setIfInBounds_toArray, List.set_cons_zero, List.set_cons_succ])
          (refine takeH (i := 42) (v := .bool false) rfl rfl (by kernel_rfl) (by kernel_rfl) (by kernel_rfl) (fun _ _ _ h => h) (by rfl) (fun wz hSw => by go_simp) hHeld ?_; simp only [Act.put, List.setIfInBounds_toArray, List.set_cons_zero, List.set_cons_succ])
          (refine takeH (i := 43) (v := .bool true) rfl rfl (by kernel_rfl) (by kernel_rfl) (by kernel_rfl) (fun _ _ _ h => h) (by rfl) (fun wz hSw => by go_simp) hHeld ?_; simp only [Act.put, List.setIfInBounds_toArray, List.set_cons_zero, List.set_cons_succ])
          (refine takeH (i := 44) (v := .bool true) rfl rfl (by kernel_rfl) (by kernel_rfl) (by kernel_rfl) (fun _ _ _ h => h) (by rfl) (fun wz hSw => by go_simp) hHeld ?_; simp only [Act.put, List.setIfInBounds_toArray, List.set_cons_zero, List.set_cons_succ])
          (refine takeH (i := 45) (v := .bool true) rfl rfl (by kernel_rfl) (by kernel_rfl) (by kernel_rfl) (fun _ _ _ h => h) (by rfl) (fun wz hSw => by go_simp) hHeld ?_; simp only [Act.put, List.setIfInBounds_toArray, List.set_cons_zero, List.set_cons_succ])
          (refine oneH (i := 46) rfl (by kernel_rfl) (fun K hK => ?_); go_simp; refine (HAW.out _).mono ?_; rintro e w14 ⟨rfl, hb14⟩; have q14 := q13.trans (hb14.mono q13.size); refine hK.out _ _ (q14) (fun hHeld => ?_); clear hK K)
          (refine oneH (i := 47) rfl (by kernel_rfl) (fun K hK => ?_); go_simp; refine hK.out _ _ (q14) (fun hHeld => ?_); clear hK K)
          (refine oneH (i := 48) rfl (by kernel_rfl) (fun K hK => ?_); go_simp; refine hK.out _ _ (q14) (fun hHeld => ?_); clear hK K)
          refine wpAnyH_done (by kernel_rfl) ?_ _
          have PW := hide (GW.out.trans (q14.mono GW.out.size))
          clear hHeld hb14 q14
          go_wp2
          go_ret
          exact ⟨ret_eq rfl, PW.out⟩
        · skip
          have HC11 := hide (fun (W : World) (hW : Below wc.heap.size wc W) => HC10.out W hW)
          rw [ks] at HC11
          (refine takeH (i := 37) (v := .bool true) rfl rfl (by kernel_rfl) (by kernel_rfl) (by kernel_rfl) (fun _ _ _ h => h) (by rfl) (fun wz hSw => by go_simp) hHeld ?_; simp only [Act.put, List.setIfInBounds_toArray, List.set_cons_zero, List.set_cons_succ])
          (refine oneH (i := 34) rfl (by kernel_rfl) (fun K hK => ?_); go_simp; refine (HC11.out _ q12).mono ?_; rintro e w13 ⟨rfl, hb13⟩; have q13 := q12.trans (hb13.mono q12.size); refine hK.out _ _ (q13) (fun hHeld => ?_); clear hK K)
          (refine takeH (i := 38) (v := .bool true) rfl rfl (by kernel_rfl) (by kernel_rfl) (by kernel_rfl) (fun _ _ _ h => h) (by rfl) (fun wz hSw => by go_simp) hHeld ?_; simp only [Act.put, List.setIfInBounds_toArray, List.set_cons_zero, List.set_cons_succ])
          (refine takeH (i := 39) (v := .pointer (some ⟨w.heap.size, 0, none⟩)) rfl rfl (by kernel_rfl) (by kernel_rfl) (by kernel_rfl) (fun _ _ _ h => h) (by rfl) (fun wz hSw => by go_simp) hHeld ?_; simp only [Act.put, List.setIfInBounds_toArray, List.set_cons_zero, List.set_cons_succ])
          (refine takeH (i := 40) (v := .int .i64 a.kind) rfl rfl (by kernel_rfl) (by kernel_rfl) (by kernel_rfl) (fun _ _ _ h => h) (by rfl) (fun wz hSw => by (have hc5 := HK.out _ hSw; go_simp)) hHeld ?_; simp only [Act.put, List.setIfInBounds_toArray, List.set_cons_zero, List.set_cons_succ])
          (refine takeH (i := 41) (v := .bool true) rfl rfl (by kernel_rfl) (by kernel_rfl) (by kernel_rfl) (fun _ _ _ h => h) (by rfl) (fun wz hSw => by go_simp) hHeld ?_; simp only [Act.put, List.setIfInBounds_toArray, List.set_cons_zero, List.set_cons_succ])
          (refine takeH (i := 42) (v := .bool true) rfl rfl (by kernel_rfl) (by kernel_rfl) (by kernel_rfl) (fun _ _ _ h => h) (by rfl) (fun wz hSw => by go_simp) hHeld ?_; simp only [Act.put, List.setIfInBounds_toArray, List.set_cons_zero, List.set_cons_succ])
          (refine takeH (i := 43) (v := .bool true) rfl rfl (by kernel_rfl) (by kernel_rfl) (by kernel_rfl) (fun _ _ _ h => h) (by rfl) (fun wz hSw => by go_simp) hHeld ?_; simp only [Act.put, List.setIfInBounds_toArray, List.set_cons_zero, List.set_cons_succ])
          (refine takeH (i := 44) (v := .bool true) rfl rfl (by kernel_rfl) (by kernel_rfl) (by kernel_rfl) (fun _ _ _ h => h) (by rfl) (fun wz hSw => by go_simp) hHeld ?_; simp only [Act.put, List.setIfInBounds_toArray, List.set_cons_zero, List.set_cons_succ])
          (refine takeH (i := 45) (v := .bool true) rfl rfl (by kernel_rfl) (by kernel_rfl) (by kernel_rfl) (fun _ _ _ h => h) (by rfl) (fun wz hSw => by go_simp) hHeld ?_; simp only [Act.put, List.setIfInBounds_toArray, List.set_cons_zero, List.set_cons_succ])
          (refine oneH (i := 46) rfl (by kernel_rfl) (fun K hK => ?_); go_simp; refine (HAW.out _).mono ?_; rintro e w14 ⟨rfl, hb14⟩; have q14 := q13.trans (hb14.mono q13.size); refine hK.out _ _ (q14) (fun hHeld => ?_); clear hK K)
          (refine oneH (i := 47) rfl (by kernel_rfl) (fun K hK => ?_); go_simp; refine hK.out _ _ (q14) (fun hHeld => ?_); clear hK K)
          (refine oneH (i := 48) rfl (by kernel_rfl) (fun K hK => ?_); go_simp; refine hK.out _ _ (q14) (fun hHeld => ?_); clear hK K)
          refine wpAnyH_done (by kernel_rfl) ?_ _
          have PW := hide (GW.out.trans (q14.mono GW.out.size))
          clear hHeld hb14 q14
          go_wp2
          go_ret
          exact ⟨ret_eq rfl, PW.out⟩
        · skip
          have HC11 := hide (fun (W : World) (hW : Below wc.heap.size wc W) => HC10.out W hW)
          rw [ks] at HC11
          (refine takeH (i := 37) (v := .bool true) rfl rfl (by kernel_rfl) (by kernel_rfl) (by kernel_rfl) (fun _ _ _ h => h) (by rfl) (fun wz hSw => by go_simp) hHeld ?_; simp only [Act.put, List.setIfInBounds_toArray, List.set_cons_zero, List.set_cons_succ])
          (refine oneH (i := 34) rfl (by kernel_rfl) (fun K hK => ?_); go_simp; refine (HC11.out _ q12).mono ?_; rintro e w13 ⟨rfl, hb13⟩; have q13 := q12.trans (hb13.mono q12.size); refine hK.out _ _ (q13) (fun hHeld => ?_); clear hK K)
          (refine takeH (i := 38) (v := .bool true) rfl rfl (by kernel_rfl) (by kernel_rfl) (by kernel_rfl) (fun _ _ _ h => h) (by rfl) (fun wz hSw => by go_simp) hHeld ?_; simp only [Act.put, List.setIfInBounds_toArray, List.set_cons_zero, List.set_cons_succ])
          (refine takeH (i := 39) (v := .pointer (some ⟨w.heap.size, 0, none⟩)) rfl rfl (by kernel_rfl) (by kernel_rfl) (by kernel_rfl) (fun _ _ _ h => h) (by rfl) (fun wz hSw => by go_simp) hHeld ?_; simp only [Act.put, List.setIfInBounds_toArray, List.set_cons_zero, List.set_cons_succ])
          (refine takeH (i := 40) (v := .int .i64 a.kind) rfl rfl (by kernel_rfl) (by kernel_rfl) (by kernel_rfl) (fun _ _ _ h => h) (by rfl) (fun wz hSw => by (have hc5 := HK.out _ hSw; go_simp)) hHeld ?_; simp only [Act.put, List.setIfInBounds_toArray, List.set_cons_zero, List.set_cons_succ])
          (refine takeH (i := 41) (v := .bool false) rfl rfl (by kernel_rfl) (by kernel_rfl) (by kernel_rfl) (fun _ _ _ h => h) (by rfl) (fun wz hSw => by go_simp) hHeld ?_; simp only [Act.put, List.setIfInBounds_toArray, List.set_cons_zero, List.set_cons_succ])
          (refine takeH (i := 42) (v := .bool false) rfl rfl (by kernel_rfl) (by kernel_rfl) (by kernel_rfl) (fun _ _ _ h => h) (by rfl) (fun wz hSw => by go_simp) hHeld ?_; simp only [Act.put, List.setIfInBounds_toArray, List.set_cons_zero, List.set_cons_succ])
          (refine takeH (i := 43) (v := .bool true) rfl rfl (by kernel_rfl) (by kernel_rfl) (by kernel_rfl) (fun _ _ _ h => h) (by rfl) (fun wz hSw => by go_simp) hHeld ?_; simp only [Act.put, List.setIfInBounds_toArray, List.set_cons_zero, List.set_cons_succ])
          (refine takeH (i := 44) (v := .bool true) rfl rfl (by kernel_rfl) (by kernel_rfl) (by kernel_rfl) (fun _ _ _ h => h) (by rfl) (fun wz hSw => by go_simp) hHeld ?_; simp only [Act.put, List.setIfInBounds_toArray, List.set_cons_zero, List.set_cons_succ])
          (refine takeH (i := 45) (v := .bool true) rfl rfl (by kernel_rfl) (by kernel_rfl) (by kernel_rfl) (fun _ _ _ h => h) (by rfl) (fun wz hSw => by go_simp) hHeld ?_; simp only [Act.put, List.setIfInBounds_toArray, List.set_cons_zero, List.set_cons_succ])
          (refine oneH (i := 46) rfl (by kernel_rfl) (fun K hK => ?_); go_simp; refine (HAW.out _).mono ?_; rintro e w14 ⟨rfl, hb14⟩; have q14 := q13.trans (hb14.mono q13.size); refine hK.out _ _ (q14) (fun hHeld => ?_); clear hK K)
          (refine oneH (i := 47) rfl (by kernel_rfl) (fun K hK => ?_); go_simp; refine hK.out _ _ (q14) (fun hHeld => ?_); clear hK K)
          (refine oneH (i := 48) rfl (by kernel_rfl) (fun K hK => ?_); go_simp; refine hK.out _ _ (q14) (fun hHeld => ?_); clear hK K)
          refine wpAnyH_done (by kernel_rfl) ?_ _
          have PW := hide (GW.out.trans (q14.mono GW.out.size))
          clear hHeld hb14 q14
          go_wp2
          go_ret
          exact ⟨ret_eq rfl, PW.out⟩
end Go.Proofs.Ytpnjkebjdclkfaa
