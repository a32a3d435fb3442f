/- Schemas, walked: the copy. Conditions: none. -/
import Derived.Test.YtpnjkebjdclkfaaRowsB
namespace Go.Proofs.Ytpnjkebjdclkfaa
open Go.RowKit

/-- The call answers schema s, made of new memory. -/
def NewSch (s : DSch) (w : World) (e : Ending) (w' : World) : Prop := ∃ cs : List Value, e = .returned (.agg cs.toArray) ∧ IsSch w' (fun b => w.heap.size ≤ b ∧ b < w'.heap.size) s cs ∧ Below w.heap.size w w'
theorem info_strK : (Try.prog.info? 9).map (fun i => (i.zero, i.size, i.bytes)) = some (some (sv []), 1, 16) := by kernel_rfl
theorem info_schK : (Try.prog.info? 25).map (fun i => (i.zero, i.size, i.bytes)) = some (some (.agg #[.int .i64 0, .slice none 0 0, .slice none 0 0]), 3, 56) := by kernel_rfl
theorem info_schS : (Try.prog.info? 25).map (·.size) = some 3 := by kernel_rfl

set_option maxHeartbeats 2000000 in
set_option maxRecDepth 20000 in
theorem schCopy_calls (k : Nat) : ∀ (s : DSch) (cs : List Value) (w : World), s.depth ≤ k → s.weight ≤ 1000000 → IsSch w (· < w.heap.size) s cs →
    Calls Try.prog 20 #[.agg cs.toArray] w (NewSch s w) := by
  induction k with
  | zero => intro s cs w h; have := s.depth_pos; omega
  | succ k ih =>
    intro s cs w hk hwt hs
    have HDP := hide (fun p (h : p ∈ s.parts) => DSch.depth_part h)
    have HWP := hide (fun p (h : p ∈ s.parts) => DSch.weight_part h)
    have hww := s.words_weight
    have hpw := s.parts_weight
    have HI := hide ih
    obtain ⟨Ap', cp', C', hp1', _, _, hP', hA'⟩ := hs.partsF
    cases hs with
    | @mk kind words parts Aw Ap cw cp b o C hki hw hz hcw hmw hA hC hP hcp hmp =>
    simp only [DSch.words, DSch.parts] at *
    obtain ⟨rfl, rfl⟩ : Ap' = Ap ∧ cp' = cp := by simpa [eq_comm] using hp1'
    have HPA := hide hA'
    have HPP := hide hP'
    have HKI := hide hki
    have HZ := hide hz
    have HW := hide hw
    clear ih hA hC hP hA' hP' hz hw hki hp1'
    obtain ⟨i9, hi9, hz9, hs9, hb9⟩ := info_parts info_strK
    obtain ⟨i25, hi25, hz25, hs25, hb25⟩ := info_parts info_schK
    have HW0 := hide (((Below.refl w.heap.size w).alloc (Nat.le_refl _) (.cells #[.int .i64 kind, .slice Aw words.length cw, .slice Ap' parts.length cp'] 25)))
    have HX := hide (Blk.new w 25 #[.int .i64 kind, .slice Aw words.length cw, .slice Ap' parts.length cp'])
    have hRD := HW.out.reads (B := w.heap.size) (fun _ h => h)
    have HRD := hide hRD
    clear hRD
    go_enter Try.func20, Try.ntmps20
    go_upto_region 1 with fail
    go_cut [8] (fun v wx => ∃ (Aq : Option Addr) (cq : Nat), v = .slice Aq words.length cq ∧ wx.ownsRow (w.heap.size + 1 + 1) 9 1 (.slice Aq words.length cq) words.length (words.map sv) ∧ Blk wx w.heap.size 25 #[.int .i64 kind, .slice Aq words.length cq, .slice Ap' parts.length cp'] ∧ (∃ Z : Array Value, Z.size = 3 ∧ Blk wx (w.heap.size + 1) 25 Z) ∧ Below w.heap.size w wx)
    case first =>
      have HW1 := hide (HW0.out.alloc (by simp) (.cells #[.int .i64 0, .slice none 0 0, .slice none 0 0] 25))
      have HX1 := hide (HX.out.alloc (.cells #[.int .i64 0, .slice none 0 0, .slice none 0 0] 25))
      have HZ1 := hide (Blk.new2 w (.cells #[.int .i64 kind, .slice Aw words.length cw, .slice Ap' parts.length cp'] 25) 25 #[.int .i64 0, .slice none 0 0, .slice none 0 0])
      have HRE := hide ((HRD.out.keep (fun p hp => HW1.out.cell hp)))
      go_wp2_with (first
        | (at_builtin; refine wpList_append_any _ rfl _ _ 22 rfl _ 9 i9 (sv []) 1 16 Try.underlying22 hi9 hz9 hs9 hb9 rfl (by decide) (.slice none 0 0) 0 [] (by rfl) (World.ownsRow_nil _ (w.heap.size + 1 + 1) _ _) _ _ words.length _ (words.map sv) (by rfl) HRE.out (by intro u hu; obtain ⟨x, _, rfl⟩ := List.mem_map.1 hu; rfl) (by unfold maxLen; omega) (by omega) (by simp) ?_; intro Aq cq wq ownq growq lieq; simp only [Nat.zero_add, List.nil_append] at ownq ⊢; have HBK := hide (HX1.out.grown growq (by simp [Value.ownBlock])); have f3 := HBK.out.frozen 1; have e3 := HBK.out.cell 1; have HOW := hide ownq; have HGQ := hide growq; have HLI := hide lieq; clear ownq growq lieq)
        | fail)
      go_meet
      have hF : Fr (fun k => k = w.heap.size) wq (wq.setCell ⟨w.heap.size, 1, none⟩ (.slice Aq words.length cq)) := (Fr.refl (fun k => k = w.heap.size) wq).setCell (p := ⟨w.heap.size, 1, none⟩) (.inl rfl) _
      refine ⟨Aq, cq, rfl, own_fr HOW.out hF (fun q hk e => by have := (HOW.out.lt q hk).1; omega), by simpa using HBK.out.set_ 1 (.slice Aq words.length cq), ⟨_, rfl, (HZ1.out.grown HGQ.out (by simp [Value.ownBlock])).fr hF (by omega)⟩, ?_⟩
      exact ((HW1.out.grown HGQ.out (by simp; omega) (fun b hb => by simp [Value.ownBlock] at hb))).trans (hF.below (by have := HBK.out.lt; omega) fun x hx h => by omega)
    case rest =>
      obtain ⟨Aq, cq, rfl, hwo, h1, ⟨Z, hZ, h2⟩, hw⟩ := hcut
      have HWO := hide hwo
      have G1 := hide h1
      have G2 := hide h2
      have GZ := hide hZ
      have GW := hide hw
      have hlt1 := h2.lt
      clear hwo h1 h2 hw hZ HX HW0
      have c2 : wc.cell? ⟨w.heap.size, 2, none⟩ = some (.slice Ap' parts.length cp') := G1.out.cell 2
      go_wp2_with fail
      go_loopw [3, 13] (fun rv iv wr => ∃ (j : Nat) (A : Option Addr) (c : Nat) (Cs : List (List Value)), rv = .slice A j c ∧ iv = .int .i64 j ∧ j ≤ parts.length ∧ RB 25 3 IsSch wr wc.heap.size A c (parts.take j) Cs ∧ Below wc.heap.size wc wr) (fun _ i _ => parts.length - (intOf i).toNat)
      case atStart => exact ⟨0, none, 0, [], rfl, rfl, Nat.zero_le _, RB.nil treeSch _ _, Below.refl _ _⟩
      case round =>
        clear c2
        obtain ⟨j, A, c, Cs, rfl, rfl, hj, hrb, hw⟩ := hrel
        obtain ⟨wo, rfl⟩ : ∃ wo : World, wo = wr := ⟨_, rfl⟩
        have KW := hide hw
        have HRB := hide hrb
        have hlj : (parts.take j).length = j := by simp; omega
        have HLJ := hide hlj
        clear hw hrb hlj
        by_cases hlt : j < parts.length
        · obtain ⟨x, o5, rfl, hx, hC⟩ := HPA.out (by omega)
          obtain ⟨hl3, hr⟩ := hC j hlt
          have HPI := hide (HPP.out j _ (List.getElem?_eq_getElem hlt))
          have HGO := hide (GW.out.trans (KW.out.mono GW.out.size))
          have HRW : Hid (wo.rangeAt x (o5 + j * 3) (C' j)) := hide fun q v hv => (HGO.out.cell (p := ⟨x, o5 + j * 3 + q, none⟩) hx).trans (hr q v hv)
          have HL3 := hide hl3
          have HONE := hide (HPI.out.one)
          have hdp := HDP.out _ (List.getElem_mem hlt)
          have hwp := HWP.out _ (List.getElem_mem hlt)
          have HT := hide (List.take_succ_eq_append_getElem hlt)
          clear hC hl3 hr
          generalize parts[j] = pj at *
          generalize C' j = Cj at *
          have hst := fun (W : World) => run_store_new (P := Try.prog) W 25 [.int .i64 0, .slice none 0 0, .slice none 0 0] Cj (by rw [HL3.out]; rfl) HONE.out
          go_wp2_with (first
            | (refine wpList_load_mid rfl 25 _ rfl x (o5 + j * 3) rfl Cj _ HRW.out rfl rfl (by rw [HL3.out]; kernel_rfl) ?_)
            | (refine wpList_load_blk rfl 25 _ rfl _ rfl _ _ (Blk.new _ _ _) _ rfl rfl (by rw [List.size_toArray, HL3.out]; kernel_rfl) ?_)
            | fail)
          have K6 := hide ((Below.refl wo.heap.size wo).alloc (Nat.le_refl _) (.cells Cj.toArray 25))
          clear HRW
          refine (HI.out pj Cj _ (by omega) (by omega) (HPI.out.more (HGO.out.trans (K6.out.mono HGO.out.size)))).mono ?_
          rintro e w1 ⟨cs1, rfl, hv1, hb1⟩
          have HB1 := hide (K6.out.trans (hb1.mono K6.out.size))
          have HV1 := hide (hv1.mono (G := fun b => wo.heap.size ≤ b ∧ b < w1.heap.size) fun b hb => ⟨Nat.le_trans (by simp) hb.1, hb.2⟩)
          have H1L := hide hv1.length
          have H1O := hide hv1.one
          clear hv1 hb1
          have V2 := hide (HRB.out.keep treeSch (HB1.out.alloc HB1.out.size (.cells cs1.toArray 25)))
          have HOW := hide (V2.out.own)
          rw [HLJ.out] at HOW
          have hRD := reads_blk (n := 1) (size := 3) (Blk.new w1 25 cs1.toArray) (by rw [H1L.out])
          have HRD1 := hide hRD
          clear hRD
          have hs1 := HB1.out.size
          have hs2 := KW.out.size
          go_wp2_with (first
            | (rw [foldl_zip_all _ _ (by rw [H1L.out]; rfl), if_neg (by rw [H1L.out]; decide)])
            | (at_builtin; refine wpList_append_any _ rfl _ _ 23 rfl _ 25 i25 (.agg #[.int .i64 0, .slice none 0 0, .slice none 0 0]) 3 56 Try.underlying23 hi25 hz25 hs25 hb25 rfl (by decide) _ j Cs.flatten (by rfl) HOW.out _ _ 1 _ cs1 (by rfl) HRD1.out H1O.out (by unfold maxLen; omega) (by omega) (by simp only [World.size_alloc]; omega) ?_; intro Aq2 cq2 wq2 ownq growq lieq; have HOQ := hide ownq; have HGQ := hide growq; have HLI := hide lieq; clear ownq growq lieq)
            | fail)
          have hOW0 := HRB.out.own
          rw [HLJ.out] at hOW0
          have hx1 : IsSch (w1.alloc (.cells cs1.toArray 25)) (fun b => wc.heap.size ≤ b ∧ b < (w1.alloc (.cells cs1.toArray 25)).heap.size ∧ (Value.slice A j c).ownBlock ≠ some b) pj cs1 :=
            (HV1.out.keep fun q hq => ((Below.refl w1.heap.size w1).alloc (Nat.le_refl _) (.cells cs1.toArray 25)).cell hq.2).mono fun b hb => ⟨by omega, by simp only [World.size_alloc]; omega, fun e => by have := (hOW0.lt _ e).2; omega⟩
          exact ⟨⟨j + 1, Aq2, cq2, Cs ++ [cs1], rfl, by go_num, by omega, by rw [HT.out]; exact V2.out.app treeSch HLJ.out hx1 HOQ.out HGQ.out HLI.out, (((KW.out.trans (HB1.out.mono hs2)).alloc (by omega) _).grown HGQ.out (by simp only [World.size_alloc]; omega) (fun b hb => (hOW0.lt _ hb).1))⟩, by simp [intOf]; omega⟩
        · obtain rfl : j = parts.length := by omega
          have HR2 : Hid (RB 25 3 IsSch wo wc.heap.size A c parts Cs) := hide (by have := HRB.out; rwa [List.take_length] at this)
          have K1 := hide (G1.out.below KW.out (by omega))
          have K2 := hide (G2.out.below KW.out (by omega))
          have c2 : wo.cell? ⟨w.heap.size, 2, none⟩ = some (.slice Ap' parts.length cp') := K1.out.cell 2
          have f2 : wo.frozen? ⟨w.heap.size, 2, none⟩ = false := K1.out.frozen 2
          have K1S := hide (K1.out.set_ 2 (.slice A parts.length c))
          have K2F := hide (K2.out.far (p := ⟨w.heap.size, 2, none⟩) (by simp) (.slice A parts.length c))
          go_wp2_with (first
            | (refine wpList_load_blk rfl 25 _ rfl _ rfl _ _ (K1S.out) _ rfl rfl info_schS ?_)
            | (refine wpList_store_blk rfl 25 _ _ rfl _ rfl #[.int .i64 kind, .slice Aq words.length cq, .slice A parts.length c] rfl _ _ (K2F.out) (by rw [GZ.out] <;> rfl) info_schS (by simp [Value.oneCell']) ?_; intro wf hbf hff; have HBF := hide hbf; have HFF := hide hff; clear hbf hff)
            | fail)
          refine bodyPost_ret (results_cell_row rfl _ _ (w.heap.size + 1) 25 #[.int .i64 kind, .slice Aq words.length cq, .slice A parts.length c] (0, 0) _ rfl HBF.out rfl rfl info_schS) rfl ?_
          have HFS : Hid (Fr (fun b => w.heap.size ≤ b ∧ b < w.heap.size + 1 + 1) wo wf) := hide (((Fr.refl (fun b => w.heap.size ≤ b ∧ b < w.heap.size + 1 + 1) wo).setCell (p := ⟨w.heap.size, 2, none⟩) (.inl (by show w.heap.size ≤ w.heap.size ∧ w.heap.size < _; omega)) _).trans (HFF.out.mono fun k _ hk => .inl (by omega)))
          have hsf := HFS.out.size
          have hsw := KW.out.size
          obtain ⟨b', o', C2, q1, q2, q3, q4⟩ := HR2.out.done treeSch
          have hwd : RF wf (fun b => w.heap.size ≤ b ∧ b < wf.heap.size) 1 Aq words.length (words.map sv) := by
            have h1 := own_cells HWO.out
            refine (h1.keep fun q hq => ?_).mono fun b hb => ?_
            · have := HWO.out.lt _ hq
              exact (HFS.out.cell (p := q) (by omega) (by omega)).trans (KW.out.cell (by omega))
            · have := HWO.out.lt _ hb
              omega
          refine ⟨_, rfl, .mk HKI.out hwd HZ.out (own_cap HWO.out) (by omega) (fun h => ⟨(q1 h).1, ⟨by have := (q1 h).2; omega, by have := (q1 h).2; omega⟩⟩) (fun i p hp => ⟨(q2 i p hp).1, fun j v hv => ?_⟩) (fun i p hp => ((q3 i p hp).keep fun q hq => HFS.out.cell hq.2 (by have := hq.1; omega)).mono fun b hb => by omega) q4 (by omega), ?_⟩
          · have h0 := (q1 (by have := (List.getElem?_eq_some_iff.1 hp).1; omega)).2
            exact (HFS.out.cell (p := ⟨b', o' + i * 3 + j, none⟩) h0.2 (by show ¬ (_ ≤ b' ∧ b' < _); omega)).trans ((q2 i p hp).2 j v hv)
          · exact (GW.out.trans (KW.out.mono GW.out.size)).trans (HFS.out.below (by omega) fun x hx h => by omega)
end Go.Proofs.Ytpnjkebjdclkfaa
