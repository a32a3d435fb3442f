/- Schemas, walked: the document's own 'right'. Conditions: none. -/
import Derived.Test.YtpnjkebjdclkfaaSchG
import Derived.Test.YtpnjkebjdclkfaaSchC
namespace Go.Proofs.Ytpnjkebjdclkfaa
open Go.RowKit

def badHead (kd : Int) (nw : Nat) : Prop := kd < 1 ∨ 6 < kd ∨ 8 < nw ∨ (kd ≠ 4 ∧ kd ≠ 5 ∧ 0 < nw) ∨ (kd = 4 ∧ nw = 0)
instance (kd : Int) (nw : Nat) : Decidable (badHead kd nw) := by unfold badHead; exact inferInstance
def wantS (kd : Int) (nw : Nat) : Nat := if kd = 5 then nw else if kd = 6 then 1 else 0
/-- Two words clash. -/
def clash (kd : Int) (x y : Str) : Bool := decide (x = y) || (decide (kd = 5) && sLt x y)
def wordOk (kd : Int) (l : List Str) (i : Nat) : Bool := nameB (l.getD i []) && (List.range i).all fun j => !clash kd (l.getD i []) (l.getD j [])
def hereS (s : DSch) : Bool := !decide (badHead s.kind s.words.length) && (decide (s.parts.length = wantS s.kind s.words.length) && (List.range s.words.length).all (wordOk s.kind s.words))
def soundS : Nat → DSch → Bool
  | 0, _ => true
  | k + 1, s => hereS s && s.parts.all (soundS k)
def headB (kd : Int) (nw : Nat) : Bool := decide (badHead kd nw)
theorem headB_t {kd : Int} {nw : Nat} (h : badHead kd nw) : headB kd nw = true := decide_eq_true h
theorem headB_f {kd : Int} {nw : Nat} (h : ¬ badHead kd nw) : headB kd nw = false := decide_eq_false h

set_option maxHeartbeats 4000000 in
set_option maxRecDepth 20000 in
theorem refSound_calls (k : Nat) : ∀ (s : DSch) (cs : List Value) (w : World), s.depth ≤ k → IsSch w (· < w.heap.size) s cs →
    Calls Try.prog 59 #[.agg cs.toArray] w (Gives (.bool (soundS k s)) w) := by
  induction k with
  | zero => intro s cs w h; have := s.depth_pos; omega
  | succ k ih =>
    intro s cs w hk hs
    obtain ⟨hk1, hki⟩ := hs.kind_
    obtain ⟨Aw, cw, hw1, hwr, hwz, hwc, hwm⟩ := hs.words_
    obtain ⟨Ap, cp, C, hp1, hpc, hpm, hP, hA⟩ := hs.partsF
    have HW0 := hide ((Below.refl w.heap.size w).alloc (Nat.le_refl _) (.cells cs.toArray 25))
    have HX := hide (Blk.new w 25 cs.toArray)
    have HWR := hide hwr
    have HWZ := hide hwz
    have HPA := hide hA
    have HPP := hide hP
    have HI := hide ih
    have HDP := hide (fun p (h : p ∈ s.parts) => DSch.depth_part h)
    have HSP : Hid (soundS (k + 1) s = ((!headB s.kind s.words.length && (decide (s.parts.length = wantS s.kind s.words.length) && (List.range s.words.length).all (wordOk s.kind s.words))) && s.parts.all (soundS k))) := hide rfl
    have hkb := i64_wf hki
    clear ih hs hwr hwz hP hA hki
    generalize hres : soundS (k + 1) s = res at *
    clear hres
    go_enter Try.func59, Try.ntmps59
    go_upto_region 1 with fail
    go_cut [47] (fun c wx => c = .bool (headB s.kind s.words.length) ∧ wx = w.alloc (.cells cs.toArray 25))
    case first =>
      generalize s.kind = kd at *
      generalize s.words.length = nw at *
      have key : kd < 1 ∨ 6 < kd ∨ (1 ≤ kd ∧ kd ≤ 6 ∧ 8 < nw) ∨ ((kd = 1 ∨ kd = 2 ∨ kd = 3 ∨ kd = 6) ∧ nw = 0) ∨ ((kd = 1 ∨ kd = 2 ∨ kd = 3 ∨ kd = 6) ∧ 0 < nw ∧ nw ≤ 8) ∨ (kd = 4 ∧ nw = 0) ∨ (kd = 4 ∧ 0 < nw ∧ nw ≤ 8) ∨ (kd = 5 ∧ nw ≤ 8) := by omega
      rcases key with h | h | h | h | h | h | h | h
      · have HR : Hid (headB kd nw = true) := hide (headB_t (by unfold badHead; omega))
        go_wp2_with fail
        go_meet
        exact ⟨by rw [HR.out], rfl⟩
      · have HR : Hid (headB kd nw = true) := hide (headB_t (by unfold badHead; omega))
        have l1 : 1 ≤ kd := by omega
        go_wp2_with fail
        go_meet
        exact ⟨by rw [HR.out] <;> (first | rfl | (simp; done) | (simp; omega)), rfl⟩
      · have HR : Hid (headB kd nw = true) := hide (headB_t (by unfold badHead; omega))
        obtain ⟨l1, l6, l8⟩ := h
        go_wp2_with fail
        go_meet
        exact ⟨by rw [HR.out] <;> (first | rfl | (simp; done) | (simp; omega)), rfl⟩
      all_goals
        first
          | (have HR : Hid (headB kd nw = true) := hide (headB_t (by unfold badHead; omega)))
          | (have HR : Hid (headB kd nw = false) := hide (headB_f (by unfold badHead; omega)))
        have l1 : 1 ≤ kd := by omega
        have l6 : kd ≤ 6 := by omega
        have l8 : nw ≤ 8 := by omega
        first
          | (have f4 : (kd != 4) = true := by simp; omega)
          | (have f4 : (kd != 4) = false := by simp; omega)
        first
          | (have e4 : (kd == 4) = true := by simp; omega)
          | (have e4 : (kd == 4) = false := by simp; omega)
        first
          | (have f5 : (kd != 5) = true := by simp; omega)
          | (have f5 : (kd != 5) = false := by simp; omega)
        first
          | (have l0 : 0 < nw := by omega; have z0 : ((nw : Int) == 0) = false := by simp; omega)
          | (have l0 : nw ≤ 0 := by omega; have z0 : ((nw : Int) == 0) = true := by simp; omega)
          | skip
        have HH := hide h
        clear h
        go_wp2_with fail
        all_goals
          go_meet
          have h := HH.out
          exact ⟨by rw [HR.out] <;> (first | rfl | (simp; done) | (simp; omega)), rfl⟩
    case rest =>
      obtain ⟨rfl, rfl⟩ := hcut
      cases hh : headB s.kind s.words.length
      case true =>
        rw [hh] at HSP
        have HR : Hid (res = false) := hide (by rw [HSP.out]; simp)
        clear hh HSP
        go_wp2
        go_ret
        exact ⟨ret_eq (by rw [HR.out]; rfl), HW0.out⟩
      case false =>
        have hgood : ¬ badHead s.kind s.words.length := of_decide_eq_false hh
        rw [hh, Bool.not_false, Bool.true_and] at HSP
        have hn8 : s.words.length ≤ 8 := by unfold badHead at hgood; omega
        have HWANT : Hid (wantS s.kind s.words.length = if s.kind = 5 then s.words.length else if s.kind = 6 then 1 else 0) := hide rfl
        clear hh hgood
        generalize hwn : wantS s.kind s.words.length = want at *
        have hwant8 : want ≤ 8 := by rw [HWANT.out]; split <;> (try split) <;> omega
        clear hwn
        go_upto_if 50 with fail
        go_cut [3] (fun c wx => c = .int .i64 (((if s.kind = 5 then s.words.length else 0 : Nat)) : Int) ∧ wx = w.alloc (.cells cs.toArray 25))
        case first =>
          by_cases h5 : s.kind = 5
          · have e5 : (s.kind == 5) = true := by simp [h5]
            have HH := hide h5
            clear h5
            go_wp2_with fail
            go_meet
            exact ⟨by rw [if_pos HH.out], rfl⟩
          · have e5 : (s.kind == 5) = false := by simpa using h5
            have HH := hide h5
            clear h5
            go_wp2_with fail
            go_meet
            exact ⟨by rw [if_neg HH.out]; rfl, rfl⟩
        case rest =>
          obtain ⟨rfl, rfl⟩ := hcut
          generalize hx5 : (if s.kind = 5 then s.words.length else 0 : Nat) = x5
          have HX5 := hide hx5
          clear hx5
          go_upto_if 56 with fail
          go_cut [3] (fun c wx => c = .int .i64 (want : Int) ∧ wx = w.alloc (.cells cs.toArray 25))
          case first =>
            by_cases h6 : s.kind = 6
            · have e6 : (s.kind == 6) = true := by simp [h6]
              have HH := hide h6
              clear h6
              go_wp2_with fail
              go_meet
              exact ⟨by rw [HWANT.out, if_neg (by rw [HH.out]; decide), if_pos HH.out]; rfl, rfl⟩
            · have e6 : (s.kind == 6) = false := by simpa using h6
              have HH := hide h6
              clear h6
              go_wp2_with fail
              go_meet
              exact ⟨by rw [HWANT.out, ← HX5.out, if_neg HH.out], rfl⟩
          case rest =>
            obtain ⟨rfl, rfl⟩ := hcut
            clear HX5 HWANT
            by_cases hpw : s.parts.length = want
            case neg =>
              have hne : ((s.parts.length : Int) != (want : Int)) = true := by simp; omega
              have HR : Hid (res = false) := hide (by rw [HSP.out, decide_eq_false hpw]; simp)
              clear hpw HSP
              go_wp2
              go_ret
              exact ⟨ret_eq (by rw [HR.out]; rfl), HW0.out⟩
            have hne : ((s.parts.length : Int) != (want : Int)) = false := by simp [hpw]
            rw [decide_eq_true hpw, Bool.true_and] at HSP
            clear hpw
            go_wp2_with fail
            go_loopw [4] (fun i wr => ∃ (n : Nat), i = .int .i64 n ∧ n ≤ s.words.length ∧ (∀ r, r < n → wordOk s.kind s.words r = true) ∧ Blk wr w.heap.size 25 cs.toArray ∧ Below w.heap.size w wr) (fun i _ => s.words.length - (intOf i).toNat)
            case atStart => exact ⟨0, rfl, Nat.zero_le _, fun r hr => by omega, HX.out, HW0.out⟩
            case round =>
              obtain ⟨n, rfl, hn, hok, hblk, hw⟩ := hrel
              have GN := hide hok
              have GB := hide hblk
              have GW := hide hw
              clear hok hblk hw HX HW0 hne
              obtain ⟨wo, rfl⟩ : ∃ wo : World, wo = wr := ⟨_, rfl⟩
              have c1 : wo.cell? ⟨w.heap.size, 1, none⟩ = some (.slice Aw s.words.length cw) := by rw [GB.out.cell]; simpa using hw1
              by_cases hlt : n < s.words.length
              · obtain ⟨x, o, rfl, hx, hcw⟩ := HWR.out.at_ hlt
                have d1 : wo.cell? ⟨x, o + n, none⟩ = some (sv s.words[n]) := (GW.out.cell (p := ⟨x, o + n, none⟩) hx).trans hcw
                have hz := HWZ.out _ (List.getElem_mem hlt)
                have HCN := hide (fun (W : World) => refName_calls s.words[n] W hz)
                have HG := hide (show s.words.getD n [] = s.words[n] by simp [List.getD, hlt])
                have HBAD : Hid (wordOk s.kind s.words n = false → res = false) := hide fun h => by
                  rw [HSP.out, show (List.range s.words.length).all (wordOk s.kind s.words) = false from List.all_eq_false.2 ⟨n, List.mem_range.2 hlt, by rw [h]; simp⟩]
                  rfl
                have HOK : Hid (wordOk s.kind s.words n = (nameB (s.words.getD n []) && (List.range n).all fun j => !clash s.kind (s.words.getD n []) (s.words.getD j []))) := hide rfl
                rw [HG.out] at HOK
                clear hcw hz HG
                generalize hsn : s.words[n] = sn at *
                have HSN := hide hsn
                clear hsn
                cases hnm : nameB sn
                case false =>
                  rw [hnm] at HCN HOK
                  clear hnm
                  go_wp2_with fail
                  refine (HCN.out _).mono ?_
                  rintro e w1 ⟨rfl, rfl⟩
                  go_wp2
                  go_ret
                  exact ⟨ret_eq (by rw [HBAD.out (by rw [HOK.out]; rfl)]; rfl), GW.out⟩
                case true =>
                  rw [hnm, Bool.true_and] at HOK
                  rw [hnm] at HCN
                  clear hnm
                  go_wp2_with fail
                  refine (HCN.out _).mono ?_
                  rintro e w1 ⟨rfl, rfl⟩
                  go_wp2_with fail
                  go_loopw [5] (fun i wr => ∃ (j : Nat), i = .int .i64 j ∧ j ≤ n ∧ (∀ r, r < j → clash s.kind sn (s.words.getD r []) = false) ∧ Blk wr w.heap.size 25 cs.toArray ∧ Below w.heap.size w wr) (fun i _ => n - (intOf i).toNat)
                  case atStart => exact ⟨0, rfl, Nat.zero_le _, fun r hr => by omega, GB.out, GW.out⟩
                  case round =>
                    clear c1 d1 GB GW
                    obtain ⟨j, rfl, hj, hcl, hblk, hw⟩ := hrel
                    have GJ := hide hcl
                    have GB := hide hblk
                    have GW := hide hw
                    clear hcl hblk hw
                    have c0 : wr.cell? ⟨w.heap.size, 0, none⟩ = some (.int .i64 s.kind) := by rw [GB.out.cell]; simpa using hk1
                    have c1 : wr.cell? ⟨w.heap.size, 1, none⟩ = some (.slice (some ⟨x, o, none⟩) s.words.length cw) := by rw [GB.out.cell]; simpa using hw1
                    by_cases hjn : j < n
                    · have hjl : j < s.words.length := by omega
                      obtain ⟨x', o', e', _, hcj⟩ := HWR.out.at_ hjl
                      obtain ⟨rfl, rfl⟩ : x = x' ∧ o = o' := by injection e' with e'; injection e' with e1 e2; exact ⟨e1, e2⟩
                      obtain ⟨x', o', e'', _, hcn⟩ := HWR.out.at_ hlt
                      obtain ⟨rfl, rfl⟩ : x = x' ∧ o = o' := by injection e'' with e'; injection e' with e1 e2; exact ⟨e1, e2⟩
                      rw [HSN.out] at hcn
                      have d1 : wr.cell? ⟨x, o + n, none⟩ = some (sv sn) := (GW.out.cell (p := ⟨x, o + n, none⟩) hx).trans hcn
                      have d2 : wr.cell? ⟨x, o + j, none⟩ = some (sv s.words[j]) := (GW.out.cell (p := ⟨x, o + j, none⟩) hx).trans hcj
                      have HG := hide (show s.words.getD j [] = s.words[j] by simp [List.getD, hjl])
                      have HBJ : Hid (clash s.kind sn (s.words.getD j []) = true → res = false) := hide fun h => HBAD.out (by
                        rw [HOK.out, List.all_eq_false]
                        exact ⟨j, List.mem_range.2 hjn, by rw [h]; simp⟩)
                      rw [HG.out] at HBJ
                      have HCJ : Hid (clash s.kind sn s.words[j] = false → ∀ r, r < j + 1 → clash s.kind sn (s.words.getD r []) = false) := hide fun h r hr => by
                        by_cases e : r = j
                        · rw [e, HG.out]; exact h
                        · exact GJ.out r (by omega)
                      have j1 : (0 : Int) ≤ (n : Int) := by omega
                      have j2 : (n : Int) < (s.words.length : Int) := by omega
                      have j3 : (0 : Int) ≤ (j : Int) := by omega
                      have j4 : (j : Int) < (s.words.length : Int) := by omega
                      clear hcj hcn e' e'' HG
                      generalize s.words[j] = sj at *
                      cases hss : (sn == sj)
                      case true =>
                        have HC : Hid (clash s.kind sn sj = true) := hide (by unfold clash; rw [show sn = sj by simpa using hss]; simp)
                        go_wp2_with fail
                        go_quiet (fail)
                        go_wp2
                        go_ret
                        exact ⟨ret_eq (by rw [HBJ.out HC.out]; rfl), below_drewN GW.out _⟩
                      case false =>
                        have hne : sn ≠ sj := by simpa using hss
                        have HNE := hide hne
                        clear hne
                        by_cases h5 : s.kind = 5
                        · have e5 : (s.kind == 5) = true := by simp [h5]
                          have H5 := hide h5
                          clear h5
                          cases hl : Op.bytesLess sn sj
                          case true =>
                            have HC : Hid (clash s.kind sn sj = true) := hide (by unfold clash; rw [H5.out, show sLt sn sj = true from hl]; simp)
                            go_wp2_with fail
                            go_quiet (fail)
                            go_wp2
                            go_ret
                            exact ⟨ret_eq (by rw [HBJ.out HC.out]; rfl), below_drewN GW.out _⟩
                          case false =>
                            have HC : Hid (clash s.kind sn sj = false) := hide (by unfold clash; rw [show sLt sn sj = false from hl, decide_eq_false HNE.out]; simp)
                            go_wp2_with fail
                            go_quiet (fail)
                            go_wp2_with fail
                            exact ⟨⟨j + 1, by go_num, by omega, HCJ.out HC.out, GB.out.drewN _, below_drewN GW.out _⟩, by simp [intOf]; omega⟩
                        · have e5 : (s.kind == 5) = false := by simpa using h5
                          have HC : Hid (clash s.kind sn sj = false) := hide (by unfold clash; rw [decide_eq_false h5, decide_eq_false HNE.out]; simp)
                          clear h5
                          go_wp2_with fail
                          go_quiet (fail)
                          go_wp2_with fail
                          exact ⟨⟨j + 1, by go_num, by omega, HCJ.out HC.out, GB.out.drewN _, below_drewN GW.out _⟩, by simp [intOf]; omega⟩
                    · obtain rfl : j = n := by omega
                      have HG : Hid (∀ r, r < j + 1 → wordOk s.kind s.words r = true) := hide fun r hr => by
                        by_cases e : r = j
                        · rw [e, HOK.out, List.all_eq_true]
                          exact fun q hq => by rw [GJ.out q (List.mem_range.1 hq)]; rfl
                        · exact GN.out r (by omega)
                      go_wp2_with fail
                      exact ⟨⟨j + 1, by go_num, by omega, HG.out, GB.out, GW.out⟩, by simp [intOf]; omega⟩
              · have HW : Hid (res = s.parts.all (soundS k)) := hide (by
                  rw [HSP.out, show (List.range s.words.length).all (wordOk s.kind s.words) = true from List.all_eq_true.2 fun r hr => GN.out r (by have := List.mem_range.1 hr; omega), Bool.true_and])
                clear HSP GN
                go_wp2_with fail
                go_loopw [6] (fun i wr => ∃ (j : Nat), i = .int .i64 j ∧ j ≤ s.parts.length ∧ (∀ p ∈ s.parts.take j, soundS k p = true) ∧ Blk wr w.heap.size 25 cs.toArray ∧ Below w.heap.size w wr) (fun i _ => s.parts.length - (intOf i).toNat)
                case atStart => exact ⟨0, rfl, Nat.zero_le _, by simp, GB.out, GW.out⟩
                case round =>
                  clear c1 GB GW
                  obtain ⟨j, rfl, hj, hok, hblk, hw⟩ := hrel
                  have GN := hide hok
                  have GB := hide hblk
                  have GW := hide hw
                  clear hok hblk hw
                  have c2 : wr.cell? ⟨w.heap.size, 2, none⟩ = some (.slice Ap s.parts.length cp) := by rw [GB.out.cell]; simpa using hp1
                  by_cases hlt2 : j < s.parts.length
                  · obtain ⟨x, o, rfl, hx, hc⟩ := HPA.out (by omega)
                    obtain ⟨hl3, hr⟩ := hc j hlt2
                    have HRW : Hid (wr.rangeAt x (o + j * 3) (C j)) := hide fun q v hv => (GW.out.cell (p := ⟨x, o + j * 3 + q, none⟩) hx).trans (hr q v hv)
                    have HL3 := hide hl3
                    have HPI := hide ((HPP.out j _ (List.getElem?_eq_getElem hlt2)).more GW.out)
                    have hpd := HDP.out _ (List.getElem_mem hlt2)
                    have HC := hide (HI.out s.parts[j] (C j) wr (by omega) HPI.out)
                    have HB : Hid (soundS k s.parts[j] = false → res = false) := hide fun h => by
                      rw [HW.out, List.all_eq_false]
                      exact ⟨_, List.getElem_mem hlt2, by rw [h]; simp⟩
                    have HT : Hid (soundS k s.parts[j] = true → ∀ p ∈ s.parts.take (j + 1), soundS k p = true) := hide fun h p hp => by
                      rw [List.take_succ_eq_append_getElem hlt2] at hp
                      rcases List.mem_append.1 hp with h1 | h1
                      · exact GN.out p h1
                      · rw [List.mem_singleton.1 h1]; exact h
                    clear hc hr hl3 hpd
                    generalize s.parts[j] = p at *
                    generalize C j = D at *
                    cases hss : soundS k p
                    all_goals
                      have HSS := hide hss
                      rw [hss] at HC
                      clear hss
                      go_wp2_with (first | (refine wpList_load_mid rfl 25 _ rfl x (o + j * 3) rfl D _ HRW.out rfl rfl (by rw [HL3.out]; kernel_rfl) ?_) | fail)
                      refine HC.out.mono ?_
                      rintro e w1 ⟨rfl, hb1⟩
                      have KB := hide (GB.out.below hb1 GB.out.lt)
                      have KW := hide (GW.out.trans (hb1.mono GW.out.size))
                      clear hb1
                    · go_wp2
                      go_ret
                      exact ⟨ret_eq (by rw [HB.out HSS.out]; rfl), KW.out⟩
                    · go_wp2_with fail
                      exact ⟨⟨j + 1, by go_num, by omega, HT.out HSS.out, KB.out, KW.out⟩, by simp [intOf]; omega⟩
                  · have HE : Hid (res = true) := hide (by
                      rw [HW.out, List.all_eq_true]
                      intro p hp
                      exact GN.out p (by rw [List.take_of_length_le (by omega)]; exact hp))
                    go_wp2
                    go_ret
                    exact ⟨ret_eq (by rw [HE.out]; rfl), GW.out⟩
end Go.Proofs.Ytpnjkebjdclkfaa
