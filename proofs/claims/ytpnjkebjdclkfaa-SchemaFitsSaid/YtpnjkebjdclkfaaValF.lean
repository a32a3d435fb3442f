/- Values, walked: whether one is right by itself. Conditions: none. -/
import Derived.Test.YtpnjkebjdclkfaaNameV
import Derived.Test.YtpnjkebjdclkfaaSchB
namespace Go.Proofs.Ytpnjkebjdclkfaa
open Go.RowKit

/-- Right by itself. -/
def plainV (v : DVal) : Bool :=
  if v.kind = 1 then (decide (v.names.length = 0) && (decide (v.ids.length = 0) && decide (v.parts.length = 0))) && (decide (v.s = []) && (decide (v.n = 0) || decide (v.n = 1)))
  else if v.kind = 2 then (decide (v.names.length = 0) && (decide (v.ids.length = 0) && decide (v.parts.length = 0))) && decide (v.s = [])
  else if v.kind = 3 then (decide (v.names.length = 0) && (decide (v.ids.length = 0) && decide (v.parts.length = 0))) && (decide (v.n = 0) && decide (v.s.length ≤ 64))
  else if v.kind = 4 then (decide (v.names.length = 0) && (decide (v.ids.length = 0) && decide (v.parts.length = 0))) && (decide (v.n = 0) && nameB v.s)
  else if v.kind = 5 then decide (v.n = 0) && (decide (v.s = []) && (decide (v.ids.length = 0) && (decide (v.parts.length = v.names.length) && riseV v.names)))
  else if v.kind = 6 then decide (v.n = 0) && (decide (v.s = []) && (decide (v.names.length = 0) && (decide (v.parts.length = v.ids.length) && idsB v.ids)))
  else false

set_option maxHeartbeats 4000000 in
set_option maxRecDepth 20000 in
theorem valPlain_calls (s : DVal) (cs : List Value) (w : World) (hs : IsVal w (· < w.heap.size) s cs) :
    Calls Try.prog 112 #[.agg cs.toArray] w (Gives (.bool (plainV s)) w) := by
  obtain ⟨hk1, hki⟩ := hs.kind_
  obtain ⟨hn1, hni⟩ := hs.n_
  obtain ⟨hs1, hsl⟩ := hs.s_
  obtain ⟨Aw, cw, hw1, hwr, hwz, hwc, hwm⟩ := hs.names_
  obtain ⟨Ai, ci, hi1, hir, hiz, hic, him⟩ := hs.ids_
  obtain ⟨Ap, cp, C, hp1, hpc, hpm, hP, hA⟩ := hs.partsF
  have HW0 := hide ((Below.refl w.heap.size w).alloc (Nat.le_refl _) (.cells cs.toArray 31))
  have HCN := hide (fun (W : World) => name_calls s.s W hsl)
  have HCR := hide (fun (W : World) (hW : Below w.heap.size w W) => riseV_calls s.names Aw cw W (hwr.more hW) hwz (by omega))
  have HCU := hide (fun (W : World) (hW : Below w.heap.size w W) => ids_calls s.ids Ai ci W (hir.more hW) (by omega) hic)
  have HSP : Hid (plainV s = _) := hide (by unfold plainV; exact rfl)
  clear hs hwr hwz hir hiz hP hA hki hni
  generalize plainV s = res at *
  generalize nameB s.s = bn at *
  generalize riseV s.names = br at *
  generalize idsB s.ids = bu at *
  generalize s.names.length = nn at *
  generalize s.ids.length = ni at *
  generalize s.parts.length = np at *
  generalize s.kind = kd at *
  generalize s.n = num at *
  generalize s.s = x at *
  go_enter Try.func112, Try.ntmps112
  go_upto_region 1 with fail
  go_cut [3] (fun v wx => v = .bool (decide (nn = 0) && (decide (ni = 0) && decide (np = 0))) ∧ wx = w.alloc (.cells cs.toArray 31))
  case first =>
    by_cases h1 : nn = 0
    · have e1 : ((nn : Int) == 0) = true := by simp [h1]
      have g1 := hide (decide_eq_true h1)
      clear h1
      by_cases h2 : ni = 0
      · have e2 : ((ni : Int) == 0) = true := by simp [h2]
        have g2 := hide (decide_eq_true h2)
        clear h2
        by_cases h3 : np = 0
        · have e3 : ((np : Int) == 0) = true := by simp [h3]
          have g3 := hide (decide_eq_true h3)
          clear h3
          go_wp2_with fail
          go_meet
          exact ⟨by rw [g1.out, g2.out, g3.out]; rfl, rfl⟩
        · have e3 : ((np : Int) == 0) = false := by simpa using h3
          have g3 := hide (decide_eq_false h3)
          clear h3
          go_wp2_with fail
          go_meet
          exact ⟨by rw [g1.out, g2.out, g3.out]; rfl, rfl⟩
      · have e2 : ((ni : Int) == 0) = false := by simpa using h2
        have g2 := hide (decide_eq_false h2)
        clear h2
        go_wp2_with fail
        go_meet
        exact ⟨by rw [g1.out, g2.out]; rfl, rfl⟩
    · have e1 : ((nn : Int) == 0) = false := by simpa using h1
      have g1 := hide (decide_eq_false h1)
      clear h1
      go_wp2_with fail
      go_meet
      exact ⟨by rw [g1.out]; rfl, rfl⟩
  case rest =>
    obtain ⟨rfl, rfl⟩ := hcut
    have key : kd = 1 ∨ kd = 2 ∨ kd = 3 ∨ kd = 4 ∨ kd = 5 ∨ kd = 6 ∨ (kd ≠ 1 ∧ kd ≠ 2 ∧ kd ≠ 3 ∧ kd ≠ 4 ∧ kd ≠ 5 ∧ kd ≠ 6) := by omega
    rcases key with rfl | rfl | rfl | rfl | rfl | rfl | ⟨n1, n2, n3, n4, n5, n6⟩
    case inr.inr.inr.inr.inr.inr =>
      have e1 : (kd == 1) = false := by simpa using n1
      have e2 : (kd == 2) = false := by simpa using n2
      have e3 : (kd == 3) = false := by simpa using n3
      have e4 : (kd == 4) = false := by simpa using n4
      have e5 : (kd == 5) = false := by simpa using n5
      have e6 : (kd == 6) = false := by simpa using n6
      have HR : Hid (res = false) := hide (by rw [HSP.out]; simp [n1, n2, n3, n4, n5, n6])
      clear n1 n2 n3 n4 n5 n6 HSP
      go_wp2
      go_ret
      exact ⟨ret_eq (by rw [HR.out]; rfl), HW0.out⟩
    case inl =>
      have HR : Hid (res = ((decide (nn = 0) && (decide (ni = 0) && decide (np = 0))) && (decide (x = []) && (decide (num = 0) || decide (num = 1))))) := hide (by rw [HSP.out]; simp)
      clear HSP
      generalize (decide (nn = 0) && (decide (ni = 0) && decide (np = 0))) = eB at *
      cases eB
      case false =>
        go_wp2
        go_ret
        exact ⟨ret_eq (by rw [HR.out]; rfl), HW0.out⟩
      rw [Bool.true_and] at HR
      by_cases hsE : x = []
      case neg =>
        have fsE : (x == []) = false := by simpa using hsE
        rw [decide_eq_false hsE] at HR
        clear hsE
        go_wp2
        go_ret
        exact ⟨ret_eq (by rw [HR.out]; rfl), HW0.out⟩
      have fsE : (x == []) = true := by simp [hsE]
      rw [decide_eq_true hsE, Bool.true_and] at HR
      clear hsE
      by_cases hn0 : num = 0
      · have fn0 : (num == 0) = true := by simp [hn0]
        rw [decide_eq_true hn0] at HR
        clear hn0
        go_wp2
        go_ret
        exact ⟨ret_eq (by rw [HR.out]; rfl), HW0.out⟩
      · have fn0 : (num == 0) = false := by simpa using hn0
        rw [decide_eq_false hn0] at HR
        clear hn0
        by_cases hn1 : num = 1
        · have fn1 : (num == 1) = true := by simp [hn1]
          rw [decide_eq_true hn1] at HR
          clear hn1
          go_wp2
          go_ret
          exact ⟨ret_eq (by rw [HR.out]; rfl), HW0.out⟩
        · have fn1 : (num == 1) = false := by simpa using hn1
          rw [decide_eq_false hn1] at HR
          clear hn1
          go_wp2
          go_ret
          exact ⟨ret_eq (by rw [HR.out]; rfl), HW0.out⟩
    case inr.inl =>
      have HR : Hid (res = ((decide (nn = 0) && (decide (ni = 0) && decide (np = 0))) && (decide (x = [])))) := hide (by rw [HSP.out]; simp)
      clear HSP
      generalize (decide (nn = 0) && (decide (ni = 0) && decide (np = 0))) = eB at *
      cases eB
      case false =>
        go_wp2
        go_ret
        exact ⟨ret_eq (by rw [HR.out]; rfl), HW0.out⟩
      rw [Bool.true_and] at HR
      by_cases hsE : x = []
      · have fsE : (x == []) = true := by simp [hsE]
        rw [decide_eq_true hsE] at HR
        clear hsE
        go_wp2
        go_ret
        exact ⟨ret_eq (by rw [HR.out]; rfl), HW0.out⟩
      · have fsE : (x == []) = false := by simpa using hsE
        rw [decide_eq_false hsE] at HR
        clear hsE
        go_wp2
        go_ret
        exact ⟨ret_eq (by rw [HR.out]; rfl), HW0.out⟩
    case inr.inr.inl =>
      have HR : Hid (res = ((decide (nn = 0) && (decide (ni = 0) && decide (np = 0))) && (decide (num = 0) && decide (x.length ≤ 64)))) := hide (by rw [HSP.out]; simp)
      clear HSP
      generalize (decide (nn = 0) && (decide (ni = 0) && decide (np = 0))) = eB at *
      cases eB
      case false =>
        go_wp2
        go_ret
        exact ⟨ret_eq (by rw [HR.out]; rfl), HW0.out⟩
      rw [Bool.true_and] at HR
      by_cases hn0 : num = 0
      case neg =>
        have fn0 : (num == 0) = false := by simpa using hn0
        rw [decide_eq_false hn0] at HR
        clear hn0
        go_wp2
        go_ret
        exact ⟨ret_eq (by rw [HR.out]; rfl), HW0.out⟩
      have fn0 : (num == 0) = true := by simp [hn0]
      rw [decide_eq_true hn0, Bool.true_and] at HR
      clear hn0
      by_cases hl64 : x.length ≤ 64
      · have fl64 : (x.length : Int) ≤ 64 := by omega
        rw [decide_eq_true hl64] at HR
        clear hl64
        go_wp2
        go_ret
        exact ⟨ret_eq (by rw [HR.out]; rfl), HW0.out⟩
      · have fl64 : ¬ (x.length : Int) ≤ 64 := by omega
        rw [decide_eq_false hl64] at HR
        clear hl64
        go_wp2
        go_ret
        exact ⟨ret_eq (by rw [HR.out]; rfl), HW0.out⟩
    case inr.inr.inr.inl =>
      have HR : Hid (res = ((decide (nn = 0) && (decide (ni = 0) && decide (np = 0))) && (decide (num = 0) && bn))) := hide (by rw [HSP.out]; simp)
      clear HSP
      generalize (decide (nn = 0) && (decide (ni = 0) && decide (np = 0))) = eB at *
      cases eB
      case false =>
        go_wp2
        go_ret
        exact ⟨ret_eq (by rw [HR.out]; rfl), HW0.out⟩
      rw [Bool.true_and] at HR
      by_cases hn0 : num = 0
      case neg =>
        have fn0 : (num == 0) = false := by simpa using hn0
        rw [decide_eq_false hn0] at HR
        clear hn0
        go_wp2
        go_ret
        exact ⟨ret_eq (by rw [HR.out]; rfl), HW0.out⟩
      have fn0 : (num == 0) = true := by simp [hn0]
      rw [decide_eq_true hn0, Bool.true_and] at HR
      clear hn0
      go_wp2_with fail
      refine (HCN.out _).mono ?_
      rintro e w1 ⟨rfl, hb1⟩
      have HB1 := hide (HW0.out.trans (hb1.mono HW0.out.size))
      clear hb1
      go_wp2
      go_ret
      exact ⟨ret_eq (by rw [HR.out] <;> rfl), HB1.out⟩
    case inr.inr.inr.inr.inl =>
      have HR : Hid (res = (decide (num = 0) && (decide (x = []) && (decide (ni = 0) && (decide (np = nn) && br))))) := hide (by rw [HSP.out]; simp)
      clear HSP
      generalize (decide (nn = 0) && (decide (ni = 0) && decide (np = 0))) = eB at *
      by_cases hn0 : num = 0
      case neg =>
        have fn0 : (num == 0) = false := by simpa using hn0
        rw [decide_eq_false hn0] at HR
        clear hn0
        go_wp2
        go_ret
        exact ⟨ret_eq (by rw [HR.out]; rfl), HW0.out⟩
      have fn0 : (num == 0) = true := by simp [hn0]
      rw [decide_eq_true hn0, Bool.true_and] at HR
      clear hn0
      by_cases hsE : x = []
      case neg =>
        have fsE : (x == []) = false := by simpa using hsE
        rw [decide_eq_false hsE] at HR
        clear hsE
        go_wp2
        go_ret
        exact ⟨ret_eq (by rw [HR.out]; rfl), HW0.out⟩
      have fsE : (x == []) = true := by simp [hsE]
      rw [decide_eq_true hsE, Bool.true_and] at HR
      clear hsE
      by_cases hiE : ni = 0
      case neg =>
        have fiE : ((ni : Int) == 0) = false := by simpa using hiE
        rw [decide_eq_false hiE] at HR
        clear hiE
        go_wp2
        go_ret
        exact ⟨ret_eq (by rw [HR.out]; rfl), HW0.out⟩
      have fiE : ((ni : Int) == 0) = true := by simp [hiE]
      rw [decide_eq_true hiE, Bool.true_and] at HR
      clear hiE
      by_cases hpn : np = nn
      case neg =>
        have fpn : ((np : Int) == (nn : Int)) = false := by simp; omega
        rw [decide_eq_false hpn] at HR
        clear hpn
        go_wp2
        go_ret
        exact ⟨ret_eq (by rw [HR.out]; rfl), HW0.out⟩
      have fpn : ((np : Int) == (nn : Int)) = true := by simp [hpn]
      rw [decide_eq_true hpn, Bool.true_and] at HR
      clear hpn
      go_wp2_with fail
      refine (HCR.out _ HW0.out).mono ?_
      rintro e w1 ⟨rfl, hb1⟩
      have HB1 := hide (HW0.out.trans (hb1.mono HW0.out.size))
      clear hb1
      go_wp2
      go_ret
      exact ⟨ret_eq (by rw [HR.out] <;> rfl), HB1.out⟩
    case inr.inr.inr.inr.inr.inl =>
      have HR : Hid (res = (decide (num = 0) && (decide (x = []) && (decide (nn = 0) && (decide (np = ni) && bu))))) := hide (by rw [HSP.out]; simp)
      clear HSP
      generalize (decide (nn = 0) && (decide (ni = 0) && decide (np = 0))) = eB at *
      by_cases hn0 : num = 0
      case neg =>
        have fn0 : (num == 0) = false := by simpa using hn0
        rw [decide_eq_false hn0] at HR
        clear hn0
        go_wp2
        go_ret
        exact ⟨ret_eq (by rw [HR.out]; rfl), HW0.out⟩
      have fn0 : (num == 0) = true := by simp [hn0]
      rw [decide_eq_true hn0, Bool.true_and] at HR
      clear hn0
      by_cases hsE : x = []
      case neg =>
        have fsE : (x == []) = false := by simpa using hsE
        rw [decide_eq_false hsE] at HR
        clear hsE
        go_wp2
        go_ret
        exact ⟨ret_eq (by rw [HR.out]; rfl), HW0.out⟩
      have fsE : (x == []) = true := by simp [hsE]
      rw [decide_eq_true hsE, Bool.true_and] at HR
      clear hsE
      by_cases hnE : nn = 0
      case neg =>
        have fnE : ((nn : Int) == 0) = false := by simpa using hnE
        rw [decide_eq_false hnE] at HR
        clear hnE
        go_wp2
        go_ret
        exact ⟨ret_eq (by rw [HR.out]; rfl), HW0.out⟩
      have fnE : ((nn : Int) == 0) = true := by simp [hnE]
      rw [decide_eq_true hnE, Bool.true_and] at HR
      clear hnE
      by_cases hpi : np = ni
      case neg =>
        have fpi : ((np : Int) == (ni : Int)) = false := by simp; omega
        rw [decide_eq_false hpi] at HR
        clear hpi
        go_wp2
        go_ret
        exact ⟨ret_eq (by rw [HR.out]; rfl), HW0.out⟩
      have fpi : ((np : Int) == (ni : Int)) = true := by simp [hpi]
      rw [decide_eq_true hpi, Bool.true_and] at HR
      clear hpi
      go_wp2_with fail
      refine (HCU.out _ HW0.out).mono ?_
      rintro e w1 ⟨rfl, rfl⟩
      go_wp2
      go_ret
      exact ⟨ret_eq (by rw [HR.out] <;> rfl), HW0.out⟩
end Go.Proofs.Ytpnjkebjdclkfaa
