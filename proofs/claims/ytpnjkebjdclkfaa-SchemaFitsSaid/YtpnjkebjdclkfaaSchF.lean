/- Schemas, walked: whether one is right. Conditions: none. -/
import Derived.Test.YtpnjkebjdclkfaaSchD
namespace Go.Proofs.Ytpnjkebjdclkfaa
open Go.RowKit

set_option maxHeartbeats 1000000 in
set_option maxRecDepth 20000 in
theorem schG_index (K : Nat) (cap0 : Value) (hK : ∀ (x : Array Value) W, (callFunc K x).run Try.prog W = .ok (.enter K x) W) (n : Nat) (A : Option Addr) (c : Nat) (V : Nat → Value) (p : Nat → Bool) (w : World) (hn : n ≤ 140737488351232)
    (hA : 0 < n → ∃ b o, A = some ⟨b, o, none⟩ ∧ b < w.heap.size ∧ ∀ i, i < n → ∃ cs : List Value, V i = .agg cs.toArray ∧ cs.length = 3 ∧ w.rangeAt b (o + i * 3) cs)
    (hcall : ∀ i, i < n → ∀ W, Below w.heap.size w W → Calls Try.prog K #[V i, cap0] W (Gives (.bool (p i)) W)) :
    Calls Try.prog 127 #[.slice A n c, .func (.func K) #[] #[cap0]] w (IdxPost p n w) := by
  have HA := hide hA
  have HC := hide hcall
  clear hA hcall
  go_enter Try.func127, Try.ntmps127
  go_wp2_with fail
  go_loopw [8] (fun i wr => ∃ (k : Nat), i = .int .i64 k ∧ k ≤ n ∧ (∀ r, r < k → p r = false) ∧ Below w.heap.size w wr) (fun i _ => n - (intOf i).toNat)
  case atStart => exact ⟨0, rfl, Nat.zero_le _, fun r hr => by omega, Below.refl _ _⟩
  case round =>
    obtain ⟨k, rfl, hk, hno, hw⟩ := hrel
    obtain ⟨wo, rfl⟩ : ∃ wo : World, wo = wr := ⟨_, rfl⟩
    have GW := hide hw
    have GN := hide hno
    clear hw hno
    by_cases hlt : k < n
    · obtain ⟨b, o, rfl, hb, hV⟩ := HA.out (by omega)
      have hcall' := HC.out k hlt
      obtain ⟨cs, hv, hc3, hr⟩ := hV k hlt
      have HRW : Hid (wo.rangeAt b (o + k * 3) cs) := hide fun q v hv => (GW.out.cell (p := ⟨b, o + k * 3 + q, none⟩) hb).trans (hr q v hv)
      have HC3 := hide hc3
      clear hr hc3
      cases hx : p k
      all_goals
        have HX := hide hx
        rw [hx] at hcall'
        clear hx hV
        rw [hv] at hcall'

        have HCL := hide hcall'
        clear hcall'
        go_wp2_with (first | (refine wpList_load_mid rfl 25 _ rfl b (o + k * 3) rfl cs _ HRW.out rfl rfl (by rw [HC3.out]; kernel_rfl) ?_) | fail)
        refine (HCL.out _ GW.out).mono ?_
        rintro e w1 ⟨rfl, hb1⟩
        have KW := hide (GW.out.trans (hb1.mono GW.out.size))
        clear hb1
      · go_wp2_with fail
        exact ⟨⟨k + 1, by go_num, by omega, fun r hr => by
          by_cases e : r = k
          · rw [e]; exact HX.out
          · exact GN.out r (by omega), KW.out⟩, by simp [intOf]; omega⟩
      · go_wp2
        go_ret
        exact ⟨.inl ⟨k, hlt, rfl, HX.out, GN.out⟩, KW.out⟩
    · obtain rfl : k = n := by omega
      go_wp2
      go_ret
      exact ⟨.inr ⟨rfl, GN.out⟩, GW.out⟩

set_option maxHeartbeats 400000 in
theorem schG_contains (K : Nat) (cap0 : Value) (hK : ∀ (x : Array Value) W, (callFunc K x).run Try.prog W = .ok (.enter K x) W) (n : Nat) (A : Option Addr) (c : Nat) (V : Nat → Value) (p : Nat → Bool) (w : World) (hn : n ≤ 140737488351232)
    (hA : 0 < n → ∃ b o, A = some ⟨b, o, none⟩ ∧ b < w.heap.size ∧ ∀ i, i < n → ∃ cs : List Value, V i = .agg cs.toArray ∧ cs.length = 3 ∧ w.rangeAt b (o + i * 3) cs)
    (hcall : ∀ i, i < n → ∀ W, Below w.heap.size w W → Calls Try.prog K #[V i, cap0] W (Gives (.bool (p i)) W)) :
    Calls Try.prog 97 #[.slice A n c, .func (.func K) #[] #[cap0]] w (Gives (.bool ((List.range n).any p)) w) := by
  have HI := hide (schG_index K cap0 hK n A c V p w hn hA hcall)
  clear hA hcall hK
  go_enter Try.func97, Try.ntmps97
  go_wp2_with fail
  refine HI.out.mono ?_
  rintro e w1 ⟨hi, hb⟩
  have HB := hide hb
  clear hb
  rcases hi with ⟨k, hk, rfl, hp, hno⟩ | ⟨rfl, hno⟩
  · have hx : (List.range n).any p = true := List.any_eq_true.2 ⟨k, List.mem_range.2 hk, hp⟩
    have HX := hide hx
    clear hx hp hno
    go_wp2
    go_ret
    exact ⟨ret_eq (by rw [HX.out]; rfl), HB.out⟩
  · have hx : (List.range n).any p = false := List.any_eq_false.2 fun r hr => by simp [hno r (List.mem_range.1 hr)]
    have HX := hide hx
    clear hx hno
    go_wp2
    go_ret
    exact ⟨ret_eq (by rw [HX.out]; rfl), HB.out⟩


/-- Right by itself. -/
def plainS (s : DSch) : Bool :=
  if s.kind = 1 ∨ s.kind = 2 ∨ s.kind = 3 then decide (s.words.length = 0) && decide (s.parts.length = 0)
  else if s.kind = 4 then decide (0 < s.words.length) && (namesB s.words && (unlikeB s.words && decide (s.parts.length = 0)))
  else if s.kind = 5 then namesB s.words && (risingB s.words && decide (s.parts.length = s.words.length))
  else if s.kind = 6 then decide (s.words.length = 0) && decide (s.parts.length = 1)
  else false
def rightS : Nat → DSch → Bool
  | 0, _ => false
  | k + 1, s => plainS s && s.parts.all (rightS k)

set_option maxHeartbeats 2000000 in
set_option maxRecDepth 20000 in
theorem schPlain_calls (s : DSch) (cs : List Value) (w : World) (hs : IsSch w (· < w.heap.size) s cs) :
    Calls Try.prog 96 #[.agg cs.toArray] w (Gives (.bool (plainS s)) w) := by
  obtain ⟨hk1, hki⟩ := hs.kind_
  obtain ⟨Aw, cw, hw1, hwr, hwz, hwc, hwm⟩ := hs.words_
  obtain ⟨Ap, cp, C, hp1, hpc, hpm, hP, hA⟩ := hs.partsF
  have HW0 := hide ((Below.refl w.heap.size w).alloc (Nat.le_refl _) (.cells cs.toArray 25))
  have HX := hide (Blk.new w 25 cs.toArray)
  have HCN := hide (fun (W : World) (hW : Below w.heap.size w W) => names_calls s.words Aw cw W (hwr.more hW) hwz (by omega))
  have HCU := hide (fun (W : World) (hW : Below w.heap.size w W) => unlike_calls s.words Aw cw W (hwr.more hW) (by omega) hwc)
  have HCR := hide (fun (W : World) (hW : Below w.heap.size w W) => rising_calls s.words Aw cw W (hwr.more hW) (by omega) hwc)
  have HSP : Hid (plainS s = _) := hide (by unfold plainS; exact rfl)
  have hkb := i64_wf hki
  clear hs hwr hwz hP hA hki
  generalize plainS s = res at *
  generalize namesB s.words = bn at *
  generalize unlikeB s.words = bu at *
  generalize risingB s.words = br at *
  generalize s.words.length = nw at *
  generalize s.parts.length = np at *
  generalize s.kind = kd at *
  have key : kd = 1 ∨ kd = 2 ∨ kd = 3 ∨ kd = 4 ∨ kd = 5 ∨ kd = 6 ∨ (kd ≠ 1 ∧ kd ≠ 2 ∧ kd ≠ 3 ∧ kd ≠ 4 ∧ kd ≠ 5 ∧ kd ≠ 6) := by omega
  rcases key with rfl | rfl | rfl | rfl | rfl | rfl | ⟨n1, n2, n3, n4, n5, n6⟩
  case inr.inr.inr.inr.inr.inr =>
    have e1 : (kd == 1) = false := by simpa using n1
    have e2 : (kd == 2) = false := by simpa using n2
    have e3 : (kd == 3) = false := by simpa using n3
    have e4 : (kd == 4) = false := by simpa using n4
    have e5 : (kd == 5) = false := by simpa using n5
    have e6 : (kd == 6) = false := by simpa using n6
    have HR : Hid (res = false) := hide (by rw [HSP.out]; simp [n1, n2, n3, n4, n5, n6])
    clear n1 n2 n3 n4 n5 n6 HSP
    go_enter Try.func96, Try.ntmps96
    go_wp2
    go_ret
    exact ⟨ret_eq (by rw [HR.out]; rfl), HW0.out⟩
  case inr.inr.inr.inl =>
    have HR : Hid (res = (decide (0 < nw) && (bn && (bu && decide (np = 0))))) := hide (by rw [HSP.out]; simp)
    clear HSP
    by_cases h0 : 0 < nw
    · rw [decide_eq_true h0, Bool.true_and] at HR
      have h0' : decide ((0 : Int) < (nw : Int)) = true := by simp; omega
      cases bn
      all_goals
        go_enter Try.func96, Try.ntmps96
        go_wp2_with fail
        refine (HCN.out _ HW0.out).mono ?_
        rintro e w1 ⟨rfl, hb1⟩
        have HB1 := hide (HW0.out.trans (hb1.mono HW0.out.size))
        have HX1 := hide (HX.out.below hb1 HX.out.lt)
        clear hb1
      · go_wp2
        go_ret
        exact ⟨ret_eq (by rw [HR.out]; rfl), HB1.out⟩
      · rw [Bool.true_and] at HR
        have c1 : w1.cell? ⟨w.heap.size, 1, none⟩ = some (.slice Aw nw cw) := by rw [HX1.out.cell]; simpa using hw1
        have c2 : w1.cell? ⟨w.heap.size, 2, none⟩ = some (.slice Ap np cp) := by rw [HX1.out.cell]; simpa using hp1
        cases bu
        all_goals
          go_wp2_with fail
          refine (HCU.out _ HB1.out).mono ?_
          rintro e w2 ⟨rfl, rfl⟩
          go_wp2
          go_ret
          exact ⟨ret_eq (by rw [HR.out]; first | rfl | (simp; done) | (simp; omega) | (simp; rw [Bool.eq_iff_iff]; simp; omega) | (rw [Bool.eq_iff_iff]; simp; omega) | (simp; rw [Bool.eq_iff_iff]; simp)), HB1.out⟩
    · rw [decide_eq_false h0, Bool.false_and] at HR
      have h0' : decide ((0 : Int) < (nw : Int)) = false := by simp; omega
      go_enter Try.func96, Try.ntmps96
      go_wp2
      go_ret
      exact ⟨ret_eq (by rw [HR.out]; rfl), HW0.out⟩
  case inr.inr.inr.inr.inl =>
    have HR : Hid (res = (bn && (br && decide (np = nw)))) := hide (by rw [HSP.out]; simp)
    clear HSP
    cases bn
    all_goals
      go_enter Try.func96, Try.ntmps96
      go_wp2_with fail
      refine (HCN.out _ HW0.out).mono ?_
      rintro e w1 ⟨rfl, hb1⟩
      have HB1 := hide (HW0.out.trans (hb1.mono HW0.out.size))
      have HX1 := hide (HX.out.below hb1 HX.out.lt)
      clear hb1
    · go_wp2
      go_ret
      exact ⟨ret_eq (by rw [HR.out]; rfl), HB1.out⟩
    · rw [Bool.true_and] at HR
      have c1 : w1.cell? ⟨w.heap.size, 1, none⟩ = some (.slice Aw nw cw) := by rw [HX1.out.cell]; simpa using hw1
      cases br
      all_goals
        go_wp2_with fail
        refine (HCR.out _ HB1.out).mono ?_
        rintro e w2 ⟨rfl, hb2⟩
        have HB2 := hide (HB1.out.trans (hb2.mono HB1.out.size))
        have HX2 := hide (HX1.out.below hb2 HX1.out.lt)
        clear hb2
        have d1 : w2.cell? ⟨w.heap.size, 1, none⟩ = some (.slice Aw nw cw) := by rw [HX2.out.cell]; simpa using hw1
        have d2 : w2.cell? ⟨w.heap.size, 2, none⟩ = some (.slice Ap np cp) := by rw [HX2.out.cell]; simpa using hp1
        go_wp2
        go_ret
        exact ⟨ret_eq (by rw [HR.out]; first | rfl | (simp; done) | (simp; omega) | (simp; rw [Bool.eq_iff_iff]; simp; omega) | (rw [Bool.eq_iff_iff]; simp; omega) | (simp; rw [Bool.eq_iff_iff]; simp)), HB2.out⟩
  case inr.inr.inr.inr.inr.inl =>
    have HR : Hid (res = (decide (nw = 0) && decide (np = 1))) := hide (by rw [HSP.out]; simp)
    clear HSP
    by_cases h0 : nw = 0
    · have h0' : ((nw : Int) == 0) = true := by simp [h0]
      rw [decide_eq_true h0, Bool.true_and] at HR
      clear h0
      go_enter Try.func96, Try.ntmps96
      go_wp2
      go_ret
      exact ⟨ret_eq (by rw [HR.out]; first | rfl | (simp; done) | (simp; omega) | (simp; rw [Bool.eq_iff_iff]; simp; omega) | (rw [Bool.eq_iff_iff]; simp; omega) | (simp; rw [Bool.eq_iff_iff]; simp)), HW0.out⟩
    · have h0' : ((nw : Int) == 0) = false := by simpa using h0
      rw [decide_eq_false h0, Bool.false_and] at HR
      clear h0
      go_enter Try.func96, Try.ntmps96
      go_wp2
      go_ret
      exact ⟨ret_eq (by rw [HR.out]; first | rfl | (simp; done) | (simp; omega) | (simp; rw [Bool.eq_iff_iff]; simp; omega) | (rw [Bool.eq_iff_iff]; simp; omega) | (simp; rw [Bool.eq_iff_iff]; simp)), HW0.out⟩
  all_goals
    have HR : Hid (res = (decide (nw = 0) && decide (np = 0))) := hide (by rw [HSP.out]; simp)
    clear HSP
    by_cases h0 : nw = 0
    · have h0' : ((nw : Int) == 0) = true := by simp [h0]
      rw [decide_eq_true h0, Bool.true_and] at HR
      clear h0
      go_enter Try.func96, Try.ntmps96
      go_wp2
      go_ret
      exact ⟨ret_eq (by rw [HR.out]; first | rfl | (simp; done) | (simp; omega) | (simp; rw [Bool.eq_iff_iff]; simp; omega) | (rw [Bool.eq_iff_iff]; simp; omega) | (simp; rw [Bool.eq_iff_iff]; simp)), HW0.out⟩
    · have h0' : ((nw : Int) == 0) = false := by simpa using h0
      rw [decide_eq_false h0, Bool.false_and] at HR
      clear h0
      go_enter Try.func96, Try.ntmps96
      go_wp2
      go_ret
      exact ⟨ret_eq (by rw [HR.out]; first | rfl | (simp; done) | (simp; omega) | (simp; rw [Bool.eq_iff_iff]; simp; omega) | (rw [Bool.eq_iff_iff]; simp; omega) | (simp; rw [Bool.eq_iff_iff]; simp)), HW0.out⟩
end Go.Proofs.Ytpnjkebjdclkfaa
