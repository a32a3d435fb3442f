/- Texts of a proof, part 2. Conditions: none. -/
import Derived.Test.YtbcabejdchkpmaaDoorE1
import Derived.Deep.MidRow
set_option linter.unusedVariables false
set_option linter.unusedSimpArgs false
namespace Go.Proofs.YtbcabejdchkpmaaDoor

theorem sLt_trans {a b c : Str} (h1 : sLt a b = true) (h2 : sLt b c = true) : sLt a c = true := by
  rw [sLt_iff, decide_eq_true_eq] at *
  exact List.lt_trans h1 h2
theorem sLt_irrefl (a : Str) : sLt a a = false := by
  rw [sLt_iff, decide_eq_false_iff_not]
  exact List.lt_irrefl a
theorem sLt_total {a b : Str} (h1 : sLt a b = false) (h2 : a ≠ b) : sLt b a = true := by
  rw [sLt_iff, decide_eq_false_iff_not] at h1
  rw [sLt_iff, decide_eq_true_eq]
  exact Classical.byContradiction fun h => h2 (List.le_antisymm (List.not_lt.1 h) (List.not_lt.1 h1))

theorem unlike_iff (l : List Str) : unlikeB l = true ↔ ∀ i, i < l.length → ∀ j, j < i → l.getD i [] ≠ l.getD j [] := by
  unfold unlikeB
  rw [List.all_eq_true]
  constructor
  · intro h i hi j hj e
    have := h i (List.mem_range.2 hi)
    simp only [Bool.not_eq_true', decide_eq_false_iff_not] at this
    refine this ?_
    rw [e]
    have hjl : j < l.length := by omega
    rw [show l.getD j [] = (l.take i)[j]'(by simp; omega) by simp [List.getD, hjl]]
    exact List.getElem_mem _
  · intro h i hi
    have hi' := List.mem_range.1 hi
    simp only [Bool.not_eq_true', decide_eq_false_iff_not]
    intro hm
    obtain ⟨j, hj, e⟩ := List.getElem_of_mem hm
    have hji : j < i := by simp at hj; omega
    refine h i hi' j hji ?_
    have hjl : j < l.length := by omega
    rw [← e]
    simp [List.getD, hjl]
theorem sorted_iff (l : List Str) : sortedB l = true ↔ ∀ i, i + 1 < l.length → sLt (l.getD (i + 1) []) (l.getD i []) = false := by
  unfold sortedB
  rw [List.all_eq_true]
  constructor
  · intro h i hi
    have := h i (List.mem_range.2 (by omega))
    simpa using this
  · intro h i hi
    have := List.mem_range.1 hi
    simpa using h i (by omega)
theorem rising_iff (l : List Str) : risingB l = true ↔ ∀ i, i < l.length → ∀ j, j < i → l.getD i [] ≠ l.getD j [] ∧ sLt (l.getD i []) (l.getD j []) = false := by
  unfold risingB
  rw [Bool.and_eq_true, unlike_iff, sorted_iff]
  constructor
  · rintro ⟨hs, hu⟩ i hi j hj
    refine ⟨hu i hi j hj, ?_⟩
    have key : ∀ d, ∀ j, j + d + 1 < l.length → sLt (l.getD j []) (l.getD (j + d + 1) []) = true := by
      intro d
      induction d with
      | zero =>
        intro j hj
        exact sLt_total (hs j (by omega)) (hu (j + 1) (by omega) j (by omega))
      | succ d ih =>
        intro j hj
        exact sLt_trans (ih j (by omega)) (sLt_total (hs (j + d + 1) (by omega)) (hu (j + d + 1 + 1) (by omega) (j + d + 1) (by omega)))
    have h1 := key (i - j - 1) j (by omega)
    rw [show j + (i - j - 1) + 1 = i by omega] at h1
    cases h2 : sLt (l.getD i []) (l.getD j [])
    · rfl
    · have := sLt_trans h1 h2
      rw [sLt_irrefl] at this
      cases this
  · intro h
    exact ⟨fun i hi => (h (i + 1) hi i (by omega)).2, fun i hi j hj => (h i hi j hj).1⟩

theorem namesB_iff (l : List Str) : namesB l = true ↔ l.length ≤ 8 ∧ ∀ i, i < l.length → nameB (l.getD i []) = true := by
  unfold namesB
  rw [Bool.and_eq_true, decide_eq_true_eq, List.all_eq_true]
  constructor
  · rintro ⟨h1, h2⟩
    exact ⟨h1, fun i hi => h2 _ (by simp [List.getD, hi])⟩
  · rintro ⟨h1, h2⟩
    refine ⟨h1, fun x hx => ?_⟩
    obtain ⟨i, hi, rfl⟩ := List.getElem_of_mem hx
    have := h2 i hi
    simpa [List.getD, hi] using this
theorem clash_f (kd : Int) (x y : Str) : clash kd x y = false ↔ x ≠ y ∧ (kd = 5 → sLt x y = false) := by
  unfold clash
  by_cases h5 : kd = 5
  · simp [h5]
  · simp [h5]
theorem words_iff (kd : Int) (l : List Str) : (List.range l.length).all (wordOk kd l) = true ↔ (∀ i, i < l.length → nameB (l.getD i []) = true) ∧ ∀ i, i < l.length → ∀ j, j < i → clash kd (l.getD i []) (l.getD j []) = false := by
  rw [List.all_eq_true]
  constructor
  · intro h
    refine ⟨fun i hi => ?_, fun i hi j hj => ?_⟩
    · have := h i (List.mem_range.2 hi)
      unfold wordOk at this
      exact (Bool.and_eq_true _ _ ▸ this).1
    · have := h i (List.mem_range.2 hi)
      unfold wordOk at this
      have h2 := List.all_eq_true.1 (Bool.and_eq_true _ _ ▸ this).2 j (List.mem_range.2 hj)
      simpa using h2
  · rintro ⟨h1, h2⟩ i hi
    have hi' := List.mem_range.1 hi
    unfold wordOk
    rw [h1 i hi', Bool.true_and, List.all_eq_true]
    intro j hj
    rw [h2 i hi' j (List.mem_range.1 hj)]
    rfl
theorem plain_here (s : DSch) : plainS s = hereS s := by
  rw [Bool.eq_iff_iff]
  unfold plainS hereS
  rw [Bool.and_eq_true, Bool.and_eq_true, Bool.not_eq_true', decide_eq_false_iff_not, decide_eq_true_eq, words_iff]
  generalize s.kind = kd
  generalize s.words = l
  generalize s.parts.length = np
  have nil : l.length = 0 → (∀ i, i < l.length → nameB (l.getD i []) = true) ∧ ∀ i, i < l.length → ∀ j, j < i → clash kd (l.getD i []) (l.getD j []) = false := fun h => ⟨fun i hi => by omega, fun i hi => by omega⟩
  by_cases h1 : kd = 1 ∨ kd = 2 ∨ kd = 3
  · rw [if_pos h1]
    simp only [Bool.and_eq_true, decide_eq_true_eq]
    have hw : wantS kd l.length = 0 := by unfold wantS; rw [if_neg (by omega), if_neg (by omega)]
    rw [hw]
    constructor
    · rintro ⟨a, b⟩; exact ⟨by unfold badHead; omega, b, nil a⟩
    · rintro ⟨a, b, _⟩; unfold badHead at a; exact ⟨by omega, b⟩
  · rw [if_neg h1]
    by_cases h4 : kd = 4
    · subst h4
      rw [if_pos rfl]
      simp only [Bool.and_eq_true, decide_eq_true_eq, namesB_iff, unlike_iff]
      have hw : wantS 4 l.length = 0 := by simp [wantS]
      rw [hw]
      constructor
      · rintro ⟨a, ⟨b1, b2⟩, c, d⟩
        exact ⟨by unfold badHead; omega, d, b2, fun i hi j hj => (clash_f _ _ _).2 ⟨c i hi j hj, fun h => by omega⟩⟩
      · rintro ⟨a, b, c, d⟩
        unfold badHead at a
        exact ⟨by omega, ⟨by omega, c⟩, fun i hi j hj => ((clash_f _ _ _).1 (d i hi j hj)).1, b⟩
    · rw [if_neg h4]
      by_cases h5 : kd = 5
      · subst h5
        rw [if_pos rfl]
        simp only [Bool.and_eq_true, decide_eq_true_eq, namesB_iff, rising_iff]
        have hw : wantS 5 l.length = l.length := by simp [wantS]
        rw [hw]
        constructor
        · rintro ⟨⟨b1, b2⟩, c, d⟩
          exact ⟨by unfold badHead; omega, d, b2, fun i hi j hj => (clash_f _ _ _).2 ⟨(c i hi j hj).1, fun _ => (c i hi j hj).2⟩⟩
        · rintro ⟨a, b, c, d⟩
          unfold badHead at a
          exact ⟨⟨by omega, c⟩, fun i hi j hj => ⟨((clash_f _ _ _).1 (d i hi j hj)).1, ((clash_f _ _ _).1 (d i hi j hj)).2 rfl⟩, b⟩
      · rw [if_neg h5]
        by_cases h6 : kd = 6
        · subst h6
          rw [if_pos rfl]
          simp only [Bool.and_eq_true, decide_eq_true_eq]
          have hw : wantS 6 l.length = 1 := by simp [wantS]
          rw [hw]
          constructor
          · rintro ⟨a, b⟩; exact ⟨by unfold badHead; omega, b, nil a⟩
          · rintro ⟨a, b, _⟩; unfold badHead at a; exact ⟨by omega, b⟩
        · rw [if_neg h6]
          constructor
          · intro h; cases h
          · rintro ⟨a, _⟩; unfold badHead at a; omega
theorem depths_all (l : List DSch) (k : Nat) : DSch.depths l ≤ k ↔ ∀ p ∈ l, p.depth ≤ k := by
  induction l with
  | nil => simp [DSch.depths]
  | cons x l ih =>
    simp only [DSch.depths, List.mem_cons, forall_eq_or_imp]
    rw [← ih]; omega
theorem right_sound (k : Nat) : ∀ (s : DSch) (m : Nat), s.depth ≤ m → rightS k s = (decide (s.depth ≤ k) && soundS m s) := by
  induction k with
  | zero => intro s m _; have := s.depth_pos; simp [rightS]; omega
  | succ k ih =>
    intro s m hm
    obtain ⟨m, rfl⟩ : ∃ n, m = n + 1 := ⟨m - 1, by have := s.depth_pos; omega⟩
    have hd := s.depth_eq
    rw [Bool.eq_iff_iff]
    simp only [rightS, soundS, Bool.and_eq_true, decide_eq_true_eq, plain_here, List.all_eq_true]
    have hall := depths_all s.parts
    constructor
    · rintro ⟨h1, h2⟩
      have h3 : ∀ p ∈ s.parts, p.depth ≤ k ∧ soundS m p = true := fun p hp => by
        have := h2 p hp
        rw [ih p m (by have := DSch.depth_part hp; omega)] at this
        simpa using this
      exact ⟨by have := (hall k).2 (fun p hp => (h3 p hp).1); omega, h1, fun p hp => (h3 p hp).2⟩
    · rintro ⟨h0, h1, h2⟩
      refine ⟨h1, fun p hp => ?_⟩
      rw [ih p m (by have := DSch.depth_part hp; omega), h2 p hp, Bool.and_true, decide_eq_true_eq]
      exact (hall k).1 (by omega) p hp
end Go.Proofs.YtbcabejdchkpmaaDoor

namespace Go.Proofs.YtbcabejdchkpmaaDoor
open Go.RowKit

set_option maxHeartbeats 2000000 in
set_option maxRecDepth 20000 in
theorem refSchSame_calls (k : Nat) : ∀ (a b : DSch) (cs ds : List Value) (w : World), a.depth ≤ k → IsSch w (· < w.heap.size) a cs → IsSch w (· < w.heap.size) b ds →
    Calls Tryd.prog 31 #[.agg cs.toArray, .agg ds.toArray] w (Gives (.bool (eqB a b)) w) := by
  induction k with
  | zero => intro a b cs ds w h; have := a.depth_pos; omega
  | succ k ih =>
    intro a b cs ds w hk ha hb
    obtain ⟨hk1, hki⟩ := ha.kind_
    obtain ⟨hk2, hki2⟩ := hb.kind_
    obtain ⟨Aw, cw, hw1, hwr, hwz, hwc, hwm⟩ := ha.words_
    obtain ⟨Aw2, cw2, hw2, hwr2, hwz2, hwc2, hwm2⟩ := hb.words_
    obtain ⟨Ap, cp, C, hp1, hpc, hpm, hP, hA⟩ := ha.partsF
    obtain ⟨Ap2, cp2, C2, hp2, hpc2, hpm2, hP2, hA2⟩ := hb.partsF
    have HW0 := hide (((Below.refl w.heap.size w).alloc (Nat.le_refl _) (.cells cs.toArray 53)).alloc (by simp) (.cells ds.toArray 53))
    have HX2 := hide ((Blk.new w 53 cs.toArray).alloc (.cells ds.toArray 53))
    have HX3 := hide (Blk.new2 w (.cells cs.toArray 53) 53 ds.toArray)
    have HWR := hide (And.intro hwr hwr2)
    have HPP := hide (And.intro hA hA2)
    have HIS := hide (And.intro hP hP2)
    have HI := hide ih
    have HSP := hide (schEq_split a b)
    have HDP := hide (fun p (h : p ∈ a.parts) => DSch.depth_part h)
    clear ih ha hb hA hA2 hP hP2 hwr hwr2 hwz hwz2
    by_cases h1 : a.kind = b.kind
    case neg =>
      have hkk : (a.kind != b.kind) = true := by simpa using h1
      rw [decide_eq_false h1, Bool.false_and] at HSP
      clear h1
      go_enter Tryd.func31, Tryd.ntmps31
      go_wp2
      go_ret
      exact ⟨ret_eq (by rw [HSP.out]; rfl), HW0.out⟩
    have hkk : (a.kind != b.kind) = false := by simpa using h1
    rw [decide_eq_true h1, Bool.true_and] at HSP
    have H1 := hide h1
    clear h1
    by_cases h2 : a.words.length = b.words.length
    case neg =>
      have hww : ((a.words.length : Int) != (b.words.length : Int)) = true := by simp; omega
      have HF : Hid (eqB a b = false) := hide (by rw [HSP.out, decide_eq_false (fun e => h2 (by rw [e])), Bool.false_and])
      clear h2
      go_enter Tryd.func31, Tryd.ntmps31
      go_wp2
      go_ret
      exact ⟨ret_eq (by rw [HF.out]; rfl), HW0.out⟩
    have hww : ((a.words.length : Int) != (b.words.length : Int)) = false := by simp [h2]
    have H2 := hide h2
    clear h2
    by_cases h3 : a.parts.length = b.parts.length
    case neg =>
      have hpp : ((a.parts.length : Int) != (b.parts.length : Int)) = true := by simp; omega
      have HF : Hid (eqB a b = false) := hide (by rw [HSP.out, eqB_false (fun e => h3 (by rw [e])), Bool.and_false])
      clear h3
      go_enter Tryd.func31, Tryd.ntmps31
      go_wp2
      go_ret
      exact ⟨ret_eq (by rw [HF.out]; rfl), HW0.out⟩
    have hpp : ((a.parts.length : Int) != (b.parts.length : Int)) = false := by simp [h3]
    have H3 := hide h3
    clear h3
    go_enter Tryd.func31, Tryd.ntmps31
    go_wp2_with fail
    go_loopw [5] (fun i wr => ∃ (j : Nat), i = .int .i64 j ∧ j ≤ a.words.length ∧ a.words.take j = b.words.take j ∧ Blk wr w.heap.size 53 cs.toArray ∧ Blk wr (w.heap.size + 1) 53 ds.toArray ∧ Below w.heap.size w wr) (fun i _ => a.words.length - (intOf i).toNat)
    case atStart => exact ⟨0, rfl, Nat.zero_le _, by simp, HX2.out, HX3.out, HW0.out⟩
    case round =>
      obtain ⟨j, rfl, hj, heq, hb2, hb3, hw⟩ := hrel
      have GE := hide heq
      have G2 := hide hb2
      have G3 := hide hb3
      have GW := hide hw
      clear heq hb2 hb3 hw HX2 HX3 HW0
      obtain ⟨wo, rfl⟩ : ∃ wo : World, wo = wr := ⟨_, rfl⟩
      have c2 : wo.cell? ⟨w.heap.size, 1, none⟩ = some (.slice Aw a.words.length cw) := by rw [G2.out.cell]; simpa using hw1
      have c3 : wo.cell? ⟨w.heap.size + 1, 1, none⟩ = some (.slice Aw2 b.words.length cw2) := by rw [G3.out.cell]; simpa using hw2
      by_cases hlt : j < a.words.length
      · have hlt2 : j < b.words.length := by rw [← H2.out]; exact hlt
        obtain ⟨x, o, rfl, hx, hc1⟩ := HWR.out.1.at_ hlt
        obtain ⟨x2, o2, rfl, hx2, hc2⟩ := HWR.out.2.at_ hlt2
        have d1 : wo.cell? ⟨x, o + j, none⟩ = some (sv a.words[j]) := (GW.out.cell (p := ⟨x, o + j, none⟩) hx).trans hc1
        have d2 : wo.cell? ⟨x2, o2 + j, none⟩ = some (sv b.words[j]) := (GW.out.cell (p := ⟨x2, o2 + j, none⟩) hx2).trans hc2
        have HT : Hid (a.words[j] = b.words[j] → a.words.take (j + 1) = b.words.take (j + 1)) := hide fun e => by rw [List.take_succ_eq_append_getElem hlt, List.take_succ_eq_append_getElem hlt2, GE.out, e]
        have HD : Hid (a.words[j] ≠ b.words[j] → eqB a b = false) := hide fun e => by
          rw [HSP.out, decide_eq_false, Bool.false_and]
          intro h
          exact e (by simp only [h])
        have j1 : (0 : Int) ≤ (j : Int) := by omega
        have j2 : (j : Int) < (a.words.length : Int) := by omega
        have j3 : (j : Int) < (b.words.length : Int) := by omega
        clear hc1 hc2
        generalize a.words[j] = s1 at *
        generalize b.words[j] = s2 at *
        cases hss : (s1 == s2)
        · have HSS := hide hss
          go_wp2_with fail
          go_quiet (fail)
          go_wp2
          go_ret
          exact ⟨ret_eq (by rw [HD.out (by simpa using HSS.out)]; rfl), below_drewN GW.out _⟩
        · have HSS := hide hss
          go_wp2_with fail
          go_quiet (fail)
          go_wp2_with fail
          exact ⟨⟨j + 1, by go_num, by omega, HT.out (by simpa using HSS.out), G2.out.drewN _, G3.out.drewN _, below_drewN GW.out _⟩, by simp [intOf]; omega⟩
      · have HEW : Hid (eqB a b = eqB a.parts b.parts) := hide (by
          have e : a.words = b.words := by
            have := GE.out
            rw [List.take_of_length_le (by omega), List.take_of_length_le (by rw [← H2.out]; omega)] at this
            exact this
          rw [HSP.out, decide_eq_true e, Bool.true_and])
        clear GE HSP
        have p2 : wo.cell? ⟨w.heap.size, 2, none⟩ = some (.slice Ap a.parts.length cp) := by rw [G2.out.cell]; simpa using hp1
        have p3 : wo.cell? ⟨w.heap.size + 1, 2, none⟩ = some (.slice Ap2 b.parts.length cp2) := by rw [G3.out.cell]; simpa using hp2
        go_wp2_with fail
        go_loopw [6] (fun i wr => ∃ (j : Nat), i = .int .i64 j ∧ j ≤ a.parts.length ∧ a.parts.take j = b.parts.take j ∧ Blk wr w.heap.size 53 cs.toArray ∧ Blk wr (w.heap.size + 1) 53 ds.toArray ∧ Below w.heap.size w wr) (fun i _ => a.parts.length - (intOf i).toNat)
        case atStart => exact ⟨0, rfl, Nat.zero_le _, by simp, G2.out, G3.out, GW.out⟩
        case round =>
          clear c2 c3 p2 p3 G2 G3 GW
          obtain ⟨j, rfl, hj, heq, hb2, hb3, hw⟩ := hrel
          have GE := hide heq
          have G2 := hide hb2
          have G3 := hide hb3
          have GW := hide hw
          clear heq hb2 hb3 hw
          obtain ⟨wo, rfl⟩ : ∃ wo : World, wo = wr := ⟨_, rfl⟩
          have c2 : wo.cell? ⟨w.heap.size, 2, none⟩ = some (.slice Ap a.parts.length cp) := by rw [G2.out.cell]; simpa using hp1
          have c3 : wo.cell? ⟨w.heap.size + 1, 2, none⟩ = some (.slice Ap2 b.parts.length cp2) := by rw [G3.out.cell]; simpa using hp2
          by_cases hlt : j < a.parts.length
          · have hlt2 : j < b.parts.length := by rw [← H3.out]; exact hlt
            obtain ⟨x, o, rfl, hx, hc1⟩ := HPP.out.1 (by omega)
            obtain ⟨x2, o2, rfl, hx2, hc2⟩ := HPP.out.2 (by omega)
            obtain ⟨hl1, hr1⟩ := hc1 j hlt
            obtain ⟨hl2, hr2⟩ := hc2 j hlt2
            have GS := hide (List.getElem?_eq_getElem hlt)
            have GS2 := hide (List.getElem?_eq_getElem hlt2)
            have HP1 := hide (HIS.out.1 j _ GS.out)
            have HP2 := hide (HIS.out.2 j _ GS2.out)
            have HRW : Hid (∀ W, Below wo.heap.size wo W → W.rangeAt x (o + j * 3) (C j)) := hide fun W hW q v hv => (hW.cell (p := ⟨x, o + j * 3 + q, none⟩) (Nat.lt_of_lt_of_le hx GW.out.size)).trans ((GW.out.cell (p := ⟨x, o + j * 3 + q, none⟩) hx).trans (hr1 q v hv))
            have HRW2 : Hid (∀ W, Below wo.heap.size wo W → W.rangeAt x2 (o2 + j * 3) (C2 j)) := hide fun W hW q v hv => (hW.cell (p := ⟨x2, o2 + j * 3 + q, none⟩) (Nat.lt_of_lt_of_le hx2 GW.out.size)).trans ((GW.out.cell (p := ⟨x2, o2 + j * 3 + q, none⟩) hx2).trans (hr2 q v hv))
            have hpd := HDP.out _ (List.getElem_mem hlt)
            have HC := hide (fun (W : World) (hW : Below wo.heap.size wo W) => HI.out a.parts[j] b.parts[j] (C j) (C2 j) W (by omega) (HP1.out.more (GW.out.trans (hW.mono GW.out.size))) (HP2.out.more (GW.out.trans (hW.mono GW.out.size))))
            have HT : Hid (a.parts[j] = b.parts[j] → a.parts.take (j + 1) = b.parts.take (j + 1)) := hide fun e => by rw [List.take_succ_eq_append_getElem hlt, List.take_succ_eq_append_getElem hlt2, GE.out, e]
            have HD : Hid (a.parts[j] ≠ b.parts[j] → eqB a b = false) := hide fun e => by
              rw [HEW.out]
              refine eqB_false fun h => e ?_
              simp only [h]
            have hi1 : (Tryd.prog.info? 53).map (·.size) = some (C j).length := by rw [hl1]; kernel_rfl
            have hi2 : (Tryd.prog.info? 53).map (·.size) = some (C2 j).length := by rw [hl2]; kernel_rfl
            have hu := Tryd.underlying53
            have j1 : (0 : Int) ≤ (j : Int) := by omega
            have j2 : (j : Int) < (a.parts.length : Int) := by omega
            have j3 : (j : Int) < (b.parts.length : Int) := by omega
            clear hc1 hc2 hr1 hr2 HP1 HP2 GS GS2
            generalize a.parts[j] = s1 at *
            generalize b.parts[j] = s2 at *
            generalize C j = e1 at *
            generalize C2 j = e2 at *
            cases hss : eqB s1 s2
            all_goals
              have HSS := hide hss
              rw [hss] at HC
              clear hss
              have HC2c := hide (And.intro c2 c3)
              go_wp2_with fail
              refine wp_region_held_drew (S := fun w' => Below wo.heap.size wo w') (by kernel_rfl) (Below.refl _ _).drew (fun hHeld => ?_)
              (refine takeH (i := 0) (v := .pointer (some ⟨w.heap.size, 2, none⟩)) rfl rfl (by kernel_rfl) (by kernel_rfl) (by kernel_rfl) (fun _ _ _ h => h) (by rfl) (fun wz hSw => by go_simp) hHeld ?_; simp only [Act.put, List.setIfInBounds_toArray, List.set_cons_zero, List.set_cons_succ])
              (refine takeH (i := 1) (v := .slice (some ⟨x, o, none⟩) a.parts.length cp) rfl rfl (by kernel_rfl) (by kernel_rfl) (by kernel_rfl) (fun _ _ _ h => h) (by rfl) (fun wz hSw => by have hcx := (hSw.cell (p := ⟨w.heap.size, 2, none⟩) G2.out.lt).trans HC2c.out.1; go_simp) hHeld ?_; simp only [Act.put, List.setIfInBounds_toArray, List.set_cons_zero, List.set_cons_succ])
              (refine takeH (i := 2) (v := .int .i64 j) rfl rfl (by kernel_rfl) (by kernel_rfl) (by kernel_rfl) (fun _ _ _ h => h) (by rfl) (fun wz hSw => by go_simp) hHeld ?_; simp only [Act.put, List.setIfInBounds_toArray, List.set_cons_zero, List.set_cons_succ])
              (refine takeH (i := 3) (v := .pointer (some ⟨x, o + j * 3, none⟩)) rfl rfl (by kernel_rfl) (by kernel_rfl) (by kernel_rfl) (fun _ _ _ h => h) (by rfl) (fun wz hSw => by go_simp) hHeld ?_; simp only [Act.put, List.setIfInBounds_toArray, List.set_cons_zero, List.set_cons_succ])
              (refine takeH (i := 4) (v := .agg (e1).toArray) rfl rfl (by kernel_rfl) (by kernel_rfl) (by kernel_rfl) (fun _ _ _ h => h) (by rfl) (fun wz hw => load_exec 53 (.tmp 58) rfl (x) (o + j * 3) rfl (e1) _ (HRW.out _ hw) hu rfl hi1) hHeld ?_; simp only [Act.put, List.setIfInBounds_toArray, List.set_cons_zero, List.set_cons_succ])
              (refine takeH (i := 5) (v := .pointer (some ⟨w.heap.size + 1, 2, none⟩)) rfl rfl (by kernel_rfl) (by kernel_rfl) (by kernel_rfl) (fun _ _ _ h => h) (by rfl) (fun wz hSw => by go_simp) hHeld ?_; simp only [Act.put, List.setIfInBounds_toArray, List.set_cons_zero, List.set_cons_succ])
              (refine takeH (i := 6) (v := .slice (some ⟨x2, o2, none⟩) b.parts.length cp2) rfl rfl (by kernel_rfl) (by kernel_rfl) (by kernel_rfl) (fun _ _ _ h => h) (by rfl) (fun wz hSw => by have hcx := (hSw.cell (p := ⟨w.heap.size + 1, 2, none⟩) G3.out.lt).trans HC2c.out.2; go_simp) hHeld ?_; simp only [Act.put, List.setIfInBounds_toArray, List.set_cons_zero, List.set_cons_succ])
              (refine takeH (i := 7) (v := .int .i64 j) rfl rfl (by kernel_rfl) (by kernel_rfl) (by kernel_rfl) (fun _ _ _ h => h) (by rfl) (fun wz hSw => by go_simp) hHeld ?_; simp only [Act.put, List.setIfInBounds_toArray, List.set_cons_zero, List.set_cons_succ])
              (refine takeH (i := 8) (v := .pointer (some ⟨x2, o2 + j * 3, none⟩)) rfl rfl (by kernel_rfl) (by kernel_rfl) (by kernel_rfl) (fun _ _ _ h => h) (by rfl) (fun wz hSw => by go_simp) hHeld ?_; simp only [Act.put, List.setIfInBounds_toArray, List.set_cons_zero, List.set_cons_succ])
              (refine takeH (i := 9) (v := .agg (e2).toArray) rfl rfl (by kernel_rfl) (by kernel_rfl) (by kernel_rfl) (fun _ _ _ h => h) (by rfl) (fun wz hw => load_exec 53 (.tmp 63) rfl (x2) (o2 + j * 3) rfl (e2) _ (HRW2.out _ hw) hu rfl hi2) hHeld ?_; simp only [Act.put, List.setIfInBounds_toArray, List.set_cons_zero, List.set_cons_succ])
              (refine oneH (i := 10) rfl (by kernel_rfl) (fun K hK => ?_); go_simp; refine (HC.out _ hHeld).mono ?_; rintro e w1 ⟨rfl, hb1⟩; have hq := hHeld.trans (hb1.mono hHeld.size); refine hK.out _ _ (hq) (fun hHeld => ?_); clear hK K)
              (refine oneH (i := 11) rfl (by kernel_rfl) (fun K hK => ?_); go_simp; refine hK.out _ _ (hq) (fun hHeld => ?_); clear hK K)
              refine wpAnyH_done (by kernel_rfl) ?_ _
              have K2 := hide (G2.out.below hq G2.out.lt)
              have K3 := hide (G3.out.below hq G3.out.lt)
              have KW := hide (GW.out.trans (hq.mono GW.out.size))
              clear hHeld hb1 hq hu hi1 hi2
            · go_wp2
              go_ret
              exact ⟨ret_eq (by rw [HD.out (fun e => by rw [eqB_true e] at HSS; cases HSS.out)]; rfl), KW.out⟩
            · go_wp2_with fail
              exact ⟨⟨j + 1, by go_num, by omega, HT.out (eqB_iff.1 HSS.out), K2.out, K3.out, KW.out⟩, by simp [intOf]; omega⟩
          · have HE : Hid (eqB a b = true) := hide (by
              have := GE.out
              rw [List.take_of_length_le (by omega), List.take_of_length_le (by rw [← H3.out]; omega)] at this
              rw [HEW.out, eqB_true this])
            go_wp2
            go_ret
            exact ⟨ret_eq (by rw [HE.out]; rfl), GW.out⟩
end Go.Proofs.YtbcabejdchkpmaaDoor

namespace Go.Proofs.YtbcabejdchkpmaaDoor
open Go.RowKit

set_option maxHeartbeats 4000000 in
set_option maxRecDepth 20000 in
theorem refValSame_calls (k : Nat) : ∀ (a b : DVal) (cs ds : List Value) (w : World), a.depth ≤ k → IsVal w (· < w.heap.size) a cs → IsVal w (· < w.heap.size) b ds →
    Calls Tryd.prog 54 #[.agg cs.toArray, .agg ds.toArray] w (Gives (.bool (eqB a b)) w) := by
  induction k with
  | zero => intro a b cs ds w h; have := a.depth_pos; omega
  | succ k ih =>
    intro a b cs ds w hk ha hb
    obtain ⟨hk1, hki⟩ := ha.kind_
    obtain ⟨hk2, hki2⟩ := hb.kind_
    obtain ⟨hn1, hni⟩ := ha.n_
    obtain ⟨hn2, hni2⟩ := hb.n_
    obtain ⟨hs1, hsl⟩ := ha.s_
    obtain ⟨hs2, hsl2⟩ := hb.s_
    obtain ⟨Aw, cw, hw1, hwr, hwz, hwc, hwm⟩ := ha.names_
    obtain ⟨Aw2, cw2, hw2, hwr2, hwz2, hwc2, hwm2⟩ := hb.names_
    obtain ⟨Ai, ci, hi1, hir, hiz, hic, him⟩ := ha.ids_
    obtain ⟨Ai2, ci2, hi2, hir2, hiz2, hic2, him2⟩ := hb.ids_
    obtain ⟨Ap, cp, C, hp1, hpc, hpm, hP, hA⟩ := ha.partsF
    obtain ⟨Ap2, cp2, C2, hp2, hpc2, hpm2, hP2, hA2⟩ := hb.partsF
    have HW0 := hide (((Below.refl w.heap.size w).alloc (Nat.le_refl _) (.cells cs.toArray 82)).alloc (by simp) (.cells ds.toArray 82))
    have HX2 := hide ((Blk.new w 82 cs.toArray).alloc (.cells ds.toArray 82))
    have HX3 := hide (Blk.new2 w (.cells cs.toArray 82) 82 ds.toArray)
    have HWR := hide (And.intro hwr hwr2)
    have HIR := hide (And.intro hir hir2)
    have HPP := hide (And.intro hA hA2)
    have HIS := hide (And.intro hP hP2)
    have HIU := hide (And.intro hiz hiz2)
    have HI := hide ih
    have HDP := hide (fun p (h : p ∈ a.parts) => DVal.depth_part h)
    clear ih ha hb hA hA2 hP hP2 hwr hwr2 hwz hwz2 hir hir2 hiz hiz2
    by_cases h1 : a.kind = b.kind
    case neg =>
      have hkk : (a.kind != b.kind) = true := by simp; omega
      have HF : Hid (eqB a b = false) := hide (eqB_false fun e => h1 (by rw [e]))
      clear h1
      go_enter Tryd.func54, Tryd.ntmps54
      go_wp2
      go_ret
      exact ⟨ret_eq (by rw [HF.out]; rfl), HW0.out⟩
    have hne1 : (a.kind != b.kind) = false := by simp [h1]
    have H1 := hide h1
    clear h1
    by_cases h2 : a.n = b.n
    case neg =>
      have hkk : (a.n != b.n) = true := by simp; omega
      have HF : Hid (eqB a b = false) := hide (eqB_false fun e => h2 (by rw [e]))
      clear h2
      go_enter Tryd.func54, Tryd.ntmps54
      go_wp2
      go_ret
      exact ⟨ret_eq (by rw [HF.out]; rfl), HW0.out⟩
    have hne2 : (a.n != b.n) = false := by simp [h2]
    have H2 := hide h2
    clear h2
    by_cases h3 : a.s = b.s
    case neg =>
      have hkk : (a.s != b.s) = true := by simpa using h3
      have hkk2 : (a.s == b.s) = false := by simpa using h3
      have HF : Hid (eqB a b = false) := hide (eqB_false fun e => h3 (by rw [e]))
      clear h3
      go_enter Tryd.func54, Tryd.ntmps54
      go_wp2
      go_ret
      exact ⟨ret_eq (by rw [HF.out]; rfl), HW0.out⟩
    have hne3 : (a.s != b.s) = false := by simp [h3]
    have H3 := hide h3
    clear h3
    by_cases h4 : a.names.length = b.names.length
    case neg =>
      have hkk : ((a.names.length : Int) != (b.names.length : Int)) = true := by simp; omega
      have HF : Hid (eqB a b = false) := hide (eqB_false fun e => h4 (by rw [e]))
      clear h4
      go_enter Tryd.func54, Tryd.ntmps54
      go_wp2
      go_ret
      exact ⟨ret_eq (by rw [HF.out]; rfl), HW0.out⟩
    have hne4 : ((a.names.length : Int) != (b.names.length : Int)) = false := by simp [h4]
    have H4 := hide h4
    clear h4
    by_cases h5 : a.ids.length = b.ids.length
    case neg =>
      have hkk : ((a.ids.length : Int) != (b.ids.length : Int)) = true := by simp; omega
      have HF : Hid (eqB a b = false) := hide (eqB_false fun e => h5 (by rw [e]))
      clear h5
      go_enter Tryd.func54, Tryd.ntmps54
      go_wp2
      go_ret
      exact ⟨ret_eq (by rw [HF.out]; rfl), HW0.out⟩
    have hne5 : ((a.ids.length : Int) != (b.ids.length : Int)) = false := by simp [h5]
    have H5 := hide h5
    clear h5
    by_cases h6 : a.parts.length = b.parts.length
    case neg =>
      have hkk : ((a.parts.length : Int) != (b.parts.length : Int)) = true := by simp; omega
      have HF : Hid (eqB a b = false) := hide (eqB_false fun e => h6 (by rw [e]))
      clear h6
      go_enter Tryd.func54, Tryd.ntmps54
      go_wp2
      go_ret
      exact ⟨ret_eq (by rw [HF.out]; rfl), HW0.out⟩
    have hne6 : ((a.parts.length : Int) != (b.parts.length : Int)) = false := by simp [h6]
    have H6 := hide h6
    clear h6
    go_enter Tryd.func54, Tryd.ntmps54
    go_wp2_with fail
    go_loopw [5] (fun i wr => ∃ (j : Nat), i = .int .i64 j ∧ j ≤ a.names.length ∧ a.names.take j = b.names.take j ∧ Blk wr w.heap.size 82 cs.toArray ∧ Blk wr (w.heap.size + 1) 82 ds.toArray ∧ Below w.heap.size w wr) (fun i _ => a.names.length - (intOf i).toNat)
    case atStart => exact ⟨0, rfl, Nat.zero_le _, by simp, HX2.out, HX3.out, HW0.out⟩
    case round =>
      clear HX2 HX3 HW0
      obtain ⟨j, rfl, hj, heq, hb2, hb3, hw⟩ := hrel
      have GE := hide heq
      have G2 := hide hb2
      have G3 := hide hb3
      have GW := hide hw
      clear heq hb2 hb3 hw
      obtain ⟨wo, rfl⟩ : ∃ wo : World, wo = wr := ⟨_, rfl⟩
      have c2 : wo.cell? ⟨w.heap.size, 3, none⟩ = some (.slice Aw a.names.length cw) := by rw [G2.out.cell]; simpa using hw1
      have c3 : wo.cell? ⟨w.heap.size + 1, 3, none⟩ = some (.slice Aw2 b.names.length cw2) := by rw [G3.out.cell]; simpa using hw2
      by_cases hlt : j < a.names.length
      · have hlt2 : j < b.names.length := by rw [← H4.out]; exact hlt
        obtain ⟨x, o, rfl, hx, hc1⟩ := HWR.out.1.at_ hlt
        obtain ⟨x2, o2, rfl, hx2, hc2⟩ := HWR.out.2.at_ hlt2
        have d1 : wo.cell? ⟨x, o + j, none⟩ = some (sv a.names[j]) := (GW.out.cell (p := ⟨x, o + j, none⟩) hx).trans hc1
        have d2 : wo.cell? ⟨x2, o2 + j, none⟩ = some (sv b.names[j]) := (GW.out.cell (p := ⟨x2, o2 + j, none⟩) hx2).trans hc2
        have HT : Hid (a.names[j] = b.names[j] → a.names.take (j + 1) = b.names.take (j + 1)) := hide fun e => by rw [List.take_succ_eq_append_getElem hlt, List.take_succ_eq_append_getElem hlt2, GE.out, e]
        have HD : Hid (a.names[j] ≠ b.names[j] → eqB a b = false) := hide fun e => eqB_false fun h => e (by simp only [h])
        have j1 : (0 : Int) ≤ (j : Int) := by omega
        have j2 : (j : Int) < (a.names.length : Int) := by omega
        have j3 : (j : Int) < (b.names.length : Int) := by omega
        clear hc1 hc2
        generalize a.names[j] = s1 at *
        generalize b.names[j] = s2 at *
        cases hss : (s1 == s2)
        · have HSS := hide hss
          go_wp2_with fail
          go_quiet (fail)
          go_wp2
          go_ret
          exact ⟨ret_eq (by rw [HD.out (by simpa using HSS.out)]; rfl), below_drewN GW.out _⟩
        · have HSS := hide hss
          go_wp2_with fail
          go_quiet (fail)
          go_wp2_with fail
          exact ⟨⟨j + 1, by go_num, by omega, HT.out (by simpa using HSS.out), G2.out.drewN _, G3.out.drewN _, below_drewN GW.out _⟩, by simp [intOf]; omega⟩
      · have HEN : Hid (a.names = b.names) := hide (by
          have := GE.out
          rw [List.take_of_length_le (by omega), List.take_of_length_le (by rw [← H4.out]; omega)] at this
          exact this)
        clear GE
        have e2 : wo.cell? ⟨w.heap.size, 4, none⟩ = some (.slice Ai a.ids.length ci) := by rw [G2.out.cell]; simpa using hi1
        have e3 : wo.cell? ⟨w.heap.size + 1, 4, none⟩ = some (.slice Ai2 b.ids.length ci2) := by rw [G3.out.cell]; simpa using hi2
        go_wp2_with fail
        go_loopw [6] (fun i wr => ∃ (j : Nat), i = .int .i64 j ∧ j ≤ a.ids.length ∧ a.ids.take j = b.ids.take j ∧ Blk wr w.heap.size 82 cs.toArray ∧ Blk wr (w.heap.size + 1) 82 ds.toArray ∧ Below w.heap.size w wr) (fun i _ => a.ids.length - (intOf i).toNat)
        case atStart => exact ⟨0, rfl, Nat.zero_le _, by simp, G2.out, G3.out, GW.out⟩
        case round =>
          clear c2 c3 e2 e3 G2 G3 GW
          obtain ⟨j, rfl, hj, heq, hb2, hb3, hw⟩ := hrel
          have GE := hide heq
          have G2 := hide hb2
          have G3 := hide hb3
          have GW := hide hw
          clear heq hb2 hb3 hw
          obtain ⟨wo, rfl⟩ : ∃ wo : World, wo = wr := ⟨_, rfl⟩
          have c2 : wo.cell? ⟨w.heap.size, 4, none⟩ = some (.slice Ai a.ids.length ci) := by rw [G2.out.cell]; simpa using hi1
          have c3 : wo.cell? ⟨w.heap.size + 1, 4, none⟩ = some (.slice Ai2 b.ids.length ci2) := by rw [G3.out.cell]; simpa using hi2
          by_cases hlt : j < a.ids.length
          · have hlt2 : j < b.ids.length := by rw [← H5.out]; exact hlt
            obtain ⟨x, o, rfl, hx, hc1⟩ := HIR.out.1.at_ hlt
            obtain ⟨x2, o2, rfl, hx2, hc2⟩ := HIR.out.2.at_ hlt2
            have d1 : wo.cell? ⟨x, o + j, none⟩ = some (uv a.ids[j]) := (GW.out.cell (p := ⟨x, o + j, none⟩) hx).trans hc1
            have d2 : wo.cell? ⟨x2, o2 + j, none⟩ = some (uv b.ids[j]) := (GW.out.cell (p := ⟨x2, o2 + j, none⟩) hx2).trans hc2
            have HT : Hid (a.ids[j] = b.ids[j] → a.ids.take (j + 1) = b.ids.take (j + 1)) := hide fun e => by rw [List.take_succ_eq_append_getElem hlt, List.take_succ_eq_append_getElem hlt2, GE.out, e]
            have HD : Hid (a.ids[j] ≠ b.ids[j] → eqB a b = false) := hide fun e => eqB_false fun h => e (by simp only [h])
            have j1 : (0 : Int) ≤ (j : Int) := by omega
            have j2 : (j : Int) < (a.ids.length : Int) := by omega
            have j3 : (j : Int) < (b.ids.length : Int) := by omega
            clear hc1 hc2
            generalize a.ids[j] = s1 at *
            generalize b.ids[j] = s2 at *
            unfold uv at d1 d2
            by_cases hss : s1 = s2
            · have hsb : ((s1 : Int) != (s2 : Int)) = false := by simp [hss]
              have HSS := hide hss
              clear hss
              go_wp2_with fail
              go_quiet (fail)
              go_wp2_with fail
              exact ⟨⟨j + 1, by go_num, by omega, HT.out HSS.out, G2.out.drewN _, G3.out.drewN _, below_drewN GW.out _⟩, by simp [intOf]; omega⟩
            · have hsb : ((s1 : Int) != (s2 : Int)) = true := by simp; omega
              have HSS := hide hss
              clear hss
              go_wp2_with fail
              go_quiet (fail)
              go_wp2
              go_ret
              exact ⟨ret_eq (by rw [HD.out HSS.out]; rfl), below_drewN GW.out _⟩
          · have HEI : Hid (a.ids = b.ids) := hide (by
              have := GE.out
              rw [List.take_of_length_le (by omega), List.take_of_length_le (by rw [← H5.out]; omega)] at this
              exact this)
            clear GE
            have e2 : wo.cell? ⟨w.heap.size, 5, none⟩ = some (.slice Ap a.parts.length cp) := by rw [G2.out.cell]; simpa using hp1
            have e3 : wo.cell? ⟨w.heap.size + 1, 5, none⟩ = some (.slice Ap2 b.parts.length cp2) := by rw [G3.out.cell]; simpa using hp2
            go_wp2_with fail
            go_loopw [7] (fun i wr => ∃ (j : Nat), i = .int .i64 j ∧ j ≤ a.parts.length ∧ a.parts.take j = b.parts.take j ∧ Blk wr w.heap.size 82 cs.toArray ∧ Blk wr (w.heap.size + 1) 82 ds.toArray ∧ Below w.heap.size w wr) (fun i _ => a.parts.length - (intOf i).toNat)
            case atStart => exact ⟨0, rfl, Nat.zero_le _, by simp, G2.out, G3.out, GW.out⟩
            case round =>
              clear c2 c3 e2 e3 G2 G3 GW
              obtain ⟨j, rfl, hj, heq, hb2, hb3, hw⟩ := hrel
              have GE := hide heq
              have G2 := hide hb2
              have G3 := hide hb3
              have GW := hide hw
              clear heq hb2 hb3 hw
              obtain ⟨wo, rfl⟩ : ∃ wo : World, wo = wr := ⟨_, rfl⟩
              have c2 : wo.cell? ⟨w.heap.size, 5, none⟩ = some (.slice Ap a.parts.length cp) := by rw [G2.out.cell]; simpa using hp1
              have c3 : wo.cell? ⟨w.heap.size + 1, 5, none⟩ = some (.slice Ap2 b.parts.length cp2) := by rw [G3.out.cell]; simpa using hp2
              by_cases hlt : j < a.parts.length
              · have hlt2 : j < b.parts.length := by rw [← H6.out]; exact hlt
                obtain ⟨x, o, rfl, hx, hc1⟩ := HPP.out.1 (by omega)
                obtain ⟨x2, o2, rfl, hx2, hc2⟩ := HPP.out.2 (by omega)
                obtain ⟨hl1, hr1⟩ := hc1 j hlt
                obtain ⟨hl2, hr2⟩ := hc2 j hlt2
                have GS := hide (List.getElem?_eq_getElem hlt)
                have GS2 := hide (List.getElem?_eq_getElem hlt2)
                have HP1 := hide (HIS.out.1 j _ GS.out)
                have HP2 := hide (HIS.out.2 j _ GS2.out)
                have HRW : Hid (∀ W, Below wo.heap.size wo W → W.rangeAt x (o + j * 6) (C j)) := hide fun W hW q v hv => (hW.cell (p := ⟨x, o + j * 6 + q, none⟩) (Nat.lt_of_lt_of_le hx GW.out.size)).trans ((GW.out.cell (p := ⟨x, o + j * 6 + q, none⟩) hx).trans (hr1 q v hv))
                have HRW2 : Hid (∀ W, Below wo.heap.size wo W → W.rangeAt x2 (o2 + j * 6) (C2 j)) := hide fun W hW q v hv => (hW.cell (p := ⟨x2, o2 + j * 6 + q, none⟩) (Nat.lt_of_lt_of_le hx2 GW.out.size)).trans ((GW.out.cell (p := ⟨x2, o2 + j * 6 + q, none⟩) hx2).trans (hr2 q v hv))
                have hpd := HDP.out _ (List.getElem_mem hlt)
                have HC := hide (fun (W : World) (hW : Below wo.heap.size wo W) => HI.out a.parts[j] b.parts[j] (C j) (C2 j) W (by omega) (HP1.out.more (GW.out.trans (hW.mono GW.out.size))) (HP2.out.more (GW.out.trans (hW.mono GW.out.size))))
                have HT : Hid (a.parts[j] = b.parts[j] → a.parts.take (j + 1) = b.parts.take (j + 1)) := hide fun e => by rw [List.take_succ_eq_append_getElem hlt, List.take_succ_eq_append_getElem hlt2, GE.out, e]
                have HD : Hid (a.parts[j] ≠ b.parts[j] → eqB a b = false) := hide fun e => by
                  refine eqB_false fun h => e ?_
                  simp only [h]
                have hi1 : (Tryd.prog.info? 82).map (·.size) = some (C j).length := by rw [hl1]; kernel_rfl
                have hi2 : (Tryd.prog.info? 82).map (·.size) = some (C2 j).length := by rw [hl2]; kernel_rfl
                have hu := Tryd.underlying82
                have j1 : (0 : Int) ≤ (j : Int) := by omega
                have j2 : (j : Int) < (a.parts.length : Int) := by omega
                have j3 : (j : Int) < (b.parts.length : Int) := by omega
                clear hc1 hc2 hr1 hr2 HP1 HP2 GS GS2
                generalize a.parts[j] = s1 at *
                generalize b.parts[j] = s2 at *
                generalize C j = e1 at *
                generalize C2 j = e2 at *
                cases hss : eqB s1 s2
                all_goals
                  have HSS := hide hss
                  rw [hss] at HC
                  clear hss
                  have HC2c := hide (And.intro c2 c3)
                  go_wp2_with fail
                  refine wp_region_held_drew (S := fun w' => Below wo.heap.size wo w') (by kernel_rfl) (Below.refl _ _).drew (fun hHeld => ?_)
                  (refine takeH (i := 0) (v := .pointer (some ⟨w.heap.size, 5, none⟩)) rfl rfl (by kernel_rfl) (by kernel_rfl) (by kernel_rfl) (fun _ _ _ h => h) (by rfl) (fun wz hSw => by go_simp) hHeld ?_; simp only [Act.put, List.setIfInBounds_toArray, List.set_cons_zero, List.set_cons_succ])
                  (refine takeH (i := 1) (v := .slice (some ⟨x, o, none⟩) a.parts.length cp) rfl rfl (by kernel_rfl) (by kernel_rfl) (by kernel_rfl) (fun _ _ _ h => h) (by rfl) (fun wz hSw => by have hcx := (hSw.cell (p := ⟨w.heap.size, 5, none⟩) G2.out.lt).trans HC2c.out.1; go_simp) hHeld ?_; simp only [Act.put, List.setIfInBounds_toArray, List.set_cons_zero, List.set_cons_succ])
                  (refine takeH (i := 2) (v := .int .i64 j) rfl rfl (by kernel_rfl) (by kernel_rfl) (by kernel_rfl) (fun _ _ _ h => h) (by rfl) (fun wz hSw => by go_simp) hHeld ?_; simp only [Act.put, List.setIfInBounds_toArray, List.set_cons_zero, List.set_cons_succ])
                  (refine takeH (i := 3) (v := .pointer (some ⟨x, o + j * 6, none⟩)) rfl rfl (by kernel_rfl) (by kernel_rfl) (by kernel_rfl) (fun _ _ _ h => h) (by rfl) (fun wz hSw => by go_simp) hHeld ?_; simp only [Act.put, List.setIfInBounds_toArray, List.set_cons_zero, List.set_cons_succ])
                  (refine takeH (i := 4) (v := .agg (e1).toArray) rfl rfl (by kernel_rfl) (by kernel_rfl) (by kernel_rfl) (fun _ _ _ h => h) (by rfl) (fun wz hw => load_exec 82 (.tmp 100) rfl (x) (o + j * 6) rfl (e1) _ (HRW.out _ hw) hu rfl hi1) hHeld ?_; simp only [Act.put, List.setIfInBounds_toArray, List.set_cons_zero, List.set_cons_succ])
                  (refine takeH (i := 5) (v := .pointer (some ⟨w.heap.size + 1, 5, none⟩)) rfl rfl (by kernel_rfl) (by kernel_rfl) (by kernel_rfl) (fun _ _ _ h => h) (by rfl) (fun wz hSw => by go_simp) hHeld ?_; simp only [Act.put, List.setIfInBounds_toArray, List.set_cons_zero, List.set_cons_succ])
                  (refine takeH (i := 6) (v := .slice (some ⟨x2, o2, none⟩) b.parts.length cp2) rfl rfl (by kernel_rfl) (by kernel_rfl) (by kernel_rfl) (fun _ _ _ h => h) (by rfl) (fun wz hSw => by have hcx := (hSw.cell (p := ⟨w.heap.size + 1, 5, none⟩) G3.out.lt).trans HC2c.out.2; go_simp) hHeld ?_; simp only [Act.put, List.setIfInBounds_toArray, List.set_cons_zero, List.set_cons_succ])
                  (refine takeH (i := 7) (v := .int .i64 j) rfl rfl (by kernel_rfl) (by kernel_rfl) (by kernel_rfl) (fun _ _ _ h => h) (by rfl) (fun wz hSw => by go_simp) hHeld ?_; simp only [Act.put, List.setIfInBounds_toArray, List.set_cons_zero, List.set_cons_succ])
                  (refine takeH (i := 8) (v := .pointer (some ⟨x2, o2 + j * 6, none⟩)) rfl rfl (by kernel_rfl) (by kernel_rfl) (by kernel_rfl) (fun _ _ _ h => h) (by rfl) (fun wz hSw => by go_simp) hHeld ?_; simp only [Act.put, List.setIfInBounds_toArray, List.set_cons_zero, List.set_cons_succ])
                  (refine takeH (i := 9) (v := .agg (e2).toArray) rfl rfl (by kernel_rfl) (by kernel_rfl) (by kernel_rfl) (fun _ _ _ h => h) (by rfl) (fun wz hw => load_exec 82 (.tmp 105) rfl (x2) (o2 + j * 6) rfl (e2) _ (HRW2.out _ hw) hu rfl hi2) hHeld ?_; simp only [Act.put, List.setIfInBounds_toArray, List.set_cons_zero, List.set_cons_succ])
                  (refine oneH (i := 10) rfl (by kernel_rfl) (fun K hK => ?_); go_simp; refine (HC.out _ hHeld).mono ?_; rintro e w1 ⟨rfl, hb1⟩; have hq := hHeld.trans (hb1.mono hHeld.size); refine hK.out _ _ (hq) (fun hHeld => ?_); clear hK K)
                  (refine oneH (i := 11) rfl (by kernel_rfl) (fun K hK => ?_); go_simp; refine hK.out _ _ (hq) (fun hHeld => ?_); clear hK K)
                  refine wpAnyH_done (by kernel_rfl) ?_ _
                  have K2 := hide (G2.out.below hq G2.out.lt)
                  have K3 := hide (G3.out.below hq G3.out.lt)
                  have KW := hide (GW.out.trans (hq.mono GW.out.size))
                  clear hHeld hb1 hq hu hi1 hi2
                · go_wp2
                  go_ret
                  exact ⟨ret_eq (by rw [HD.out (fun e => by rw [eqB_true e] at HSS; cases HSS.out)]; rfl), KW.out⟩
                · go_wp2_with fail
                  exact ⟨⟨j + 1, by go_num, by omega, HT.out (eqB_iff.1 HSS.out), K2.out, K3.out, KW.out⟩, by simp [intOf]; omega⟩
              · have HE : Hid (eqB a b = true) := hide (by
                  have := GE.out
                  rw [List.take_of_length_le (by omega), List.take_of_length_le (by rw [← H6.out]; omega)] at this
                  exact eqB_true ((DVal.ext_iff' a b).2 ⟨H1.out, H2.out, H3.out, HEN.out, HEI.out, this⟩))
                go_wp2
                go_ret
                exact ⟨ret_eq (by rw [HE.out]; rfl), GW.out⟩
end Go.Proofs.YtbcabejdchkpmaaDoor

namespace Go.Proofs.YtbcabejdchkpmaaDoor
open Go.RowKit

theorem flat_get {n : Nat} : ∀ {Cs : List (List Value)} {i j : Nat} {C : List Value}, (∀ D ∈ Cs, D.length = n) → Cs[i]? = some C → j < n → Cs.flatten[i * n + j]? = C[j]?
  | [], i, j, C, _, hi, _ => by simp at hi
  | D :: Cs, 0, j, C, hl, hi, hj => by
    have e : D = C := by simpa using hi
    subst e
    have h1 := hl D (by simp)
    rw [List.flatten_cons, List.getElem?_append_left (by omega)]
    simp
  | D :: Cs, i + 1, j, C, hl, hi, hj => by
    have h1 := hl D (by simp)
    have := flat_get (n := n) (Cs := Cs) (i := i) (j := j) (C := C) (fun x hx => hl x (by simp [hx])) (by simpa using hi) hj
    rw [List.flatten_cons, List.getElem?_append_right (by rw [Nat.add_mul]; omega), ← this]
    congr 1
    rw [Nat.add_mul]; omega
theorem Blk.new3 (w : World) (o o2 : Obj) (t : TypeId) (cs : Array Value) : Blk (((w.alloc o).alloc o2).alloc (.cells cs t)) (w.heap.size + 1 + 1) t cs := by simpa using Blk.new ((w.alloc o).alloc o2) t cs
theorem reads_blk {w : World} {g : Nat} {t : TypeId} {size n : Nat} {cs : List Value} (hb : Blk w g t cs.toArray) (hl : cs.length = n * size) : Reads w w.heap.size size (some ⟨g, 0, none⟩) n cs :=
  ⟨hl, fun _ => ⟨g, 0, rfl, hb.lt, fun j u hu => by rw [Nat.zero_add, hb.cell]; simpa using hu⟩⟩
theorem own_cells {w : World} {base : Nat} {e : TypeId} {size n c : Nat} {A : Option Addr} {xs : List Value} (h : w.ownsRow base e size (.slice A n c) n xs) : RF w (fun b => (Value.slice A n c).ownBlock = some b) size A n xs := by
  refine ⟨h.1, fun hn => ?_⟩
  obtain ⟨g, cap, hv, _, hlt⟩ := h.form hn
  have hA : A = some ⟨g, 0, none⟩ := by injection hv
  subst hA
  exact ⟨g, 0, rfl, rfl, fun j u hu => by have := h.cells (g := g) rfl j u hu; rwa [Addr.add_lit] at this⟩
theorem own_cap {w : World} {base : Nat} {e : TypeId} {size n c : Nat} {A : Option Addr} {xs : List Value} (h : w.ownsRow base e size (.slice A n c) n xs) : n ≤ c := by
  rcases h.2 with ⟨hv, h0⟩ | ⟨g, cap, cur, hv, _, _, hnc, _⟩
  · omega
  · have : c = cap := by injection hv
    omega

theorem step_append_any {P : Program} {ops : Array Oper} {w : World} {o : Oper} {a : Act} {K : Act → World → Prop} {Q : Exit → Act → World → Prop} {E : Prop} (hgd : o.guard = none) (s x : Operand) (t : TypeId)
    (ho : o.op = .call { callee := .builtin .append, args := #[s, x], argTypes := #[t, t] })
    (base : Nat) (e : TypeId) (i : TypeInfo) (z : Value) (size bytes : Nat) (ht : P.underlying t = some (.slice e)) (hi : P.info? e = some i) (hz : i.zero = some z)
    (hsize : i.size = size) (hby : i.bytes = bytes) (hzs : z.cells.size = size) (hsz : 0 < size)
    (v : Value) (n : Nat) (xs : List Value) (hs : a.eval s = v) (hown : w.ownsRow base e size v n xs)
    (B : Nat) (A : Option Addr) (m c : Nat) (news : List Value) (hx : a.eval x = .slice A m c) (hr : Reads w B size A m news) (h1 : ∀ u ∈ news, u.oneCell' = true)
    (h63 : n + m ≤ maxLen) (hbytes : (n + m) * bytes ≤ 140737488355328) (hbase : base ≤ w.heap.size)
    (h : ∀ A' c' w', w'.ownsRow base e size (.slice A' (n + m) c') (n + m) (xs ++ news) → w.grownBy w' v.ownBlock → ((Value.slice A' (n + m) c').ownBlock = v.ownBlock ∨ (Value.slice A' (n + m) c').ownBlock = some w.heap.size) → K (a.put o.dst (.slice A' (n + m) c')) w') :
    if Region.wanted o (yielded ops a.tmps) = true then Oper.wp P o a w K Q else E := by
  have hw : Region.wanted o (yielded ops a.tmps) = true := by simp [Region.wanted, hgd]
  rw [if_pos hw]
  obtain ⟨A', c', w', hrun, h2, h3, h4⟩ := run_append_any (P := P) w base t o.type e i z size bytes ht hi hz hsize hby hzs hsz v n xs hown B A m c news hr h1 h63 hbytes hbase
  unfold Oper.wp execOp
  simp only [ho, resolve, invoke, builtin, Sem.run_bind, Sem.run_pure, Result.andThen_ok, List.map_toArray, List.map_cons, List.map_nil, hs, hx, hrun]
  exact h A' c' w' h2 h3 h4

def VF (B g : Nat) (N P : Value) (w : World) (b : Nat) : Prop := B ≤ b ∧ b < w.heap.size ∧ N.ownBlock ≠ some b ∧ P.ownBlock ≠ some b ∧ b ≠ g

structure VB (w : World) (B g : Nat) (kd n : Int) (s : Str) (names : List Str) (parts : List DVal) (An Ap : Option Addr) (cn cp : Nat) : Prop where
  blk : Blk w g 82 #[.int .i64 kd, .int .i64 n, sv s, .slice An names.length cn, .slice none 0 0, .slice Ap parts.length cp]
  nm : w.ownsRow B 9 1 (.slice An names.length cn) names.length (names.map sv)
  ng : (Value.slice An names.length cn).ownBlock ≠ some g
  pg : (Value.slice Ap parts.length cp).ownBlock ≠ some g
  pn : ∀ b, (Value.slice An names.length cn).ownBlock = some b → (Value.slice Ap parts.length cp).ownBlock ≠ some b
  Bg : B ≤ g
  pt : ∃ Cs : List (List Value), Cs.length = parts.length ∧ (∀ C ∈ Cs, C.length = 6) ∧ (∀ C ∈ Cs, ∀ v ∈ C, v.oneCell' = true) ∧ w.ownsRow B 82 6 (.slice Ap parts.length cp) parts.length Cs.flatten ∧
    ∀ (i : Nat) (p : DVal), parts[i]? = some p → ∃ C, Cs[i]? = some C ∧ IsVal w (VF B g (.slice An names.length cn) (.slice Ap parts.length cp) w) p C

section
variable {w w' : World} {B g : Nat} {kd n : Int} {s : Str} {names : List Str} {parts : List DVal} {An Ap : Option Addr} {cn cp : Nat}
theorem VB.keep (h : VB w B g kd n s names parts An Ap cn cp) (hf : Below w.heap.size w w') : VB w' B g kd n s names parts An Ap cn cp := by
  obtain ⟨Cs, h1, h2, h3, h4, h5⟩ := h.pt
  refine ⟨h.blk.below hf h.blk.lt, own_below' h.nm hf, h.ng, h.pg, h.pn, h.Bg, Cs, h1, h2, h3, own_below' h4 hf, fun i p hp => ?_⟩
  obtain ⟨C, hC, hv⟩ := h5 i p hp
  exact ⟨C, hC, (hv.keep fun q hq => hf.cell hq.2.1).mono fun b hb => ⟨hb.1, Nat.lt_of_lt_of_le hb.2.1 hf.size, hb.2.2⟩⟩
theorem VB.keepF {F : Nat → Prop} (h : VB w B g kd n s names parts An Ap cn cp) (hf : Fr F w w') (hF : ∀ b, F b → b < B) : VB w' B g kd n s names parts An Ap cn cp := by
  obtain ⟨Cs, h1, h2, h3, h4, h5⟩ := h.pt
  have hBg := h.Bg
  refine ⟨h.blk.fr hf (fun e => by have := hF _ e; omega), own_fr h.nm hf (fun k hk e => by have := (h.nm.lt k hk).1; have := hF k e; omega), h.ng, h.pg, h.pn, h.Bg, Cs, h1, h2, h3, own_fr h4 hf (fun k hk e => by have := (h4.lt k hk).1; have := hF k e; omega), fun i p hp => ?_⟩
  obtain ⟨C, hC, hv⟩ := h5 i p hp
  exact ⟨C, hC, (hv.keep fun q hq => World.cell?_of_block (hf.block q.block hq.2.1 (fun e => by have := hF _ e; have := hq.1; omega))).mono fun b hb => ⟨hb.1, Nat.lt_of_lt_of_le hb.2.1 hf.size, hb.2.2⟩⟩
theorem VB.start {W : World} (hB : B ≤ W.heap.size) (hb : Blk W g 82 #[.int .i64 kd, .int .i64 n, sv s, .slice none 0 0, .slice none 0 0, .slice none 0 0]) (hg : B ≤ g) : VB W B g kd n s [] [] none none 0 0 :=
  ⟨hb, World.ownsRow_nil _ _ _ _, by simp [Value.ownBlock], by simp [Value.ownBlock], fun b h => by simp [Value.ownBlock] at h, hg, [], rfl, fun _ h => (by cases h), fun _ h => (by cases h), World.ownsRow_nil _ _ _ _, fun i p hp => by simp at hp⟩
theorem VB.name {A' : Option Addr} {c' : Nat} {x : Str} (h : VB w B g kd n s names parts An Ap cn cp) (hown : w'.ownsRow B 9 1 (.slice A' (names.length + 1) c') (names.length + 1) ((names ++ [x]).map sv)) (hgr : w.grownBy w' (Value.slice An names.length cn).ownBlock)
    (hlie : (Value.slice A' (names.length + 1) c').ownBlock = (Value.slice An names.length cn).ownBlock ∨ (Value.slice A' (names.length + 1) c').ownBlock = some w.heap.size) :
    VB (w'.setCell ⟨g, 3, none⟩ (.slice A' (names.length + 1) c')) B g kd n s (names ++ [x]) parts A' Ap c' cp := by
  obtain ⟨Cs, h1, h2, h3, h4, h5⟩ := h.pt
  have hgl := h.blk.lt
  have hA'g : (Value.slice A' (names.length + 1) c').ownBlock ≠ some g := by
    rcases hlie with e | e <;> rw [e]
    · exact h.ng
    · intro e; injection e with e; omega
  have hpA' : ∀ b, (Value.slice A' (names.length + 1) c').ownBlock = some b → (Value.slice Ap parts.length cp).ownBlock ≠ some b := by
    intro b hb
    rcases hlie with e | e
    · exact h.pn b (e ▸ hb)
    · intro hp
      have hlt := (h4.lt b hp).2
      rw [e] at hb
      injection hb with hb
      omega
  have hlen : (names ++ [x]).length = names.length + 1 := by simp
  have hblk := (h.blk.grown hgr (fun e => h.ng e.symm)).set_ 3 (.slice A' (names.length + 1) c')
  have hF : Fr (fun k => k = g) w' (w'.setCell ⟨g, 3, none⟩ (.slice A' (names.length + 1) c')) := (Fr.refl (fun k => k = g) w').setCell (p := ⟨g, 3, none⟩) (.inl rfl) _
  refine ⟨by rw [hlen]; simpa using hblk, ?_, by rw [hlen]; exact hA'g, h.pg, by rw [hlen]; exact hpA', h.Bg, Cs, h1, h2, h3, ?_, fun i p hp => ?_⟩
  · rw [hlen]
    exact own_fr hown hF (fun k hk e => hA'g (by rw [← e]; exact hk))
  · have h40 : w'.ownsRow B 82 6 (.slice Ap parts.length cp) parts.length Cs.flatten := h4.kept hgr (by
      rcases hob : (Value.slice Ap parts.length cp).ownBlock with _ | b
      · exact .inl rfl
      · exact .inr fun e => h.pn b e.symm hob)
    exact own_fr h40 hF (fun k hk e => h.pg (by rw [← e]; exact hk))
  · obtain ⟨C, hC, hv⟩ := h5 i p hp
    refine ⟨C, hC, (hv.keep fun q hq => ?_).mono fun b hb => ⟨hb.1, ?_, ?_, hb.2.2.2.1, hb.2.2.2.2⟩⟩
    · have e1 : (w'.setCell ⟨g, 3, none⟩ (.slice A' (names.length + 1) c')).cell? q = w'.cell? q := World.cell?_of_block (hF.block q.block (Nat.lt_of_lt_of_le hq.2.1 hgr.size) (fun e => hq.2.2.2.2 e))
      rw [e1]
      exact World.cell?_of_block (hgr.block q.block hq.2.1 (fun e => hq.2.2.1 e.symm))
    · simp only [World.setCell, Array.size_modify]
      exact Nat.lt_of_lt_of_le hb.2.1 hgr.size
    · rw [hlen]
      rcases hlie with e | e <;> rw [e]
      · exact hb.2.2.1
      · intro e; injection e with e; have := hb.2.1; omega
theorem VB.part {A' : Option Addr} {c' : Nat} {x : DVal} {C : List Value} {Cs : List (List Value)} (h : VB w B g kd n s names parts An Ap cn cp) (h1 : Cs.length = parts.length) (h2 : ∀ D ∈ Cs, D.length = 6) (h3 : ∀ D ∈ Cs, ∀ v ∈ D, v.oneCell' = true)
    (h5 : ∀ (i : Nat) (p : DVal), parts[i]? = some p → ∃ D, Cs[i]? = some D ∧ IsVal w (VF B g (.slice An names.length cn) (.slice Ap parts.length cp) w) p D)
    (hx : IsVal w (VF B g (.slice An names.length cn) (.slice Ap parts.length cp) w) x C)
    (hown : w'.ownsRow B 82 6 (.slice A' (parts.length + 1) c') (parts.length + 1) (Cs.flatten ++ C)) (hgr : w.grownBy w' (Value.slice Ap parts.length cp).ownBlock)
    (hlie : (Value.slice A' (parts.length + 1) c').ownBlock = (Value.slice Ap parts.length cp).ownBlock ∨ (Value.slice A' (parts.length + 1) c').ownBlock = some w.heap.size) :
    VB (w'.setCell ⟨g, 5, none⟩ (.slice A' (parts.length + 1) c')) B g kd n s names (parts ++ [x]) An A' cn c' := by
  have hgl := h.blk.lt
  have hA'g : (Value.slice A' (parts.length + 1) c').ownBlock ≠ some g := by
    rcases hlie with e | e <;> rw [e]
    · exact h.pg
    · intro e; injection e with e; omega
  have hnA' : ∀ b, (Value.slice An names.length cn).ownBlock = some b → (Value.slice A' (parts.length + 1) c').ownBlock ≠ some b := by
    intro b hb
    rcases hlie with e | e <;> rw [e]
    · exact h.pn b hb
    · intro hp
      have hlt := (h.nm.lt b hb).2
      injection hp with hp
      omega
  have hlen : (parts ++ [x]).length = parts.length + 1 := by simp
  have hblk := (h.blk.grown hgr (fun e => h.pg e.symm)).set_ 5 (.slice A' (parts.length + 1) c')
  have hF : Fr (fun k => k = g) w' (w'.setCell ⟨g, 5, none⟩ (.slice A' (parts.length + 1) c')) := (Fr.refl (fun k => k = g) w').setCell (p := ⟨g, 5, none⟩) (.inl rfl) _
  have keepV : ∀ (p : DVal) (D : List Value), IsVal w (VF B g (.slice An names.length cn) (.slice Ap parts.length cp) w) p D → IsVal (w'.setCell ⟨g, 5, none⟩ (.slice A' (parts.length + 1) c')) (VF B g (.slice An names.length cn) (.slice A' (parts.length + 1) c') (w'.setCell ⟨g, 5, none⟩ (.slice A' (parts.length + 1) c'))) p D := by
    intro p D hv
    refine (hv.keep fun q hq => ?_).mono fun b hb => ⟨hb.1, ?_, hb.2.2.1, ?_, hb.2.2.2.2⟩
    · have e1 : (w'.setCell ⟨g, 5, none⟩ (.slice A' (parts.length + 1) c')).cell? q = w'.cell? q := World.cell?_of_block (hF.block q.block (Nat.lt_of_lt_of_le hq.2.1 hgr.size) (fun e => hq.2.2.2.2 e))
      rw [e1]
      exact World.cell?_of_block (hgr.block q.block hq.2.1 (fun e => hq.2.2.2.1 e.symm))
    · simp only [World.setCell, Array.size_modify]
      exact Nat.lt_of_lt_of_le hb.2.1 hgr.size
    · rcases hlie with e | e <;> rw [e]
      · exact hb.2.2.2.1
      · intro e; injection e with e; have := hb.2.1; omega
  refine ⟨by rw [hlen]; simpa using hblk, ?_, h.ng, by rw [hlen]; exact hA'g, by rw [hlen]; exact hnA', h.Bg, Cs ++ [C], by simp [h1], ?_, ?_, ?_, fun i p hp => ?_⟩
  · have h40 := h.nm.kept hgr (by
      rcases hob : (Value.slice An names.length cn).ownBlock with _ | b
      · exact .inl rfl
      · exact .inr fun e => h.pn b hob e.symm)
    exact own_fr h40 hF (fun k hk e => h.ng (by rw [← e]; exact hk))
  · intro D hD
    rcases List.mem_append.1 hD with hD | hD
    · exact h2 D hD
    · rw [List.mem_singleton.1 hD]; exact hx.length
  · intro D hD
    rcases List.mem_append.1 hD with hD | hD
    · exact h3 D hD
    · rw [List.mem_singleton.1 hD]; exact hx.one
  · rw [hlen, List.flatten_append]
    simp only [List.flatten_cons, List.flatten_nil, List.append_nil]
    exact own_fr hown hF (fun k hk e => hA'g (by rw [← e]; exact hk))
  · rw [hlen]
    by_cases hi : i < parts.length
    · rw [List.getElem?_append_left hi] at hp
      obtain ⟨D, hD, hv⟩ := h5 i p hp
      exact ⟨D, by rw [List.getElem?_append_left (by omega)]; exact hD, keepV p D hv⟩
    · have hil : i = parts.length := by
        have := (List.getElem?_eq_some_iff.1 hp).1
        simp at this; omega
      subst hil
      rw [List.getElem?_append_right (Nat.le_refl _)] at hp
      simp at hp
      subst hp
      exact ⟨C, by rw [← h1, List.getElem?_append_right (Nat.le_refl _)]; simp, keepV _ _ hx⟩
theorem VB.done (h : VB w B g kd n s names parts An Ap cn cp) (hk : I64 kd) (hn : I64 n) (hs : s.length ≤ maxLen) (hns : ∀ x ∈ names, x.length ≤ maxLen) (hcn : names.length ≤ 140737488351232) (hcp : parts.length ≤ 140737488351232) :
    IsVal w (fun b => B ≤ b ∧ b < w.heap.size) (.mk kd n s names [] parts) [.int .i64 kd, .int .i64 n, sv s, .slice An names.length cn, .slice none 0 0, .slice Ap parts.length cp] := by
  obtain ⟨Cs, h1, h2, h3, h4, h5⟩ := h.pt
  have hrn := own_cells h.nm
  have hrp := own_cells h4
  rcases Nat.eq_zero_or_pos parts.length with h0 | h0
  · have hp0 : parts = [] := List.eq_nil_of_length_eq_zero h0
    subst hp0
    exact .mk (b := 0) (o := 0) (C := fun _ => []) hk hn hs (hrn.mono fun b hb => (h.nm.lt b hb)) hns (own_cap h.nm) hcn RF.nil (fun _ h => by cases h) (Nat.le_refl _) (Nat.zero_le _) (fun h => absurd h (by simp)) (fun i p hp => by simp at hp) (fun i p hp => by simp at hp) (own_cap h4) hcp
  · obtain ⟨b, o, hA, hFb, hc⟩ := hrp.2 h0
    have hFb' := h4.lt b hFb
    refine .mk (b := b) (o := o) (C := fun i => Cs.getD i []) hk hn hs (hrn.mono fun b hb => (h.nm.lt b hb)) hns (own_cap h.nm) hcn RF.nil (fun _ h => by cases h) (Nat.le_refl _) (Nat.zero_le _) (fun _ => ⟨hA, hFb'⟩) (fun i p hp => ?_) (fun i p hp => ?_) (own_cap h4) hcp
    · obtain ⟨C, hC, hv⟩ := h5 i p hp
      rw [show Cs.getD i [] = C by simp [List.getD, hC]]
      refine ⟨hv.length, fun j v hj => ?_⟩
      have hj6 : j < 6 := by rw [← hv.length]; exact (List.getElem?_eq_some_iff.1 hj).1
      have := flat_get h2 hC hj6
      rw [Nat.add_assoc]
      exact hc (i * 6 + j) v (this.trans hj)
    · obtain ⟨C, hC, hv⟩ := h5 i p hp
      rw [show Cs.getD i [] = C by simp [List.getD, hC]]
      exact hv.mono fun b hb => ⟨hb.1, hb.2.1⟩
theorem VB.name' {m : Nat} {A' : Option Addr} {c' : Nat} {x : Str} (h : VB w B g kd n s names parts An Ap cn cp) (hm : names.length = m) (hown : w'.ownsRow B 9 1 (.slice A' (m + 1) c') (m + 1) (names.map sv ++ [sv x])) (hgr : w.grownBy w' (Value.slice An m cn).ownBlock)
    (hlie : (Value.slice A' (m + 1) c').ownBlock = (Value.slice An m cn).ownBlock ∨ (Value.slice A' (m + 1) c').ownBlock = some w.heap.size) :
    VB (w'.setCell ⟨g, 3, none⟩ (.slice A' (m + 1) c')) B g kd n s (names ++ [x]) parts A' Ap c' cp := by
  subst hm
  exact h.name (by rw [List.map_append]; exact hown) hgr hlie
theorem VB.part' {m : Nat} {A' : Option Addr} {c' : Nat} {x : DVal} {C : List Value} {Cs : List (List Value)} (h : VB w B g kd n s names parts An Ap cn cp) (hm : parts.length = m) (h1 : Cs.length = parts.length) (h2 : ∀ D ∈ Cs, D.length = 6) (h3 : ∀ D ∈ Cs, ∀ v ∈ D, v.oneCell' = true)
    (h5 : ∀ (i : Nat) (p : DVal), parts[i]? = some p → ∃ D, Cs[i]? = some D ∧ IsVal w (VF B g (.slice An names.length cn) (.slice Ap parts.length cp) w) p D)
    (hx : IsVal w (VF B g (.slice An names.length cn) (.slice Ap parts.length cp) w) x C)
    (hown : w'.ownsRow B 82 6 (.slice A' (m + 1) c') (m + 1) (Cs.flatten ++ C)) (hgr : w.grownBy w' (Value.slice Ap m cp).ownBlock)
    (hlie : (Value.slice A' (m + 1) c').ownBlock = (Value.slice Ap m cp).ownBlock ∨ (Value.slice A' (m + 1) c').ownBlock = some w.heap.size) :
    VB (w'.setCell ⟨g, 5, none⟩ (.slice A' (m + 1) c')) B g kd n s names (parts ++ [x]) An A' cn c' := by
  subst hm
  exact h.part h1 h2 h3 h5 hx hown hgr hlie
end
end Go.Proofs.YtbcabejdchkpmaaDoor

namespace Go.Proofs.YtbcabejdchkpmaaDoor
open Go.RowKit

def DefOk : Nat → DSch → Prop
  | 0, _ => True
  | k + 1, s => (s.kind = 4 → 0 < s.words.length) ∧ (s.kind = 5 → s.parts.length = s.words.length ∧ ∀ p ∈ s.parts, DefOk k p)
def defV : Nat → DSch → DVal
  | 0, s => .mk s.kind 0 [] [] [] []
  | k + 1, s => .mk s.kind 0 (if s.kind = 4 then s.words.getD 0 [] else []) (if s.kind = 5 then s.words else []) [] (if s.kind = 5 then s.parts.map (defV k) else [])
theorem info_str : (Tryd.prog.info? 9).map (fun i => (i.zero, i.size, i.bytes)) = some (some (sv []), 1, 16) := by kernel_rfl
theorem info_value : (Tryd.prog.info? 82).map (fun i => (i.zero, i.size, i.bytes)) = some (some (.agg #[.int .i64 0, .int .i64 0, sv [], .slice none 0 0, .slice none 0 0, .slice none 0 0]), 6, 104) := by kernel_rfl
theorem info_val : (Tryd.prog.info? 82).map (·.size) = some 6 := by kernel_rfl

set_option maxHeartbeats 2000000 in
set_option maxRecDepth 20000 in
theorem schFirst_calls (k : Nat) : ∀ (s : DSch) (cs : List Value) (w : World), s.depth ≤ k → s.weight ≤ 1000000 → DefOk k s → IsSch w (· < w.heap.size) s cs →
    Calls Tryd.prog 68 #[.agg cs.toArray] w (NewVal (defV k s) w) := by
  induction k with
  | zero => intro s cs w h; have := s.depth_pos; omega
  | succ k ih =>
    intro s cs w hk hwt hok hs
    obtain ⟨hk1, hki⟩ := hs.kind_
    obtain ⟨Aw, cw, hw1, hwr, hwz, hwc, hwm⟩ := hs.words_
    obtain ⟨Ap, cp, C, hp1, hpc, hpm, hP, hA⟩ := hs.partsF
    have HWR := hide hwr
    have HWZ := hide hwz
    have HPA := hide hA
    have HPP := hide hP
    have HI := hide ih
    have HKI := hide hki
    have HDP := hide (fun p (h : p ∈ s.parts) => DSch.depth_part h)
    have HWP := hide (fun p (h : p ∈ s.parts) => DSch.weight_part h)
    have HSP : Hid (defV (k + 1) s = .mk s.kind 0 (if s.kind = 4 then s.words.getD 0 [] else []) (if s.kind = 5 then s.words else []) [] (if s.kind = 5 then s.parts.map (defV k) else [])) := hide rfl
    have hww := s.words_weight
    have hpw := s.parts_weight
    obtain ⟨hok4, hok5⟩ := hok
    generalize hres : defV (k + 1) s = res at *
    clear ih hs hwr hwz hP hA hres
    have HW0 := hide (((Below.refl w.heap.size w).alloc (Nat.le_refl _) (.cells cs.toArray 53)))
    have HX := hide (Blk.new w 53 cs.toArray)
    go_enter Tryd.func68, Tryd.ntmps68
    go_upto_region 1 with fail
    go_cut [3] (fun p wx => p = .pointer (some ⟨w.heap.size + 1 + 1, 0, none⟩) ∧ Blk wx w.heap.size 53 cs.toArray ∧ (∃ Z : Array Value, Z.size = 6 ∧ Blk wx (w.heap.size + 1) 82 Z) ∧ Blk wx (w.heap.size + 1 + 1) 82 #[.int .i64 s.kind, .int .i64 0, sv [], .slice none 0 0, .slice none 0 0, .slice none 0 0] ∧ Below w.heap.size w wx)
    case first =>
      go_wp2_with fail
      go_meet
      refine ⟨rfl, (HX.out.alloc _).alloc _, ⟨_, rfl, (Blk.new2 _ _ _ _).alloc _⟩, ?_, (HW0.out.alloc (by simp) _).alloc (by simp; omega) _⟩
      exact Blk.new3 _ _ _ _ _
    case rest =>
      obtain ⟨rfl, h1, ⟨Z, hZ, h2⟩, h3, hw⟩ := hcut
      have G1 := hide h1
      have G2 := hide h2
      have GZ := hide hZ
      have G3 := hide h3
      have GW := hide hw
      clear h1 h2 h3 hw hZ HX HW0
      have c0 : wc.cell? ⟨w.heap.size, 0, none⟩ = some (.int .i64 s.kind) := by rw [G1.out.cell]; simpa using hk1
      have c1 : wc.cell? ⟨w.heap.size, 1, none⟩ = some (.slice Aw s.words.length cw) := by rw [G1.out.cell]; simpa using hw1
      have key : s.kind = 4 ∨ s.kind = 5 ∨ (s.kind ≠ 4 ∧ s.kind ≠ 5) := by omega
      have GV : Hid (VB wc (w.heap.size + 1 + 1) (w.heap.size + 1 + 1) s.kind 0 [] [] [] none none 0 0) := hide (VB.start (by have := G3.out.lt; omega) G3.out (Nat.le_refl _))
      rcases key with h4 | h5 | ⟨n4, n5⟩
      · have hl0 := hok4 h4
        obtain ⟨x, o, rfl, hx, hcw⟩ := HWR.out.at_ hl0
        have e4 : (s.kind == 4) = true := by simp [h4]
        have d1 : wc.cell? ⟨x, o, none⟩ = some (sv s.words[0]) := (GW.out.cell (p := ⟨x, o, none⟩) hx).trans hcw
        have d2 : wc.cell? ⟨w.heap.size + 1 + 1, 2, none⟩ = some (sv []) := G3.out.cell 2
        have d3 := G3.out.frozen 2
        have hz := HWZ.out _ (List.getElem_mem hl0)
        have HZ := hide hz
        have HRS : Hid (res = .mk s.kind 0 s.words[0] [] [] []) := hide (by rw [HSP.out, if_pos h4, if_neg (by omega), if_neg (by omega)]; simp [List.getD, hl0])
        have G3S := hide (G3.out.set_ 2 (sv s.words[0]))
        have G2F := hide (G2.out.far (p := ⟨w.heap.size + 1 + 1, 2, none⟩) (by simp) (sv s.words[0]))
        have GWS := hide (GW.out.setCell (p := ⟨w.heap.size + 1 + 1, 2, none⟩) (by simp; omega) (sv s.words[0]))
        clear hcw hz h4
        generalize s.words[0] = x0 at *
        go_wp2_with (first
          | (refine wpList_load_blk rfl 82 _ rfl _ rfl _ _ (G3S.out) _ rfl rfl info_val ?_)
          | (refine wpList_store_blk rfl 82 _ _ rfl _ rfl #[.int .i64 s.kind, .int .i64 0, sv x0, .slice none 0 0, .slice none 0 0, .slice none 0 0] rfl _ _ (G2F.out) (by rw [GZ.out] <;> rfl) info_val (by simp [Value.oneCell']) ?_; intro wf hbf hff; have HBF := hide hbf; have HFF := hide hff; clear hbf hff)
          | fail)
        refine bodyPost_ret (results_cell_row rfl _ _ (w.heap.size + 1) 82 #[.int .i64 s.kind, .int .i64 0, sv x0, .slice none 0 0, .slice none 0 0, .slice none 0 0] (0, 0) _ rfl HBF.out rfl rfl info_val) rfl ?_
        rw [HRS.out]
        have hv := (VB.start (W := wf) (B := w.heap.size + 1 + 1) (g := w.heap.size + 1 + 1) (kd := s.kind) (n := 0) (s := x0) (by have := HBF.out.lt; omega) (G3S.out.fr HFF.out (by omega)) (Nat.le_refl _)).done HKI.out (WalkArith.wf_i64 (by omega)) HZ.out (fun _ h => by cases h) (by simp) (by simp)
        exact ⟨_, rfl, hv.mono fun b hb => ⟨by omega, hb.2⟩, GWS.out.trans (HFF.out.below GWS.out.size fun x hx h => by omega)⟩
      · obtain ⟨hpl, hdk⟩ := hok5 h5
        have e4 : (s.kind == 4) = false := by simp [h5]
        have e5 : (s.kind == 5) = true := by simp [h5]
        have HRS : Hid (res = .mk s.kind 0 [] s.words [] (s.parts.map (defV k))) := hide (by rw [HSP.out, if_neg (by omega), if_pos h5, if_pos h5])
        have HDK := hide hdk
        have H5 := hide h5
        clear h5 hok4 hok5 hdk HSP
        obtain ⟨i9, hi9, hz9, hs9, hb9⟩ := info_parts info_str
        obtain ⟨i31, hi31, hz31, hs31, hb31⟩ := info_parts info_value
        go_wp2_with fail
        go_loopw [23] (fun i wr => ∃ (j : Nat) (An Av : Option Addr) (cn cv : Nat), i = .int .i64 j ∧ j ≤ s.words.length ∧ VB wr (w.heap.size + 1 + 1) (w.heap.size + 1 + 1) s.kind 0 [] (s.words.take j) ((s.parts.take j).map (defV k)) An Av cn cv ∧ Blk wr w.heap.size 53 cs.toArray ∧ Blk wr (w.heap.size + 1) 82 Z ∧ Below w.heap.size w wr) (fun i _ => s.words.length - (intOf i).toNat)
        case atStart => exact ⟨0, none, none, 0, 0, rfl, Nat.zero_le _, GV.out, G1.out, G2.out, GW.out⟩
        case round =>
          clear c0 c1 G1 G2 G3 GW GV
          obtain ⟨j, An, Av, cn, cv, rfl, hj, hv, h1, h2, hw⟩ := hrel
          have GV := hide hv
          have G1 := hide h1
          have G2 := hide h2
          have GW := hide hw
          clear hv h1 h2 hw
          obtain ⟨wo, rfl⟩ : ∃ wo : World, wo = wr := ⟨_, rfl⟩
          have hlw : (s.words.take j).length = j := by simp; omega
          have hlp : ((s.parts.take j).map (defV k)).length = j := by simp; omega
          by_cases hlt : j < s.words.length
          · have hlt2 : j < s.parts.length := by omega
            obtain ⟨x, o, rfl, hx, hcw⟩ := HWR.out.at_ hlt
            have d1 : wo.cell? ⟨x, o + j, none⟩ = some (sv s.words[j]) := (GW.out.cell (p := ⟨x, o + j, none⟩) hx).trans hcw
            have HT : Hid (s.words.take (j + 1) = s.words.take j ++ [s.words[j]] ∧ (s.parts.take (j + 1)).map (defV k) = (s.parts.take j).map (defV k) ++ [defV k s.parts[j]]) := hide ⟨List.take_succ_eq_append_getElem hlt, by rw [List.take_succ_eq_append_getElem hlt2, List.map_append]; rfl⟩
            have e3 : wo.cell? ⟨w.heap.size + 1 + 1, 3, none⟩ = some (.slice An j cn) := by rw [GV.out.blk.cell]; simp [hlw]
            have HL := hide (And.intro hlw hlp)
            have HVA := hide (GV.out.keep (w' := wo.alloc (.cells #[sv s.words[j]] 9)) ((Below.refl _ _).alloc (Nat.le_refl _) _))
            have HOWN : Hid ((wo.alloc (.cells #[sv s.words[j]] 9)).ownsRow (w.heap.size + 1 + 1) 9 1 (.slice An j cn) j ((s.words.take j).map sv)) := hide (by have := HVA.out.nm; rwa [hlw] at this)
            have hRD := reads_blk (n := 1) (size := 1) (Blk.new wo 9 #[sv s.words[j]]) rfl
            have HRD := hide hRD
            have hg3 := GV.out.blk.lt
            have HXX := hide (And.intro hx hcw)
            clear hcw hlw hlp hRD hx
            generalize hwj : s.words[j] = xj at *
            clear hwj
            go_wp2_with (first
              | (at_builtin; refine wpList_append_any _ rfl _ _ 50 rfl _ 9 i9 (sv []) 1 16 Tryd.underlying50 hi9 hz9 hs9 hb9 rfl (by decide) _ _ _ (by rfl) HOWN.out _ _ 1 _ _ (by rfl) HRD.out (by simp [Value.oneCell']) (by unfold maxLen; omega) (by omega) (by simp only [World.size_alloc]; omega) ?_; intro Aq cq wq ownq growq lieq; have f3 : wq.frozen? ⟨w.heap.size + 1 + 1, 3, none⟩ = false := (HVA.out.blk.grown growq (fun e => (by have := HVA.out.ng; rw [HL.out.1] at this; exact this e.symm))).frozen 3; have e3' : wq.cell? ⟨w.heap.size + 1 + 1, 3, none⟩ = some (.slice An j cn) := (by rw [(HVA.out.blk.grown growq (fun e => (by have := HVA.out.ng; rw [HL.out.1] at this; exact this e.symm))).cell]; simp [HL.out.1]); have HVN := hide (HVA.out.name' HL.out.1 ownq growq lieq); have HGQ := hide growq; clear ownq growq lieq)
              | fail)
            have HN := hide (HVN.out)
            have FN : Hid (Fr (fun b => w.heap.size + 1 + 1 ≤ b) wo (wq.setCell ⟨w.heap.size + 1 + 1, 3, none⟩ (.slice Aq (j + 1) cq))) := hide ((((Fr.refl _ wo).alloc _).trans ((Fr.of_grown HGQ.out (fun b hb => (by have := (HOWN.out.lt b hb).1; exact .inl this))))).setCell (p := ⟨w.heap.size + 1 + 1, 3, none⟩) (.inl (Nat.le_refl _)) _)
            generalize hwN : wq.setCell ⟨w.heap.size + 1 + 1, 3, none⟩ (.slice Aq (j + 1) cq) = wn at *
            clear hwN f3 e3' HGQ HRD HOWN HVA e3 d1 HXX HVN
            obtain ⟨b, o5, rfl, hb, hC⟩ := HPA.out (by omega)
            obtain ⟨hl3, hr⟩ := hC j hlt2
            have hgn := HN.out.blk.lt
            have HPI := hide (HPP.out j _ (List.getElem?_eq_getElem hlt2))
            have hle7 := HL.out.1
            have hle8 := HL.out.2
            have c0 : wn.cell? ⟨w.heap.size + 1 + 1, 5, none⟩ = some (.slice Av j cv) := by rw [HN.out.blk.cell, hle8]; rfl
            have HFC : Hid (∀ q : Addr, q.block < w.heap.size + 1 + 1 → ∀ W, Fr (fun b => (Value.slice Av j cv).ownBlock = some b) wn W → W.cell? q = wo.cell? q) := hide fun q hq W hW =>
              (hW.cell (p := q) (by omega) (fun e => by have h1 := (HN.out.pt); rw [hle8] at h1; obtain ⟨Cs, _, _, _, p4, _⟩ := h1; have := (p4.lt _ e).1; omega)).trans (FN.out.cell (by have := G2.out.lt; omega) (by omega))
            have HC5 : Hid (∀ W, Fr (fun b => (Value.slice Av j cv).ownBlock = some b) wn W → W.cell? ⟨w.heap.size + 1 + 1, 5, none⟩ = some (.slice Av j cv)) := hide fun W hW =>
              (hW.cell (p := ⟨w.heap.size + 1 + 1, 5, none⟩) hgn (fun e => by have h1 := HN.out.pg; rw [hle8] at h1; exact h1 e)).trans c0
            have HC2 : Hid (∀ W, Fr (fun b => (Value.slice Av j cv).ownBlock = some b) wn W → W.cell? ⟨w.heap.size, 2, none⟩ = some (.slice (some ⟨b, o5, none⟩) s.parts.length cp)) := hide fun W hW =>
              (HFC.out ⟨w.heap.size, 2, none⟩ (by show w.heap.size < _; omega) W hW).trans (by rw [G1.out.cell]; simpa using hp1)
            have HRW : Hid (∀ W, Fr (fun b => (Value.slice Av j cv).ownBlock = some b) wn W → W.rangeAt b (o5 + j * 3) (C j)) := hide fun W hW q v hv =>
              (HFC.out ⟨b, o5 + j * 3 + q, none⟩ (by show b < _; omega) W hW).trans ((GW.out.cell (p := ⟨b, o5 + j * 3 + q, none⟩) hb).trans (hr q v hv))
            have HL3 := hide hl3
            have hdp := HDP.out _ (List.getElem_mem hlt2)
            have hwp := HWP.out _ (List.getElem_mem hlt2)
            have hdf := HDK.out _ (List.getElem_mem hlt2)
            have HDF := hide hdf
            have HWN : Hid (Below w.heap.size w wn) := hide (GW.out.trans (FN.out.below (by have := G2.out.lt; omega) fun x hx h => by omega))
            clear hC hl3 hr c0 hdf
            generalize s.parts[j] = pj at *
            generalize C j = Cj at *
            refine wp_region_held_tail 11 (S := Fr (fun b => (Value.slice Av j cv).ownBlock = some b) wn) (by kernel_rfl) (by kernel_rfl) ((Fr.refl _ _).drew) (fun hHeld => ?_); simp only [List.take_succ_cons, List.take_zero, List.drop_succ_cons, List.drop_zero]
            (refine takeH (i := 0) (v := .pointer (some ⟨w.heap.size + 1 + 1, 5, none⟩)) rfl rfl (by kernel_rfl) (by kernel_rfl) (by kernel_rfl) (fun _ _ _ h => h) (by rfl) (fun wz hSw => by go_simp) hHeld ?_; simp only [Act.put, List.setIfInBounds_toArray, List.set_cons_zero, List.set_cons_succ])
            (refine takeH (i := 1) (v := .slice Av j cv) rfl rfl (by kernel_rfl) (by kernel_rfl) (by kernel_rfl) (fun _ _ _ h => h) (by rfl) (fun wz hSw => by (have hc5 := HC5.out _ hSw; go_simp)) hHeld ?_; simp only [Act.put, List.setIfInBounds_toArray, List.set_cons_zero, List.set_cons_succ])
            (refine takeH (i := 2) (v := .pointer (some ⟨w.heap.size, 2, none⟩)) rfl rfl (by kernel_rfl) (by kernel_rfl) (by kernel_rfl) (fun _ _ _ h => h) (by rfl) (fun wz hSw => by go_simp) hHeld ?_; simp only [Act.put, List.setIfInBounds_toArray, List.set_cons_zero, List.set_cons_succ])
            (refine takeH (i := 3) (v := .slice (some ⟨b, o5, none⟩) s.parts.length cp) rfl rfl (by kernel_rfl) (by kernel_rfl) (by kernel_rfl) (fun _ _ _ h => h) (by rfl) (fun wz hSw => by (have hc5 := HC2.out _ hSw; go_simp)) hHeld ?_; simp only [Act.put, List.setIfInBounds_toArray, List.set_cons_zero, List.set_cons_succ])
            (refine takeH (i := 4) (v := .int .i64 j) rfl rfl (by kernel_rfl) (by kernel_rfl) (by kernel_rfl) (fun _ _ _ h => h) (by rfl) (fun wz hSw => by go_simp) hHeld ?_; simp only [Act.put, List.setIfInBounds_toArray, List.set_cons_zero, List.set_cons_succ])
            (refine takeH (i := 5) (v := .pointer (some ⟨b, o5 + j * 3, none⟩)) rfl rfl (by kernel_rfl) (by kernel_rfl) (by kernel_rfl) (fun _ _ _ h => h) (by rfl) (fun wz hSw => by go_simp) hHeld ?_; simp only [Act.put, List.setIfInBounds_toArray, List.set_cons_zero, List.set_cons_succ])
            (refine takeH (i := 6) (v := .agg (Cj).toArray) rfl rfl (by kernel_rfl) (by kernel_rfl) (by kernel_rfl) (fun _ _ _ h => h) (by rfl) (fun wz hw => load_exec 53 (.tmp 39) rfl (b) (o5 + j * 3) rfl (Cj) _ (HRW.out _ hw) rfl rfl (by rw [HL3.out]; kernel_rfl)) hHeld ?_; simp only [Act.put, List.setIfInBounds_toArray, List.set_cons_zero, List.set_cons_succ])
            refine oneH (i := 7) rfl (by kernel_rfl) (fun K hK => ?_)
            go_simp
            refine (HI.out pj Cj _ (by omega) (by omega) HDF.out (HPI.out.more (HWN.out.trans ((Below.refl wn.heap.size wn).drew.mono HWN.out.size)))).mono ?_
            rintro e w1 ⟨cs1, rfl, hv1, hb1⟩
            have hB1 : Below wn.heap.size wn w1 := (Below.refl wn.heap.size wn).drew.trans hb1
            refine hK.out _ _ (Fr.of_below' hB1 _) (fun hHeld => ?_)
            clear hK K
            have hv1' := hv1.mono (G := fun b => wn.heap.size ≤ b ∧ b < w1.heap.size) fun b hb => hb
            have HV1 := hide hv1'
            have HB1 := hide hB1
            have H1L := hide hv1.length
            have H1O := hide hv1.one
            clear hv1 hv1' hB1 hb1
            refine oneH (i := 8) rfl (by kernel_rfl) (fun K hK => ?_)
            go_simp
            rw [foldl_zip_all _ _ (by rw [H1L.out]; rfl), if_neg (by rw [H1L.out]; decide)]
            go_simp
            have HB2 := hide (HB1.out.alloc HB1.out.size (.cells cs1.toArray 82))
            refine hK.out _ _ (Fr.of_below' HB2.out _) (fun hHeld => ?_)
            clear hK K
            refine oneH (i := 9) rfl (by kernel_rfl) (fun K hK => ?_)
            have V2 := hide (HN.out.keep HB2.out)
            obtain ⟨Cs, p1, p2, p3, p4, p5⟩ := V2.out.pt
            rw [hle8] at p4
            have hRD := reads_blk (n := 1) (size := 6) (Blk.new w1 82 cs1.toArray) (by rw [H1L.out])
            have hs2 := HB2.out.size
            refine step_append_any rfl (.tmp 35) (.tmp 42) 80 rfl (w.heap.size + 1 + 1) 82 i31 (.agg #[.int .i64 0, .int .i64 0, sv [], .slice none 0 0, .slice none 0 0, .slice none 0 0]) 6 104 Tryd.underlying80 hi31 hz31 hs31 hb31 rfl (by decide) _ j Cs.flatten (by rfl) p4 _ _ 1 1 cs1 (by rfl) hRD H1O.out (by unfold maxLen; omega) (by omega) (by omega) ?_
            intro Aq2 cq2 wq2 ownq growq lieq
            have hx : IsVal (w1.alloc (.cells cs1.toArray 82)) (VF (w.heap.size + 1 + 1) (w.heap.size + 1 + 1) (.slice Aq (List.take j s.words ++ [xj]).length cq) (.slice Av (List.map (defV k) (List.take j s.parts)).length cv) (w1.alloc (.cells cs1.toArray 82))) (defV k pj) cs1 := by
              have q1 := HN.out.nm
              obtain ⟨Ds, _, _, _, q2, _⟩ := HN.out.pt
              refine (HV1.out.keep fun q hq => ((Below.refl w1.heap.size w1).alloc (Nat.le_refl _) (.cells cs1.toArray 82)).cell hq.2).mono fun b hb => ⟨by omega, by simp only [World.size_alloc]; omega, fun e => ?_, fun e => ?_, by omega⟩
              · have := (q1.lt _ e).2; omega
              · have := (q2.lt _ e).2; omega
            have HVN := hide (V2.out.part' hle8 p1 p2 p3 p5 hx ownq growq lieq)
            have hblk := V2.out.blk.grown growq (fun e => by have h1 := V2.out.pg; rw [hle8] at h1; exact h1 e.symm)
            have f5 := hblk.frozen 5
            have e5' : wq2.cell? ⟨w.heap.size + 1 + 1, 5, none⟩ = some (.slice Av j cv) := by rw [hblk.cell, hle8]; rfl
            have HS3 := hide (((Fr.of_below' HB2.out (fun b => (Value.slice Av j cv).ownBlock = some b)).trans (Fr.of_grown growq (fun b hb => .inl hb))))
            have FN2 : Hid (Fr (fun b => w.heap.size + 1 + 1 ≤ b) wo (wq2.setCell ⟨w.heap.size + 1 + 1, 5, none⟩ (.slice Aq2 (j + 1) cq2))) := hide (((FN.out.trans ((Fr.of_below' HB2.out _).trans (Fr.of_grown growq fun b hb => .inl (.inl (p4.lt b hb).1))))).setCell (p := ⟨w.heap.size + 1 + 1, 5, none⟩) (.inl (Nat.le_refl _)) _)
            clear p1 p2 p3 p4 p5 hx ownq growq lieq hblk hRD V2 HB2 HB1 HV1
            refine hK.out _ _ HS3.out (fun hHeld => ?_)
            clear hK K
            simp only [Act.put, List.setIfInBounds_toArray, List.set_cons_zero, List.set_cons_succ]
            (refine takeH (i := 10) (v := .pointer (some ⟨w.heap.size + 1 + 1, 5, none⟩)) rfl rfl (by kernel_rfl) (by kernel_rfl) (by kernel_rfl) (fun _ _ _ h => h) (by rfl) (fun wz hSw => by go_simp) hHeld ?_; simp only [Act.put, List.setIfInBounds_toArray, List.set_cons_zero, List.set_cons_succ])
            refine wpAnyH_done (by kernel_rfl) ?_ _; simp only [Exit.then]
            go_wp2
            exact ⟨⟨j + 1, Aq, Aq2, cq, cq2, by go_num, by omega, by rw [HT.out.1, HT.out.2]; exact HVN.out, G1.out.fr FN2.out (by omega), G2.out.fr FN2.out (by omega), GW.out.trans (FN2.out.below (by have := G2.out.lt; omega) fun x hx h => by omega)⟩, by simp [intOf]; omega⟩
          · obtain rfl : j = s.words.length := by omega
            have HRS2 : Hid (res = .mk s.kind 0 [] (s.words.take s.words.length) [] ((s.parts.take s.words.length).map (defV k))) := hide (by rw [HRS.out, List.take_length, List.take_of_length_le (by omega)])
            have G2F := G2
            have HNS : Hid (∀ x ∈ s.words.take s.words.length, x.length ≤ maxLen) := hide fun x hx => HWZ.out x (List.mem_of_mem_take hx)
            have hsz := GV.out.blk
            generalize s.words.take s.words.length = W at *
            generalize (s.parts.take s.words.length).map (defV k) = PV at *
            have GB := hide hsz
            clear hsz
            go_wp2_with (first
              | (refine wpList_load_blk rfl 82 _ rfl _ rfl _ _ (GB.out) _ rfl rfl info_val ?_)
              | (refine wpList_store_blk rfl 82 _ _ rfl _ rfl #[.int .i64 s.kind, .int .i64 0, sv [], .slice An W.length cn, .slice none 0 0, .slice Av PV.length cv] rfl _ _ (G2F.out) (by rw [GZ.out] <;> rfl) info_val (by simp [Value.oneCell']) ?_; intro wf hbf hff; have HBF := hide hbf; have HFF := hide hff; clear hbf hff)
              | fail)
            refine bodyPost_ret (results_cell_row rfl _ _ (w.heap.size + 1) 82 #[.int .i64 s.kind, .int .i64 0, sv [], .slice An W.length cn, .slice none 0 0, .slice Av PV.length cv] (0, 0) _ rfl HBF.out rfl rfl info_val) rfl ?_
            rw [HRS2.out]
            have hv := (GV.out.keepF (w' := wf) HFF.out (fun b hb => by omega)).done HKI.out (WalkArith.wf_i64 (by omega)) (by simp) HNS.out (by omega) (by omega)
            exact ⟨_, rfl, hv.mono fun b hb => ⟨by omega, hb.2⟩, GW.out.trans (HFF.out.below GW.out.size fun x hx h => by omega)⟩
      · have e4 : (s.kind == 4) = false := by simpa using n4
        have e5 : (s.kind == 5) = false := by simpa using n5
        have HRS : Hid (res = .mk s.kind 0 [] [] [] []) := hide (by rw [HSP.out, if_neg n4, if_neg n5, if_neg n5])
        have G2F := G2
        clear n4 n5
        go_wp2_with (first
          | (refine wpList_load_blk rfl 82 _ rfl _ rfl _ _ (G3.out) _ rfl rfl info_val ?_)
          | (refine wpList_store_blk rfl 82 _ _ rfl _ rfl #[.int .i64 s.kind, .int .i64 0, sv [], .slice none 0 0, .slice none 0 0, .slice none 0 0] rfl _ _ (G2F.out) (by rw [GZ.out] <;> rfl) info_val (by simp [Value.oneCell']) ?_; intro wf hbf hff; have HBF := hide hbf; have HFF := hide hff; clear hbf hff)
          | fail)
        refine bodyPost_ret (results_cell_row rfl _ _ (w.heap.size + 1) 82 #[.int .i64 s.kind, .int .i64 0, sv [], .slice none 0 0, .slice none 0 0, .slice none 0 0] (0, 0) _ rfl HBF.out rfl rfl info_val) rfl ?_
        rw [HRS.out]
        have hv := (VB.start (W := wf) (B := w.heap.size + 1 + 1) (g := w.heap.size + 1 + 1) (kd := s.kind) (n := 0) (s := []) (by have := HFF.out.size; have := G3.out.lt; omega) (G3.out.fr HFF.out (by omega)) (Nat.le_refl _)).done HKI.out (WalkArith.wf_i64 (by omega)) (by simp) (fun _ h => by cases h) (by simp) (by simp)
        exact ⟨_, rfl, hv.mono fun b hb => ⟨by omega, hb.2⟩, GW.out.trans (HFF.out.below GW.out.size fun x hx h => by omega)⟩
end Go.Proofs.YtbcabejdchkpmaaDoor

namespace Go.Proofs.YtbcabejdchkpmaaDoor
open Go.RowKit

theorem zero_is (w : World) (F : Nat → Prop) : IsVal w F zeroV [.int .i64 0, .int .i64 0, sv [], .slice none 0 0, .slice none 0 0, .slice none 0 0] :=
  .mk (b := 0) (o := 0) (C := fun _ => []) (WalkArith.wf_i64 (by omega)) (WalkArith.wf_i64 (by omega)) (by simp) RF.nil (fun _ h => by cases h) (Nat.le_refl _) (Nat.zero_le _) RF.nil (fun _ h => by cases h) (Nat.le_refl _) (Nat.zero_le _) (fun h => absurd h (by simp)) (fun i p hp => by simp at hp) (fun i p hp => by simp at hp) (Nat.le_refl _) (Nat.zero_le _)

set_option maxHeartbeats 1000000 in
set_option maxRecDepth 20000 in
theorem schDefault_calls (k : Nat) (s : DSch) (cs : List Value) (w : World) (hk : s.depth ≤ k) (hw : s.weight ≤ 1000000) (hok : rightS 5 s = true → DefOk k s) (hs : IsSch w (· < w.heap.size) s cs) :
    Calls Tryd.prog 55 #[.agg cs.toArray] w (NewVal (if rightS 5 s then defV k s else zeroV) w) := by
  have HW0 := hide (((Below.refl w.heap.size w).alloc (Nat.le_refl _) (.cells cs.toArray 53)).alloc (by simp) (.cells #[.int .i64 0, .int .i64 0, sv [], .slice none 0 0, .slice none 0 0, .slice none 0 0] 82))
  have HX := hide ((Blk.new w 53 cs.toArray).alloc (.cells #[.int .i64 0, .int .i64 0, sv [], .slice none 0 0, .slice none 0 0, .slice none 0 0] 82))
  have HX2 := hide (Blk.new2 w (.cells cs.toArray 53) 82 #[.int .i64 0, .int .i64 0, sv [], .slice none 0 0, .slice none 0 0, .slice none 0 0])
  have HL := hide (show (Tryd.prog.info? 53).map (·.size) = some cs.toArray.size by rw [List.size_toArray, hs.length]; kernel_rfl)
  have HC := hide (schRightP_calls s cs _ (hs.more HW0.out))
  have HS := hide hs
  have HOK := hide hok
  clear hs hok
  cases hr : rightS 5 s
  all_goals
    rw [hr] at HC
    have HR := hide hr
    clear hr
    go_enter Tryd.func55, Tryd.ntmps55
    go_wp2_with (first | (refine wpList_load_blk rfl 53 _ rfl _ rfl _ _ HX.out _ rfl rfl HL.out ?_) | fail)
    refine HC.out.mono ?_
    rintro e w1 ⟨rfl, hb1⟩
    have hsz := HX2.out.lt
    have K1 := hide (HX.out.below hb1 (by simp; omega))
    have K2 := hide (HX2.out.below hb1 hsz)
    have KW := hide (HW0.out.trans (hb1.mono HW0.out.size))
    clear hb1 HX HX2 HW0 HC
  · go_wp2_with (first
      | (refine wpList_store_blk rfl 82 _ _ rfl _ rfl #[.int .i64 0, .int .i64 0, sv [], .slice none 0 0, .slice none 0 0, .slice none 0 0] rfl _ _ (K2.out) (by rfl) info_val (by simp [Value.oneCell']) ?_; intro wf hbf hff; have HBF := hide hbf; have HFF := hide hff; clear hbf hff)
      | fail)
    refine bodyPost_ret (results_cell_row rfl _ _ (w.heap.size + 1) 82 #[.int .i64 0, .int .i64 0, sv [], .slice none 0 0, .slice none 0 0, .slice none 0 0] (0, 0) _ rfl HBF.out rfl rfl info_val) rfl ?_
    exact ⟨_, rfl, zero_is _ _, KW.out.trans (HFF.out.below KW.out.size fun x hx h => by omega)⟩
  · have HC2 := hide (schFirst_calls k s cs w1 hk hw (HOK.out HR.out) (HS.out.more KW.out))
    go_wp2_with (first | (refine wpList_load_blk rfl 53 _ rfl _ rfl _ _ K1.out _ rfl rfl HL.out ?_) | fail)
    refine HC2.out.mono ?_
    rintro e w2 ⟨ds, rfl, hv, hb2⟩
    have hs1 := K2.out.lt
    have K3 := hide (K2.out.below hb2 hs1)
    have KW2 := hide (KW.out.trans (hb2.mono KW.out.size))
    have HV := hide hv
    have HB2 := hide hb2
    have hl6 := hv.length
    have hone := hv.one
    have HLO := hide (And.intro hl6 hone)
    clear hv hb2 hl6 hone HC2
    go_wp2_with (first
      | (refine wpList_store_blk rfl 82 _ _ rfl _ rfl ds.toArray rfl _ _ (K3.out) (by simp [HLO.out.1]) (by rw [List.size_toArray, HLO.out.1]; exact info_val) (by simpa using HLO.out.2) ?_; intro wf hbf hff; have HBF := hide hbf; have HFF := hide hff; clear hbf hff)
      | fail)
    refine bodyPost_ret (results_cell_row rfl _ _ (w.heap.size + 1) 82 ds.toArray (0, 0) _ rfl HBF.out rfl rfl (by rw [List.size_toArray, HLO.out.1]; exact info_val)) rfl ?_
    have hs2 := KW.out.size
    have hs3 := HFF.out.size
    exact ⟨_, rfl, (HV.out.keep fun q hq => HFF.out.cell hq.2 (by have := hq.1; omega)).mono fun b hb => by omega, KW2.out.trans (HFF.out.below KW2.out.size fun x hx h => by omega)⟩

set_option maxHeartbeats 1000000 in
set_option maxRecDepth 20000 in
theorem refRight_calls (k : Nat) (s : DSch) (cs : List Value) (w : World) (hk : s.depth ≤ k) (hkk : k ≤ 1000000) (hs : IsSch w (· < w.heap.size) s cs) :
    Calls Tryd.prog 26 #[.agg cs.toArray] w (Gives (.bool (rightS 5 s)) w) := by
  have HW0 := hide ((Below.refl w.heap.size w).alloc (Nat.le_refl _) (.cells cs.toArray 53))
  have HX := hide (Blk.new w 53 cs.toArray)
  have HL := hide (show (Tryd.prog.info? 53).map (·.size) = some cs.toArray.size by rw [List.size_toArray, hs.length]; kernel_rfl)
  have HC := hide (refSchDepth_calls k s cs _ hk hkk (hs.more HW0.out))
  have HS := hide hs
  have HR := hide (right_sound 5 s k hk)
  clear hs
  by_cases h5 : s.depth ≤ 5
  case neg =>
    have e5 : ¬ ((s.depth : Int) ≤ 5) := by omega
    rw [decide_eq_false h5, Bool.false_and] at HR
    go_enter Tryd.func26, Tryd.ntmps26
    go_wp2_with (first | (refine wpList_load_blk rfl 53 _ rfl _ rfl _ _ HX.out _ rfl rfl HL.out ?_) | fail)
    refine HC.out.mono ?_
    rintro e w1 ⟨rfl, hb1⟩
    have KW := hide (HW0.out.trans (hb1.mono HW0.out.size))
    clear hb1
    go_wp2
    go_ret
    exact ⟨ret_eq (by rw [HR.out]; rfl), KW.out⟩
  case pos =>
    have e5 : ((s.depth : Int) ≤ 5) := by omega
    rw [decide_eq_true h5, Bool.true_and] at HR
    go_enter Tryd.func26, Tryd.ntmps26
    go_wp2_with (first | (refine wpList_load_blk rfl 53 _ rfl _ rfl _ _ HX.out _ rfl rfl HL.out ?_) | fail)
    refine HC.out.mono ?_
    rintro e w1 ⟨rfl, hb1⟩
    have hsz := HX.out.lt
    have K1 := hide (HX.out.below hb1 hsz)
    have KW := hide (HW0.out.trans (hb1.mono HW0.out.size))
    have HC2 := hide (refSound_calls k s cs w1 hk (HS.out.more KW.out))
    clear hb1 HX HW0 HC
    go_wp2_with (first | (refine wpList_load_blkG rfl 53 _ rfl _ rfl _ _ K1.out _ rfl rfl HL.out ?_) | fail)
    refine HC2.out.mono ?_
    rintro e w2 ⟨rfl, hb2⟩
    have KW2 := hide (KW.out.trans (hb2.mono KW.out.size))
    clear hb2
    go_wp2
    go_ret
    exact ⟨ret_eq (by rw [HR.out]; rfl), KW2.out⟩
end Go.Proofs.YtbcabejdchkpmaaDoor

namespace Go.Proofs.YtbcabejdchkpmaaDoor
open Go.RowKit

theorem defOk_sound : ∀ (k : Nat) (s : DSch), soundS k s = true → DefOk k s
  | 0, _, _ => trivial
  | k + 1, s, h => by
    unfold soundS at h
    rw [Bool.and_eq_true] at h
    obtain ⟨h1, h2⟩ := h
    unfold hereS at h1
    simp only [Bool.and_eq_true, Bool.not_eq_true', decide_eq_false_iff_not, decide_eq_true_eq] at h1
    obtain ⟨hb, hp, _⟩ := h1
    unfold badHead at hb
    unfold wantS at hp
    refine ⟨fun h4 => by omega, fun h5 => ⟨by rw [if_pos h5] at hp; exact hp, fun p hm => defOk_sound k p (List.all_eq_true.1 h2 p hm)⟩⟩

def redS : Str := [114, 101, 100]
def blueS : Str := [98, 108, 117, 101]
def exS : DSch := .mk 4 [redS, blueS] []
def exV : DVal := .mk 4 0 redS [] [] []
theorem ex_right : rightS 5 exS = true := by
  rw [right_sound 5 exS 1 (by decide +kernel)]
  decide +kernel
theorem ex_def : defV 1 exS = exV := rfl
theorem exV_is (w : World) (F : Nat → Prop) : IsVal w F exV [.int .i64 4, .int .i64 0, sv redS, .slice none 0 0, .slice none 0 0, .slice none 0 0] :=
  .mk (b := 0) (o := 0) (C := fun _ => []) (WalkArith.wf_i64 (by omega)) (WalkArith.wf_i64 (by omega)) (by decide +kernel) RF.nil (fun _ h => by cases h) (Nat.le_refl _) (Nat.zero_le _) RF.nil (fun _ h => by cases h) (Nat.le_refl _) (Nat.zero_le _) (fun h => absurd h (by simp)) (fun i p hp => by simp at hp) (fun i p hp => by simp at hp) (Nat.le_refl _) (Nat.zero_le _)
theorem exS_is {w : World} {g : Nat} (hb : Blk w g 9 #[sv redS, sv blueS]) : IsSch w (· < w.heap.size) exS [.int .i64 4, .slice (some ⟨g, 0, none⟩) 2 2, .slice none 0 0] :=
  .mk (words := [redS, blueS]) (b := 0) (o := 0) (C := fun _ => []) (WalkArith.wf_i64 (by omega)) ⟨rfl, fun _ => ⟨g, 0, rfl, hb.lt, fun j u hu => by rw [Nat.zero_add, hb.cell]; simpa using hu⟩⟩ (by decide +kernel) (by simp) (by simp) (fun h => absurd h (by simp)) (fun i p hp => by simp at hp) (fun i p hp => by simp at hp) (Nat.le_refl _) (Nat.zero_le _)

set_option maxHeartbeats 1000000 in
set_option maxRecDepth 20000 in
theorem awake09_calls (w : World) : Calls Tryd.prog 24 #[] w (Gives (.bool true) w) := by
  have HEX := hide ex_right
  have HL : Hid ((Tryd.prog.info? 53).map (·.size) = some 3) := hide (by kernel_rfl)
  go_enter Tryd.func24, Tryd.ntmps24
  go_upto_region 1 with fail
  go_cut [1] (fun p wx => p = .pointer (some ⟨w.heap.size + 1, 0, none⟩) ∧ Blk wx w.heap.size 9 #[sv redS, sv blueS] ∧ Blk wx (w.heap.size + 1) 53 #[.int .i64 4, .slice (some ⟨w.heap.size, 0, none⟩) 2 2, .slice none 0 0] ∧ Below w.heap.size w wx)
  case first =>
    go_wp2_with fail
    go_meet
    refine ⟨rfl, (Blk.new w 9 #[sv redS, sv blueS]).alloc _, Blk.new2 w _ 53 #[.int .i64 4, .slice (some ⟨w.heap.size, 0, none⟩) 2 2, .slice none 0 0], ((Below.refl w.heap.size w).alloc (Nat.le_refl _) _).alloc (by simp) _⟩
  case rest =>
    obtain ⟨rfl, h1, h2, hw⟩ := hcut
    have G1 := hide h1
    have G2 := hide h2
    have GW := hide hw
    clear h1 h2 hw
    have HC := hide (schDefault_calls 1 exS _ wc (by decide +kernel) (by decide +kernel) (fun h => defOk_sound 1 exS (by decide +kernel)) (exS_is G1.out))
    rw [ex_right, if_pos rfl, ex_def] at HC
    go_wp2_with (first | (refine wpList_load_blk rfl 53 _ rfl _ rfl _ _ G2.out _ rfl rfl HL.out ?_) | fail)
    refine HC.out.mono ?_
    rintro e w1 ⟨ds, rfl, hv, hb1⟩
    have HV := hide (hv.mono (G := fun b => b < w1.heap.size) fun b hb => hb.2)
    have K1 := hide (G1.out.below hb1 G1.out.lt)
    have K2 := hide (G2.out.below hb1 G2.out.lt)
    have KW := hide (GW.out.trans (hb1.mono GW.out.size))
    clear hb1 hv HC G1 G2 GW
    have HC := hide (refValSame_calls 1 exV exV _ _ w1 (by decide +kernel) HV.out (exV_is w1 _))
    rw [eqB_true rfl] at HC
    go_wp2_with fail
    refine HC.out.mono ?_
    rintro e w2 ⟨rfl, hb1⟩
    have M1 := hide (K1.out.below hb1 K1.out.lt)
    have M2 := hide (K2.out.below hb1 K2.out.lt)
    have MW := hide (KW.out.trans (hb1.mono KW.out.size))
    clear hb1 HC K1 K2 KW HV
    have HC := hide (schRightP_calls exS _ w2 (exS_is M1.out))
    rw [ex_right] at HC
    go_wp2_with (first | (refine wpList_load_blkG (by rfl) 53 _ rfl _ rfl _ [.int .i64 4, .slice (some ⟨w.heap.size, 0, none⟩) 2 2, .slice none 0 0] M2.out _ rfl rfl HL.out ?_) | fail)
    refine HC.out.mono ?_
    rintro e w3 ⟨rfl, hb1⟩
    have K1 := hide (M1.out.below hb1 M1.out.lt)
    have K2 := hide (M2.out.below hb1 M2.out.lt)
    have KW := hide (MW.out.trans (hb1.mono MW.out.size))
    clear hb1 HC M1 M2 MW
    have HC := hide (schScalar_calls exS _ w3 (exS_is K1.out))
    go_wp2_with (first | (refine wpList_load_blkG (by rfl) 53 _ rfl _ rfl _ [.int .i64 4, .slice (some ⟨w.heap.size, 0, none⟩) 2 2, .slice none 0 0] K2.out _ rfl rfl HL.out ?_) | fail)
    refine HC.out.mono ?_
    rintro e w4 ⟨rfl, hb1⟩
    have MW := hide (KW.out.trans (hb1.mono KW.out.size))
    clear hb1
    go_wp2
    go_ret
    exact ⟨ret_eq (by rfl), MW.out⟩
end Go.Proofs.YtbcabejdchkpmaaDoor

namespace Go.Proofs.YtbcabejdchkpmaaDoor
open Go.RowKit

inductive Own where
  | no
  | full
  | row (g : Nat)
inductive D where
  | v (x : Value)
  | agg (cs : List D)
  | tup (cs : List D)
  | fn (f : Fn) (fs cs : List D)
  | ifc (t : TypeId) (d : D)
  | loc (k off : Nat)
  | rd (cs : List D) (off : Nat)
  | sl (o : Own) (es : List D)
  | win (k off n c : Nat)
inductive Ob where
  | box (t : TypeId) (cs : List D)
  | row (e : TypeId) (n : Nat)
structure St where
  next : Nat
  ob : Nat → Option Ob

abbrev undefD : D := .tup []
def D.isAgg : D → Bool
  | .agg _ => true
  | _ => false
def D.cells : D → List D
  | .agg cs => cs
  | d => [d]
def D.width (d : D) : Nat := d.cells.length
def szOf (P : Program) (t : TypeId) : Nat := ((P.info? t).map (·.size)).getD 0

abbrev Names := Nat → Option (Option Nat)

def Fix (P : Program) (S : St) (η : Names) (b i : Nat) : Prop := ∀ k o, η k = some (some b) → S.ob k = some o → match o with
  | .box _ _ => False
  | .row e n => i < n * szOf P e

section
variable (P : Program) (w : World) (η : Names) (X : Nat → Nat → Prop)
def OwnAt (A : Option Addr) (n c : Nat) : Own → Prop
  | .no => True
  | .full => c = n
  | .row g => (η g = some none ∧ c = n) ∨ ∃ (b : Nat) (cur : Array Value) (e : TypeId), η g = some (some b) ∧ A = some ⟨b, 0, none⟩ ∧ w.heap[b]? = some (.cells cur e (0, 0)) ∧ cur.size = c * szOf P e
mutual
def Rep : D → Value → Prop
  | .v x, y => y = x
  | .agg cs, y => ∃ vs : List Value, y = .agg vs.toArray ∧ RepL cs vs ∧ ∀ x ∈ vs, x.oneCell' = true
  | .tup cs, y => ∃ vs : List Value, y = .tuple vs.toArray ∧ RepL cs vs
  | .fn f fs cs, y => ∃ us vs : List Value, y = .func f us.toArray vs.toArray ∧ RepL fs us ∧ RepL cs vs
  | .ifc t d, y => ∃ x, y = .iface t x ∧ Rep d x
  | .loc k off, y => ∃ b, η k = some (some b) ∧ y = .pointer (some ⟨b, off, none⟩)
  | .rd cs off, y => ∃ b o, y = .pointer (some ⟨b, o + off, none⟩) ∧ RepC cs b o
  | .sl own es, y => ∃ A c, y = .slice A es.length c ∧ es.length ≤ c ∧ es.length ≤ 140737488355328 ∧ OwnAt P w η A es.length c own ∧ (0 < es.length → ∃ b o z, A = some ⟨b, o, none⟩ ∧ 0 < z ∧ RepE z es b o)
  | .win k off n c, y => (∃ b, η k = some (some b) ∧ y = .slice (some ⟨b, off, none⟩) n c ∧ n ≤ c ∧ n ≤ 140737488355328) ∨ (η k = some none ∧ n = 0 ∧ c = 0 ∧ ∃ A, y = .slice A 0 0)
def RepL : List D → List Value → Prop
  | [], vs => vs = []
  | d :: ds, vs => ∃ x xs, vs = x :: xs ∧ Rep d x ∧ RepL ds xs
def RepC : List D → Nat → Nat → Prop
  | [], _, _ => True
  | d :: ds, b, o => (X b o ∧ ∃ x, w.cell? ⟨b, o, none⟩ = some x ∧ x.oneCell' = true ∧ Rep d x) ∧ RepC ds b (o + 1)
def RepE (z : Nat) : List D → Nat → Nat → Prop
  | [], _, _ => True
  | d :: ds, b, o => (RepA z d b o ∧ (d.isAgg = false → z = 1 ∧ X b o ∧ ∃ x, w.cell? ⟨b, o, none⟩ = some x ∧ x.oneCell' = true ∧ Rep d x)) ∧ RepE z ds b (o + z)
def RepA (z : Nat) : D → Nat → Nat → Prop
  | .agg cs, b, o => cs.length = z ∧ RepC cs b o
  | _, _, _ => True
end
end

def Own.all (N : Nat → Prop) : Own → Prop
  | .row g => N g
  | _ => True
mutual
def D.all (N : Nat → Prop) : D → Prop
  | .v _ => True
  | .agg cs => allL N cs
  | .tup cs => allL N cs
  | .fn _ fs cs => allL N fs ∧ allL N cs
  | .ifc _ d => D.all N d
  | .loc k _ => N k
  | .rd cs _ => allL N cs
  | .sl o es => o.all N ∧ allL N es
  | .win k _ _ _ => N k
def allL (N : Nat → Prop) : List D → Prop
  | [] => True
  | d :: ds => D.all N d ∧ allL N ds
end
theorem allL_iff {N : Nat → Prop} : ∀ {l : List D}, allL N l ↔ ∀ d ∈ l, d.all N
  | [] => by simp [allL]
  | d :: l => by simp [allL, allL_iff (l := l)]
theorem Own.all_mono {N M : Nat → Prop} (h : ∀ k, N k → M k) {o : Own} (ho : o.all N) : o.all M := by
  cases o <;> simp only [Own.all] at * <;> exact h _ ho
mutual
theorem D.all_mono {N M : Nat → Prop} (h : ∀ k, N k → M k) : ∀ {d : D}, d.all N → d.all M
  | .v _, hd => trivial
  | .agg cs, hd => by simp only [D.all] at *; exact allL_mono h hd
  | .tup cs, hd => by simp only [D.all] at *; exact allL_mono h hd
  | .fn _ fs cs, hd => by simp only [D.all] at *; exact ⟨allL_mono h hd.1, allL_mono h hd.2⟩
  | .ifc _ d, hd => by simp only [D.all] at *; exact D.all_mono h hd
  | .loc k _, hd => by simp only [D.all] at *; exact h _ hd
  | .rd cs _, hd => by simp only [D.all] at *; exact allL_mono h hd
  | .sl o es, hd => by simp only [D.all] at *; exact ⟨Own.all_mono h hd.1, allL_mono h hd.2⟩
  | .win k _ _ _, hd => by simp only [D.all] at *; exact h _ hd
theorem allL_mono {N M : Nat → Prop} (h : ∀ k, N k → M k) : ∀ {l : List D}, allL N l → allL M l
  | [], _ => trivial
  | d :: ds, hd => by simp only [allL] at *; exact ⟨D.all_mono h hd.1, allL_mono h hd.2⟩
end
mutual
theorem D.all_true : ∀ d : D, d.all (fun _ => True)
  | .v _ => trivial
  | .agg cs => by simp only [D.all]; exact allL_true cs
  | .tup cs => by simp only [D.all]; exact allL_true cs
  | .fn _ fs cs => by simp only [D.all]; exact ⟨allL_true fs, allL_true cs⟩
  | .ifc _ d => by simp only [D.all]; exact D.all_true d
  | .loc k _ => trivial
  | .rd cs _ => by simp only [D.all]; exact allL_true cs
  | .sl o es => by simp only [D.all]; exact ⟨by cases o <;> trivial, allL_true es⟩
  | .win k _ _ _ => trivial
theorem allL_true : ∀ l : List D, allL (fun _ => True) l
  | [] => trivial
  | d :: ds => by simp only [allL]; exact ⟨D.all_true d, allL_true ds⟩
end

structure Keep (N : Nat → Prop) (w : World) (η : Names) (X : Nat → Nat → Prop) (w' : World) (η' : Names) (X' : Nat → Nat → Prop) : Prop where
  size : w.heap.size ≤ w'.heap.size
  fix : ∀ b i, b < w.heap.size → X b i → X' b i ∧ w'.cell? ⟨b, i, none⟩ = w.cell? ⟨b, i, none⟩
  eta : ∀ k b, N k → η k = some b → η' k = some b
  shp : ∀ (b : Nat) (cur : Array Value) (e : TypeId), w.heap[b]? = some (.cells cur e (0, 0)) → ∃ cur' : Array Value, w'.heap[b]? = some (.cells cur' e (0, 0)) ∧ cur'.size = cur.size

section
variable {P : Program} {N : Nat → Prop} {w : World} {η : Names} {X : Nat → Nat → Prop} {w' : World} {η' : Names} {X' : Nat → Nat → Prop}
theorem OwnAt.keep (K : Keep N w η X w' η' X') {A : Option Addr} {n c : Nat} {o : Own} (ho : o.all N) (h : OwnAt P w η A n c o) : OwnAt P w' η' A n c o := by
  cases o with
  | no => trivial
  | full => exact h
  | row g =>
    rcases h with h | ⟨b, cur, e, h1, h2, h3, h4⟩
    · exact .inl ⟨K.eta _ _ ho h.1, h.2⟩
    · obtain ⟨cur', h6, h7⟩ := K.shp _ _ _ h3
      exact .inr ⟨b, cur', e, K.eta _ _ ho h1, h2, h6, by rw [h7, h4]⟩
theorem Keep.cell (K : Keep N w η X w' η' X') {b i : Nat} {x : Value} (hx : X b i) (h : w.cell? ⟨b, i, none⟩ = some x) : X' b i ∧ w'.cell? ⟨b, i, none⟩ = some x := by
  have := K.fix b i (World.block_lt_of_cell? w ⟨b, i, none⟩ h) hx
  exact ⟨this.1, this.2.trans h⟩
mutual
theorem Rep.keep (K : Keep N w η X w' η' X') : ∀ {d : D} {y : Value}, d.all N → Rep P w η X d y → Rep P w' η' X' d y
  | .v x, y, _, h => by simp only [Rep] at *; exact h
  | .agg cs, y, hd, h => by
    simp only [Rep, D.all] at *
    obtain ⟨vs, h1, h2, h3⟩ := h
    exact ⟨vs, h1, RepL.keep K hd h2, h3⟩
  | .tup cs, y, hd, h => by
    simp only [Rep, D.all] at *
    obtain ⟨vs, h1, h2⟩ := h
    exact ⟨vs, h1, RepL.keep K hd h2⟩
  | .fn f fs cs, y, hd, h => by
    simp only [Rep, D.all] at *
    obtain ⟨us, vs, h1, h2, h3⟩ := h
    exact ⟨us, vs, h1, RepL.keep K hd.1 h2, RepL.keep K hd.2 h3⟩
  | .ifc t d, y, hd, h => by
    simp only [Rep, D.all] at *
    obtain ⟨x, h1, h2⟩ := h
    exact ⟨x, h1, Rep.keep K hd h2⟩
  | .loc k off, y, hd, h => by
    simp only [Rep, D.all] at *
    obtain ⟨b, h1, h2⟩ := h
    exact ⟨b, K.eta _ _ hd h1, h2⟩
  | .rd cs off, y, hd, h => by
    simp only [Rep, D.all] at *
    obtain ⟨b, o, h1, h3⟩ := h
    exact ⟨b, o, h1, RepC.keep K hd h3⟩
  | .sl own es, y, hd, h => by
    simp only [Rep, D.all] at *
    obtain ⟨A, c, h1, h2, h3, h4, h5⟩ := h
    refine ⟨A, c, h1, h2, h3, h4.keep K hd.1, fun h0 => ?_⟩
    obtain ⟨b, o, z, e1, e3, e4⟩ := h5 h0
    exact ⟨b, o, z, e1, e3, RepE.keep K z hd.2 e4⟩
  | .win k off n c, y, hd, h => by
    simp only [Rep, D.all] at *
    rcases h with ⟨b, h1, h2⟩ | ⟨h1, h2⟩
    · exact .inl ⟨b, K.eta _ _ hd h1, h2⟩
    · exact .inr ⟨K.eta _ _ hd h1, h2⟩
theorem RepL.keep (K : Keep N w η X w' η' X') : ∀ {l : List D} {vs : List Value}, allL N l → RepL P w η X l vs → RepL P w' η' X' l vs
  | [], vs, _, h => by simp only [RepL] at *; exact h
  | d :: ds, vs, hd, h => by
    simp only [RepL, allL] at *
    obtain ⟨x, xs, h1, h2, h3⟩ := h
    exact ⟨x, xs, h1, Rep.keep K hd.1 h2, RepL.keep K hd.2 h3⟩
theorem RepC.keep (K : Keep N w η X w' η' X') : ∀ {l : List D} {b o : Nat}, allL N l → RepC P w η X l b o → RepC P w' η' X' l b o
  | [], b, o, _, h => by simp only [RepC] at *
  | d :: ds, b, o, hd, h => by
    simp only [RepC, allL] at *
    obtain ⟨⟨h1, x, h2, h3, h4⟩, h5⟩ := h
    obtain ⟨k1, k2⟩ := K.cell h1 h2
    exact ⟨⟨k1, x, k2, h3, Rep.keep K hd.1 h4⟩, RepC.keep K hd.2 h5⟩
theorem RepE.keep (K : Keep N w η X w' η' X') (z : Nat) : ∀ {l : List D} {b o : Nat}, allL N l → RepE P w η X z l b o → RepE P w' η' X' z l b o
  | [], b, o, _, h => by simp only [RepE] at *
  | d :: ds, b, o, hd, h => by
    simp only [RepE, allL] at *
    obtain ⟨⟨h1, h2⟩, h5⟩ := h
    refine ⟨⟨RepA.keep K z hd.1 h1, fun hn => ?_⟩, RepE.keep K z hd.2 h5⟩
    obtain ⟨e1, e2, x, e3, e4, e5⟩ := h2 hn
    obtain ⟨k1, k2⟩ := K.cell e2 e3
    exact ⟨e1, k1, x, k2, e4, Rep.keep K hd.1 e5⟩
theorem RepA.keep (K : Keep N w η X w' η' X') (z : Nat) : ∀ {d : D} {b o : Nat}, d.all N → RepA P w η X z d b o → RepA P w' η' X' z d b o
  | .agg cs, b, o, hd, h => by
    simp only [RepA, D.all] at *
    exact ⟨h.1, RepC.keep K hd h.2⟩
  | .v _, _, _, _, _ => by simp only [RepA]
  | .tup _, _, _, _, _ => by simp only [RepA]
  | .fn _ _ _, _, _, _, _ => by simp only [RepA]
  | .ifc _ _, _, _, _, _ => by simp only [RepA]
  | .loc _ _, _, _, _, _ => by simp only [RepA]
  | .rd _ _, _, _, _, _ => by simp only [RepA]
  | .sl _ _, _, _, _, _ => by simp only [RepA]
  | .win _ _ _ _, _, _, _, _ => by simp only [RepA]
end
theorem RepL.length : ∀ {l : List D} {vs : List Value}, RepL P w η X l vs → vs.length = l.length
  | [], vs, h => by simp only [RepL] at h; simp [h]
  | d :: ds, vs, h => by
    simp only [RepL] at h
    obtain ⟨x, xs, rfl, _, h3⟩ := h
    simp [RepL.length h3]
theorem RepL.get : ∀ {l : List D} {vs : List Value} (i : Nat) {d : D}, RepL P w η X l vs → l[i]? = some d → ∃ x, vs[i]? = some x ∧ Rep P w η X d x
  | [], vs, i, d, h, hi => by simp at hi
  | d :: ds, vs, i, d', h, hi => by
    simp only [RepL] at h
    obtain ⟨x, xs, rfl, h2, h3⟩ := h
    cases i with
    | zero => simp at hi; exact ⟨x, rfl, hi ▸ h2⟩
    | succ i => simpa using RepL.get i h3 (by simpa using hi)
theorem RepL.append : ∀ {l m : List D} {vs us : List Value}, RepL P w η X l vs → RepL P w η X m us → RepL P w η X (l ++ m) (vs ++ us)
  | [], m, vs, us, h, k => by simp only [RepL] at h; simpa [h] using k
  | d :: ds, m, vs, us, h, k => by
    simp only [RepL] at h
    obtain ⟨x, xs, rfl, h2, h3⟩ := h
    simp only [List.cons_append, RepL]
    exact ⟨x, xs ++ us, rfl, h2, RepL.append h3 k⟩
theorem RepL.drop : ∀ {l : List D} {vs : List Value} (i : Nat), RepL P w η X l vs → RepL P w η X (l.drop i) (vs.drop i)
  | [], vs, i, h => by simp only [RepL] at h; subst h; simp [RepL]
  | d :: ds, vs, 0, h => h
  | d :: ds, vs, i + 1, h => by
    simp only [RepL] at h
    obtain ⟨x, xs, rfl, h2, h3⟩ := h
    simpa using RepL.drop i h3
theorem RepL.take : ∀ {l : List D} {vs : List Value} (i : Nat), RepL P w η X l vs → RepL P w η X (l.take i) (vs.take i)
  | [], vs, i, h => by simp only [RepL] at h; subst h; simp [RepL]
  | d :: ds, vs, 0, h => by simp [RepL]
  | d :: ds, vs, i + 1, h => by
    simp only [RepL] at h
    obtain ⟨x, xs, rfl, h2, h3⟩ := h
    simp only [List.take_succ_cons, RepL]
    exact ⟨x, _, rfl, h2, RepL.take i h3⟩
theorem RepC.range : ∀ {l : List D} {b o : Nat}, RepC P w η X l b o → ∃ vs, vs.length = l.length ∧ w.rangeAt b o vs ∧ RepL P w η X l vs ∧ ∀ x ∈ vs, x.oneCell' = true
  | [], b, o, _ => ⟨[], rfl, fun j v h => by simp at h, by simp [RepL], fun x h => by cases h⟩
  | d :: ds, b, o, h => by
    simp only [RepC] at h
    obtain ⟨⟨h1, x, h2, h3, h4⟩, h5⟩ := h
    obtain ⟨vs, k1, k2, k3, k4⟩ := RepC.range h5
    refine ⟨x :: vs, by simp [k1], fun j v hj => ?_, by simp only [RepL]; exact ⟨x, vs, rfl, h4, k3⟩, fun u hu => ?_⟩
    · cases j with
      | zero => simp at hj; rw [Nat.add_zero, h2, hj]
      | succ j => have := k2 j v (by simpa using hj); rwa [show o + 1 + j = o + (j + 1) by omega] at this
    · rcases List.mem_cons.1 hu with rfl | hu
      · exact h3
      · exact k4 u hu
theorem RepC.drop : ∀ {l : List D} {b o : Nat} (i : Nat), RepC P w η X l b o → RepC P w η X (l.drop i) b (o + i)
  | [], b, o, i, _ => by simp [RepC]
  | d :: ds, b, o, 0, h => h
  | d :: ds, b, o, i + 1, h => by
    simp only [RepC] at h
    have := RepC.drop i h.2
    rw [show o + 1 + i = o + (i + 1) by omega] at this
    simpa using this
theorem RepC.take : ∀ {l : List D} {b o : Nat} (i : Nat), RepC P w η X l b o → RepC P w η X (l.take i) b o
  | [], b, o, i, _ => by simp [RepC]
  | d :: ds, b, o, 0, h => by simp [RepC]
  | d :: ds, b, o, i + 1, h => by
    simp only [RepC] at h
    simp only [List.take_succ_cons, RepC]
    exact ⟨h.1, RepC.take i h.2⟩
theorem RepC.mk : ∀ {l : List D} {vs : List Value} {b o : Nat}, RepL P w η X l vs → w.rangeAt b o vs → (∀ j, j < vs.length → X b (o + j)) → (∀ x ∈ vs, x.oneCell' = true) → RepC P w η X l b o
  | [], vs, b, o, _, _, _, _ => by simp [RepC]
  | d :: ds, vs, b, o, h, hr, hx, h1 => by
    simp only [RepL] at h
    obtain ⟨x, xs, rfl, h2, h3⟩ := h
    simp only [RepC]
    refine ⟨⟨by simpa using hx 0 (by simp), x, by simpa using hr 0 x rfl, h1 x (by simp), h2⟩, RepC.mk h3 (fun j v hj => ?_) (fun j hj => ?_) (fun y hy => h1 y (by simp [hy]))⟩
    · have := hr (j + 1) v (by simpa using hj); rwa [show o + 1 + j = o + (j + 1) by omega]
    · have := hx (j + 1) (by simp; omega); rwa [show o + 1 + j = o + (j + 1) by omega]
def RepEl (P : Program) (w : World) (η : Names) (X : Nat → Nat → Prop) (z : Nat) (d : D) (b o : Nat) : Prop := RepA P w η X z d b o ∧ (d.isAgg = false → z = 1 ∧ X b o ∧ ∃ x, w.cell? ⟨b, o, none⟩ = some x ∧ x.oneCell' = true ∧ Rep P w η X d x)
theorem RepEl.cells {z : Nat} {d : D} {b o : Nat} (h : RepEl P w η X z d b o) : d.width = z ∧ RepC P w η X d.cells b o := by
  obtain ⟨h1, h2⟩ := h
  cases hd : d.isAgg with
  | true =>
    cases d <;> simp [D.isAgg] at hd
    simp only [RepA] at h1
    exact ⟨h1.1, h1.2⟩
  | false =>
    obtain ⟨e1, e2, x, e3, e4, e5⟩ := h2 hd
    have hc : d.cells = [d] := by cases d <;> simp [D.isAgg] at hd <;> rfl
    refine ⟨by rw [D.width, hc, e1]; rfl, ?_⟩
    rw [hc]
    simp only [RepC]
    exact ⟨⟨e2, x, e3, e4, e5⟩, trivial⟩
theorem RepEl.mk {d : D} {b o : Nat} (h : RepC P w η X d.cells b o) : RepEl P w η X d.width d b o := by
  cases hd : d.isAgg with
  | true =>
    cases d <;> simp [D.isAgg] at hd
    exact ⟨by simp only [RepA]; exact ⟨rfl, h⟩, fun h' => by simp [D.isAgg] at h'⟩
  | false =>
    have hc : d.cells = [d] := by cases d <;> simp [D.isAgg] at hd <;> rfl
    have hw : d.width = 1 := by rw [D.width, hc]; rfl
    rw [hc] at h
    simp only [RepC] at h
    exact ⟨by cases d <;> simp [D.isAgg] at hd <;> simp only [RepA], fun _ => ⟨hw, h.1.1, h.1.2⟩⟩
theorem RepE.cons {z : Nat} {d : D} {l : List D} {b o : Nat} : RepE P w η X z (d :: l) b o ↔ RepEl P w η X z d b o ∧ RepE P w η X z l b (o + z) := by simp only [RepE, RepEl]
theorem RepE.get {z : Nat} : ∀ {l : List D} {b o : Nat} (i : Nat) {d : D}, RepE P w η X z l b o → l[i]? = some d → RepEl P w η X z d b (o + i * z)
  | [], b, o, i, d, h, hi => by simp at hi
  | d :: ds, b, o, 0, d', h, hi => by simp at hi; subst hi; simpa using (RepE.cons.1 h).1
  | d :: ds, b, o, i + 1, d', h, hi => by
    have := RepE.get i (RepE.cons.1 h).2 (by simpa using hi)
    rwa [show o + z + i * z = o + (i + 1) * z by rw [Nat.add_mul]; omega] at this
theorem RepE.mk {z : Nat} : ∀ {l : List D} {b o : Nat}, (∀ i d, l[i]? = some d → RepEl P w η X z d b (o + i * z)) → RepE P w η X z l b o
  | [], b, o, h => by simp [RepE]
  | d :: ds, b, o, h => RepE.cons.2 ⟨by simpa using h 0 d rfl, RepE.mk fun i d' hi => by
      have := h (i + 1) d' (by simpa using hi)
      rwa [show o + z + i * z = o + (i + 1) * z by rw [Nat.add_mul]; omega]⟩
end

mutual
theorem Rep.names {P : Program} {w : World} {η : Names} {X : Nat → Nat → Prop} : ∀ {d : D} {y : Value}, Rep P w η X d y → d.all (fun k => (η k).isSome = true)
  | .v x, y, _ => trivial
  | .agg cs, y, h => by
    simp only [Rep] at h
    obtain ⟨vs, h1, h2, h3⟩ := h
    simp only [D.all]
    exact RepL.names h2
  | .tup cs, y, h => by
    simp only [Rep] at h
    obtain ⟨vs, h1, h2⟩ := h
    simp only [D.all]
    exact RepL.names h2
  | .fn f fs cs, y, h => by
    simp only [Rep] at h
    obtain ⟨us, vs, h1, h2, h3⟩ := h
    simp only [D.all]
    exact ⟨RepL.names h2, RepL.names h3⟩
  | .ifc t d, y, h => by
    simp only [Rep] at h
    obtain ⟨x, h1, h2⟩ := h
    simp only [D.all]
    exact Rep.names h2
  | .loc k off, y, h => by
    simp only [Rep] at h
    obtain ⟨b, h1, h2⟩ := h
    simp only [D.all, h1, Option.isSome_some]
  | .rd cs off, y, h => by
    simp only [Rep] at h
    obtain ⟨b, o, h1, h3⟩ := h
    simp only [D.all]
    exact RepC.names h3
  | .sl own es, y, h => by
    simp only [Rep] at h
    obtain ⟨A, c, h1, h2, h3, h4, h5⟩ := h
    simp only [D.all]
    refine ⟨?_, ?_⟩
    · cases own with
      | no => trivial
      | full => trivial
      | row g =>
        simp only [Own.all]
        rcases h4 with ⟨h4, _⟩ | ⟨b, cur, e, h4, _⟩ <;> rw [h4] <;> rfl
    · rcases Nat.eq_zero_or_pos es.length with h0 | h0
      · have := List.eq_nil_of_length_eq_zero h0
        subst this
        simp only [allL]
      · obtain ⟨b, o, z, e1, e3, e4⟩ := h5 h0
        exact RepE.names e4
  | .win k off n c, y, h => by
    simp only [Rep] at h
    rcases h with ⟨b, h1, h2⟩ | ⟨h1, h2⟩ <;> simp only [D.all, h1, Option.isSome_some]
theorem RepL.names {P : Program} {w : World} {η : Names} {X : Nat → Nat → Prop} : ∀ {l : List D} {vs : List Value}, RepL P w η X l vs → allL (fun k => (η k).isSome = true) l
  | [], vs, _ => trivial
  | d :: ds, vs, h => by
    simp only [RepL] at h
    obtain ⟨x, xs, h1, h2, h3⟩ := h
    simp only [allL]
    exact ⟨Rep.names h2, RepL.names h3⟩
theorem RepC.names {P : Program} {w : World} {η : Names} {X : Nat → Nat → Prop} : ∀ {l : List D} {b o : Nat}, RepC P w η X l b o → allL (fun k => (η k).isSome = true) l
  | [], _, _, _ => trivial
  | d :: ds, b, o, h => by
    simp only [RepC] at h
    obtain ⟨⟨h1, x, h2, h3, h4⟩, h5⟩ := h
    simp only [allL]
    exact ⟨Rep.names h4, RepC.names h5⟩
theorem RepE.names {P : Program} {w : World} {η : Names} {X : Nat → Nat → Prop} {z : Nat} : ∀ {l : List D} {b o : Nat}, RepE P w η X z l b o → allL (fun k => (η k).isSome = true) l
  | [], _, _, _ => trivial
  | d :: ds, b, o, h => by
    simp only [RepE] at h
    obtain ⟨⟨h1, h2⟩, h5⟩ := h
    simp only [allL]
    refine ⟨?_, RepE.names h5⟩
    cases hd : d.isAgg with
    | true => exact RepA.names hd h1
    | false =>
      obtain ⟨e1, e2, x, e3, e4, e5⟩ := h2 hd
      exact Rep.names e5
theorem RepA.names {P : Program} {w : World} {η : Names} {X : Nat → Nat → Prop} {z : Nat} : ∀ {d : D} {b o : Nat}, d.isAgg = true → RepA P w η X z d b o → d.all (fun k => (η k).isSome = true)
  | .agg cs, b, o, _, h => by
    simp only [RepA] at h
    simp only [D.all]
    exact RepC.names h.2
  | .v _, _, _, h, _ => by cases h
  | .tup _, _, _, h, _ => by cases h
  | .fn _ _ _, _, _, h, _ => by cases h
  | .ifc _ _, _, _, h, _ => by cases h
  | .loc _ _, _, _, h, _ => by cases h
  | .rd _ _, _, _, h, _ => by cases h
  | .sl _ _, _, _, h, _ => by cases h
  | .win _ _ _ _, _, _, h, _ => by cases h
end

def globs : List (Nat × Value) := [(0, .iface 122 (.agg #[.pointer (some ⟨1, 35, none⟩)]))]
def globAt (g : Nat) : Option D := bif Nat.beq g 0 then some (.ifc 122 (.agg [.v (.pointer (some ⟨1, 35, none⟩))])) else none
def GlobOk (base : Nat) (w : World) : Prop := ∀ p ∈ globs, p.1 < base ∧ w.cell? ⟨p.1, 0, none⟩ = some p.2
theorem GlobOk.below {base : Nat} {w w' : World} (h : GlobOk base w) (hb : Below base w w') : GlobOk base w' := fun p hp => ⟨(h p hp).1, (hb.cell (p := ⟨p.1, 0, none⟩) (h p hp).1).trans (h p hp).2⟩
theorem glob_rep {P : Program} {w : World} {η : Names} {X : Nat → Nat → Prop} {base g : Nat} {d : D} (h : GlobOk base w) (hd : globAt g = some d) : ∃ v, w.cell? ⟨g, 0, none⟩ = some v ∧ Rep P w η X d v := by
  unfold globAt at hd
  cases hb : Nat.beq g 0 with
  | false => rw [hb] at hd; cases hd
  | true =>
    rw [hb] at hd
    injection hd with hd
    subst hd
    have e := Nat.eq_of_beq_eq_true hb
    subst e
    refine ⟨_, (h _ List.mem_cons_self).2, ?_⟩
    simp only [Rep, RepL]
    exact ⟨_, rfl, [_], rfl, ⟨_, _, rfl, rfl, rfl⟩, fun x hx => by rw [List.mem_singleton] at hx; subst hx; rfl⟩
structure Mem (P : Program) (base : Nat) (S : St) (η : Names) (w : World) : Prop where
  base_ : base ≤ w.heap.size
  dead : ∀ k, S.next ≤ k → η k = none
  fresh : ∀ k, S.next ≤ k → S.ob k = none
  live : ∀ k t cs, S.ob k = some (.box t cs) → ∃ b, η k = some (some b)
  inj : ∀ k k' b, η k = some (some b) → η k' = some (some b) → (S.ob k).isSome = true → (S.ob k').isSome = true → k = k'
  in_ : ∀ k b, η k = some (some b) → base ≤ b ∧ b < w.heap.size
  box : ∀ k t cs b, S.ob k = some (.box t cs) → η k = some (some b) → ∃ vs : List Value, w.heap[b]? = some (.cells vs.toArray t (0, 0)) ∧ RepL P w η (Fix P S η) cs vs ∧ ∀ x ∈ vs, x.oneCell' = true
  row : ∀ k e n b, S.ob k = some (.row e n) → η k = some (some b) → ∃ cur : Array Value, w.heap[b]? = some (.cells cur e (0, 0)) ∧ n * szOf P e ≤ cur.size
  glob : GlobOk base w
end Go.Proofs.YtbcabejdchkpmaaDoor
