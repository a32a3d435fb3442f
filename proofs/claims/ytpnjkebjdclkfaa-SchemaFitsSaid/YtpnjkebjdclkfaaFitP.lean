/- Fits, by the program and by the document; the default of a right schema fits it. Conditions: none. -/
import Derived.Test.YtpnjkebjdclkfaaFitR
namespace Go.Proofs.Ytpnjkebjdclkfaa
open Go.RowKit
set_option linter.unusedSimpArgs false
theorem defV_kind : ∀ (k : Nat) (s : DSch), (defV k s).kind = s.kind
  | 0, _ => rfl
  | _ + 1, _ => rfl
theorem defV_depth : ∀ (k : Nat) (s : DSch), (defV k s).depth ≤ s.depth
  | 0, s => by have := s.depth_pos; simp [defV, DVal.depth_eq, DVal.parts, DVal.depths]; omega
  | k + 1, s => by
    have h := s.depth_eq
    rw [DVal.depth_eq]
    have : DVal.depths (defV (k + 1) s).parts ≤ DSch.depths s.parts := by
      rw [depthsV_all]
      intro p hp
      have hp' : p ∈ (if s.kind = 5 then s.parts.map (defV k) else []) := hp
      by_cases h5 : s.kind = 5
      · rw [if_pos h5] at hp'
        obtain ⟨q, hq, rfl⟩ := List.mem_map.1 hp'
        exact Nat.le_trans (defV_depth k q) ((depths_all s.parts _).1 (Nat.le_refl _) q hq)
      · rw [if_neg h5] at hp'; cases hp'
    omega
theorem i64_0 : I64 0 := WalkArith.wf_i64 (by omega)
theorem defV_ok : ∀ (k : Nat) (s : DSch), okS s → okV (defV k s)
  | 0, s, h => by
    obtain ⟨p1, _⟩ := (okS_eq s).1 h
    rw [okV_eq]
    exact ⟨p1, i64_0, by simp [defV, DVal.s], by simp [defV, DVal.names], by simp [defV, DVal.names], by simp [defV, DVal.ids], by simp [defV, DVal.ids], by simp [defV, DVal.parts], by simp [defV, DVal.parts]⟩
  | k + 1, s, h => by
    obtain ⟨p1, p2, p3, p4, p5⟩ := (okS_eq s).1 h
    rw [okV_eq]
    refine ⟨p1, i64_0, ?_, ?_, ?_, by simp [defV, DVal.ids], by simp [defV, DVal.ids], ?_, ?_⟩
    · show (if s.kind = 4 then s.words.getD 0 [] else []).length ≤ maxLen
      by_cases h4 : s.kind = 4
      · rw [if_pos h4]
        by_cases h0 : 0 < s.words.length
        · rw [getD_at h0]; exact p2 _ (List.getElem_mem h0)
        · rw [List.getD_eq_getElem?_getD, List.getElem?_eq_none (by omega)]; simp
      · rw [if_neg h4]; simp
    · show ∀ x ∈ (if s.kind = 5 then s.words else []), x.length ≤ maxLen
      by_cases h5 : s.kind = 5
      · rw [if_pos h5]; exact p2
      · rw [if_neg h5]; simp
    · show (if s.kind = 5 then s.words else []).length ≤ _
      by_cases h5 : s.kind = 5
      · rw [if_pos h5]; exact p3
      · rw [if_neg h5]; simp
    · show (if s.kind = 5 then s.parts.map (defV k) else []).length ≤ _
      by_cases h5 : s.kind = 5
      · rw [if_pos h5, List.length_map]; exact p4
      · rw [if_neg h5]; simp
    · show ∀ p ∈ (if s.kind = 5 then s.parts.map (defV k) else []), okV p
      by_cases h5 : s.kind = 5
      · rw [if_pos h5]
        intro p hp
        obtain ⟨q, hq, rfl⟩ := List.mem_map.1 hp
        exact defV_ok k q (p5 q hq)
      · rw [if_neg h5]; simp
theorem zeroV_ok : okV zeroV := by rw [okV_eq]; exact ⟨i64_0, i64_0, by simp [zeroV, DVal.s], by simp [zeroV, DVal.names], by simp [zeroV, DVal.names], by simp [zeroV, DVal.ids], by simp [zeroV, DVal.ids], by simp [zeroV, DVal.parts], by simp [zeroV, DVal.parts]⟩
/-- Words that stand in order. -/
theorem rise_words {l : List Str} (h : (List.range l.length).all (wordOk 5 l) = true) : (List.range l.length).all (riseOk l) = true := by
  obtain ⟨h1, h2⟩ := (words_iff 5 l).1 h
  refine all_of fun i hi => ?_
  rw [riseOk, h1 i hi, Bool.true_and]
  by_cases h0 : i = 0
  · rw [decide_eq_true h0]; rfl
  · have := (clash_f _ _ _).1 (h2 i hi (i - 1) (by omega))
    rw [sLt_total (this.2 rfl) this.1, Bool.or_true]
theorem names_words {kd : Int} {l : List Str} (h : (List.range l.length).all (wordOk kd l) = true) {i : Nat} (hi : i < l.length) : nameB (l.getD i []) = true := ((words_iff kd l).1 h).1 i hi
/-- The default is sound, and it fits. -/
theorem defV_sound : ∀ (k m : Nat) (s : DSch), s.depth ≤ k → soundS k s = true → soundV m (defV k s) = true ∧ fitsV m (defV k s) s = true
  | _, 0, _, _, _ => ⟨rfl, rfl⟩
  | 0, m + 1, s, h, _ => by have := s.depth_pos; omega
  | k + 1, m + 1, s, hd, h => by
    rw [soundS, Bool.and_eq_true, hereS, Bool.and_eq_true, Bool.and_eq_true, Bool.not_eq_true', decide_eq_false_iff_not, decide_eq_true_eq] at h
    obtain ⟨⟨hb, hp, hw⟩, hps⟩ := h
    unfold badHead at hb
    unfold wantS at hp
    have hparts : ∀ i (hi : i < s.parts.length), soundV m (defV k s.parts[i]) = true ∧ fitsV m (defV k s.parts[i]) s.parts[i] = true := fun i hi =>
      defV_sound k m s.parts[i] (by have := DSch.depth_part (List.getElem_mem hi); omega) (List.all_eq_true.1 hps _ (List.getElem_mem hi))
    have e1 : (defV (k + 1) s).kind = s.kind := rfl
    have e2 : (defV (k + 1) s).n = 0 := rfl
    have e3 : (defV (k + 1) s).s = if s.kind = 4 then s.words.getD 0 [] else [] := rfl
    have e4 : (defV (k + 1) s).names = if s.kind = 5 then s.words else [] := rfl
    have e5 : (defV (k + 1) s).ids = [] := rfl
    have e6 : (defV (k + 1) s).parts = if s.kind = 5 then s.parts.map (defV k) else [] := rfl
    by_cases h5 : s.kind = 5
    · rw [if_neg (show ¬ s.kind = 4 by omega)] at e3
      rw [if_pos h5] at e4 e6 hp
      rw [h5] at hw
      have r1 : hereV (defV (k + 1) s) = true := by
        rw [hereV, e1, e2, e3, e4, e5, e6, rise_words hw]
        rw [decide_eq_false (show ¬ bad1 _ _ _ _ _ by unfold bad1; simp [h5]), decide_eq_false (show ¬ bad2 _ _ _ _ _ _ _ by unfold bad2; simp [h5]; omega)]
        rfl
      constructor
      · rw [soundV, r1, Bool.true_and, e6]
        refine List.all_eq_true.2 fun p hpm => ?_
        obtain ⟨q, hq, rfl⟩ := List.mem_map.1 hpm
        obtain ⟨i, hi, rfl⟩ := List.getElem_of_mem hq
        exact (hparts i hi).1
      · have r2 : headF (defV (k + 1) s) s = true := by
          rw [headF, e1, e4]; simp [h5]
        rw [fitsV, r2, Bool.true_and, e6, List.length_map]
        refine all_of fun j hj => ?_
        have ha : atF s j = j := by unfold atF; rw [if_neg (by omega)]
        rw [ha, getD_at (show j < (s.parts.map (defV k)).length by simpa using hj), getD_at hj, List.getElem_map]
        exact (hparts j hj).2
    · rw [if_neg h5] at e4 e6
      by_cases h4 : s.kind = 4
      · rw [if_pos h4] at e3
        have h0 : 0 < s.words.length := by omega
        have hn := names_words hw h0
        have r1 : hereV (defV (k + 1) s) = true := by
          rw [hereV, e1, e2, e3, e4, e5, e6, hn]
          rw [decide_eq_false (show ¬ bad1 _ _ _ _ _ by unfold bad1; simp [h4]), decide_eq_false (show ¬ bad2 _ _ _ _ _ _ _ by unfold bad2; simp [h4])]
          rfl
        constructor
        · rw [soundV, r1, Bool.true_and, e6]; rfl
        · have r2 : headF (defV (k + 1) s) s = true := by
            rw [headF, e1, e3, getD_at h0]
            simp [h4]
          rw [fitsV, r2, Bool.true_and, e6]; rfl
      · rw [if_neg h4] at e3
        have r1 : hereV (defV (k + 1) s) = true := by
          rw [hereV, e1, e2, e3, e4, e5, e6]
          rw [decide_eq_false (show ¬ bad1 _ _ _ _ _ by unfold bad1; simp; omega), decide_eq_false (show ¬ bad2 _ _ _ _ _ _ _ by unfold bad2; simp [h4])]
          rfl
        constructor
        · rw [soundV, r1, Bool.true_and, e6]; rfl
        · have r2 : headF (defV (k + 1) s) s = true := by
            rw [headF, e1]; simp [h4, h5]
          rw [fitsV, r2, Bool.true_and, e6]; rfl
theorem RV.of_right {v : DVal} (h : rightV 5 v = true) : RV v := ⟨v.depth, Nat.le_refl _, by
  have := right_soundV 5 v v.depth (Nat.le_refl _)
  rw [h] at this
  exact (Bool.and_eq_true _ _ ▸ this.symm).2⟩
theorem RS.of_right {v : DSch} (h : rightS 5 v = true) : soundS v.depth v = true := by
  have := right_sound 5 v v.depth (Nat.le_refl _)
  rw [h] at this
  exact (Bool.and_eq_true _ _ ▸ this.symm).2
def fitsTop (v : DVal) (s : DSch) : Bool := rightV 5 v && (rightS 5 s && fitsV v.depth v s)
def theDef (s : DSch) : DVal := if rightS 5 s then defV s.depth s else zeroV
theorem theDef_ok {s : DSch} (h : okS s) : okV (theDef s) := by
  unfold theDef
  split
  · exact defV_ok _ s h
  · exact zeroV_ok
theorem theDef_fits (s : DSch) : fitsTop (theDef s) s = rightS 5 s := by
  unfold fitsTop theDef
  cases h : rightS 5 s with
  | false => simp
  | true =>
    have hs := RS.of_right h
    have hd : s.depth ≤ 5 := by
      have := right_sound 5 s s.depth (Nat.le_refl _)
      rw [h] at this
      exact of_decide_eq_true (Bool.and_eq_true _ _ ▸ this.symm).1
    have h2 := defV_depth s.depth s
    rw [if_pos rfl, right_soundV 5 _ _ (Nat.le_refl _), (defV_sound s.depth _ s (Nat.le_refl _) hs).1, (defV_sound s.depth _ s (Nat.le_refl _) hs).2, decide_eq_true (by omega)]
    rfl
end Go.Proofs.Ytpnjkebjdclkfaa
