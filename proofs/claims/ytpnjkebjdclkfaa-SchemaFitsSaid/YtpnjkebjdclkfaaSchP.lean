/- The plain law of the schemas: right by the program and by the document. Conditions: none. -/
import Derived.Test.YtpnjkebjdclkfaaSchH
namespace Go.Proofs.Ytpnjkebjdclkfaa

theorem sLt_trans {a b c : Str} (h1 : sLt a b = true) (h2 : sLt b c = true) : sLt a c = true := by
  rw [sLt_iff, decide_eq_true_eq] at *
  exact List.lt_trans h1 h2
theorem sLt_irrefl (a : Str) : sLt a a = false := by
  rw [sLt_iff, decide_eq_false_iff_not]
  exact List.lt_irrefl a
theorem sLt_total {a b : Str} (h1 : sLt a b = false) (h2 : a ≠ b) : sLt b a = true := by
  rw [sLt_iff, decide_eq_false_iff_not] at h1
  rw [sLt_iff, decide_eq_true_eq]
  exact Classical.byContradiction fun h => h2 (List.le_antisymm (List.not_lt.1 h) (List.not_lt.1 h1))

/-- unlike each other, pair by pair. -/
theorem unlike_iff (l : List Str) : unlikeB l = true ↔ ∀ i, i < l.length → ∀ j, j < i → l.getD i [] ≠ l.getD j [] := by
  unfold unlikeB
  rw [List.all_eq_true]
  constructor
  · intro h i hi j hj e
    have := h i (List.mem_range.2 hi)
    simp only [Bool.not_eq_true', decide_eq_false_iff_not] at this
    refine this ?_
    rw [e]
    have hjl : j < l.length := by omega
    rw [show l.getD j [] = (l.take i)[j]'(by simp; omega) by simp [List.getD, hjl]]
    exact List.getElem_mem _
  · intro h i hi
    have hi' := List.mem_range.1 hi
    simp only [Bool.not_eq_true', decide_eq_false_iff_not]
    intro hm
    obtain ⟨j, hj, e⟩ := List.getElem_of_mem hm
    have hji : j < i := by simp at hj; omega
    refine h i hi' j hji ?_
    have hjl : j < l.length := by omega
    rw [← e]
    simp [List.getD, hjl]
theorem sorted_iff (l : List Str) : sortedB l = true ↔ ∀ i, i + 1 < l.length → sLt (l.getD (i + 1) []) (l.getD i []) = false := by
  unfold sortedB
  rw [List.all_eq_true]
  constructor
  · intro h i hi
    have := h i (List.mem_range.2 (by omega))
    simpa using this
  · intro h i hi
    have := List.mem_range.1 hi
    simpa using h i (by omega)
/-- Sorted and unlike: each ahead of each later one. -/
theorem rising_iff (l : List Str) : risingB l = true ↔ ∀ i, i < l.length → ∀ j, j < i → l.getD i [] ≠ l.getD j [] ∧ sLt (l.getD i []) (l.getD j []) = false := by
  unfold risingB
  rw [Bool.and_eq_true, unlike_iff, sorted_iff]
  constructor
  · rintro ⟨hs, hu⟩ i hi j hj
    refine ⟨hu i hi j hj, ?_⟩
    have key : ∀ d, ∀ j, j + d + 1 < l.length → sLt (l.getD j []) (l.getD (j + d + 1) []) = true := by
      intro d
      induction d with
      | zero =>
        intro j hj
        exact sLt_total (hs j (by omega)) (hu (j + 1) (by omega) j (by omega))
      | succ d ih =>
        intro j hj
        exact sLt_trans (ih j (by omega)) (sLt_total (hs (j + d + 1) (by omega)) (hu (j + d + 1 + 1) (by omega) (j + d + 1) (by omega)))
    have h1 := key (i - j - 1) j (by omega)
    rw [show j + (i - j - 1) + 1 = i by omega] at h1
    cases h2 : sLt (l.getD i []) (l.getD j [])
    · rfl
    · have := sLt_trans h1 h2
      rw [sLt_irrefl] at this
      cases this
  · intro h
    exact ⟨fun i hi => (h (i + 1) hi i (by omega)).2, fun i hi j hj => (h i hi j hj).1⟩

theorem namesB_iff (l : List Str) : namesB l = true ↔ l.length ≤ 8 ∧ ∀ i, i < l.length → nameB (l.getD i []) = true := by
  unfold namesB
  rw [Bool.and_eq_true, decide_eq_true_eq, List.all_eq_true]
  constructor
  · rintro ⟨h1, h2⟩
    exact ⟨h1, fun i hi => h2 _ (by simp [List.getD, hi])⟩
  · rintro ⟨h1, h2⟩
    refine ⟨h1, fun x hx => ?_⟩
    obtain ⟨i, hi, rfl⟩ := List.getElem_of_mem hx
    have := h2 i hi
    simpa [List.getD, hi] using this
theorem clash_f (kd : Int) (x y : Str) : clash kd x y = false ↔ x ≠ y ∧ (kd = 5 → sLt x y = false) := by
  unfold clash
  by_cases h5 : kd = 5
  · simp [h5]
  · simp [h5]
theorem words_iff (kd : Int) (l : List Str) : (List.range l.length).all (wordOk kd l) = true ↔ (∀ i, i < l.length → nameB (l.getD i []) = true) ∧ ∀ i, i < l.length → ∀ j, j < i → clash kd (l.getD i []) (l.getD j []) = false := by
  rw [List.all_eq_true]
  constructor
  · intro h
    refine ⟨fun i hi => ?_, fun i hi j hj => ?_⟩
    · have := h i (List.mem_range.2 hi)
      unfold wordOk at this
      exact (Bool.and_eq_true _ _ ▸ this).1
    · have := h i (List.mem_range.2 hi)
      unfold wordOk at this
      have h2 := List.all_eq_true.1 (Bool.and_eq_true _ _ ▸ this).2 j (List.mem_range.2 hj)
      simpa using h2
  · rintro ⟨h1, h2⟩ i hi
    have hi' := List.mem_range.1 hi
    unfold wordOk
    rw [h1 i hi', Bool.true_and, List.all_eq_true]
    intro j hj
    rw [h2 i hi' j (List.mem_range.1 hj)]
    rfl
/-- By itself: the program and the document agree. -/
theorem plain_here (s : DSch) : plainS s = hereS s := by
  rw [Bool.eq_iff_iff]
  unfold plainS hereS
  rw [Bool.and_eq_true, Bool.and_eq_true, Bool.not_eq_true', decide_eq_false_iff_not, decide_eq_true_eq, words_iff]
  generalize s.kind = kd
  generalize s.words = l
  generalize s.parts.length = np
  have nil : l.length = 0 → (∀ i, i < l.length → nameB (l.getD i []) = true) ∧ ∀ i, i < l.length → ∀ j, j < i → clash kd (l.getD i []) (l.getD j []) = false := fun h => ⟨fun i hi => by omega, fun i hi => by omega⟩
  by_cases h1 : kd = 1 ∨ kd = 2 ∨ kd = 3
  · rw [if_pos h1]
    simp only [Bool.and_eq_true, decide_eq_true_eq]
    have hw : wantS kd l.length = 0 := by unfold wantS; rw [if_neg (by omega), if_neg (by omega)]
    rw [hw]
    constructor
    · rintro ⟨a, b⟩; exact ⟨by unfold badHead; omega, b, nil a⟩
    · rintro ⟨a, b, _⟩; unfold badHead at a; exact ⟨by omega, b⟩
  · rw [if_neg h1]
    by_cases h4 : kd = 4
    · subst h4
      rw [if_pos rfl]
      simp only [Bool.and_eq_true, decide_eq_true_eq, namesB_iff, unlike_iff]
      have hw : wantS 4 l.length = 0 := by simp [wantS]
      rw [hw]
      constructor
      · rintro ⟨a, ⟨b1, b2⟩, c, d⟩
        exact ⟨by unfold badHead; omega, d, b2, fun i hi j hj => (clash_f _ _ _).2 ⟨c i hi j hj, fun h => by omega⟩⟩
      · rintro ⟨a, b, c, d⟩
        unfold badHead at a
        exact ⟨by omega, ⟨by omega, c⟩, fun i hi j hj => ((clash_f _ _ _).1 (d i hi j hj)).1, b⟩
    · rw [if_neg h4]
      by_cases h5 : kd = 5
      · subst h5
        rw [if_pos rfl]
        simp only [Bool.and_eq_true, decide_eq_true_eq, namesB_iff, rising_iff]
        have hw : wantS 5 l.length = l.length := by simp [wantS]
        rw [hw]
        constructor
        · rintro ⟨⟨b1, b2⟩, c, d⟩
          exact ⟨by unfold badHead; omega, d, b2, fun i hi j hj => (clash_f _ _ _).2 ⟨(c i hi j hj).1, fun _ => (c i hi j hj).2⟩⟩
        · rintro ⟨a, b, c, d⟩
          unfold badHead at a
          exact ⟨⟨by omega, c⟩, fun i hi j hj => ⟨((clash_f _ _ _).1 (d i hi j hj)).1, ((clash_f _ _ _).1 (d i hi j hj)).2 rfl⟩, b⟩
      · rw [if_neg h5]
        by_cases h6 : kd = 6
        · subst h6
          rw [if_pos rfl]
          simp only [Bool.and_eq_true, decide_eq_true_eq]
          have hw : wantS 6 l.length = 1 := by simp [wantS]
          rw [hw]
          constructor
          · rintro ⟨a, b⟩; exact ⟨by unfold badHead; omega, b, nil a⟩
          · rintro ⟨a, b, _⟩; unfold badHead at a; exact ⟨by omega, b⟩
        · rw [if_neg h6]
          constructor
          · intro h; cases h
          · rintro ⟨a, _⟩; unfold badHead at a; omega
theorem depths_all (l : List DSch) (k : Nat) : DSch.depths l ≤ k ↔ ∀ p ∈ l, p.depth ≤ k := by
  induction l with
  | nil => simp [DSch.depths]
  | cons x l ih =>
    simp only [DSch.depths, List.mem_cons, forall_eq_or_imp]
    rw [← ih]; omega
/-- The program's 'right' is the document's. -/
theorem right_sound (k : Nat) : ∀ (s : DSch) (m : Nat), s.depth ≤ m → rightS k s = (decide (s.depth ≤ k) && soundS m s) := by
  induction k with
  | zero => intro s m _; have := s.depth_pos; simp [rightS]; omega
  | succ k ih =>
    intro s m hm
    obtain ⟨m, rfl⟩ : ∃ n, m = n + 1 := ⟨m - 1, by have := s.depth_pos; omega⟩
    have hd := s.depth_eq
    rw [Bool.eq_iff_iff]
    simp only [rightS, soundS, Bool.and_eq_true, decide_eq_true_eq, plain_here, List.all_eq_true]
    have hall := depths_all s.parts
    constructor
    · rintro ⟨h1, h2⟩
      have h3 : ∀ p ∈ s.parts, p.depth ≤ k ∧ soundS m p = true := fun p hp => by
        have := h2 p hp
        rw [ih p m (by have := DSch.depth_part hp; omega)] at this
        simpa using this
      exact ⟨by have := (hall k).2 (fun p hp => (h3 p hp).1); omega, h1, fun p hp => (h3 p hp).2⟩
    · rintro ⟨h0, h1, h2⟩
      refine ⟨h1, fun p hp => ?_⟩
      rw [ih p m (by have := DSch.depth_part hp; omega), h2 p hp, Bool.and_true, decide_eq_true_eq]
      exact (hall k).1 (by omega) p hp
end Go.Proofs.Ytpnjkebjdclkfaa
