/- Values: the plain law: the program's 'right' is the document's. Conditions: none. -/
import Derived.Test.YtpnjkebjdclkfaaVs
import Derived.Test.YtpnjkebjdclkfaaValB
import Derived.Test.YtpnjkebjdclkfaaSchM
namespace Go.Proofs.Ytpnjkebjdclkfaa
open Go.RowKit
theorem plain_hereV (v : DVal) : plainV v = hereV v := by
  unfold plainV hereV riseV idsB
  have hR0 : v.names.length = 0 → (List.range v.names.length).all (riseOk v.names) = true := fun h => by rw [h]; rfl
  have hI0 : v.ids.length = 0 → (List.range v.ids.length).all (idOk v.ids) = true := fun h => by rw [h]; rfl
  have hs : decide (v.s = []) = decide (v.s.length = 0) := by rw [decide_eq_decide, List.length_eq_zero_iff]
  rw [hs]
  have hR : (List.range v.names.length).all (riseOk v.names) = true ∨ ((List.range v.names.length).all (riseOk v.names) = false ∧ 0 < v.names.length) := by
    cases h : (List.range v.names.length).all (riseOk v.names) with
    | true => exact .inl rfl
    | false => exact .inr ⟨rfl, Nat.pos_of_ne_zero fun e => by rw [hR0 e] at h; cases h⟩
  have hI : (List.range v.ids.length).all (idOk v.ids) = true ∨ ((List.range v.ids.length).all (idOk v.ids) = false ∧ 0 < v.ids.length) := by
    cases h : (List.range v.ids.length).all (idOk v.ids) with
    | true => exact .inl rfl
    | false => exact .inr ⟨rfl, Nat.pos_of_ne_zero fun e => by rw [hI0 e] at h; cases h⟩
  clear hR0 hI0 hs
  generalize (List.range v.names.length).all (riseOk v.names) = R at *
  generalize (List.range v.ids.length).all (idOk v.ids) = J at *
  generalize nameB v.s = bn at *
  generalize v.kind = kd at *
  generalize v.n = n at *
  generalize v.s.length = xl at *
  generalize v.names.length = nn at *
  generalize v.ids.length = ni at *
  generalize v.parts.length = np at *
  have hk : kd = 1 ∨ kd = 2 ∨ kd = 3 ∨ kd = 4 ∨ kd = 5 ∨ kd = 6 ∨ (kd < 1 ∨ 6 < kd) := by omega
  rw [Bool.eq_iff_iff]
  rcases hR with rfl | ⟨rfl, hR⟩ <;> rcases hI with rfl | ⟨rfl, hI⟩ <;> cases bn <;> rcases hk with rfl | rfl | rfl | rfl | rfl | rfl | hk
  all_goals first
    | (simp only [Int.reduceEq, reduceIte, Bool.and_eq_true, decide_eq_true_eq, Bool.not_eq_true', decide_eq_false_iff_not, Bool.false_eq_true, Bool.or_eq_true, and_true, true_and, and_false, false_and, false_iff, iff_false] <;> (try simp only [bad1, bad2, Int.reduceEq, Int.reduceLT, Bool.false_eq_true, Bool.true_eq_false, and_true, and_false, true_and, false_and, false_or, or_false, true_or, or_true, ne_eq, not_true_eq_false, not_false_eq_true]) <;> omega)
    | (rw [if_neg (by omega), if_neg (by omega), if_neg (by omega), if_neg (by omega), if_neg (by omega), if_neg (by omega)]; simp only [Bool.and_eq_true, decide_eq_true_eq, Bool.not_eq_true', decide_eq_false_iff_not, Bool.false_eq_true, Bool.or_eq_true, and_true, true_and, and_false, false_and, false_iff, iff_false] <;> (try simp only [bad1, bad2, Bool.false_eq_true, Bool.true_eq_false, and_true, and_false, true_and, false_and, false_or, or_false, true_or, or_true, ne_eq, not_true_eq_false, not_false_eq_true]) <;> omega)
theorem depthsV_all (l : List DVal) (k : Nat) : DVal.depths l ≤ k ↔ ∀ p ∈ l, p.depth ≤ k := by
  induction l with
  | nil => simp [DVal.depths]
  | cons x l ih =>
    simp only [DVal.depths, List.mem_cons, forall_eq_or_imp]
    rw [← ih]; omega
theorem right_soundV (k : Nat) : ∀ (s : DVal) (m : Nat), s.depth ≤ m → rightV k s = (decide (s.depth ≤ k) && soundV m s) := by
  induction k with
  | zero => intro s m _; have := s.depth_pos; simp [rightV]; omega
  | succ k ih =>
    intro s m hm
    obtain ⟨m, rfl⟩ : ∃ n, m = n + 1 := ⟨m - 1, by have := s.depth_pos; omega⟩
    have hd := s.depth_eq
    rw [Bool.eq_iff_iff]
    simp only [rightV, soundV, Bool.and_eq_true, decide_eq_true_eq, plain_hereV, List.all_eq_true]
    have hall := depthsV_all s.parts
    constructor
    · rintro ⟨h1, h2⟩
      have h3 : ∀ p ∈ s.parts, p.depth ≤ k ∧ soundV m p = true := fun p hp => by
        have := h2 p hp
        rw [ih p m (by have := DVal.depth_part hp; omega)] at this
        simpa using this
      exact ⟨by have := (hall k).2 (fun p hp => (h3 p hp).1); omega, h1, fun p hp => (h3 p hp).2⟩
    · rintro ⟨h0, h1, h2⟩
      refine ⟨h1, fun p hp => ?_⟩
      rw [ih p m (by have := DVal.depth_part hp; omega), h2 p hp, Bool.and_true, decide_eq_true_eq]
      exact (hall k).1 (by omega) p hp
/-- A contract over memory, of a value made anew. -/
theorem dpure_of_new {P : Program} {g : FuncId} {args : List D} {d : DVal} (hent : ∀ vs w, (callFunc g vs).run P w = .ok (.enter g vs) w) (h : ∀ (w : World) (η : Names) (X : Nat → Nat → Prop) (vs : List Value), RepL P w η X args vs → Calls P g vs.toArray w (NewVal d w)) : DPure P g args (encV d) :=
  fun S _ η w vs hM hr => ⟨hent _ _, (h w η _ vs hr).mono fun _ w' ⟨cs, he, hv, hb⟩ => ⟨encV d, _, η, .agg cs.toArray, ⟨rfl, rfl⟩, he, rep_val (F := fun b => w.heap.size ≤ b ∧ b < w'.heap.size) (fun b i hF k o h1 _ => by have := (hM.in_ k b h1).2; omega) hv, goes_below hM hb⟩⟩
theorem arg_val {P : Program} {w : World} {η : Names} {X : Nat → Nat → Prop} {v : DVal} {vs : List Value} (hok : okV v) (h : RepL P w η X [encV v] vs) : ∃ cs : List Value, vs = [.agg cs.toArray] ∧ IsVal w (· < w.heap.size) v cs := by
  simp only [RepL] at h
  obtain ⟨x, xs, rfl, h1, rfl⟩ := h
  obtain ⟨cs, rfl, hv⟩ := val_of_rep v.depth v (Nat.le_refl _) hok h1
  exact ⟨cs, rfl, hv⟩
theorem arg_sch {P : Program} {w : World} {η : Names} {X : Nat → Nat → Prop} {v : DSch} {vs : List Value} (hok : okS v) (h : RepL P w η X [encS v] vs) : ∃ cs : List Value, vs = [.agg cs.toArray] ∧ IsSch w (· < w.heap.size) v cs := by
  simp only [RepL] at h
  obtain ⟨x, xs, rfl, h1, rfl⟩ := h
  obtain ⟨cs, rfl, hv⟩ := sch_of_rep v.depth v (Nat.le_refl _) hok h1
  exact ⟨cs, rfl, hv⟩
/-- A plain answer of one value. -/
theorem dpure_val {P : Program} {g : FuncId} {v : DVal} {r : Value} (hok : okV v) (hent : ∀ vs w, (callFunc g vs).run P w = .ok (.enter g vs) w) (h : ∀ (w : World) (cs : List Value), IsVal w (· < w.heap.size) v cs → Calls P g #[.agg cs.toArray] w (Gives r w)) : DPure P g [encV v] (.v r) :=
  dpure_of_gives hent fun w η X vs hr => by obtain ⟨cs, rfl, hv⟩ := arg_val hok hr; exact h w cs hv
theorem dpure_sch {P : Program} {g : FuncId} {v : DSch} {r : Value} (hok : okS v) (hent : ∀ vs w, (callFunc g vs).run P w = .ok (.enter g vs) w) (h : ∀ (w : World) (cs : List Value), IsSch w (· < w.heap.size) v cs → Calls P g #[.agg cs.toArray] w (Gives r w)) : DPure P g [encS v] (.v r) :=
  dpure_of_gives hent fun w η X vs hr => by obtain ⟨cs, rfl, hv⟩ := arg_sch hok hr; exact h w cs hv
theorem greatV_d (v : DVal) (hok : okV v) : DPure Try.prog 24 [encV v] (.v (.bool (decide (roomV 12 v 300 < 0)))) := dpure_val hok (fun _ _ => by kernel_rfl) fun w cs h => greatV_calls v cs w h
theorem valRight_d (v : DVal) (hok : okV v) : DPure Try.prog 44 [encV v] (.v (.bool (rightV 5 v))) := dpure_val hok (fun _ _ => by kernel_rfl) fun w cs h => valRightP_calls v cs w h
theorem refValDepth_d (v : DVal) (hok : okV v) (hd : v.depth ≤ 1000000) : DPure Try.prog 46 [encV v] (.v (.int .i64 v.depth)) := dpure_val hok (fun _ _ => by kernel_rfl) fun w cs h => refValDepth_calls 1000000 v cs w hd (Nat.le_refl _) h
theorem refValRight_d (v : DVal) (hok : okV v) (hd : v.depth ≤ 1000000) : DPure Try.prog 27 [encV v] (.v (.bool (rightV 5 v))) := by
  have hr := right_soundV 5 v v.depth (Nat.le_refl _)
  refine dpure_of_dwp mixed Try.func27 rfl (fun _ _ => by kernel_rfl) (rs := [.tmp 2]) rfl (by kernel_rfl) trivial (fun S hS => ?_)
  simp only [go_sem, ↓reduceIte, Nat.reduceBEq, Nat.reduceAdd, Nat.reduceLeDiff, Nat.reduceEqDiff, Nat.reduceLT]
  refine DCalls.of_pure (refValDepth_d v hok hd) ?_
  simp only [go_sem, ↓reduceIte, Nat.reduceBEq, Nat.reduceAdd, Nat.reduceLeDiff, Nat.reduceEqDiff, Nat.reduceLT]
  by_cases h5 : v.depth ≤ 5
  · have b1 : decide ((v.depth : Int) ≤ 5) = true := by simp; omega
    simp only [go_sem, ↓reduceIte, Nat.reduceBEq, Nat.reduceAdd, Nat.reduceLeDiff, Nat.reduceEqDiff, Nat.reduceLT, b1]
    refine DCalls.of_pure (refSoundV_d v.depth v (Nat.le_refl _) hok) ?_
    simp only [go_sem, ↓reduceIte, Nat.reduceBEq, Nat.reduceAdd, Nat.reduceLeDiff, Nat.reduceEqDiff, Nat.reduceLT]
    exact ⟨by rw [hr, decide_eq_true h5]; rfl, (St.Sub.refl S).add hS _⟩
  · have b1 : decide ((v.depth : Int) ≤ 5) = false := by simp; omega
    simp only [go_sem, ↓reduceIte, Nat.reduceBEq, Nat.reduceAdd, Nat.reduceLeDiff, Nat.reduceEqDiff, Nat.reduceLT, b1]
    exact ⟨by rw [hr, decide_eq_false h5]; rfl, (St.Sub.refl S).add hS _⟩
end Go.Proofs.Ytpnjkebjdclkfaa
