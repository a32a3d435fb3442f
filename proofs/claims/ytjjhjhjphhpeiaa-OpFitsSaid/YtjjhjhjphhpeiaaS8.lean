/- Texts of a proof, part 8. Conditions: none. -/
import Derived.Test.YtjjhjhjphhpeiaaS7
set_option linter.unusedVariables false
set_option linter.unusedSimpArgs false
namespace Go.Proofs.Ytjjhjhjphhpeiaa
open Go.RowKit
set_option linter.unusedSimpArgs false
set_option linter.unusedVariables false
theorem strEq_d (own own2 : Own) (l m : List Str) (hn : l.length ≤ 140737488351232) (hm : m.length ≤ 140737488351232) : DPure Try.prog 68 [.sl own (l.map strD), .sl own2 (m.map strD)] (.v (.bool (decide (l = m)))) :=
  dpure_of_gives (fun _ _ => by kernel_rfl) fun w η X vs hr => by
    simp only [RepL] at hr
    obtain ⟨y, ys, rfl, h1, z, zs, rfl, h2, rfl⟩ := hr
    obtain ⟨A, c, rfl, hc, hf⟩ := strArg h1
    obtain ⟨A2, c2, rfl, hc2, hf2⟩ := strArg h2
    exact strEqual_calls l m A A2 c c2 w hf hf2 hn hm
set_option maxRecDepth 200000 in
set_option maxHeartbeats 4000000 in
theorem uEq_d (own own2 : Own) (l m : List Nat) (hn : l.length ≤ 1000000) : DPure Try.prog 69 [.sl own (l.map u64D), .sl own2 (m.map u64D)] (.v (.bool (decide (l = m)))) := by
  refine dpure_of_dwp mixed Try.func69 rfl (fun _ _ => by kernel_rfl) (rs := [.tmp 4]) rfl (by kernel_rfl) trivial (fun S hS => ?_)
  by_cases hlm : l.length = m.length
  · have b0 : ((l.length : Int) != (m.length : Int)) = false := by simp [hlm]
    (simp (disch := first | decide | omega | (simp only [add_next, set_next, grow_next, leave_next, drop_next, List.length_map]; first | done | omega)) only [go_sem, ↓reduceIte, Nat.reduceBEq, Nat.reduceAdd, Nat.reduceLeDiff, Nat.reduceEqDiff, Nat.reduceLT, Nat.reduceMul, b0]; (repeat (with_reducible refine And.intro (by first | omega | assumption | rfl) ?_)))
    (refine dloop_st (fun t => List.contains [4, 5, 13, 14, 15, 16, 17, 18, 19, 20, 21, 22, 23, 24, 25] t) (by kernel_rfl) ?_ (l.length) (fun i f => i ≤ l.length ∧ f 13 = .v (.int .i64 ((i : Nat) : Int)) ∧ (∀ (r : Nat) (h1 : r < l.length) (h2 : r < m.length), r < i → l[r] = m[r])) ?_ ?_; (exact (by (repeat' first | assumption | refine St.WF.leave ?_ _ | refine St.WF.add ?_ _ | refine St.WF.set ?_ ?_ _ | refine St.WF.grow ?_ _ _ _ | refine St.WF.keep ?_ ?_ | (first | omega | (simp only [RowOk.lo, add_next, set_next, grow_next, leave_next, drop_next]; first | done | omega))))); (exact ⟨(by omega), (by (first | (simp (disch := first | decide | omega | (simp only [add_next, set_next, grow_next, leave_next, drop_next, List.length_map]; first | done | omega)) only [go_sem, ↓reduceIte, Nat.reduceBEq, Nat.reduceAdd, Nat.reduceLeDiff, Nat.reduceEqDiff, Nat.reduceLT, Nat.reduceMul]; first | done | rfl) | rfl)), (fun r _ _ h => by omega)⟩); intro i g tn hn hT hg hI; obtain ⟨le, q13, hno⟩ := hI; have q0 := hg 0 rfl; have q1 := hg 1 rfl; have q12 := hg 12 rfl; simp (disch := first | decide | omega | (simp only [add_next, set_next, grow_next, leave_next, drop_next, List.length_map]; first | done | omega)) only [go_sem, ↓reduceIte, Nat.reduceBEq, Nat.reduceAdd, Nat.reduceLeDiff, Nat.reduceEqDiff, Nat.reduceLT, Nat.reduceMul] at q0 q1 q12; clear hg; have hn' := hn; try simp only [add_next, set_next, grow_next, leave_next, drop_next] at hn')
    by_cases hlt : i < l.length
    · have hlt2 : i < m.length := by omega
      have b1 : decide ((i : Int) < (l.length : Int)) = true := by simp; omega
      have w1 : IntKind.i64.wrap ((i : Int) + 1) = ((i + 1 : Nat) : Int) := IntWalk.i64_in _ ⟨by omega, by omega⟩
      have hx := getD_map u64D l i hlt
      have hy := getD_map u64D m i hlt2
      (simp (disch := first | decide | omega | (simp only [add_next, set_next, grow_next, leave_next, drop_next, List.length_map]; first | done | omega)) only [go_sem, ↓reduceIte, Nat.reduceBEq, Nat.reduceAdd, Nat.reduceLeDiff, Nat.reduceEqDiff, Nat.reduceLT, Nat.reduceMul, b1, q0, q1, q12, q13]; (repeat (with_reducible refine And.intro (by first | omega | assumption | rfl) ?_)))
      refine ddraw_mk 9 (by kernel_rfl) ?_
      (simp (disch := first | decide | omega | (simp only [add_next, set_next, grow_next, leave_next, drop_next, List.length_map]; first | done | omega)) only [go_sem, ↓reduceIte, Nat.reduceBEq, Nat.reduceAdd, Nat.reduceLeDiff, Nat.reduceEqDiff, Nat.reduceLT, Nat.reduceMul, b1, hx, hy, q0, q1, q12, q13]; (repeat (with_reducible refine And.intro (by first | omega | assumption | rfl) ?_)))
      by_cases he : l[i] = m[i]
      · have b2 : ((l[i] : Int) != (m[i] : Int)) = false := by simp [he]
        (simp (disch := first | decide | omega | (simp only [add_next, set_next, grow_next, leave_next, drop_next, List.length_map]; first | done | omega)) only [go_sem, ↓reduceIte, Nat.reduceBEq, Nat.reduceAdd, Nat.reduceLeDiff, Nat.reduceEqDiff, Nat.reduceLT, Nat.reduceMul, b2, w1, q0, q1, q12, q13]; (repeat (with_reducible refine And.intro (by first | omega | assumption | rfl) ?_)))
        (refine ⟨by omega, (by (repeat' first | assumption | exact St.Sub.refl _ | exact RowOk.sub (by assumption) (by assumption) | refine St.Sub.trans ?_ (RowOk.sub (by assumption) (by assumption)) | refine St.Sub.add ?_ ?_ _ | refine St.Sub.set ?_ ?_ ?_ _ | refine St.Sub.keep ?_ ?_ | refine St.WF.leave ?_ _ | refine St.WF.add ?_ _ | refine St.WF.set ?_ ?_ _ | refine St.WF.grow ?_ _ _ _ | refine St.WF.keep ?_ ?_ | (first | omega | (simp only [RowOk.lo, add_next, set_next, grow_next, leave_next, drop_next]; first | done | omega)))), ?_⟩; refine ⟨by omega, ?_, ?_⟩; all_goals (try (first | (simp (disch := first | decide | omega | (simp only [add_next, set_next, grow_next, leave_next, drop_next, List.length_map]; first | done | omega)) only [go_sem, ↓reduceIte, Nat.reduceBEq, Nat.reduceAdd, Nat.reduceLeDiff, Nat.reduceEqDiff, Nat.reduceLT, Nat.reduceMul, w1]; first | done | rfl) | rfl)))
        intro r h1 h2 hr
        by_cases e : r = i
        · subst e; exact he
        · exact hno r h1 h2 (by omega)
      · have b2 : ((l[i] : Int) != (m[i] : Int)) = true := by simp; omega
        (simp (disch := first | decide | omega | (simp only [add_next, set_next, grow_next, leave_next, drop_next, List.length_map]; first | done | omega)) only [go_sem, ↓reduceIte, Nat.reduceBEq, Nat.reduceAdd, Nat.reduceLeDiff, Nat.reduceEqDiff, Nat.reduceLT, Nat.reduceMul, b2]; (repeat (with_reducible refine And.intro (by first | omega | assumption | rfl) ?_)))
        have hne : decide (l = m) = false := by
          rw [decide_eq_false_iff_not]
          rintro rfl
          exact he rfl
        rw [hne]
        exact ⟨rfl, (by (repeat' first | assumption | exact St.Sub.refl _ | exact RowOk.sub (by assumption) (by assumption) | refine St.Sub.trans ?_ (RowOk.sub (by assumption) (by assumption)) | refine St.Sub.add ?_ ?_ _ | refine St.Sub.set ?_ ?_ ?_ _ | refine St.Sub.keep ?_ ?_ | refine St.WF.leave ?_ _ | refine St.WF.add ?_ _ | refine St.WF.set ?_ ?_ _ | refine St.WF.grow ?_ _ _ _ | refine St.WF.keep ?_ ?_ | (first | omega | (simp only [RowOk.lo, add_next, set_next, grow_next, leave_next, drop_next]; first | done | omega))))⟩
    · have b1 : decide ((i : Int) < (l.length : Int)) = false := by simp; omega
      (simp (disch := first | decide | omega | (simp only [add_next, set_next, grow_next, leave_next, drop_next, List.length_map]; first | done | omega)) only [go_sem, ↓reduceIte, Nat.reduceBEq, Nat.reduceAdd, Nat.reduceLeDiff, Nat.reduceEqDiff, Nat.reduceLT, Nat.reduceMul, b1, q0, q1, q12, q13]; (repeat (with_reducible refine And.intro (by first | omega | assumption | rfl) ?_)))
      have heq : decide (l = m) = true := by
        rw [decide_eq_true_eq]
        exact List.ext_getElem hlm fun r h1 h2 => hno r h1 h2 (by omega)
      rw [heq]
      exact ⟨rfl, (by (repeat' first | assumption | exact St.Sub.refl _ | exact RowOk.sub (by assumption) (by assumption) | refine St.Sub.trans ?_ (RowOk.sub (by assumption) (by assumption)) | refine St.Sub.add ?_ ?_ _ | refine St.Sub.set ?_ ?_ ?_ _ | refine St.Sub.keep ?_ ?_ | refine St.WF.leave ?_ _ | refine St.WF.add ?_ _ | refine St.WF.set ?_ ?_ _ | refine St.WF.grow ?_ _ _ _ | refine St.WF.keep ?_ ?_ | (first | omega | (simp only [RowOk.lo, add_next, set_next, grow_next, leave_next, drop_next]; first | done | omega))))⟩
  · have b0 : ((l.length : Int) != (m.length : Int)) = true := by simp; omega
    (simp (disch := first | decide | omega | (simp only [add_next, set_next, grow_next, leave_next, drop_next, List.length_map]; first | done | omega)) only [go_sem, ↓reduceIte, Nat.reduceBEq, Nat.reduceAdd, Nat.reduceLeDiff, Nat.reduceEqDiff, Nat.reduceLT, Nat.reduceMul, b0]; (repeat (with_reducible refine And.intro (by first | omega | assumption | rfl) ?_)))
    have hne : decide (l = m) = false := by
      rw [decide_eq_false_iff_not]
      rintro rfl
      exact hlm rfl
    rw [hne]
    exact ⟨rfl, (by (repeat' first | assumption | exact St.Sub.refl _ | exact RowOk.sub (by assumption) (by assumption) | refine St.Sub.trans ?_ (RowOk.sub (by assumption) (by assumption)) | refine St.Sub.add ?_ ?_ _ | refine St.Sub.set ?_ ?_ ?_ _ | refine St.Sub.keep ?_ ?_ | refine St.WF.leave ?_ _ | refine St.WF.add ?_ _ | refine St.WF.set ?_ ?_ _ | refine St.WF.grow ?_ _ _ _ | refine St.WF.keep ?_ ?_ | (first | omega | (simp only [RowOk.lo, add_next, set_next, grow_next, leave_next, drop_next]; first | done | omega))))⟩
set_option maxRecDepth 200000 in
set_option maxHeartbeats 4000000 in
theorem valEqF_d (g : FuncId) (own own2 : Own) (l m : List DVal) (hn : l.length ≤ 1000000) (h : l.length = m.length → ∀ (i : Nat) (h1 : i < l.length) (h2 : i < m.length), DPure Try.prog g [encV l[i], encV m[i]] (.v (.bool (eqB l[i] m[i])))) : DPure Try.prog 70 [.sl own (l.map encV), .sl own2 (m.map encV), .fn (.func g) [] []] (.v (.bool (eqB l m))) := by
  refine dpure_of_dwp mixed Try.func70 rfl (fun _ _ => by kernel_rfl) (rs := [.tmp 6]) rfl (by kernel_rfl) trivial (fun S hS => ?_)
  by_cases hlm : l.length = m.length
  · have b0 : ((l.length : Int) != (m.length : Int)) = false := by simp [hlm]
    (simp (disch := first | decide | omega | (simp only [add_next, set_next, grow_next, leave_next, drop_next, List.length_map]; first | done | omega)) only [go_sem, ↓reduceIte, Nat.reduceBEq, Nat.reduceAdd, Nat.reduceLeDiff, Nat.reduceEqDiff, Nat.reduceLT, Nat.reduceMul, b0]; (repeat (with_reducible refine And.intro (by first | omega | assumption | rfl) ?_)))
    (refine dloop_st (fun t => List.contains [6, 7, 8, 9, 17, 18, 19, 20, 21, 22, 23, 24, 25, 26, 27, 28, 29, 30, 31] t) (by kernel_rfl) ?_ (l.length) (fun i f => i ≤ l.length ∧ f 17 = .v (.int .i64 ((i : Nat) : Int)) ∧ (∀ (r : Nat) (h1 : r < l.length) (h2 : r < m.length), r < i → l[r] = m[r])) ?_ ?_; (exact (by (repeat' first | assumption | refine St.WF.leave ?_ _ | refine St.WF.add ?_ _ | refine St.WF.set ?_ ?_ _ | refine St.WF.grow ?_ _ _ _ | refine St.WF.keep ?_ ?_ | (first | omega | (simp only [RowOk.lo, add_next, set_next, grow_next, leave_next, drop_next]; first | done | omega))))); (exact ⟨(by omega), (by (first | (simp (disch := first | decide | omega | (simp only [add_next, set_next, grow_next, leave_next, drop_next, List.length_map]; first | done | omega)) only [go_sem, ↓reduceIte, Nat.reduceBEq, Nat.reduceAdd, Nat.reduceLeDiff, Nat.reduceEqDiff, Nat.reduceLT, Nat.reduceMul]; first | done | rfl) | rfl)), (fun r _ _ h => by omega)⟩); intro i g tn hn hT hg hI; obtain ⟨le, q17, hno⟩ := hI; have q1 := hg 1 rfl; have q2 := hg 2 rfl; have q15 := hg 15 rfl; have q16 := hg 16 rfl; simp (disch := first | decide | omega | (simp only [add_next, set_next, grow_next, leave_next, drop_next, List.length_map]; first | done | omega)) only [go_sem, ↓reduceIte, Nat.reduceBEq, Nat.reduceAdd, Nat.reduceLeDiff, Nat.reduceEqDiff, Nat.reduceLT, Nat.reduceMul] at q1 q2 q15 q16; clear hg; have hn' := hn; try simp only [add_next, set_next, grow_next, leave_next, drop_next] at hn')
    by_cases hlt : i < l.length
    · have hlt2 : i < m.length := by omega
      have b1 : decide ((i : Int) < (l.length : Int)) = true := by simp; omega
      have w1 : IntKind.i64.wrap ((i : Int) + 1) = ((i + 1 : Nat) : Int) := IntWalk.i64_in _ ⟨by omega, by omega⟩
      have hx := getD_map encV l i hlt
      have hy := getD_map encV m i hlt2
      (simp (disch := first | decide | omega | (simp only [add_next, set_next, grow_next, leave_next, drop_next, List.length_map]; first | done | omega)) only [go_sem, ↓reduceIte, Nat.reduceBEq, Nat.reduceAdd, Nat.reduceLeDiff, Nat.reduceEqDiff, Nat.reduceLT, Nat.reduceMul, b1, hx, hy, q1, q2, q15, q16, q17]; (repeat (with_reducible refine And.intro (by first | omega | assumption | rfl) ?_)))
      refine DCalls.of_pure (h hlm i hlt hlt2) ?_
      by_cases he : l[i] = m[i]
      · rw [eqB_true he]
        (simp (disch := first | decide | omega | (simp only [add_next, set_next, grow_next, leave_next, drop_next, List.length_map]; first | done | omega)) only [go_sem, ↓reduceIte, Nat.reduceBEq, Nat.reduceAdd, Nat.reduceLeDiff, Nat.reduceEqDiff, Nat.reduceLT, Nat.reduceMul, w1, q1, q2, q15, q16, q17]; (repeat (with_reducible refine And.intro (by first | omega | assumption | rfl) ?_)))
        (refine ⟨by omega, (by (repeat' first | assumption | exact St.Sub.refl _ | exact RowOk.sub (by assumption) (by assumption) | refine St.Sub.trans ?_ (RowOk.sub (by assumption) (by assumption)) | refine St.Sub.add ?_ ?_ _ | refine St.Sub.set ?_ ?_ ?_ _ | refine St.Sub.keep ?_ ?_ | refine St.WF.leave ?_ _ | refine St.WF.add ?_ _ | refine St.WF.set ?_ ?_ _ | refine St.WF.grow ?_ _ _ _ | refine St.WF.keep ?_ ?_ | (first | omega | (simp only [RowOk.lo, add_next, set_next, grow_next, leave_next, drop_next]; first | done | omega)))), ?_⟩; refine ⟨by omega, ?_, ?_⟩; all_goals (try (first | (simp (disch := first | decide | omega | (simp only [add_next, set_next, grow_next, leave_next, drop_next, List.length_map]; first | done | omega)) only [go_sem, ↓reduceIte, Nat.reduceBEq, Nat.reduceAdd, Nat.reduceLeDiff, Nat.reduceEqDiff, Nat.reduceLT, Nat.reduceMul, w1]; first | done | rfl) | rfl)))
        intro r h1 h2 hr
        by_cases e : r = i
        · subst e; exact he
        · exact hno r h1 h2 (by omega)
      · rw [eqB_false he]
        (simp (disch := first | decide | omega | (simp only [add_next, set_next, grow_next, leave_next, drop_next, List.length_map]; first | done | omega)) only [go_sem, ↓reduceIte, Nat.reduceBEq, Nat.reduceAdd, Nat.reduceLeDiff, Nat.reduceEqDiff, Nat.reduceLT, Nat.reduceMul]; (repeat (with_reducible refine And.intro (by first | omega | assumption | rfl) ?_)))
        have hne : eqB l m = false := eqB_false (by rintro rfl; exact he rfl)
        rw [hne]
        exact ⟨rfl, (by (repeat' first | assumption | exact St.Sub.refl _ | exact RowOk.sub (by assumption) (by assumption) | refine St.Sub.trans ?_ (RowOk.sub (by assumption) (by assumption)) | refine St.Sub.add ?_ ?_ _ | refine St.Sub.set ?_ ?_ ?_ _ | refine St.Sub.keep ?_ ?_ | refine St.WF.leave ?_ _ | refine St.WF.add ?_ _ | refine St.WF.set ?_ ?_ _ | refine St.WF.grow ?_ _ _ _ | refine St.WF.keep ?_ ?_ | (first | omega | (simp only [RowOk.lo, add_next, set_next, grow_next, leave_next, drop_next]; first | done | omega))))⟩
    · have b1 : decide ((i : Int) < (l.length : Int)) = false := by simp; omega
      (simp (disch := first | decide | omega | (simp only [add_next, set_next, grow_next, leave_next, drop_next, List.length_map]; first | done | omega)) only [go_sem, ↓reduceIte, Nat.reduceBEq, Nat.reduceAdd, Nat.reduceLeDiff, Nat.reduceEqDiff, Nat.reduceLT, Nat.reduceMul, b1, q1, q2, q15, q16, q17]; (repeat (with_reducible refine And.intro (by first | omega | assumption | rfl) ?_)))
      have heq : eqB l m = true := eqB_true (List.ext_getElem hlm fun r h1 h2 => hno r h1 h2 (by omega))
      rw [heq]
      exact ⟨rfl, (by (repeat' first | assumption | exact St.Sub.refl _ | exact RowOk.sub (by assumption) (by assumption) | refine St.Sub.trans ?_ (RowOk.sub (by assumption) (by assumption)) | refine St.Sub.add ?_ ?_ _ | refine St.Sub.set ?_ ?_ ?_ _ | refine St.Sub.keep ?_ ?_ | refine St.WF.leave ?_ _ | refine St.WF.add ?_ _ | refine St.WF.set ?_ ?_ _ | refine St.WF.grow ?_ _ _ _ | refine St.WF.keep ?_ ?_ | (first | omega | (simp only [RowOk.lo, add_next, set_next, grow_next, leave_next, drop_next]; first | done | omega))))⟩
  · have b0 : ((l.length : Int) != (m.length : Int)) = true := by simp; omega
    (simp (disch := first | decide | omega | (simp only [add_next, set_next, grow_next, leave_next, drop_next, List.length_map]; first | done | omega)) only [go_sem, ↓reduceIte, Nat.reduceBEq, Nat.reduceAdd, Nat.reduceLeDiff, Nat.reduceEqDiff, Nat.reduceLT, Nat.reduceMul, b0]; (repeat (with_reducible refine And.intro (by first | omega | assumption | rfl) ?_)))
    have hne : eqB l m = false := eqB_false (by rintro rfl; exact hlm rfl)
    rw [hne]
    exact ⟨rfl, (by (repeat' first | assumption | exact St.Sub.refl _ | exact RowOk.sub (by assumption) (by assumption) | refine St.Sub.trans ?_ (RowOk.sub (by assumption) (by assumption)) | refine St.Sub.add ?_ ?_ _ | refine St.Sub.set ?_ ?_ ?_ _ | refine St.Sub.keep ?_ ?_ | refine St.WF.leave ?_ _ | refine St.WF.add ?_ _ | refine St.WF.set ?_ ?_ _ | refine St.WF.grow ?_ _ _ _ | refine St.WF.keep ?_ ?_ | (first | omega | (simp only [RowOk.lo, add_next, set_next, grow_next, leave_next, drop_next]; first | done | omega))))⟩
set_option maxRecDepth 200000 in
set_option maxHeartbeats 4000000 in
theorem valSame_d (k : Nat) : ∀ (a b : DVal), a.depth ≤ k → a.weight ≤ 1000000 → b.weight ≤ 1000000 → DPure Try.prog 41 [encV a, encV b] (.v (.bool (eqB a b))) := by
  induction k with
  | zero => intro a b h; have := a.depth_pos; omega
  | succ k ih =>
    intro a b hk ha hb
    have hwa := a.weight_eq
    have hwb := b.weight_eq
    have hpa := partsLen a
    have hpb := partsLen b
    refine dpure_of_dwp mixed Try.func41 rfl (fun _ _ => by kernel_rfl) (rs := [.tmp 4]) rfl (by kernel_rfl) trivial (fun S hS => ?_)
    have fin : ∀ (T : St), S.Sub T → eqB a b = false → PFin S T (.v (.bool false)) (.v (.bool (eqB a b))) := fun T hT he => by rw [he]; exact ⟨rfl, hT⟩
    by_cases h1 : a.kind = b.kind
    rotate_left
    · have b1 : (a.kind == b.kind) = false := by simpa using h1
      (simp (disch := first | decide | omega | (simp only [add_next, set_next, grow_next, leave_next, drop_next, List.length_map]; first | done | omega)) only [go_sem, ↓reduceIte, Nat.reduceBEq, Nat.reduceAdd, Nat.reduceLeDiff, Nat.reduceEqDiff, Nat.reduceLT, Nat.reduceMul, encV_eq, b1]; (repeat (with_reducible refine And.intro (by first | omega | assumption | rfl) ?_)))
      exact fin _ (by (repeat' first | assumption | exact St.Sub.refl _ | exact RowOk.sub (by assumption) (by assumption) | refine St.Sub.trans ?_ (RowOk.sub (by assumption) (by assumption)) | refine St.Sub.add ?_ ?_ _ | refine St.Sub.set ?_ ?_ ?_ _ | refine St.Sub.keep ?_ ?_ | refine St.WF.leave ?_ _ | refine St.WF.add ?_ _ | refine St.WF.set ?_ ?_ _ | refine St.WF.grow ?_ _ _ _ | refine St.WF.keep ?_ ?_ | (first | omega | (simp only [RowOk.lo, add_next, set_next, grow_next, leave_next, drop_next]; first | done | omega)))) (eqB_false (by rintro rfl; exact h1 rfl))
    by_cases h2 : a.n = b.n
    rotate_left
    · have b1 : (a.kind == b.kind) = true := by simpa using h1
      have b2 : (a.n == b.n) = false := by simpa using h2
      (simp (disch := first | decide | omega | (simp only [add_next, set_next, grow_next, leave_next, drop_next, List.length_map]; first | done | omega)) only [go_sem, ↓reduceIte, Nat.reduceBEq, Nat.reduceAdd, Nat.reduceLeDiff, Nat.reduceEqDiff, Nat.reduceLT, Nat.reduceMul, encV_eq, b1, b2]; (repeat (with_reducible refine And.intro (by first | omega | assumption | rfl) ?_)))
      exact fin _ (by (repeat' first | assumption | exact St.Sub.refl _ | exact RowOk.sub (by assumption) (by assumption) | refine St.Sub.trans ?_ (RowOk.sub (by assumption) (by assumption)) | refine St.Sub.add ?_ ?_ _ | refine St.Sub.set ?_ ?_ ?_ _ | refine St.Sub.keep ?_ ?_ | refine St.WF.leave ?_ _ | refine St.WF.add ?_ _ | refine St.WF.set ?_ ?_ _ | refine St.WF.grow ?_ _ _ _ | refine St.WF.keep ?_ ?_ | (first | omega | (simp only [RowOk.lo, add_next, set_next, grow_next, leave_next, drop_next]; first | done | omega)))) (eqB_false (by rintro rfl; exact h2 rfl))
    by_cases h3 : a.s = b.s
    rotate_left
    · have b1 : (a.kind == b.kind) = true := by simpa using h1
      have b2 : (a.n == b.n) = true := by simpa using h2
      have b3 : (a.s == b.s) = false := by simpa using h3
      (simp (disch := first | decide | omega | (simp only [add_next, set_next, grow_next, leave_next, drop_next, List.length_map]; first | done | omega)) only [go_sem, ↓reduceIte, Nat.reduceBEq, Nat.reduceAdd, Nat.reduceLeDiff, Nat.reduceEqDiff, Nat.reduceLT, Nat.reduceMul, encV_eq, b1, b2, b3]; (repeat (with_reducible refine And.intro (by first | omega | assumption | rfl) ?_)))
      exact fin _ (by (repeat' first | assumption | exact St.Sub.refl _ | exact RowOk.sub (by assumption) (by assumption) | refine St.Sub.trans ?_ (RowOk.sub (by assumption) (by assumption)) | refine St.Sub.add ?_ ?_ _ | refine St.Sub.set ?_ ?_ ?_ _ | refine St.Sub.keep ?_ ?_ | refine St.WF.leave ?_ _ | refine St.WF.add ?_ _ | refine St.WF.set ?_ ?_ _ | refine St.WF.grow ?_ _ _ _ | refine St.WF.keep ?_ ?_ | (first | omega | (simp only [RowOk.lo, add_next, set_next, grow_next, leave_next, drop_next]; first | done | omega)))) (eqB_false (by rintro rfl; exact h3 rfl))
    have b1 : (a.kind == b.kind) = true := by simpa using h1
    have b2 : (a.n == b.n) = true := by simpa using h2
    have b3 : (a.s == b.s) = true := by simpa using h3
    (simp (disch := first | decide | omega | (simp only [add_next, set_next, grow_next, leave_next, drop_next, List.length_map]; first | done | omega)) only [go_sem, ↓reduceIte, Nat.reduceBEq, Nat.reduceAdd, Nat.reduceLeDiff, Nat.reduceEqDiff, Nat.reduceLT, Nat.reduceMul, encV_eq, b1, b2, b3]; (repeat (with_reducible refine And.intro (by first | omega | assumption | rfl) ?_)))
    refine DCalls.of_pure (strEq_d .no .no a.names b.names (by omega) (by omega)) ?_
    by_cases h4 : a.names = b.names
    rotate_left
    · have b4 : decide (a.names = b.names) = false := by simpa using h4
      (simp (disch := first | decide | omega | (simp only [add_next, set_next, grow_next, leave_next, drop_next, List.length_map]; first | done | omega)) only [go_sem, ↓reduceIte, Nat.reduceBEq, Nat.reduceAdd, Nat.reduceLeDiff, Nat.reduceEqDiff, Nat.reduceLT, Nat.reduceMul, b4]; (repeat (with_reducible refine And.intro (by first | omega | assumption | rfl) ?_)))
      exact fin _ (by (repeat' first | assumption | exact St.Sub.refl _ | exact RowOk.sub (by assumption) (by assumption) | refine St.Sub.trans ?_ (RowOk.sub (by assumption) (by assumption)) | refine St.Sub.add ?_ ?_ _ | refine St.Sub.set ?_ ?_ ?_ _ | refine St.Sub.keep ?_ ?_ | refine St.WF.leave ?_ _ | refine St.WF.add ?_ _ | refine St.WF.set ?_ ?_ _ | refine St.WF.grow ?_ _ _ _ | refine St.WF.keep ?_ ?_ | (first | omega | (simp only [RowOk.lo, add_next, set_next, grow_next, leave_next, drop_next]; first | done | omega)))) (eqB_false (by rintro rfl; exact h4 rfl))
    have b4 : decide (a.names = b.names) = true := by simpa using h4
    (simp (disch := first | decide | omega | (simp only [add_next, set_next, grow_next, leave_next, drop_next, List.length_map]; first | done | omega)) only [go_sem, ↓reduceIte, Nat.reduceBEq, Nat.reduceAdd, Nat.reduceLeDiff, Nat.reduceEqDiff, Nat.reduceLT, Nat.reduceMul, b4]; (repeat (with_reducible refine And.intro (by first | omega | assumption | rfl) ?_)))
    refine DCalls.of_pure (uEq_d .no .no a.ids b.ids (by omega)) ?_
    by_cases h5 : a.ids = b.ids
    rotate_left
    · have b5 : decide (a.ids = b.ids) = false := by simpa using h5
      (simp (disch := first | decide | omega | (simp only [add_next, set_next, grow_next, leave_next, drop_next, List.length_map]; first | done | omega)) only [go_sem, ↓reduceIte, Nat.reduceBEq, Nat.reduceAdd, Nat.reduceLeDiff, Nat.reduceEqDiff, Nat.reduceLT, Nat.reduceMul, b5]; (repeat (with_reducible refine And.intro (by first | omega | assumption | rfl) ?_)))
      exact fin _ (by (repeat' first | assumption | exact St.Sub.refl _ | exact RowOk.sub (by assumption) (by assumption) | refine St.Sub.trans ?_ (RowOk.sub (by assumption) (by assumption)) | refine St.Sub.add ?_ ?_ _ | refine St.Sub.set ?_ ?_ ?_ _ | refine St.Sub.keep ?_ ?_ | refine St.WF.leave ?_ _ | refine St.WF.add ?_ _ | refine St.WF.set ?_ ?_ _ | refine St.WF.grow ?_ _ _ _ | refine St.WF.keep ?_ ?_ | (first | omega | (simp only [RowOk.lo, add_next, set_next, grow_next, leave_next, drop_next]; first | done | omega)))) (eqB_false (by rintro rfl; exact h5 rfl))
    have b5 : decide (a.ids = b.ids) = true := by simpa using h5
    (simp (disch := first | decide | omega | (simp only [add_next, set_next, grow_next, leave_next, drop_next, List.length_map]; first | done | omega)) only [go_sem, ↓reduceIte, Nat.reduceBEq, Nat.reduceAdd, Nat.reduceLeDiff, Nat.reduceEqDiff, Nat.reduceLT, Nat.reduceMul, b5]; (repeat (with_reducible refine And.intro (by first | omega | assumption | rfl) ?_)))
    refine DCalls.of_pure (valEqF_d 41 .no .no a.parts b.parts (by omega) fun _ i i1 i2 => ih a.parts[i] b.parts[i] (by have := DVal.depth_part (List.getElem_mem i1); omega) (by have := DVal.weight_part (List.getElem_mem i1); omega) (by have := DVal.weight_part (List.getElem_mem i2); omega)) ?_
    (simp (disch := first | decide | omega | (simp only [add_next, set_next, grow_next, leave_next, drop_next, List.length_map]; first | done | omega)) only [go_sem, ↓reduceIte, Nat.reduceBEq, Nat.reduceAdd, Nat.reduceLeDiff, Nat.reduceEqDiff, Nat.reduceLT, Nat.reduceMul]; (repeat (with_reducible refine And.intro (by first | omega | assumption | rfl) ?_)))
    refine ⟨?_, (by (repeat' first | assumption | exact St.Sub.refl _ | exact RowOk.sub (by assumption) (by assumption) | refine St.Sub.trans ?_ (RowOk.sub (by assumption) (by assumption)) | refine St.Sub.add ?_ ?_ _ | refine St.Sub.set ?_ ?_ ?_ _ | refine St.Sub.keep ?_ ?_ | refine St.WF.leave ?_ _ | refine St.WF.add ?_ _ | refine St.WF.set ?_ ?_ _ | refine St.WF.grow ?_ _ _ _ | refine St.WF.keep ?_ ?_ | (first | omega | (simp only [RowOk.lo, add_next, set_next, grow_next, leave_next, drop_next]; first | done | omega))))⟩
    have : eqB a.parts b.parts = eqB a b := by
      by_cases h6 : a.parts = b.parts
      · rw [eqB_true h6, eqB_true ((DVal.ext_iff' a b).2 ⟨h1, h2, h3, h4, h5, h6⟩)]
      · rw [eqB_false h6, eqB_false (by rintro rfl; exact h6 rfl)]
    rw [this]
    rfl
end Go.Proofs.Ytjjhjhjphhpeiaa

namespace Go.Proofs.Ytjjhjhjphhpeiaa
open Go.RowKit
set_option linter.unusedSimpArgs false
set_option linter.unusedVariables false
structure DOp where
  kind : Int
  path : List DStp
  id : Nat
  after : Nat
  val : DVal
/-- An operation's cells; whose the path's slice is. -/
def opCs (own : Own) (o : DOp) : List D := .v (.int .i64 o.kind) :: .sl own (o.path.map encP) :: .v (.int .u64 (o.id : Int)) :: .v (.int .u64 (o.after : Int)) :: (encV o.val).cells
def encO (o : DOp) : D := .agg (opCs .no o)
theorem opCs_len (own : Own) (o : DOp) : (opCs own o).length = 10 := by simp [opCs, cells_encV]
theorem take_opCs (own : Own) (o : DOp) : (opCs own o).take 10 = opCs own o := List.take_of_length_le (by rw [opCs_len]; omega)
theorem drop_opCs (own : Own) (o : DOp) : (opCs own o).drop 10 = [] := List.drop_of_length_le (by rw [opCs_len]; omega)
theorem agg_opCs (o : DOp) : D.agg (opCs .no o) = encO o := rfl
attribute [go_sem] opCs_len take_opCs drop_opCs agg_opCs
theorem cells_encO (o : DOp) : (encO o).cells = opCs .no o := rfl
theorem okCell_encO (o : DOp) : (encO o).okCell = true := rfl
attribute [go_sem] cells_encO okCell_encO
theorem width_encO (o : DOp) : (encO o).width = 10 := opCs_len .no o
theorem frz_mapPk (l : List DStp) : frzL (l.map encP) = l.map encP := by simp [frzL_map, encP, D.frz, frzL, strD, u64D, Function.comp_def]
theorem frz_cellsV (v : DVal) : frzL (encV v).cells = (encV v).cells := by
  have h := frz_encV v
  rw [← agg_encV v, D.frz] at h
  rw [← agg_encV v] at h
  injection h
theorem frz_opCs (own : Own) (o : DOp) : frzL (opCs own o) = opCs .no o := by
  simp only [opCs, frzL, D.frz, frz_mapPk, frz_cellsV]
theorem frz_encO (o : DOp) : (encO o).frz = encO o := by simp only [encO, D.frz, frz_opCs]
end Go.Proofs.Ytjjhjhjphhpeiaa

namespace Go.Proofs.Ytjjhjhjphhpeiaa
open Go.RowKit
set_option linter.unusedSimpArgs false
set_option linter.unusedVariables false
theorem OV.fz {S T : St} {v : DVal} {a b c ca cb cc : Nat} {zn zi zp : List D} (h : OV S v a b c ca cb cc zn zi zp) (hz : Fz (fun _ => True) S T) : OV T v a b c ca cb cc zn zi zp :=
  ⟨hz.ob _ _ trivial h.obn, h.ln, hz.ob _ _ trivial h.obi, h.li, hz.ob _ _ trivial h.obp, h.lp, h.ab, h.ac, h.bc⟩
set_option maxRecDepth 200000 in
set_option maxHeartbeats 4000000 in
theorem elem_o {S : St} (v : DVal) (a b c ca cb cc : Nat) {zn zi zp : List D} (hO : OV S v a b c ca cb cc zn zi zp) (x : Nat) (hn : v.ids.length ≤ 140737488351232) : DCalls Try.prog 12 [ownV v a b c ca cb cc, .v (uv x)] S (fun d T => d = elemV v x ∧ Fz (fun _ => True) S T ∧ T.WF) := by
  refine dcalls_inline mixed Try.func12 rfl (fun _ _ => by kernel_rfl) (rs := [.tmp 4, .tmp 5]) rfl (by kernel_rfl) (fun hS => ?_)
  have n2 := ownOb_len (wUs v.ids) (by omega) hO.li
  rw [List.length_map] at n2
  have hbl := hS.lt hO.obi
  (simp (disch := first | decide | omega | (simp only [add_next, set_next, grow_next, leave_next, drop_next, List.length_map]; first | done | omega)) only [go_sem, ↓reduceIte, Nat.reduceBEq, Nat.reduceAdd, Nat.reduceLeDiff, Nat.reduceEqDiff, Nat.reduceLT, Nat.reduceMul, ownV]; (repeat (with_reducible refine And.intro (by first | omega | assumption | rfl) ?_)))
  refine uIndex_w v.ids x hn (c := cb) (zs := zi) (by have : b ≠ S.next := by omega
                                                      (first | (simp (disch := first | decide | omega | (simp only [add_next, set_next, grow_next, leave_next, drop_next, List.length_map]; first | done | omega)) only [go_sem, ↓reduceIte, Nat.reduceBEq, Nat.reduceAdd, Nat.reduceLeDiff, Nat.reduceEqDiff, Nat.reduceLT, Nat.reduceMul, hO.obi, this]; first | done | rfl) | rfl)) n2 ?_
  have hz : Fz (fun _ => True) S (S.add (.box 28 (ownV v a b c ca cb cc).cells)) := (Fz.refl _ S).add hS
  by_cases h6 : v.kind = 6
  · have b6 : (v.kind != 6) = false := by simp [h6]
    by_cases hm : x ∈ v.ids
    · have b7 : decide (ixI v.ids x < 0) = false := by unfold ixI; rw [if_pos hm]; simp
      (simp (disch := first | decide | omega | (simp only [add_next, set_next, grow_next, leave_next, drop_next, List.length_map]; first | done | omega)) only [go_sem, ↓reduceIte, Nat.reduceBEq, Nat.reduceAdd, Nat.reduceLeDiff, Nat.reduceEqDiff, Nat.reduceLT, Nat.reduceMul, b6, b7]; (repeat (with_reducible refine And.intro (by first | omega | assumption | rfl) ?_)))
      exact ⟨by simp only [elemV, h6, hm, and_self, if_true, ixI], hz, hS.add _⟩
    · have b7 : decide (ixI v.ids x < 0) = true := by unfold ixI; rw [if_neg hm]; decide
      (simp (disch := first | decide | omega | (simp only [add_next, set_next, grow_next, leave_next, drop_next, List.length_map]; first | done | omega)) only [go_sem, ↓reduceIte, Nat.reduceBEq, Nat.reduceAdd, Nat.reduceLeDiff, Nat.reduceEqDiff, Nat.reduceLT, Nat.reduceMul, b6, b7]; (repeat (with_reducible refine And.intro (by first | omega | assumption | rfl) ?_)))
      exact ⟨by simp only [elemV, hm, and_false, if_false], hz, hS.add _⟩
  · have b6 : (v.kind != 6) = true := by simp [h6]
    (simp (disch := first | decide | omega | (simp only [add_next, set_next, grow_next, leave_next, drop_next, List.length_map]; first | done | omega)) only [go_sem, ↓reduceIte, Nat.reduceBEq, Nat.reduceAdd, Nat.reduceLeDiff, Nat.reduceEqDiff, Nat.reduceLT, Nat.reduceMul, b6]; (repeat (with_reducible refine And.intro (by first | omega | assumption | rfl) ?_)))
    exact ⟨by simp only [elemV, h6, false_and, if_false], hz, hS.add _⟩
/-- Where an element comes in behind another one. -/
def plK (v : DVal) (after : Nat) : Nat := if after = 0 then 0 else if after ∈ v.ids then ixN v.ids after + 1 else v.ids.length
theorem plK_le (v : DVal) (after : Nat) : plK v after ≤ v.ids.length := by
  unfold plK
  split
  · omega
  · split
    · rename_i h; exact ix_lt h
    · exact Nat.le_refl _
def DVal.ofList (v : DVal) (is : List Nat) (ps : List DVal) : DVal := .mk v.kind v.n v.s v.names is ps
def plV (v : DVal) (id after : Nat) (x : DVal) : DVal := v.ofList (v.ids.take (plK v after) ++ [id] ++ v.ids.drop (plK v after)) (v.parts.take (plK v after) ++ [x] ++ v.parts.drop (plK v after))
theorem K_eq {K : D → St → Prop} {d d' : D} {T : St} (e : d = d') (h : K d' T) : K d T := e ▸ h
theorem plV_ids (v x : DVal) (id after : Nat) : (plV v id after x).ids.map u64D = (v.ids.map u64D).take (plK v after) ++ [u64D id] ++ (v.ids.map u64D).drop (plK v after) := by
  simp only [plV, DVal.ofList, DVal.ids, List.map_append, List.map_take, List.map_drop, List.map_cons, List.map_nil]
theorem plV_parts (v x : DVal) (id after : Nat) : (plV v id after x).parts.map encV = (v.parts.map encV).take (plK v after) ++ [encV x] ++ (v.parts.map encV).drop (plK v after) := by
  simp only [plV, DVal.ofList, DVal.parts, List.map_append, List.map_take, List.map_drop, List.map_cons, List.map_nil]
theorem ins_len {α : Type} (l : List α) (x : α) {k : Nat} (h : k ≤ l.length) : (l.take k ++ [x] ++ l.drop k).length = l.length + 1 := by
  simp only [List.length_append, List.length_take, List.length_drop, List.length_cons, List.length_nil]; omega
theorem plV_ilen (v x : DVal) (id after : Nat) : (plV v id after x).ids.length = v.ids.length + 1 := ins_len _ _ (plK_le v after)
theorem plV_plen {v x : DVal} {id after : Nat} (h : v.parts.length = v.ids.length) : (plV v id after x).parts.length = v.parts.length + 1 := ins_len _ _ (by rw [h]; exact plK_le v after)
def tkV (v : DVal) (k : Nat) : DVal := v.ofList (v.ids.take k ++ v.ids.drop (k + 1)) (v.parts.take k ++ v.parts.drop (k + 1))
set_option maxRecDepth 200000 in
set_option maxHeartbeats 8000000 in
theorem place_o {S : St} {K : D → St → Prop} (v x : DVal) (id after : Nat) (a b c ca cb cc : Nat) {zn zi zp : List D} (hO : OV S v a b c ca cb cc zn zi zp) (h6 : v.kind = 6) (hl : v.parts.length = v.ids.length) (hn : v.ids.length ≤ 1000000)
    (hK : ∀ T b' c' cb' cc' zi' zp', Fz (fun j => j ≠ b ∧ j ≠ c) S T → T.WF → S.next ≤ b' → S.next ≤ c' → OV T (plV v id after x) a b' c' ca cb' cc' zn zi' zp' → K (ownV (plV v id after x) a b' c' ca cb' cc') T) :
    DCalls Try.prog 103 [ownV v a b c ca cb cc, .v (uv id), .v (uv after), encV x] S K := by
  refine dcalls_inline mixed Try.func103 rfl (fun _ _ => by kernel_rfl) (rs := [.cell 8 28]) rfl (by kernel_rfl) (fun hS => ?_)
  have l1 := hS.lt hO.obn
  have l2 := hS.lt hO.obi
  have l3 := hS.lt hO.obp
  have hkl := plK_le v after
  by_cases h0 : after = 0
  · have b0 : ((after : Int) != 0) = false := by simp [h0]
    have hk0 : plK v after = 0 := by unfold plK; rw [if_pos h0]
    (simp (disch := first | decide | omega | (simp only [add_next, set_next, grow_next, leave_next, drop_next, List.length_map]; first | done | omega)) only [go_sem, ↓reduceIte, Nat.reduceBEq, Nat.reduceAdd, Nat.reduceLeDiff, Nat.reduceEqDiff, Nat.reduceLT, Nat.reduceMul, uv, b0]; (repeat (with_reducible refine And.intro (by first | omega | assumption | rfl) ?_)))
    obtain ⟨T0, hT0e⟩ : ∃ T0, ((S.add (.box 28 (ownV v a b c ca cb cc).cells)).add (.box 28 (encV x).cells)).add (.box 28 [.v (.int .i64 0), .v (.int .i64 0), .v (.string ⟨#[]⟩), .sl .full [], .sl .full [], .sl .full []]) = T0 := ⟨_, rfl⟩
    have hF0 : Fz (fun _ => True) S T0 := by rw [← hT0e]; exact (((Fz.refl _ S).add hS).add hS).add hS
    have hT0 : T0.WF := by rw [← hT0e]; exact ((hS.add _).add _).add _
    have hn0 : T0.next = S.next + 1 + 1 + 1 := by rw [← hT0e]; rfl
    have u4 : T0.ob S.next = some (.box 28 [.v (.int .i64 v.kind), .v (.int .i64 v.n), .v (sv v.s), .win a 0 v.names.length ca, .win b 0 v.ids.length cb, .win c 0 v.parts.length cc]) := by rw [← hT0e]; (first | (simp (disch := first | decide | omega | (simp only [add_next, set_next, grow_next, leave_next, drop_next, List.length_map]; first | done | omega)) only [go_sem, ↓reduceIte, Nat.reduceBEq, Nat.reduceAdd, Nat.reduceLeDiff, Nat.reduceEqDiff, Nat.reduceLT, Nat.reduceMul]; first | done | rfl) | rfl)
    have u7 : T0.ob (S.next + 1) = some (.box 28 (encV x).cells) := by rw [← hT0e]; (first | (simp (disch := first | decide | omega | (simp only [add_next, set_next, grow_next, leave_next, drop_next, List.length_map]; first | done | omega)) only [go_sem, ↓reduceIte, Nat.reduceBEq, Nat.reduceAdd, Nat.reduceLeDiff, Nat.reduceEqDiff, Nat.reduceLT, Nat.reduceMul]; first | done | rfl) | rfl)
    have u8 : T0.ob (S.next + 1 + 1) = some (.box 28 [.v (.int .i64 0), .v (.int .i64 0), .v (.string ⟨#[]⟩), .sl .full [], .sl .full [], .sl .full []]) := by rw [← hT0e]; (first | (simp (disch := first | decide | omega | (simp only [add_next, set_next, grow_next, leave_next, drop_next, List.length_map]; first | done | omega)) only [go_sem, ↓reduceIte, Nat.reduceBEq, Nat.reduceAdd, Nat.reduceLeDiff, Nat.reduceEqDiff, Nat.reduceLT, Nat.reduceMul]; first | done | rfl) | rfl)
    have hO0 := hO.fz hF0
    rw [hT0e]
    clear hT0e
    rw [hk0] at hkl
    
    have l1' := hT0.lt hO0.obn
    have l2' := hT0.lt hO0.obi
    have l3' := hT0.lt hO0.obp
    have e1 : S.next ≠ T0.next := by omega
    have e2 : S.next ≠ b := by omega
    have e3 : S.next ≠ c := by omega
    have e4 : S.next + 1 ≠ T0.next := by omega
    have e5 : S.next + 1 ≠ b := by omega
    have e6 : S.next + 1 ≠ c := by omega
    have e7 : S.next + 1 + 1 ≠ T0.next := by omega
    have e8 : S.next + 1 + 1 ≠ b := by omega
    have e9 : S.next + 1 + 1 ≠ c := by omega
    have f1 : S.next ≠ T0.next + 1 := by omega
    have f2 : S.next + 1 ≠ T0.next + 1 := by omega
    have f3 : S.next + 1 + 1 ≠ T0.next + 1 := by omega
    have g1 : c ≠ T0.next := by omega
    have g2 : c ≠ b := fun e => hO.bc e.symm
    have g3 : c ≠ S.next := by omega
    refine ins_u64 (k := b) (c := cb) (zs := zi) (es := v.ids.map u64D) (x := u64D id) (i := 0) hO0.obi hO0.li (wUs _) rfl (by rw [List.length_map]; exact hkl) (by rw [List.length_map]; omega) (by omega) (by rw [List.length_map]) fun cb' zi' h1 h2 => ?_
    rw [List.length_map] at h1
    (simp (disch := first | decide | omega | (simp only [add_next, set_next, grow_next, leave_next, drop_next, List.length_map]; first | done | omega)) only [go_sem, ↓reduceIte, Nat.reduceBEq, Nat.reduceAdd, Nat.reduceLeDiff, Nat.reduceEqDiff, Nat.reduceLT, Nat.reduceMul, u4, u7, u8, e1, e2, e3, e4, e5, e6, e7, e8, e9]; (repeat (with_reducible refine And.intro (by first | omega | assumption | rfl) ?_)))
    refine ins_val (k := c) (c := cc) (zs := zp) (es := v.parts.map encV) (x := encV x) (i := 0) (by (first | (simp (disch := first | decide | omega | (simp only [add_next, set_next, grow_next, leave_next, drop_next, List.length_map]; first | done | omega)) only [go_sem, ↓reduceIte, Nat.reduceBEq, Nat.reduceAdd, Nat.reduceLeDiff, Nat.reduceEqDiff, Nat.reduceLT, Nat.reduceMul, hO0.obp, g1, g2, g3]; first | done | rfl) | rfl)) hO0.lp (wVs _) (cells_encV x) (by rw [List.length_map]; omega) (by rw [List.length_map]; omega) (by show c < T0.next + 1; omega) (by rw [List.length_map]) fun cc' zp' h3 h4 => ?_
    rw [List.length_map] at h3
    (simp (disch := first | decide | omega | (simp only [add_next, set_next, grow_next, leave_next, drop_next, List.length_map]; first | done | omega)) only [go_sem, ↓reduceIte, Nat.reduceBEq, Nat.reduceAdd, Nat.reduceLeDiff, Nat.reduceEqDiff, Nat.reduceLT, Nat.reduceMul, u4, u7, u8, e1, e2, e3, e4, e5, e6, e7, e8, e9, f1, f2, f3]; (repeat (with_reducible refine And.intro (by first | omega | assumption | rfl) ?_)))
    have n1 : a ≠ b := hO.ab
    have n2 : a ≠ c := hO.ac
    have n3 : a ≠ T0.next := by omega
    have n4 : a ≠ T0.next + 1 := by omega
    have n5 : a ≠ S.next := by omega
    have n6 : a ≠ S.next + 1 + 1 := by omega
    have n7 : T0.next ≠ c := by omega
    have n8 : T0.next ≠ S.next := by omega
    have n9 : T0.next ≠ S.next + 1 + 1 := by omega
    have m1 : T0.next + 1 ≠ S.next := by omega
    have m2 : T0.next + 1 ≠ S.next + 1 + 1 := by omega
    refine K_eq ?_ (hK _ T0.next (T0.next + 1) cb' cc' zi' zp' ?_ ?_ (by omega) (by omega) ⟨?_, hO.ln, ?_, ?_, ?_, ?_, by omega, by omega, by omega⟩)
    · rw [ownV, plV_ilen, plV_plen hl]; rfl
    · exact (((((((hF0.mono fun _ _ => trivial).drop hS (.inl fun h => h.1 rfl)).add hS).set hS (.inr (by omega))).drop hS (.inl fun h => h.2 rfl)).add hS).set hS (.inr (by omega))).set hS (.inr (by omega))
    · exact (((((hT0.drop _).add _).set (by show S.next < T0.next + 1; omega) _).drop _).add _).set (by show S.next < T0.next + 1 + 1; omega) _ |>.set (by show S.next + 1 + 1 < T0.next + 1 + 1; omega) _
    · have := hO0.obn
      (first | (simp (disch := first | decide | omega | (simp only [add_next, set_next, grow_next, leave_next, drop_next, List.length_map]; first | done | omega)) only [go_sem, ↓reduceIte, Nat.reduceBEq, Nat.reduceAdd, Nat.reduceLeDiff, Nat.reduceEqDiff, Nat.reduceLT, Nat.reduceMul, this, n1, n2, n3, n4, n5, n6]; first | done | rfl) | rfl)
    · rw [plV_ids, hk0]
      (first | (simp (disch := first | decide | omega | (simp only [add_next, set_next, grow_next, leave_next, drop_next, List.length_map]; first | done | omega)) only [go_sem, ↓reduceIte, Nat.reduceBEq, Nat.reduceAdd, Nat.reduceLeDiff, Nat.reduceEqDiff, Nat.reduceLT, Nat.reduceMul, n7, n8, n9, e1]; first | done | rfl) | rfl)
    · rw [plV_ids, hk0]
      exact h2
    · rw [plV_parts, hk0]
      (first | (simp (disch := first | decide | omega | (simp only [add_next, set_next, grow_next, leave_next, drop_next, List.length_map]; first | done | omega)) only [go_sem, ↓reduceIte, Nat.reduceBEq, Nat.reduceAdd, Nat.reduceLeDiff, Nat.reduceEqDiff, Nat.reduceLT, Nat.reduceMul, m1, m2]; first | done | rfl) | rfl)
    · rw [plV_parts, hk0]
      exact h4

  · have b0 : ((after : Int) != 0) = true := by simp; omega
    (simp (disch := first | decide | omega | (simp only [add_next, set_next, grow_next, leave_next, drop_next, List.length_map]; first | done | omega)) only [go_sem, ↓reduceIte, Nat.reduceBEq, Nat.reduceAdd, Nat.reduceLeDiff, Nat.reduceEqDiff, Nat.reduceLT, Nat.reduceMul, uv, b0]; (repeat (with_reducible refine And.intro (by first | omega | assumption | rfl) ?_)))
    have hFa : Fz (fun _ => True) S (((S.add (.box 28 (ownV v a b c ca cb cc).cells)).add (.box 28 (encV x).cells)).add (.box 28 [.v (.int .i64 0), .v (.int .i64 0), .v (.string ⟨#[]⟩), .sl .full [], .sl .full [], .sl .full []])) := (((Fz.refl _ S).add hS).add hS).add hS
    refine (elem_o v a b c ca cb cc (hO.fz hFa) after (by omega)).mono ?_
    rintro d T0 ⟨rfl, hFz, hT0⟩
    have hF0 : Fz (fun _ => True) S T0 := hFa.trans hFz
    have hn0 : S.next + 1 + 1 + 1 ≤ T0.next := hFz.next
    have u4 : T0.ob S.next = some (.box 28 [.v (.int .i64 v.kind), .v (.int .i64 v.n), .v (sv v.s), .win a 0 v.names.length ca, .win b 0 v.ids.length cb, .win c 0 v.parts.length cc]) := hFz.ob _ _ trivial (by (first | (simp (disch := first | decide | omega | (simp only [add_next, set_next, grow_next, leave_next, drop_next, List.length_map]; first | done | omega)) only [go_sem, ↓reduceIte, Nat.reduceBEq, Nat.reduceAdd, Nat.reduceLeDiff, Nat.reduceEqDiff, Nat.reduceLT, Nat.reduceMul]; first | done | rfl) | rfl))
    have u7 : T0.ob (S.next + 1) = some (.box 28 (encV x).cells) := hFz.ob _ _ trivial (by (first | (simp (disch := first | decide | omega | (simp only [add_next, set_next, grow_next, leave_next, drop_next, List.length_map]; first | done | omega)) only [go_sem, ↓reduceIte, Nat.reduceBEq, Nat.reduceAdd, Nat.reduceLeDiff, Nat.reduceEqDiff, Nat.reduceLT, Nat.reduceMul]; first | done | rfl) | rfl))
    have u8 : T0.ob (S.next + 1 + 1) = some (.box 28 [.v (.int .i64 0), .v (.int .i64 0), .v (.string ⟨#[]⟩), .sl .full [], .sl .full [], .sl .full []]) := hFz.ob _ _ trivial (by (first | (simp (disch := first | decide | omega | (simp only [add_next, set_next, grow_next, leave_next, drop_next, List.length_map]; first | done | omega)) only [go_sem, ↓reduceIte, Nat.reduceBEq, Nat.reduceAdd, Nat.reduceLeDiff, Nat.reduceEqDiff, Nat.reduceLT, Nat.reduceMul]; first | done | rfl) | rfl))
    have hO0 := hO.fz hF0
    by_cases hm : after ∈ v.ids
    · have he : elemV v after = .tup [.v (.int .i64 (ixN v.ids after : Int)), .v (.bool true)] := by unfold elemV; rw [if_pos ⟨h6, hm⟩]
      have hk0 : plK v after = ixN v.ids after + 1 := by unfold plK; rw [if_neg h0, if_pos hm]
      have hw : IntKind.i64.wrap ((ixN v.ids after : Int) + 1) = ((ixN v.ids after + 1 : Nat) : Int) := by
        have := ix_lt hm
        exact IntWalk.i64_in _ ⟨by omega, by omega⟩
      rw [hk0] at hkl
      (simp (disch := first | decide | omega | (simp only [add_next, set_next, grow_next, leave_next, drop_next, List.length_map]; first | done | omega)) only [go_sem, ↓reduceIte, Nat.reduceBEq, Nat.reduceAdd, Nat.reduceLeDiff, Nat.reduceEqDiff, Nat.reduceLT, Nat.reduceMul, he, hw, u4]; (repeat (with_reducible refine And.intro (by first | omega | assumption | rfl) ?_)))
      
      have l1' := hT0.lt hO0.obn
      have l2' := hT0.lt hO0.obi
      have l3' := hT0.lt hO0.obp
      have e1 : S.next ≠ T0.next := by omega
      have e2 : S.next ≠ b := by omega
      have e3 : S.next ≠ c := by omega
      have e4 : S.next + 1 ≠ T0.next := by omega
      have e5 : S.next + 1 ≠ b := by omega
      have e6 : S.next + 1 ≠ c := by omega
      have e7 : S.next + 1 + 1 ≠ T0.next := by omega
      have e8 : S.next + 1 + 1 ≠ b := by omega
      have e9 : S.next + 1 + 1 ≠ c := by omega
      have f1 : S.next ≠ T0.next + 1 := by omega
      have f2 : S.next + 1 ≠ T0.next + 1 := by omega
      have f3 : S.next + 1 + 1 ≠ T0.next + 1 := by omega
      have g1 : c ≠ T0.next := by omega
      have g2 : c ≠ b := fun e => hO.bc e.symm
      have g3 : c ≠ S.next := by omega
      refine ins_u64 (k := b) (c := cb) (zs := zi) (es := v.ids.map u64D) (x := u64D id) (i := (ixN v.ids after + 1)) hO0.obi hO0.li (wUs _) rfl (by rw [List.length_map]; exact hkl) (by rw [List.length_map]; omega) (by omega) (by rw [List.length_map]) fun cb' zi' h1 h2 => ?_
      rw [List.length_map] at h1
      (simp (disch := first | decide | omega | (simp only [add_next, set_next, grow_next, leave_next, drop_next, List.length_map]; first | done | omega)) only [go_sem, ↓reduceIte, Nat.reduceBEq, Nat.reduceAdd, Nat.reduceLeDiff, Nat.reduceEqDiff, Nat.reduceLT, Nat.reduceMul, u4, u7, u8, e1, e2, e3, e4, e5, e6, e7, e8, e9]; (repeat (with_reducible refine And.intro (by first | omega | assumption | rfl) ?_)))
      refine ins_val (k := c) (c := cc) (zs := zp) (es := v.parts.map encV) (x := encV x) (i := (ixN v.ids after + 1)) (by (first | (simp (disch := first | decide | omega | (simp only [add_next, set_next, grow_next, leave_next, drop_next, List.length_map]; first | done | omega)) only [go_sem, ↓reduceIte, Nat.reduceBEq, Nat.reduceAdd, Nat.reduceLeDiff, Nat.reduceEqDiff, Nat.reduceLT, Nat.reduceMul, hO0.obp, g1, g2, g3]; first | done | rfl) | rfl)) hO0.lp (wVs _) (cells_encV x) (by rw [List.length_map]; omega) (by rw [List.length_map]; omega) (by show c < T0.next + 1; omega) (by rw [List.length_map]) fun cc' zp' h3 h4 => ?_
      rw [List.length_map] at h3
      (simp (disch := first | decide | omega | (simp only [add_next, set_next, grow_next, leave_next, drop_next, List.length_map]; first | done | omega)) only [go_sem, ↓reduceIte, Nat.reduceBEq, Nat.reduceAdd, Nat.reduceLeDiff, Nat.reduceEqDiff, Nat.reduceLT, Nat.reduceMul, u4, u7, u8, e1, e2, e3, e4, e5, e6, e7, e8, e9, f1, f2, f3]; (repeat (with_reducible refine And.intro (by first | omega | assumption | rfl) ?_)))
      have n1 : a ≠ b := hO.ab
      have n2 : a ≠ c := hO.ac
      have n3 : a ≠ T0.next := by omega
      have n4 : a ≠ T0.next + 1 := by omega
      have n5 : a ≠ S.next := by omega
      have n6 : a ≠ S.next + 1 + 1 := by omega
      have n7 : T0.next ≠ c := by omega
      have n8 : T0.next ≠ S.next := by omega
      have n9 : T0.next ≠ S.next + 1 + 1 := by omega
      have m1 : T0.next + 1 ≠ S.next := by omega
      have m2 : T0.next + 1 ≠ S.next + 1 + 1 := by omega
      refine K_eq ?_ (hK _ T0.next (T0.next + 1) cb' cc' zi' zp' ?_ ?_ (by omega) (by omega) ⟨?_, hO.ln, ?_, ?_, ?_, ?_, by omega, by omega, by omega⟩)
      · rw [ownV, plV_ilen, plV_plen hl]; rfl
      · exact (((((((hF0.mono fun _ _ => trivial).drop hS (.inl fun h => h.1 rfl)).add hS).set hS (.inr (by omega))).drop hS (.inl fun h => h.2 rfl)).add hS).set hS (.inr (by omega))).set hS (.inr (by omega))
      · exact (((((hT0.drop _).add _).set (by show S.next < T0.next + 1; omega) _).drop _).add _).set (by show S.next < T0.next + 1 + 1; omega) _ |>.set (by show S.next + 1 + 1 < T0.next + 1 + 1; omega) _
      · have := hO0.obn
        (first | (simp (disch := first | decide | omega | (simp only [add_next, set_next, grow_next, leave_next, drop_next, List.length_map]; first | done | omega)) only [go_sem, ↓reduceIte, Nat.reduceBEq, Nat.reduceAdd, Nat.reduceLeDiff, Nat.reduceEqDiff, Nat.reduceLT, Nat.reduceMul, this, n1, n2, n3, n4, n5, n6]; first | done | rfl) | rfl)
      · rw [plV_ids, hk0]
        (first | (simp (disch := first | decide | omega | (simp only [add_next, set_next, grow_next, leave_next, drop_next, List.length_map]; first | done | omega)) only [go_sem, ↓reduceIte, Nat.reduceBEq, Nat.reduceAdd, Nat.reduceLeDiff, Nat.reduceEqDiff, Nat.reduceLT, Nat.reduceMul, n7, n8, n9, e1]; first | done | rfl) | rfl)
      · rw [plV_ids, hk0]
        exact h2
      · rw [plV_parts, hk0]
        (first | (simp (disch := first | decide | omega | (simp only [add_next, set_next, grow_next, leave_next, drop_next, List.length_map]; first | done | omega)) only [go_sem, ↓reduceIte, Nat.reduceBEq, Nat.reduceAdd, Nat.reduceLeDiff, Nat.reduceEqDiff, Nat.reduceLT, Nat.reduceMul, m1, m2]; first | done | rfl) | rfl)
      · rw [plV_parts, hk0]
        exact h4

    · have he : elemV v after = .tup [.v (.int .i64 0), .v (.bool false)] := by unfold elemV; rw [if_neg (fun h => hm h.2)]
      have hk0 : plK v after = v.ids.length := by unfold plK; rw [if_neg h0, if_neg hm]
      rw [hk0] at hkl
      (simp (disch := first | decide | omega | (simp only [add_next, set_next, grow_next, leave_next, drop_next, List.length_map]; first | done | omega)) only [go_sem, ↓reduceIte, Nat.reduceBEq, Nat.reduceAdd, Nat.reduceLeDiff, Nat.reduceEqDiff, Nat.reduceLT, Nat.reduceMul, he, u4]; (repeat (with_reducible refine And.intro (by first | omega | assumption | rfl) ?_)))
      
      have l1' := hT0.lt hO0.obn
      have l2' := hT0.lt hO0.obi
      have l3' := hT0.lt hO0.obp
      have e1 : S.next ≠ T0.next := by omega
      have e2 : S.next ≠ b := by omega
      have e3 : S.next ≠ c := by omega
      have e4 : S.next + 1 ≠ T0.next := by omega
      have e5 : S.next + 1 ≠ b := by omega
      have e6 : S.next + 1 ≠ c := by omega
      have e7 : S.next + 1 + 1 ≠ T0.next := by omega
      have e8 : S.next + 1 + 1 ≠ b := by omega
      have e9 : S.next + 1 + 1 ≠ c := by omega
      have f1 : S.next ≠ T0.next + 1 := by omega
      have f2 : S.next + 1 ≠ T0.next + 1 := by omega
      have f3 : S.next + 1 + 1 ≠ T0.next + 1 := by omega
      have g1 : c ≠ T0.next := by omega
      have g2 : c ≠ b := fun e => hO.bc e.symm
      have g3 : c ≠ S.next := by omega
      refine ins_u64 (k := b) (c := cb) (zs := zi) (es := v.ids.map u64D) (x := u64D id) (i := v.ids.length) hO0.obi hO0.li (wUs _) rfl (by rw [List.length_map]; exact hkl) (by rw [List.length_map]; omega) (by omega) (by rw [List.length_map]) fun cb' zi' h1 h2 => ?_
      rw [List.length_map] at h1
      (simp (disch := first | decide | omega | (simp only [add_next, set_next, grow_next, leave_next, drop_next, List.length_map]; first | done | omega)) only [go_sem, ↓reduceIte, Nat.reduceBEq, Nat.reduceAdd, Nat.reduceLeDiff, Nat.reduceEqDiff, Nat.reduceLT, Nat.reduceMul, u4, u7, u8, e1, e2, e3, e4, e5, e6, e7, e8, e9]; (repeat (with_reducible refine And.intro (by first | omega | assumption | rfl) ?_)))
      refine ins_val (k := c) (c := cc) (zs := zp) (es := v.parts.map encV) (x := encV x) (i := v.ids.length) (by (first | (simp (disch := first | decide | omega | (simp only [add_next, set_next, grow_next, leave_next, drop_next, List.length_map]; first | done | omega)) only [go_sem, ↓reduceIte, Nat.reduceBEq, Nat.reduceAdd, Nat.reduceLeDiff, Nat.reduceEqDiff, Nat.reduceLT, Nat.reduceMul, hO0.obp, g1, g2, g3]; first | done | rfl) | rfl)) hO0.lp (wVs _) (cells_encV x) (by rw [List.length_map]; omega) (by rw [List.length_map]; omega) (by show c < T0.next + 1; omega) (by rw [List.length_map]) fun cc' zp' h3 h4 => ?_
      rw [List.length_map] at h3
      (simp (disch := first | decide | omega | (simp only [add_next, set_next, grow_next, leave_next, drop_next, List.length_map]; first | done | omega)) only [go_sem, ↓reduceIte, Nat.reduceBEq, Nat.reduceAdd, Nat.reduceLeDiff, Nat.reduceEqDiff, Nat.reduceLT, Nat.reduceMul, u4, u7, u8, e1, e2, e3, e4, e5, e6, e7, e8, e9, f1, f2, f3]; (repeat (with_reducible refine And.intro (by first | omega | assumption | rfl) ?_)))
      have n1 : a ≠ b := hO.ab
      have n2 : a ≠ c := hO.ac
      have n3 : a ≠ T0.next := by omega
      have n4 : a ≠ T0.next + 1 := by omega
      have n5 : a ≠ S.next := by omega
      have n6 : a ≠ S.next + 1 + 1 := by omega
      have n7 : T0.next ≠ c := by omega
      have n8 : T0.next ≠ S.next := by omega
      have n9 : T0.next ≠ S.next + 1 + 1 := by omega
      have m1 : T0.next + 1 ≠ S.next := by omega
      have m2 : T0.next + 1 ≠ S.next + 1 + 1 := by omega
      refine K_eq ?_ (hK _ T0.next (T0.next + 1) cb' cc' zi' zp' ?_ ?_ (by omega) (by omega) ⟨?_, hO.ln, ?_, ?_, ?_, ?_, by omega, by omega, by omega⟩)
      · rw [ownV, plV_ilen, plV_plen hl]; rfl
      · exact (((((((hF0.mono fun _ _ => trivial).drop hS (.inl fun h => h.1 rfl)).add hS).set hS (.inr (by omega))).drop hS (.inl fun h => h.2 rfl)).add hS).set hS (.inr (by omega))).set hS (.inr (by omega))
      · exact (((((hT0.drop _).add _).set (by show S.next < T0.next + 1; omega) _).drop _).add _).set (by show S.next < T0.next + 1 + 1; omega) _ |>.set (by show S.next + 1 + 1 < T0.next + 1 + 1; omega) _
      · have := hO0.obn
        (first | (simp (disch := first | decide | omega | (simp only [add_next, set_next, grow_next, leave_next, drop_next, List.length_map]; first | done | omega)) only [go_sem, ↓reduceIte, Nat.reduceBEq, Nat.reduceAdd, Nat.reduceLeDiff, Nat.reduceEqDiff, Nat.reduceLT, Nat.reduceMul, this, n1, n2, n3, n4, n5, n6]; first | done | rfl) | rfl)
      · rw [plV_ids, hk0]
        (first | (simp (disch := first | decide | omega | (simp only [add_next, set_next, grow_next, leave_next, drop_next, List.length_map]; first | done | omega)) only [go_sem, ↓reduceIte, Nat.reduceBEq, Nat.reduceAdd, Nat.reduceLeDiff, Nat.reduceEqDiff, Nat.reduceLT, Nat.reduceMul, n7, n8, n9, e1]; first | done | rfl) | rfl)
      · rw [plV_ids, hk0]
        exact h2
      · rw [plV_parts, hk0]
        (first | (simp (disch := first | decide | omega | (simp only [add_next, set_next, grow_next, leave_next, drop_next, List.length_map]; first | done | omega)) only [go_sem, ↓reduceIte, Nat.reduceBEq, Nat.reduceAdd, Nat.reduceLeDiff, Nat.reduceEqDiff, Nat.reduceLT, Nat.reduceMul, m1, m2]; first | done | rfl) | rfl)
      · rw [plV_parts, hk0]
        exact h4

end Go.Proofs.Ytjjhjhjphhpeiaa

namespace Go.Proofs.Ytjjhjhjphhpeiaa
open Go.RowKit
set_option linter.unusedSimpArgs false
set_option linter.unusedVariables false
theorem tkV_ids (v : DVal) (k : Nat) : (tkV v k).ids.map u64D = (v.ids.map u64D).take k ++ (v.ids.map u64D).drop (k + 1) := by
  simp only [tkV, DVal.ofList, DVal.ids, List.map_append, List.map_take, List.map_drop]
theorem tkV_parts (v : DVal) (k : Nat) : (tkV v k).parts.map encV = (v.parts.map encV).take k ++ (v.parts.map encV).drop (k + 1) := by
  simp only [tkV, DVal.ofList, DVal.parts, List.map_append, List.map_take, List.map_drop]
theorem del_len {α : Type} (l : List α) {k : Nat} (h : k < l.length) : (l.take k ++ l.drop (k + 1)).length = l.length - 1 := by
  simp only [List.length_append, List.length_take, List.length_drop]; omega
theorem tkV_ilen {v : DVal} {k : Nat} (h : k < v.ids.length) : (tkV v k).ids.length = v.ids.length - 1 := del_len _ h
theorem tkV_plen {v : DVal} {k : Nat} (h : k < v.parts.length) : (tkV v k).parts.length = v.parts.length - 1 := del_len _ h
set_option maxRecDepth 200000 in
set_option maxHeartbeats 8000000 in
theorem take_o {S : St} {K : D → St → Prop} (v : DVal) (k : Nat) (a b c ca cb cc : Nat) {zn zi zp : List D} (hO : OV S v a b c ca cb cc zn zi zp) (hk : k < v.ids.length) (hl : v.parts.length = v.ids.length) (hn : v.ids.length ≤ 1000000)
    (hK : ∀ T zi' zp', Fz (fun j => j ≠ b ∧ j ≠ c) S T → T.WF → OV T (tkV v k) a b c ca cb cc zn zi' zp' → K (ownV (tkV v k) a b c ca cb cc) T) :
    DCalls Try.prog 104 [ownV v a b c ca cb cc, .v (.int .i64 (k : Int))] S K := by
  refine dcalls_inline mixed Try.func104 rfl (fun _ _ => by kernel_rfl) (rs := [.cell 4 28]) rfl (by kernel_rfl) (fun hS => ?_)
  have l1 := hS.lt hO.obn
  have l2 := hS.lt hO.obi
  have l3 := hS.lt hO.obp
  have w1 : IntKind.i64.wrap ((k : Int) + 1) = ((k + 1 : Nat) : Int) := IntWalk.i64_in _ ⟨by omega, by omega⟩
  have e1 : b ≠ S.next := by omega
  have e2 : b ≠ S.next + 1 := by omega
  have e3 : c ≠ S.next := by omega
  have e4 : c ≠ S.next + 1 := by omega
  have e5 : a ≠ S.next := by omega
  have e6 : a ≠ S.next + 1 := by omega
  have n1 := hO.ab
  have n2 := hO.ac
  have n3 := hO.bc
  have n4 : b ≠ a := fun e => n1 e.symm
  have n5 : c ≠ a := fun e => n2 e.symm
  have n6 : c ≠ b := fun e => n3 e.symm
  have e1' : S.next ≠ b := by omega
  have e2' : S.next + 1 ≠ b := by omega
  have e3' : S.next ≠ c := by omega
  have e4' : S.next + 1 ≠ c := by omega
  (simp (disch := first | decide | omega | (simp only [add_next, set_next, grow_next, leave_next, drop_next, List.length_map]; first | done | omega)) only [go_sem, ↓reduceIte, Nat.reduceBEq, Nat.reduceAdd, Nat.reduceLeDiff, Nat.reduceEqDiff, Nat.reduceLT, Nat.reduceMul, ownV, w1]; (repeat (with_reducible refine And.intro (by first | omega | assumption | rfl) ?_)))
  refine del_u64 (k := b) (c := cb) (zs := zi) (es := v.ids.map u64D) (i := k) (by (first | (simp (disch := first | decide | omega | (simp only [add_next, set_next, grow_next, leave_next, drop_next, List.length_map]; first | done | omega)) only [go_sem, ↓reduceIte, Nat.reduceBEq, Nat.reduceAdd, Nat.reduceLeDiff, Nat.reduceEqDiff, Nat.reduceLT, Nat.reduceMul, hO.obi, e1, e2]; first | done | rfl) | rfl)) hO.li (wUs _) (by rw [List.length_map]; omega) (by rw [List.length_map]; omega) (by rw [List.length_map]) fun zi' h2 => ?_
  (simp (disch := first | decide | omega | (simp only [add_next, set_next, grow_next, leave_next, drop_next, List.length_map]; first | done | omega)) only [go_sem, ↓reduceIte, Nat.reduceBEq, Nat.reduceAdd, Nat.reduceLeDiff, Nat.reduceEqDiff, Nat.reduceLT, Nat.reduceMul, w1, e1', e2', e3', e4']; (repeat (with_reducible refine And.intro (by first | omega | assumption | rfl) ?_)))
  refine del_val (k := c) (c := cc) (zs := zp) (es := v.parts.map encV) (i := k) (by (first | (simp (disch := first | decide | omega | (simp only [add_next, set_next, grow_next, leave_next, drop_next, List.length_map]; first | done | omega)) only [go_sem, ↓reduceIte, Nat.reduceBEq, Nat.reduceAdd, Nat.reduceLeDiff, Nat.reduceEqDiff, Nat.reduceLT, Nat.reduceMul, hO.obp, e3, e4, n6]; first | done | rfl) | rfl)) hO.lp (wVs _) (by rw [List.length_map]; omega) (by rw [List.length_map]; omega) (by rw [List.length_map]) fun zp' h4 => ?_
  (simp (disch := first | decide | omega | (simp only [add_next, set_next, grow_next, leave_next, drop_next, List.length_map]; first | done | omega)) only [go_sem, ↓reduceIte, Nat.reduceBEq, Nat.reduceAdd, Nat.reduceLeDiff, Nat.reduceEqDiff, Nat.reduceLT, Nat.reduceMul, w1, e1', e2', e3', e4']; (repeat (with_reducible refine And.intro (by first | omega | assumption | rfl) ?_)))
  refine K_eq ?_ (hK _ zi' zp' ?_ ?_ ⟨?_, hO.ln, ?_, ?_, ?_, ?_, n1, n2, n3⟩)
  · rw [ownV, tkV_ilen hk, tkV_plen (by omega)]; rfl
  · exact ((((((Fz.refl _ S).add hS).add hS).set hS (.inl fun h => h.1 rfl)).set hS (.inr (by omega))).set hS (.inl fun h => h.2 rfl)).set hS (.inr (by omega)) |>.set hS (.inr (by omega))
  · exact ((((((hS.add _).add _).set (by show b < S.next + 1 + 1; omega) _).set (by show S.next < S.next + 1 + 1; omega) _).set (by show c < S.next + 1 + 1; omega) _).set (by show S.next < S.next + 1 + 1; omega) _).set (by show S.next + 1 < S.next + 1 + 1; omega) _
  · (first | (simp (disch := first | decide | omega | (simp only [add_next, set_next, grow_next, leave_next, drop_next, List.length_map]; first | done | omega)) only [go_sem, ↓reduceIte, Nat.reduceBEq, Nat.reduceAdd, Nat.reduceLeDiff, Nat.reduceEqDiff, Nat.reduceLT, Nat.reduceMul, hO.obn, n1, n2, e5, e6]; first | done | rfl) | rfl)
  · rw [tkV_ids]
    (first | (simp (disch := first | decide | omega | (simp only [add_next, set_next, grow_next, leave_next, drop_next, List.length_map]; first | done | omega)) only [go_sem, ↓reduceIte, Nat.reduceBEq, Nat.reduceAdd, Nat.reduceLeDiff, Nat.reduceEqDiff, Nat.reduceLT, Nat.reduceMul, n3, e1, e2]; first | done | rfl) | rfl)
  · rw [tkV_ids]
    exact h2
  · rw [tkV_parts]
    (first | (simp (disch := first | decide | omega | (simp only [add_next, set_next, grow_next, leave_next, drop_next, List.length_map]; first | done | omega)) only [go_sem, ↓reduceIte, Nat.reduceBEq, Nat.reduceAdd, Nat.reduceLeDiff, Nat.reduceEqDiff, Nat.reduceLT, Nat.reduceMul, e3, e4]; first | done | rfl) | rfl)
  · rw [tkV_parts]
    exact h4
theorem flat_at {es zs : List D} {z i : Nat} (hw : ∀ d ∈ es, d.width = z) (hi : i < es.length) : ((flat es ++ zs).drop (i * z)).take z = es[i].cells := by
  have h1 : (flat es).length = es.length * z := dflat_length hw
  have h2 : i * z ≤ es.length * z := Nat.mul_le_mul_right _ (by omega)
  have h3 : es[i].cells.length = z := hw _ (List.getElem_mem hi)
  rw [List.drop_append_of_le_length (by omega), flat_drop hw, List.drop_eq_getElem_cons hi, flat_cons, List.append_assoc, List.take_append_of_le_length (by omega), List.take_of_length_le (by omega)]
theorem OV.set {T : St} {v : DVal} {a b c ca cb cc k : Nat} {zn zi zp : List D} {o : Ob} (h : OV T v a b c ca cb cc zn zi zp) (h1 : a ≠ k) (h2 : b ≠ k) (h3 : c ≠ k) : OV (T.set k o) v a b c ca cb cc zn zi zp :=
  ⟨by simp [St.set, h1, h.obn], h.ln, by simp [St.set, h2, h.obi], h.li, by simp [St.set, h3, h.obp], h.lp, h.ab, h.ac, h.bc⟩
theorem OV.add {T : St} (hT : T.WF) {v : DVal} {a b c ca cb cc : Nat} {zn zi zp : List D} {o : Ob} (h : OV T v a b c ca cb cc zn zi zp) : OV (T.add o) v a b c ca cb cc zn zi zp := h.fz ((Fz.refl _ T).add hT)
def elK (o : DOp) (v : DVal) : Nat := ixN v.ids o.id
/-- What an operation makes of a list. -/
def lsV (o : DOp) (v : DVal) : DVal :=
  if o.kind = 2 then (if o.id ∉ v.ids ∧ v.ids.length < 12 then plV v o.id o.after o.val else v)
  else if o.id ∉ v.ids then v
  else if o.kind = 4 then plV (tkV v (elK o v)) o.id o.after (v.parts.getD (elK o v) default)
  else tkV v (elK o v)
set_option maxRecDepth 200000 in
set_option maxHeartbeats 8000000 in
theorem list_o {S : St} {K : D → St → Prop} (o : DOp) (v : DVal) (a b c ca cb cc : Nat) {zn zi zp : List D} (hO : OV S v a b c ca cb cc zn zi zp) (h6 : v.kind = 6) (hl : v.parts.length = v.ids.length) (hn : v.ids.length ≤ 1000000) (how : o.val.weight ≤ 1000000) (hnn : v.names.length ≤ 1000000)
    (hK : ∀ T b' c' cb' cc' zi' zp', Fz (fun j => j ≠ b ∧ j ≠ c) S T → T.WF → (b' = b ∨ S.next ≤ b') → (c' = c ∨ S.next ≤ c') → OV T (lsV o v) a b' c' ca cb' cc' zn zi' zp' → K (ownV (lsV o v) a b' c' ca cb' cc') T) :
    DCalls Try.prog 79 [encO o, ownV v a b c ca cb cc] S K := by
  refine dcalls_inline mixed Try.func79 rfl (fun _ _ => by kernel_rfl) (rs := [.cell 4 28]) rfl (by kernel_rfl) (fun hS => ?_)
  have l1 := hS.lt hO.obn
  have l2 := hS.lt hO.obi
  have l3 := hS.lt hO.obp
  have n1 := hO.ab
  have n2 := hO.ac
  have n3 := hO.bc
  (simp (disch := first | decide | omega | (simp only [add_next, set_next, grow_next, leave_next, drop_next, List.length_map]; first | done | omega)) only [go_sem, ↓reduceIte, Nat.reduceBEq, Nat.reduceAdd, Nat.reduceLeDiff, Nat.reduceEqDiff, Nat.reduceLT, Nat.reduceMul, opCs]; (repeat (with_reducible refine And.intro (by first | omega | assumption | rfl) ?_)))
  have hFa : Fz (fun _ => True) S (((S.add (.box 53 (opCs .no o))).add (.box 28 (ownV v a b c ca cb cc).cells)).add (.box 28 [.v (.int .i64 0), .v (.int .i64 0), .v (.string ⟨#[]⟩), .sl .full [], .sl .full [], .sl .full []])) := (((Fz.refl _ S).add hS).add hS).add hS
  refine (elem_o v a b c ca cb cc (hO.fz hFa) o.id (by omega)).mono ?_
  rintro d T0 ⟨rfl, hFz, hT0⟩
  have hF0 : Fz (fun _ => True) S T0 := hFa.trans hFz
  have hn0 : S.next + 1 + 1 + 1 ≤ T0.next := hFz.next
  have u2 : T0.ob S.next = some (.box 53 (opCs .no o)) := hFz.ob _ _ trivial (by (first | (simp (disch := first | decide | omega | (simp only [add_next, set_next, grow_next, leave_next, drop_next, List.length_map]; first | done | omega)) only [go_sem, ↓reduceIte, Nat.reduceBEq, Nat.reduceAdd, Nat.reduceLeDiff, Nat.reduceEqDiff, Nat.reduceLT, Nat.reduceMul, opCs]; first | done | rfl) | rfl))
  have u3 : T0.ob (S.next + 1) = some (.box 28 (ownV v a b c ca cb cc).cells) := hFz.ob _ _ trivial (by (first | (simp (disch := first | decide | omega | (simp only [add_next, set_next, grow_next, leave_next, drop_next, List.length_map]; first | done | omega)) only [go_sem, ↓reduceIte, Nat.reduceBEq, Nat.reduceAdd, Nat.reduceLeDiff, Nat.reduceEqDiff, Nat.reduceLT, Nat.reduceMul]; first | done | rfl) | rfl))
  have u4 : T0.ob (S.next + 1 + 1) = some (.box 28 [.v (.int .i64 0), .v (.int .i64 0), .v (.string ⟨#[]⟩), .sl .full [], .sl .full [], .sl .full []]) := hFz.ob _ _ trivial (by (first | (simp (disch := first | decide | omega | (simp only [add_next, set_next, grow_next, leave_next, drop_next, List.length_map]; first | done | omega)) only [go_sem, ↓reduceIte, Nat.reduceBEq, Nat.reduceAdd, Nat.reduceLeDiff, Nat.reduceEqDiff, Nat.reduceLT, Nat.reduceMul]; first | done | rfl) | rfl))
  have hO0 := hO.fz hF0
  have e1 : S.next ≠ b := by omega
  have e2 : S.next ≠ c := by omega
  have e3 : S.next + 1 ≠ b := by omega
  have e4 : S.next + 1 ≠ c := by omega
  have e5 : S.next + 1 + 1 ≠ b := by omega
  have e6 : S.next + 1 + 1 ≠ c := by omega
  by_cases hm : o.id ∈ v.ids
  · have he : elemV v o.id = .tup [.v (.int .i64 (ixN v.ids o.id : Int)), .v (.bool true)] := by unfold elemV; rw [if_pos ⟨h6, hm⟩]
    have hk := ix_lt hm
    by_cases k2 : o.kind = 2
    · have b2 : (o.kind == 2) = true := by simp [k2]
      (simp (disch := first | decide | omega | (simp only [add_next, set_next, grow_next, leave_next, drop_next, List.length_map]; first | done | omega)) only [go_sem, ↓reduceIte, Nat.reduceBEq, Nat.reduceAdd, Nat.reduceLeDiff, Nat.reduceEqDiff, Nat.reduceLT, Nat.reduceMul, he, u2, u3, u4, b2, opCs]; (repeat (with_reducible refine And.intro (by first | omega | assumption | rfl) ?_)))
      have hs : lsV o v = v := by rw [lsV, if_pos k2, if_neg (fun h => h.1 hm)]
      rw [hs] at hK
      exact hK _ b c cb cc zi zp ((hF0.mono fun _ _ => trivial).set hS (.inr (by omega))) (hT0.set (by omega) _) (.inl rfl) (.inl rfl) (hO0.set (by omega) (by omega) (by omega))
    · have b2 : (o.kind == 2) = false := by simp [k2]
      by_cases k4 : o.kind = 4
      · have b4 : (o.kind == 4) = true := by simp [k4]
        have hob := hO0.obp
        rw [ownOb_box (by have := ownOb_len (wVs v.parts) (by omega) hO.lp; rw [List.length_map] at this; omega)] at hob
        have hpl : ixN v.ids o.id < v.parts.length := by omega
        have hfa := flat_at (zs := zp) (wVs v.parts) (i := ixN v.ids o.id) (by rw [List.length_map]; exact hpl)
        rw [List.getElem_map] at hfa
        have hfl : ixN v.ids o.id * 6 + 6 ≤ (flat (v.parts.map encV) ++ zp).length := by
          rw [List.length_append, dflat_length (wVs v.parts), List.length_map]
          have : (ixN v.ids o.id + 1) * 6 ≤ v.parts.length * 6 := Nat.mul_le_mul_right _ hpl
          omega
        have hs : lsV o v = plV (tkV v (ixN v.ids o.id)) o.id o.after v.parts[ixN v.ids o.id] := by rw [lsV, if_neg k2, if_neg (fun h => h hm), if_pos k4, elK, getD_at hpl]
        rw [hs] at hK
        have q1 : S.next ≠ T0.next := by omega
        have q2 : S.next + 1 ≠ T0.next := by omega
        have q3 : S.next + 1 + 1 ≠ T0.next := by omega
        (simp (disch := first | decide | omega | (simp only [add_next, set_next, grow_next, leave_next, drop_next, List.length_map]; first | done | omega)) only [go_sem, ↓reduceIte, Nat.reduceBEq, Nat.reduceAdd, Nat.reduceLeDiff, Nat.reduceEqDiff, Nat.reduceLT, Nat.reduceMul, he, u2, u3, u4, b2, b4, opCs, hob, hfa, q1, q2, q3]; (repeat (with_reducible refine And.intro (by first | omega | assumption | rfl) ?_)))
        obtain ⟨T2, hT2e⟩ : ∃ T2, (T0.add (.box 28 [.v (.int .i64 0), .v (.int .i64 0), .v (.string ⟨#[]⟩), .sl .full [], .sl .full [], .sl .full []])).set T0.next (.box 28 (encV v.parts[ixN v.ids o.id]).cells) = T2 := ⟨_, rfl⟩
        have hT2 : T2.WF := by rw [← hT2e]; exact (hT0.add _).set (by show T0.next < T0.next + 1; omega) _
        have hF2 : Fz (fun _ => True) T0 T2 := by rw [← hT2e]; exact ((Fz.refl _ T0).add hT0).set hT0 (.inr (Nat.le_refl _))
        have hn2 : T2.next = T0.next + 1 := by rw [← hT2e]; rfl
        have w2 := hF2.ob _ _ trivial u2
        have w3 := hF2.ob _ _ trivial u3
        have w4 := hF2.ob _ _ trivial u4
        have w7 : T2.ob T0.next = some (.box 28 (encV v.parts[ixN v.ids o.id]).cells) := by rw [← hT2e]; (first | (simp (disch := first | decide | omega | (simp only [add_next, set_next, grow_next, leave_next, drop_next, List.length_map]; first | done | omega)) only [go_sem, ↓reduceIte, Nat.reduceBEq, Nat.reduceAdd, Nat.reduceLeDiff, Nat.reduceEqDiff, Nat.reduceLT, Nat.reduceMul]; first | done | rfl) | rfl)
        have hO2 := hO0.fz hF2
        rw [hT2e]
        refine ddraw_any (fun S' => S'.ob S.next = some (.box 53 (opCs .no o)) ∧ S'.ob (S.next + 1) = some (.box 28 (ownV v a b c ca cb cc).cells) ∧ S'.ob T0.next = some (.box 28 (encV v.parts[ixN v.ids o.id]).cells)) 8 (by (first | (simp (disch := first | decide | omega | (simp only [add_next, set_next, grow_next, leave_next, drop_next, List.length_map]; first | done | omega)) only [go_sem, ↓reduceIte, Nat.reduceBEq, Nat.reduceAdd, Nat.reduceLeDiff, Nat.reduceEqDiff, Nat.reduceLT, Nat.reduceMul, w2, w3, w7]; first | done | rfl) | rfl)) (by kernel_rfl) ?_
        (refine s_take 0 rfl (by kernel_rfl) (by kernel_rfl) (v := ?v1) (fun S' hz => dquietR_of ?h1) ?k1; (case h1 => ((simp (disch := first | decide | omega | (simp only [add_next, set_next, grow_next, leave_next, drop_next, List.length_map]; first | done | omega)) only [go_sem, ↓reduceIte, Nat.reduceBEq, Nat.reduceAdd, Nat.reduceLeDiff, Nat.reduceEqDiff, Nat.reduceLT, Nat.reduceMul, opCs, hz]; (repeat (with_reducible refine And.intro (by first | omega | assumption | rfl) ?_))); first | done | exact rfl | omega)); refine s_take 1 rfl (by kernel_rfl) (by kernel_rfl) (v := ?v2) (fun S' hz => dquietR_of ?h2) ?k2; (case h2 => ((simp (disch := first | decide | omega | (simp only [add_next, set_next, grow_next, leave_next, drop_next, List.length_map]; first | done | omega)) only [go_sem, ↓reduceIte, Nat.reduceBEq, Nat.reduceAdd, Nat.reduceLeDiff, Nat.reduceEqDiff, Nat.reduceLT, Nat.reduceMul, opCs, hz]; (repeat (with_reducible refine And.intro (by first | omega | assumption | rfl) ?_))); first | done | exact rfl | omega)); refine s_take 3 rfl (by kernel_rfl) (by kernel_rfl) (v := ?v3) (fun S' hz => dquietR_of ?h3) ?k3; (case h3 => ((simp (disch := first | decide | omega | (simp only [add_next, set_next, grow_next, leave_next, drop_next, List.length_map]; first | done | omega)) only [go_sem, ↓reduceIte, Nat.reduceBEq, Nat.reduceAdd, Nat.reduceLeDiff, Nat.reduceEqDiff, Nat.reduceLT, Nat.reduceMul, opCs, hz]; (repeat (with_reducible refine And.intro (by first | omega | assumption | rfl) ?_))); first | done | exact rfl | omega)); refine s_take 4 rfl (by kernel_rfl) (by kernel_rfl) (v := ?v4) (fun S' hz => dquietR_of ?h4) ?k4; (case h4 => ((simp (disch := first | decide | omega | (simp only [add_next, set_next, grow_next, leave_next, drop_next, List.length_map]; first | done | omega)) only [go_sem, ↓reduceIte, Nat.reduceBEq, Nat.reduceAdd, Nat.reduceLeDiff, Nat.reduceEqDiff, Nat.reduceLT, Nat.reduceMul, opCs, hz]; (repeat (with_reducible refine And.intro (by first | omega | assumption | rfl) ?_))); first | done | exact rfl | omega)); refine s_take 5 rfl (by kernel_rfl) (by kernel_rfl) (v := ?v5) (fun S' hz => dquietR_of ?h5) ?k5; (case h5 => ((simp (disch := first | decide | omega | (simp only [add_next, set_next, grow_next, leave_next, drop_next, List.length_map]; first | done | omega)) only [go_sem, ↓reduceIte, Nat.reduceBEq, Nat.reduceAdd, Nat.reduceLeDiff, Nat.reduceEqDiff, Nat.reduceLT, Nat.reduceMul, opCs, hz]; (repeat (with_reducible refine And.intro (by first | omega | assumption | rfl) ?_))); first | done | exact rfl | omega)); refine s_take 6 rfl (by kernel_rfl) (by kernel_rfl) (v := ?v6) (fun S' hz => dquietR_of ?h6) ?k6; (case h6 => ((simp (disch := first | decide | omega | (simp only [add_next, set_next, grow_next, leave_next, drop_next, List.length_map]; first | done | omega)) only [go_sem, ↓reduceIte, Nat.reduceBEq, Nat.reduceAdd, Nat.reduceLeDiff, Nat.reduceEqDiff, Nat.reduceLT, Nat.reduceMul, opCs, hz]; (repeat (with_reducible refine And.intro (by first | omega | assumption | rfl) ?_))); first | done | exact rfl | omega)); refine s_take 7 rfl (by kernel_rfl) (by kernel_rfl) (v := ?v7) (fun S' hz => dquietR_of ?h7) ?k7; (case h7 => ((simp (disch := first | decide | omega | (simp only [add_next, set_next, grow_next, leave_next, drop_next, List.length_map]; first | done | omega)) only [go_sem, ↓reduceIte, Nat.reduceBEq, Nat.reduceAdd, Nat.reduceLeDiff, Nat.reduceEqDiff, Nat.reduceLT, Nat.reduceMul, opCs, hz]; (repeat (with_reducible refine And.intro (by first | omega | assumption | rfl) ?_))); first | done | exact rfl | omega)))
        (refine s_split [2] (by kernel_rfl) (by simp) ?_; intro j_ hj_; obtain rfl : j_ = 2 := (by simpa using hj_); clear hj_; refine s_op rfl ?_; (simp (disch := first | decide | omega | (simp only [add_next, set_next, grow_next, leave_next, drop_next, List.length_map]; first | done | omega)) only [go_sem, ↓reduceIte, Nat.reduceBEq, Nat.reduceAdd, Nat.reduceLeDiff, Nat.reduceEqDiff, Nat.reduceLT, Nat.reduceMul, w3]; (repeat (with_reducible refine And.intro (by first | omega | assumption | rfl) ?_))))
        refine take_o v (ixN v.ids o.id) a b c ca cb cc hO2 hk hl hn fun T3 zi' zp' hF3 hT3 hO3 => ?_
        have q4 : T0.next ≠ b := by omega
        have q5 : T0.next ≠ c := by omega
        have x2 := hF3.ob _ _ ⟨e1, e2⟩ w2
        have x3 := hF3.ob _ _ ⟨e3, e4⟩ w3
        have x4 := hF3.ob _ _ ⟨e5, e6⟩ w4
        have x7 := hF3.ob _ _ ⟨q4, q5⟩ w7
        have hn3 := hF3.next
        refine ⟨⟨x2, x3, x7⟩, ?_⟩
        (refine s_done (by kernel_rfl) ?_; (simp (disch := first | decide | omega | (simp only [add_next, set_next, grow_next, leave_next, drop_next, List.length_map]; first | done | omega)) only [go_sem, ↓reduceIte, Nat.reduceBEq, Nat.reduceAdd, Nat.reduceLeDiff, Nat.reduceEqDiff, Nat.reduceLT, Nat.reduceMul, x2, x3, x7, opCs]; (repeat (with_reducible refine And.intro (by first | omega | assumption | rfl) ?_))))
        have t1 := tkV_ilen hk
        have t2 := tkV_plen hpl
        refine place_o (tkV v (ixN v.ids o.id)) v.parts[ixN v.ids o.id] o.id o.after a b c ca cb cc hO3 h6 (by omega) (by omega) fun T1 b' c' cb' cc' zi' zp' hF1 hT1 hb1 hc1 hO1 => ?_
        have v3 := hF1.ob _ _ ⟨e3, e4⟩ x3
        have v4 := hF1.ob _ _ ⟨e5, e6⟩ x4
        have hn1 := hF1.next
        (simp (disch := first | decide | omega | (simp only [add_next, set_next, grow_next, leave_next, drop_next, List.length_map]; first | done | omega)) only [go_sem, ↓reduceIte, Nat.reduceBEq, Nat.reduceAdd, Nat.reduceLeDiff, Nat.reduceEqDiff, Nat.reduceLT, Nat.reduceMul, v3, v4]; (repeat (with_reducible refine And.intro (by first | omega | assumption | rfl) ?_)))
        exact hK _ b' c' cb' cc' zi' zp' ((((((hF0.trans hF2).mono fun _ _ => trivial).trans hF3).trans hF1).set hS (.inr (by omega))).set hS (.inr (by omega))) ((hT1.set (by omega) _).set (by show S.next + 1 + 1 < T1.next; omega) _)  (.inr (by omega)) (.inr (by omega)) ((hO1.set (k := S.next + 1) (by omega) (by omega) (by omega)).set (k := S.next + 1 + 1) (by omega) (by omega) (by omega))
      · have b4 : (o.kind == 4) = false := by simp [k4]
        (simp (disch := first | decide | omega | (simp only [add_next, set_next, grow_next, leave_next, drop_next, List.length_map]; first | done | omega)) only [go_sem, ↓reduceIte, Nat.reduceBEq, Nat.reduceAdd, Nat.reduceLeDiff, Nat.reduceEqDiff, Nat.reduceLT, Nat.reduceMul, he, u2, u3, u4, b2, b4, opCs]; (repeat (with_reducible refine And.intro (by first | omega | assumption | rfl) ?_)))
        have hs : lsV o v = tkV v (ixN v.ids o.id) := by rw [lsV, if_neg k2, if_neg (fun h => h hm), if_neg k4]; rfl
        rw [hs] at hK
        refine take_o v (ixN v.ids o.id) a b c ca cb cc hO0 hk hl hn fun T1 zi' zp' hF1 hT1 hO1 => ?_
        have v3 := hF1.ob _ _ ⟨e3, e4⟩ u3
        have v4 := hF1.ob _ _ ⟨e5, e6⟩ u4
        have hn1 := hF1.next
        (simp (disch := first | decide | omega | (simp only [add_next, set_next, grow_next, leave_next, drop_next, List.length_map]; first | done | omega)) only [go_sem, ↓reduceIte, Nat.reduceBEq, Nat.reduceAdd, Nat.reduceLeDiff, Nat.reduceEqDiff, Nat.reduceLT, Nat.reduceMul, v3, v4]; (repeat (with_reducible refine And.intro (by first | omega | assumption | rfl) ?_)))
        exact hK _ b c cb cc zi' zp' ((((hF0.mono fun _ _ => trivial).trans hF1).set hS (.inr (by omega))).set hS (.inr (by omega))) ((hT1.set (by omega) _).set (by show S.next + 1 + 1 < T1.next; omega) _)  (.inl rfl) (.inl rfl) ((hO1.set (k := S.next + 1) (by omega) (by omega) (by omega)).set (k := S.next + 1 + 1) (by omega) (by omega) (by omega))
  · have he : elemV v o.id = .tup [.v (.int .i64 0), .v (.bool false)] := by unfold elemV; rw [if_neg (fun h => hm h.2)]
    by_cases k2 : o.kind = 2
    · have b2 : (o.kind == 2) = true := by simp [k2]
      by_cases h12 : v.ids.length < 12
      · have b3 : decide ((v.ids.length : Int) < 12) = true := by simp; omega
        (simp (disch := first | decide | omega | (simp only [add_next, set_next, grow_next, leave_next, drop_next, List.length_map]; first | done | omega)) only [go_sem, ↓reduceIte, Nat.reduceBEq, Nat.reduceAdd, Nat.reduceLeDiff, Nat.reduceEqDiff, Nat.reduceLT, Nat.reduceMul, he, u2, u3, u4, b2, b3, opCs]; (repeat (with_reducible refine And.intro (by first | omega | assumption | rfl) ?_)))
        have hs : lsV o v = plV v o.id o.after o.val := by rw [lsV, if_pos k2, if_pos ⟨hm, h12⟩]
        rw [hs] at hK
        refine ddraw_mk 8 (by kernel_rfl) ?_
        (simp (disch := first | decide | omega | (simp only [add_next, set_next, grow_next, leave_next, drop_next, List.length_map]; first | done | omega)) only [go_sem, ↓reduceIte, Nat.reduceBEq, Nat.reduceAdd, Nat.reduceLeDiff, Nat.reduceEqDiff, Nat.reduceLT, Nat.reduceMul, u2, u3, u4, opCs]; (repeat (with_reducible refine And.intro (by first | omega | assumption | rfl) ?_)))
        refine dqgo_mk (copyV_d o.val.depth o.val (Nat.le_refl _) how) ?_
        (simp (disch := first | decide | omega | (simp only [add_next, set_next, grow_next, leave_next, drop_next, List.length_map]; first | done | omega)) only [go_sem, ↓reduceIte, Nat.reduceBEq, Nat.reduceAdd, Nat.reduceLeDiff, Nat.reduceEqDiff, Nat.reduceLT, Nat.reduceMul, u2, u3, u4, opCs]; (repeat (with_reducible refine And.intro (by first | omega | assumption | rfl) ?_)))
        refine place_o v o.val o.id o.after a b c ca cb cc hO0 h6 hl hn fun T1 b' c' cb' cc' zi' zp' hF1 hT1 hb1 hc1 hO1 => ?_
        have v3 := hF1.ob _ _ ⟨e3, e4⟩ u3
        have v4 := hF1.ob _ _ ⟨e5, e6⟩ u4
        have hn1 := hF1.next
        (simp (disch := first | decide | omega | (simp only [add_next, set_next, grow_next, leave_next, drop_next, List.length_map]; first | done | omega)) only [go_sem, ↓reduceIte, Nat.reduceBEq, Nat.reduceAdd, Nat.reduceLeDiff, Nat.reduceEqDiff, Nat.reduceLT, Nat.reduceMul, v3, v4]; (repeat (with_reducible refine And.intro (by first | omega | assumption | rfl) ?_)))
        exact hK _ b' c' cb' cc' zi' zp' ((((hF0.mono fun _ _ => trivial).trans hF1).set hS (.inr (by omega))).set hS (.inr (by omega))) ((hT1.set (by omega) _).set (by show S.next + 1 + 1 < T1.next; omega) _)  (.inr (by omega)) (.inr (by omega)) ((hO1.set (k := S.next + 1) (by omega) (by omega) (by omega)).set (k := S.next + 1 + 1) (by omega) (by omega) (by omega))
      · have b3 : decide ((v.ids.length : Int) < 12) = false := by simp; omega
        (simp (disch := first | decide | omega | (simp only [add_next, set_next, grow_next, leave_next, drop_next, List.length_map]; first | done | omega)) only [go_sem, ↓reduceIte, Nat.reduceBEq, Nat.reduceAdd, Nat.reduceLeDiff, Nat.reduceEqDiff, Nat.reduceLT, Nat.reduceMul, he, u2, u3, u4, b2, b3, opCs]; (repeat (with_reducible refine And.intro (by first | omega | assumption | rfl) ?_)))
        have hs : lsV o v = v := by rw [lsV, if_pos k2, if_neg (fun h => h12 h.2)]
        rw [hs] at hK
        exact hK _ b c cb cc zi zp ((hF0.mono fun _ _ => trivial).set hS (.inr (by omega))) (hT0.set (by omega) _) (.inl rfl) (.inl rfl) (hO0.set (by omega) (by omega) (by omega))
    · have b2 : (o.kind == 2) = false := by simp [k2]
      (simp (disch := first | decide | omega | (simp only [add_next, set_next, grow_next, leave_next, drop_next, List.length_map]; first | done | omega)) only [go_sem, ↓reduceIte, Nat.reduceBEq, Nat.reduceAdd, Nat.reduceLeDiff, Nat.reduceEqDiff, Nat.reduceLT, Nat.reduceMul, he, u2, u3, u4, b2, opCs]; (repeat (with_reducible refine And.intro (by first | omega | assumption | rfl) ?_)))
      have hs : lsV o v = v := by rw [lsV, if_neg k2, if_pos hm]
      rw [hs] at hK
      exact hK _ b c cb cc zi zp ((hF0.mono fun _ _ => trivial).set hS (.inr (by omega))) (hT0.set (by omega) _) (.inl rfl) (.inl rfl) (hO0.set (by omega) (by omega) (by omega))
end Go.Proofs.Ytjjhjhjphhpeiaa

namespace Go.Proofs.Ytjjhjhjphhpeiaa
open Go.RowKit
set_option linter.unusedSimpArgs false
def greatP (p : List DStp) : Bool := decide (40 < p.length) || p.any fun q => decide (100 < q.1.length)
set_option maxRecDepth 200000 in
set_option maxHeartbeats 8000000 in
theorem greatP_d (p : List DStp) (own : Own) : DPure Try.prog 49 [.sl own (p.map encP)] (.v (.bool (greatP p))) := by
  refine dpure_of_dwp mixed Try.func49 rfl (fun _ _ => by kernel_rfl) (rs := [.tmp 2]) rfl (by kernel_rfl) trivial (fun S hS => ?_)
  by_cases hl : 40 < p.length
  · have b0 : decide ((40 : Int) < (p.length : Int)) = true := by simp; omega
    (simp (disch := first | decide | omega | (simp only [add_next, set_next, grow_next, leave_next, drop_next, List.length_map]; first | done | omega)) only [go_sem, ↓reduceIte, Nat.reduceBEq, Nat.reduceAdd, Nat.reduceLeDiff, Nat.reduceEqDiff, Nat.reduceLT, Nat.reduceMul, b0]; (repeat (with_reducible refine And.intro (by first | omega | assumption | rfl) ?_)))
    refine ⟨?_, (by (repeat' first | assumption | exact St.Sub.refl _ | exact RowOk.sub (by assumption) (by assumption) | refine St.Sub.trans ?_ (RowOk.sub (by assumption) (by assumption)) | refine St.Sub.add ?_ ?_ _ | refine St.Sub.set ?_ ?_ ?_ _ | refine St.Sub.keep ?_ ?_ | refine St.WF.leave ?_ _ | refine St.WF.add ?_ _ | refine St.WF.set ?_ ?_ _ | refine St.WF.grow ?_ _ _ _ | refine St.WF.keep ?_ ?_ | (first | omega | (simp only [RowOk.lo, add_next, set_next, grow_next, leave_next, drop_next]; first | done | omega))))⟩
    rw [greatP, decide_eq_true hl]; rfl
  · have b0 : decide ((40 : Int) < (p.length : Int)) = false := by simp; omega
    (simp (disch := first | decide | omega | (simp only [add_next, set_next, grow_next, leave_next, drop_next, List.length_map]; first | done | omega)) only [go_sem, ↓reduceIte, Nat.reduceBEq, Nat.reduceAdd, Nat.reduceLeDiff, Nat.reduceEqDiff, Nat.reduceLT, Nat.reduceMul, b0]; (repeat (with_reducible refine And.intro (by first | omega | assumption | rfl) ?_)))
    (refine dloop_st (fun t => List.contains [2, 3, 7, 8, 9, 10, 11, 12, 13, 14, 15, 16, 17, 18, 19] t) (by kernel_rfl) ?_ (p.length) (fun i f => i ≤ p.length ∧ f 3 = .v (.int .i64 (i : Nat)) ∧ (∀ j (hj : j < p.length), j < i → ¬ 100 < p[j].1.length)) ?_ ?_; (exact (by (repeat' first | assumption | refine St.WF.leave ?_ _ | refine St.WF.add ?_ _ | refine St.WF.set ?_ ?_ _ | refine St.WF.grow ?_ _ _ _ | refine St.WF.keep ?_ ?_ | (first | omega | (simp only [RowOk.lo, add_next, set_next, grow_next, leave_next, drop_next]; first | done | omega))))); (exact ⟨(by omega), (by (first | (simp (disch := first | decide | omega | (simp only [add_next, set_next, grow_next, leave_next, drop_next, List.length_map]; first | done | omega)) only [go_sem, ↓reduceIte, Nat.reduceBEq, Nat.reduceAdd, Nat.reduceLeDiff, Nat.reduceEqDiff, Nat.reduceLT, Nat.reduceMul]; first | done | rfl) | rfl)), (fun j _ hj => by omega)⟩); intro i g tn hn hT hg hI; obtain ⟨le, q3, hno⟩ := hI; have q0 := hg 0 rfl; simp (disch := first | decide | omega | (simp only [add_next, set_next, grow_next, leave_next, drop_next, List.length_map]; first | done | omega)) only [go_sem, ↓reduceIte, Nat.reduceBEq, Nat.reduceAdd, Nat.reduceLeDiff, Nat.reduceEqDiff, Nat.reduceLT, Nat.reduceMul] at q0; clear hg; have hn' := hn; try simp only [add_next, set_next, grow_next, leave_next, drop_next] at hn')
    by_cases hlt : i < p.length
    · have b1 : decide ((i : Int) < (p.length : Int)) = true := by simp; omega
      have w1 : IntKind.i64.wrap ((i : Int) + 1) = ((i + 1 : Nat) : Int) := IntWalk.i64_in _ ⟨by omega, by omega⟩
      by_cases hx : 100 < p[i].1.length
      · have b2 : decide ((100 : Int) < (p[i].1.length : Int)) = true := by simp; omega
        (simp (disch := first | decide | omega | (simp only [add_next, set_next, grow_next, leave_next, drop_next, List.length_map]; first | done | omega)) only [go_sem, ↓reduceIte, Nat.reduceBEq, Nat.reduceAdd, Nat.reduceLeDiff, Nat.reduceEqDiff, Nat.reduceLT, Nat.reduceMul, q0, q3, b1, b2, strB_size]; (repeat (with_reducible refine And.intro (by first | omega | assumption | rfl) ?_)))
        refine ⟨?_, (by (repeat' first | assumption | exact St.Sub.refl _ | exact RowOk.sub (by assumption) (by assumption) | refine St.Sub.trans ?_ (RowOk.sub (by assumption) (by assumption)) | refine St.Sub.add ?_ ?_ _ | refine St.Sub.set ?_ ?_ ?_ _ | refine St.Sub.keep ?_ ?_ | refine St.WF.leave ?_ _ | refine St.WF.add ?_ _ | refine St.WF.set ?_ ?_ _ | refine St.WF.grow ?_ _ _ _ | refine St.WF.keep ?_ ?_ | (first | omega | (simp only [RowOk.lo, add_next, set_next, grow_next, leave_next, drop_next]; first | done | omega))))⟩
        have h1 : (p.any fun q => decide (100 < q.1.length)) = true := List.any_eq_true.2 ⟨p[i], List.getElem_mem hlt, by simp [hx]⟩
        rw [greatP, h1, Bool.or_true]; rfl
      · have b2 : decide ((100 : Int) < (p[i].1.length : Int)) = false := by simp; omega
        (simp (disch := first | decide | omega | (simp only [add_next, set_next, grow_next, leave_next, drop_next, List.length_map]; first | done | omega)) only [go_sem, ↓reduceIte, Nat.reduceBEq, Nat.reduceAdd, Nat.reduceLeDiff, Nat.reduceEqDiff, Nat.reduceLT, Nat.reduceMul, q0, q3, b1, b2, strB_size, w1]; (repeat (with_reducible refine And.intro (by first | omega | assumption | rfl) ?_)))
        (refine ⟨by omega, (by (repeat' first | assumption | exact St.Sub.refl _ | exact RowOk.sub (by assumption) (by assumption) | refine St.Sub.trans ?_ (RowOk.sub (by assumption) (by assumption)) | refine St.Sub.add ?_ ?_ _ | refine St.Sub.set ?_ ?_ ?_ _ | refine St.Sub.keep ?_ ?_ | refine St.WF.leave ?_ _ | refine St.WF.add ?_ _ | refine St.WF.set ?_ ?_ _ | refine St.WF.grow ?_ _ _ _ | refine St.WF.keep ?_ ?_ | (first | omega | (simp only [RowOk.lo, add_next, set_next, grow_next, leave_next, drop_next]; first | done | omega)))), ?_⟩; refine ⟨by omega, ?_, ?_⟩; all_goals (try (first | (simp (disch := first | decide | omega | (simp only [add_next, set_next, grow_next, leave_next, drop_next, List.length_map]; first | done | omega)) only [go_sem, ↓reduceIte, Nat.reduceBEq, Nat.reduceAdd, Nat.reduceLeDiff, Nat.reduceEqDiff, Nat.reduceLT, Nat.reduceMul, w1]; first | done | rfl) | rfl)))
        intro j hj hji
        by_cases e : j = i
        · subst e; exact hx
        · exact hno j hj (by omega)
    · have b1 : decide ((i : Int) < (p.length : Int)) = false := by simp; omega
      (simp (disch := first | decide | omega | (simp only [add_next, set_next, grow_next, leave_next, drop_next, List.length_map]; first | done | omega)) only [go_sem, ↓reduceIte, Nat.reduceBEq, Nat.reduceAdd, Nat.reduceLeDiff, Nat.reduceEqDiff, Nat.reduceLT, Nat.reduceMul, q0, q3, b1]; (repeat (with_reducible refine And.intro (by first | omega | assumption | rfl) ?_)))
      refine ⟨?_, (by (repeat' first | assumption | exact St.Sub.refl _ | exact RowOk.sub (by assumption) (by assumption) | refine St.Sub.trans ?_ (RowOk.sub (by assumption) (by assumption)) | refine St.Sub.add ?_ ?_ _ | refine St.Sub.set ?_ ?_ ?_ _ | refine St.Sub.keep ?_ ?_ | refine St.WF.leave ?_ _ | refine St.WF.add ?_ _ | refine St.WF.set ?_ ?_ _ | refine St.WF.grow ?_ _ _ _ | refine St.WF.keep ?_ ?_ | (first | omega | (simp only [RowOk.lo, add_next, set_next, grow_next, leave_next, drop_next]; first | done | omega))))⟩
      have h1 : (p.any fun q => decide (100 < q.1.length)) = false := by
        rw [List.any_eq_false]
        intro q hq
        obtain ⟨j, hj, rfl⟩ := List.getElem_of_mem hq
        simpa using hno j hj (by omega)
      rw [greatP, decide_eq_false hl, h1]; rfl
end Go.Proofs.Ytjjhjhjphhpeiaa

namespace Go.Proofs.Ytjjhjhjphhpeiaa
open Go.RowKit
set_option linter.unusedSimpArgs false
set_option linter.unusedVariables false
section
variable {P : Program} {t : TypeId} {x y : Operand}
theorem bin_or (k : IntKind) (a b : Int) : dbin P .or t x y (.v (.int k a)) (.v (.int k b)) = some (True, .v (.int k (bits .or k a b))) := by
  simp [dbin, eqGuard, binOp, intBits_or, pureRun_bind, pureRun_pure]
theorem bin_xor (k : IntKind) (a b : Int) : dbin P .xor t x y (.v (.int k a)) (.v (.int k b)) = some (True, .v (.int k (bits .xor k a b))) := by
  simp [dbin, eqGuard, binOp, intBits_xor, pureRun_bind, pureRun_pure]
theorem bin_andNot (k : IntKind) (a b : Int) : dbin P .andNot t x y (.v (.int k a)) (.v (.int k b)) = some (True, .v (.int k (bits .andNot k a b))) := by
  simp [dbin, eqGuard, binOp, intBits_andNot, pureRun_bind, pureRun_pure]
theorem bin_shr7 (a : Nat) : dbin P .shr t x y (.v (.int .u64 a)) (.v (.int .u64 7)) = some (True, .v (.int .u64 ((a / 128 : Nat) : Int))) := by
  simp [dbin, eqGuard, binOp, shift_shr .u64 .u64 (a : Int) 7 (by omega) (by decide), pureRun_bind, pureRun_pure]
theorem bin_shr63 (a : Int) : dbin P .shr t x y (.v (.int .i64 a)) (.v (.int .u64 63)) = some (True, .v (.int .i64 (a / 9223372036854775808))) := by
  simp [dbin, eqGuard, binOp, shift_shr .i64 .u64 a 63 (by omega) (by decide), pureRun_bind, pureRun_pure]
theorem bin_shl1 (a : Int) : dbin P .shl t x y (.v (.int .u64 a)) (.v (.int .u64 1)) = some (True, .v (.int .u64 (IntKind.u64.wrap (a * 2)))) := by
  simp [dbin, eqGuard, binOp, Op.shift, IntKind.bits, pureRun_bind, pureRun_pure]
end
theorem cv_u64u8 (n : Int) : pureRun Try.prog (convert 24 5 (.int .u64 n)) = some (.int .u8 (IntKind.u8.wrap n)) := by kernel_rfl
theorem cv_i64u64 (n : Int) : pureRun Try.prog (convert 3 24 (.int .i64 n)) = some (.int .u64 (IntKind.u64.wrap n)) := by kernel_rfl
theorem cv_u64i64 (n : Int) : pureRun Try.prog (convert 24 3 (.int .u64 n)) = some (.int .i64 (IntKind.i64.wrap n)) := by kernel_rfl
theorem cv_u8u64 (n : Int) : pureRun Try.prog (convert 5 24 (.int .u8 n)) = some (.int .u64 (IntKind.u64.wrap n)) := by kernel_rfl
theorem cv_i64u8 (n : Int) : pureRun Try.prog (convert 3 5 (.int .i64 n)) = some (.int .u8 (IntKind.u8.wrap n)) := by kernel_rfl
theorem u8T_u8 : u8T Try.prog 5 = true := by kernel_rfl
attribute [go_sem] u8T_u8
attribute [go_sem] bin_or bin_xor bin_andNot bin_shr7 bin_shr63 bin_shl1 cv_u64u8 cv_i64u64 cv_u64i64 cv_u8u64 cv_i64u8
end Go.Proofs.Ytjjhjhjphhpeiaa

namespace Go.Proofs.Ytjjhjhjphhpeiaa
open Go.RowKit
set_option linter.unusedSimpArgs false
set_option linter.unusedVariables false
section
variable {P : Program} {f : Fm} {S : St}
theorem pfin_ret3 (t u v : Tmp) (S' : St) (d : D) : DQ.pfin P [.tmp t, .tmp u, .tmp v] S d .ret f S' = PFin S S' (.tup [f t, f u, f v]) d := by
  simp [DQ.pfin, dresL, dres, onVal, one]
theorem pfin_normal3 (t u v : Tmp) (S' : St) (d : D) : DQ.pfin P [.tmp t, .tmp u, .tmp v] S d .normal f S' = PFin S S' (.tup [f t, f u, f v]) d := by
  simp [DQ.pfin, dresL, dres, onVal, one]
end
attribute [go_sem] pfin_ret3 pfin_normal3
end Go.Proofs.Ytjjhjhjphhpeiaa

namespace Go.Proofs.Ytjjhjhjphhpeiaa
open Go.RowKit
set_option linter.unusedSimpArgs false
set_option linter.unusedVariables false
section
variable {P : Program} {t : TypeId} {x : Operand}
theorem bin_nil_eql (c : Value) : dbin Try.prog .eql 57 x (.const c) (.v .nilIface) (.v .nilIface) = some (True, .v (.bool true)) := by cases x <;> kernel_rfl
theorem bin_nil_neq (c : Value) : dbin Try.prog .neq 57 x (.const c) (.v .nilIface) (.v .nilIface) = some (True, .v (.bool false)) := by cases x <;> kernel_rfl
end
attribute [go_sem] bin_nil_eql bin_nil_neq
end Go.Proofs.Ytjjhjhjphhpeiaa

namespace Go.Proofs.Ytjjhjhjphhpeiaa
open Go.RowKit
set_option linter.unusedSimpArgs false
set_option linter.unusedVariables false
theorem name_d (s : Str) (hs : s.length ≤ maxLen) : DPure Try.prog 116 [.v (sv s)] (.v (.bool (nameB s))) :=
  dpure_of_gives (fun _ _ => by kernel_rfl) fun w η X vs hr => by
    simp only [RepL, Rep] at hr
    obtain ⟨x, xs, rfl, rfl, rfl⟩ := hr
    exact name_calls s w hs
theorem nameB_nil : nameB [] = false := by decide
def fineB (p : DStp) : Bool := (nameB p.1 && ((p.2 : Int) == 0)) || (p.1 == [] && !((p.2 : Int) == 0))
set_option maxRecDepth 200000 in
set_option maxHeartbeats 8000000 in
theorem fine_d (p : DStp) (hl : p.1.length ≤ maxLen) : DPure Try.prog 123 [encP p] (.v (.bool (fineB p))) := by
  refine dpure_of_dwp mixed Try.func123 rfl (fun _ _ => by kernel_rfl) (rs := [.tmp 2]) rfl (by kernel_rfl) trivial (fun S hS => ?_)
  by_cases h0 : p.1 = []
  · have b1 : (p.1 == []) = true := by simp [h0]
    (simp (disch := first | decide | omega | (simp only [add_next, set_next, grow_next, leave_next, drop_next, List.length_map]; first | done | omega)) only [go_sem, ↓reduceIte, Nat.reduceBEq, Nat.reduceAdd, Nat.reduceLeDiff, Nat.reduceEqDiff, Nat.reduceLT, Nat.reduceMul, encP, b1]; (repeat (with_reducible refine And.intro (by first | omega | assumption | rfl) ?_)))
    refine ⟨?_, (by (repeat' first | assumption | exact St.Sub.refl _ | exact RowOk.sub (by assumption) (by assumption) | refine St.Sub.trans ?_ (RowOk.sub (by assumption) (by assumption)) | refine St.Sub.add ?_ ?_ _ | refine St.Sub.set ?_ ?_ ?_ _ | refine St.Sub.keep ?_ ?_ | refine St.WF.leave ?_ _ | refine St.WF.add ?_ _ | refine St.WF.set ?_ ?_ _ | refine St.WF.grow ?_ _ _ _ | refine St.WF.keep ?_ ?_ | (first | omega | (simp only [RowOk.lo, add_next, set_next, grow_next, leave_next, drop_next]; first | done | omega))))⟩
    rw [fineB, b1, h0, nameB_nil]; simp [D.frz, bne]
  · have b1 : (p.1 == []) = false := by simp [h0]
    cases b2 : ((p.2 : Int) == 0)
    · (simp (disch := first | decide | omega | (simp only [add_next, set_next, grow_next, leave_next, drop_next, List.length_map]; first | done | omega)) only [go_sem, ↓reduceIte, Nat.reduceBEq, Nat.reduceAdd, Nat.reduceLeDiff, Nat.reduceEqDiff, Nat.reduceLT, Nat.reduceMul, encP, b1, b2]; (repeat (with_reducible refine And.intro (by first | omega | assumption | rfl) ?_)))
      refine ⟨?_, (by (repeat' first | assumption | exact St.Sub.refl _ | exact RowOk.sub (by assumption) (by assumption) | refine St.Sub.trans ?_ (RowOk.sub (by assumption) (by assumption)) | refine St.Sub.add ?_ ?_ _ | refine St.Sub.set ?_ ?_ ?_ _ | refine St.Sub.keep ?_ ?_ | refine St.WF.leave ?_ _ | refine St.WF.add ?_ _ | refine St.WF.set ?_ ?_ _ | refine St.WF.grow ?_ _ _ _ | refine St.WF.keep ?_ ?_ | (first | omega | (simp only [RowOk.lo, add_next, set_next, grow_next, leave_next, drop_next]; first | done | omega))))⟩
      rw [fineB, b1, b2]; simp [D.frz]
    · (simp (disch := first | decide | omega | (simp only [add_next, set_next, grow_next, leave_next, drop_next, List.length_map]; first | done | omega)) only [go_sem, ↓reduceIte, Nat.reduceBEq, Nat.reduceAdd, Nat.reduceLeDiff, Nat.reduceEqDiff, Nat.reduceLT, Nat.reduceMul, encP, b1, b2]; (repeat (with_reducible refine And.intro (by first | omega | assumption | rfl) ?_)))
      refine DCalls.of_pure (name_d p.1 hl) ?_
      (simp (disch := first | decide | omega | (simp only [add_next, set_next, grow_next, leave_next, drop_next, List.length_map]; first | done | omega)) only [go_sem, ↓reduceIte, Nat.reduceBEq, Nat.reduceAdd, Nat.reduceLeDiff, Nat.reduceEqDiff, Nat.reduceLT, Nat.reduceMul]; (repeat (with_reducible refine And.intro (by first | omega | assumption | rfl) ?_)))
      refine ⟨?_, (by (repeat' first | assumption | exact St.Sub.refl _ | exact RowOk.sub (by assumption) (by assumption) | refine St.Sub.trans ?_ (RowOk.sub (by assumption) (by assumption)) | refine St.Sub.add ?_ ?_ _ | refine St.Sub.set ?_ ?_ ?_ _ | refine St.Sub.keep ?_ ?_ | refine St.WF.leave ?_ _ | refine St.WF.add ?_ _ | refine St.WF.set ?_ ?_ _ | refine St.WF.grow ?_ _ _ _ | refine St.WF.keep ?_ ?_ | (first | omega | (simp only [RowOk.lo, add_next, set_next, grow_next, leave_next, drop_next]; first | done | omega))))⟩
      rw [fineB, b1, b2]; simp [D.frz]
set_option maxRecDepth 200000 in
set_option maxHeartbeats 8000000 in
theorem notFine_d (p : DStp) (hl : p.1.length ≤ maxLen) : DPure Try.prog 122 [encP p] (.v (.bool (!fineB p))) := by
  refine dpure_of_dwp mixed Try.func122 rfl (fun _ _ => by kernel_rfl) (rs := [.tmp 2]) rfl (by kernel_rfl) trivial (fun S hS => ?_)
  (simp (disch := first | decide | omega | (simp only [add_next, set_next, grow_next, leave_next, drop_next, List.length_map]; first | done | omega)) only [go_sem, ↓reduceIte, Nat.reduceBEq, Nat.reduceAdd, Nat.reduceLeDiff, Nat.reduceEqDiff, Nat.reduceLT, Nat.reduceMul, encP]; (repeat (with_reducible refine And.intro (by first | omega | assumption | rfl) ?_)))
  refine DCalls.of_pure (fine_d p hl) ?_
  (simp (disch := first | decide | omega | (simp only [add_next, set_next, grow_next, leave_next, drop_next, List.length_map]; first | done | omega)) only [go_sem, ↓reduceIte, Nat.reduceBEq, Nat.reduceAdd, Nat.reduceLeDiff, Nat.reduceEqDiff, Nat.reduceLT, Nat.reduceMul]; (repeat (with_reducible refine And.intro (by first | omega | assumption | rfl) ?_)))
  refine ⟨?_, (by (repeat' first | assumption | exact St.Sub.refl _ | exact RowOk.sub (by assumption) (by assumption) | refine St.Sub.trans ?_ (RowOk.sub (by assumption) (by assumption)) | refine St.Sub.add ?_ ?_ _ | refine St.Sub.set ?_ ?_ ?_ _ | refine St.Sub.keep ?_ ?_ | refine St.WF.leave ?_ _ | refine St.WF.add ?_ _ | refine St.WF.set ?_ ?_ _ | refine St.WF.grow ?_ _ _ _ | refine St.WF.keep ?_ ?_ | (first | omega | (simp only [RowOk.lo, add_next, set_next, grow_next, leave_next, drop_next]; first | done | omega))))⟩
  rfl
def ixF (l : List DStp) : Int := match l.findIdx? (fun p => !fineB p) with
  | some i => i
  | none => -1
set_option maxRecDepth 200000 in
set_option maxHeartbeats 8000000 in
theorem ixF_d (own : Own) (l : List DStp) (hl : l.length ≤ 1000000) (hs : ∀ p ∈ l, p.1.length ≤ maxLen) : DPure Try.prog 136 [.sl own (l.map encP), .fn (.func 122) [] []] (.v (.int .i64 (ixF l))) := by
  refine dpure_of_dwp mixed Try.func136 rfl (fun _ _ => by kernel_rfl) (rs := [.tmp 4]) rfl (by kernel_rfl) trivial (fun S hS => ?_)
  (simp (disch := first | decide | omega | (simp only [add_next, set_next, grow_next, leave_next, drop_next, List.length_map]; first | done | omega)) only [go_sem, ↓reduceIte, Nat.reduceBEq, Nat.reduceAdd, Nat.reduceLeDiff, Nat.reduceEqDiff, Nat.reduceLT, Nat.reduceMul]; (repeat (with_reducible refine And.intro (by first | omega | assumption | rfl) ?_)))
  (refine dloop_st (fun t => List.contains [4, 5, 8, 9, 10, 11, 12, 13, 14, 15, 16, 17, 18] t) (by kernel_rfl) ?_ (l.length) (fun i f => i ≤ l.length ∧ f 8 = .v (.int .i64 (i : Nat)) ∧ (∀ j (hj : j < l.length), j < i → fineB l[j] = true)) ?_ ?_; (exact (by (repeat' first | assumption | refine St.WF.leave ?_ _ | refine St.WF.add ?_ _ | refine St.WF.set ?_ ?_ _ | refine St.WF.grow ?_ _ _ _ | refine St.WF.keep ?_ ?_ | (first | omega | (simp only [RowOk.lo, add_next, set_next, grow_next, leave_next, drop_next]; first | done | omega))))); (exact ⟨(by omega), (by (first | (simp (disch := first | decide | omega | (simp only [add_next, set_next, grow_next, leave_next, drop_next, List.length_map]; first | done | omega)) only [go_sem, ↓reduceIte, Nat.reduceBEq, Nat.reduceAdd, Nat.reduceLeDiff, Nat.reduceEqDiff, Nat.reduceLT, Nat.reduceMul]; first | done | rfl) | rfl)), (fun j _ hj => by omega)⟩); intro i g tn hn hT hg hI; obtain ⟨le, q8, hno⟩ := hI; have q0 := hg 0 rfl; have q1 := hg 1 rfl; have q7 := hg 7 rfl; simp (disch := first | decide | omega | (simp only [add_next, set_next, grow_next, leave_next, drop_next, List.length_map]; first | done | omega)) only [go_sem, ↓reduceIte, Nat.reduceBEq, Nat.reduceAdd, Nat.reduceLeDiff, Nat.reduceEqDiff, Nat.reduceLT, Nat.reduceMul] at q0 q1 q7; clear hg; have hn' := hn; try simp only [add_next, set_next, grow_next, leave_next, drop_next] at hn')
  by_cases hlt : i < l.length
  · have b1 : decide ((i : Int) < (l.length : Int)) = true := by simp; omega
    have w1 : IntKind.i64.wrap ((i : Int) + 1) = ((i + 1 : Nat) : Int) := IntWalk.i64_in _ ⟨by omega, by omega⟩
    (simp (disch := first | decide | omega | (simp only [add_next, set_next, grow_next, leave_next, drop_next, List.length_map]; first | done | omega)) only [go_sem, ↓reduceIte, Nat.reduceBEq, Nat.reduceAdd, Nat.reduceLeDiff, Nat.reduceEqDiff, Nat.reduceLT, Nat.reduceMul, q0, q1, q7, q8, b1]; (repeat (with_reducible refine And.intro (by first | omega | assumption | rfl) ?_)))
    refine DCalls.of_pure (notFine_d l[i] (hs _ (List.getElem_mem hlt))) ?_
    cases hf : fineB l[i]
    · (simp (disch := first | decide | omega | (simp only [add_next, set_next, grow_next, leave_next, drop_next, List.length_map]; first | done | omega)) only [go_sem, ↓reduceIte, Nat.reduceBEq, Nat.reduceAdd, Nat.reduceLeDiff, Nat.reduceEqDiff, Nat.reduceLT, Nat.reduceMul, q0, q1, q7, q8, b1]; (repeat (with_reducible refine And.intro (by first | omega | assumption | rfl) ?_)))
      refine ⟨?_, (by (repeat' first | assumption | exact St.Sub.refl _ | exact RowOk.sub (by assumption) (by assumption) | refine St.Sub.trans ?_ (RowOk.sub (by assumption) (by assumption)) | refine St.Sub.add ?_ ?_ _ | refine St.Sub.set ?_ ?_ ?_ _ | refine St.Sub.keep ?_ ?_ | refine St.WF.leave ?_ _ | refine St.WF.add ?_ _ | refine St.WF.set ?_ ?_ _ | refine St.WF.grow ?_ _ _ _ | refine St.WF.keep ?_ ?_ | (first | omega | (simp only [RowOk.lo, add_next, set_next, grow_next, leave_next, drop_next]; first | done | omega))))⟩
      have h1 : l.findIdx? (fun p => !fineB p) = some i := List.findIdx?_eq_some_iff_getElem.2 ⟨hlt, by simp [hf], fun j hj => by simp [hno j (by omega) hj]⟩
      rw [ixF, h1]; rfl
    · (simp (disch := first | decide | omega | (simp only [add_next, set_next, grow_next, leave_next, drop_next, List.length_map]; first | done | omega)) only [go_sem, ↓reduceIte, Nat.reduceBEq, Nat.reduceAdd, Nat.reduceLeDiff, Nat.reduceEqDiff, Nat.reduceLT, Nat.reduceMul, q0, q1, q7, q8, b1, w1]; (repeat (with_reducible refine And.intro (by first | omega | assumption | rfl) ?_)))
      (refine ⟨by omega, (by (repeat' first | assumption | exact St.Sub.refl _ | exact RowOk.sub (by assumption) (by assumption) | refine St.Sub.trans ?_ (RowOk.sub (by assumption) (by assumption)) | refine St.Sub.add ?_ ?_ _ | refine St.Sub.set ?_ ?_ ?_ _ | refine St.Sub.keep ?_ ?_ | refine St.WF.leave ?_ _ | refine St.WF.add ?_ _ | refine St.WF.set ?_ ?_ _ | refine St.WF.grow ?_ _ _ _ | refine St.WF.keep ?_ ?_ | (first | omega | (simp only [RowOk.lo, add_next, set_next, grow_next, leave_next, drop_next]; first | done | omega)))), ?_⟩; refine ⟨by omega, ?_, ?_⟩; all_goals (try (first | (simp (disch := first | decide | omega | (simp only [add_next, set_next, grow_next, leave_next, drop_next, List.length_map]; first | done | omega)) only [go_sem, ↓reduceIte, Nat.reduceBEq, Nat.reduceAdd, Nat.reduceLeDiff, Nat.reduceEqDiff, Nat.reduceLT, Nat.reduceMul, w1]; first | done | rfl) | rfl)))
      intro j hj hji
      by_cases e : j = i
      · subst e; exact hf
      · exact hno j hj (by omega)
  · have b1 : decide ((i : Int) < (l.length : Int)) = false := by simp; omega
    (simp (disch := first | decide | omega | (simp only [add_next, set_next, grow_next, leave_next, drop_next, List.length_map]; first | done | omega)) only [go_sem, ↓reduceIte, Nat.reduceBEq, Nat.reduceAdd, Nat.reduceLeDiff, Nat.reduceEqDiff, Nat.reduceLT, Nat.reduceMul, q0, q1, q7, q8, b1]; (repeat (with_reducible refine And.intro (by first | omega | assumption | rfl) ?_)))
    refine ⟨?_, (by (repeat' first | assumption | exact St.Sub.refl _ | exact RowOk.sub (by assumption) (by assumption) | refine St.Sub.trans ?_ (RowOk.sub (by assumption) (by assumption)) | refine St.Sub.add ?_ ?_ _ | refine St.Sub.set ?_ ?_ ?_ _ | refine St.Sub.keep ?_ ?_ | refine St.WF.leave ?_ _ | refine St.WF.add ?_ _ | refine St.WF.set ?_ ?_ _ | refine St.WF.grow ?_ _ _ _ | refine St.WF.keep ?_ ?_ | (first | omega | (simp only [RowOk.lo, add_next, set_next, grow_next, leave_next, drop_next]; first | done | omega))))⟩
    have h1 : l.findIdx? (fun p => !fineB p) = none := List.findIdx?_eq_none_iff.2 fun x hx => by
      obtain ⟨j, hj, rfl⟩ := List.getElem_of_mem hx
      simp [hno j hj (by omega)]
    rw [ixF, h1]; rfl
theorem ixF_le (l : List DStp) : decide ((0 : Int) ≤ ixF l) = !l.all fineB := by
  unfold ixF
  split
  · rename_i i h
    obtain ⟨hi, h1, _⟩ := List.findIdx?_eq_some_iff_getElem.1 h
    rw [show l.all fineB = false from List.all_eq_false.2 ⟨l[i], List.getElem_mem hi, by simpa using h1⟩]
    simp
  · rename_i h
    have h1 := List.findIdx?_eq_none_iff.1 h
    rw [show l.all fineB = true from List.all_eq_true.2 fun x hx => by simpa using h1 x hx]
    rfl
set_option maxRecDepth 200000 in
set_option maxHeartbeats 8000000 in
theorem anyNot_d (own : Own) (l : List DStp) (hl : l.length ≤ 1000000) (hs : ∀ p ∈ l, p.1.length ≤ maxLen) : DPure Try.prog 121 [.sl own (l.map encP), .fn (.func 122) [] []] (.v (.bool (!l.all fineB))) := by
  refine dpure_of_dwp mixed Try.func121 rfl (fun _ _ => by kernel_rfl) (rs := [.tmp 4]) rfl (by kernel_rfl) trivial (fun S hS => ?_)
  (simp (disch := first | decide | omega | (simp only [add_next, set_next, grow_next, leave_next, drop_next, List.length_map]; first | done | omega)) only [go_sem, ↓reduceIte, Nat.reduceBEq, Nat.reduceAdd, Nat.reduceLeDiff, Nat.reduceEqDiff, Nat.reduceLT, Nat.reduceMul]; (repeat (with_reducible refine And.intro (by first | omega | assumption | rfl) ?_)))
  refine DCalls.of_pure (ixF_d own l hl hs) ?_
  (simp (disch := first | decide | omega | (simp only [add_next, set_next, grow_next, leave_next, drop_next, List.length_map]; first | done | omega)) only [go_sem, ↓reduceIte, Nat.reduceBEq, Nat.reduceAdd, Nat.reduceLeDiff, Nat.reduceEqDiff, Nat.reduceLT, Nat.reduceMul]; (repeat (with_reducible refine And.intro (by first | omega | assumption | rfl) ?_)))
  refine ⟨?_, (by (repeat' first | assumption | exact St.Sub.refl _ | exact RowOk.sub (by assumption) (by assumption) | refine St.Sub.trans ?_ (RowOk.sub (by assumption) (by assumption)) | refine St.Sub.add ?_ ?_ _ | refine St.Sub.set ?_ ?_ ?_ _ | refine St.Sub.keep ?_ ?_ | refine St.WF.leave ?_ _ | refine St.WF.add ?_ _ | refine St.WF.set ?_ ?_ _ | refine St.WF.grow ?_ _ _ _ | refine St.WF.keep ?_ ?_ | (first | omega | (simp only [RowOk.lo, add_next, set_next, grow_next, leave_next, drop_next]; first | done | omega))))⟩
  rw [ixF_le]; rfl
def rightP (l : List DStp) : Bool := decide (l.length ≤ 8) && l.all fineB
set_option maxRecDepth 200000 in
set_option maxHeartbeats 8000000 in
theorem pathRight_d (own : Own) (l : List DStp) (hl : l.length ≤ 1000000) (hs : ∀ p ∈ l, p.1.length ≤ maxLen) : DPure Try.prog 100 [.sl own (l.map encP)] (.v (.bool (rightP l))) := by
  refine dpure_of_dwp mixed Try.func100 rfl (fun _ _ => by kernel_rfl) (rs := [.tmp 2]) rfl (by kernel_rfl) trivial (fun S hS => ?_)
  by_cases h8 : l.length ≤ 8
  · have b1 : decide ((l.length : Int) ≤ 8) = true := by simp; omega
    (simp (disch := first | decide | omega | (simp only [add_next, set_next, grow_next, leave_next, drop_next, List.length_map]; first | done | omega)) only [go_sem, ↓reduceIte, Nat.reduceBEq, Nat.reduceAdd, Nat.reduceLeDiff, Nat.reduceEqDiff, Nat.reduceLT, Nat.reduceMul, b1]; (repeat (with_reducible refine And.intro (by first | omega | assumption | rfl) ?_)))
    refine DCalls.of_pure (anyNot_d own l hl hs) ?_
    (simp (disch := first | decide | omega | (simp only [add_next, set_next, grow_next, leave_next, drop_next, List.length_map]; first | done | omega)) only [go_sem, ↓reduceIte, Nat.reduceBEq, Nat.reduceAdd, Nat.reduceLeDiff, Nat.reduceEqDiff, Nat.reduceLT, Nat.reduceMul]; (repeat (with_reducible refine And.intro (by first | omega | assumption | rfl) ?_)))
    refine ⟨?_, (by (repeat' first | assumption | exact St.Sub.refl _ | exact RowOk.sub (by assumption) (by assumption) | refine St.Sub.trans ?_ (RowOk.sub (by assumption) (by assumption)) | refine St.Sub.add ?_ ?_ _ | refine St.Sub.set ?_ ?_ ?_ _ | refine St.Sub.keep ?_ ?_ | refine St.WF.leave ?_ _ | refine St.WF.add ?_ _ | refine St.WF.set ?_ ?_ _ | refine St.WF.grow ?_ _ _ _ | refine St.WF.keep ?_ ?_ | (first | omega | (simp only [RowOk.lo, add_next, set_next, grow_next, leave_next, drop_next]; first | done | omega))))⟩
    rw [rightP, decide_eq_true h8]; simp [D.frz]
  · have b1 : decide ((l.length : Int) ≤ 8) = false := by simp; omega
    (simp (disch := first | decide | omega | (simp only [add_next, set_next, grow_next, leave_next, drop_next, List.length_map]; first | done | omega)) only [go_sem, ↓reduceIte, Nat.reduceBEq, Nat.reduceAdd, Nat.reduceLeDiff, Nat.reduceEqDiff, Nat.reduceLT, Nat.reduceMul, b1]; (repeat (with_reducible refine And.intro (by first | omega | assumption | rfl) ?_)))
    refine ⟨?_, (by (repeat' first | assumption | exact St.Sub.refl _ | exact RowOk.sub (by assumption) (by assumption) | refine St.Sub.trans ?_ (RowOk.sub (by assumption) (by assumption)) | refine St.Sub.add ?_ ?_ _ | refine St.Sub.set ?_ ?_ ?_ _ | refine St.Sub.keep ?_ ?_ | refine St.WF.leave ?_ _ | refine St.WF.add ?_ _ | refine St.WF.set ?_ ?_ _ | refine St.WF.grow ?_ _ _ _ | refine St.WF.keep ?_ ?_ | (first | omega | (simp only [RowOk.lo, add_next, set_next, grow_next, leave_next, drop_next]; first | done | omega))))⟩
    rw [rightP, decide_eq_false h8]; rfl
end Go.Proofs.Ytjjhjhjphhpeiaa

namespace Go.Proofs.Ytjjhjhjphhpeiaa
open Go.RowKit
set_option linter.unusedSimpArgs false
attribute [go_sem] sv_beq
def zeroS : DSch := .mk 0 [] []
theorem schCopy_d (s : DSch) (hok : okS s) (hw : s.weight ≤ 1000000) : DPure Try.prog 102 [encS s] (encS s) := fun S _ η w vs hM hr => by
  obtain ⟨cs, rfl, hv⟩ := arg_sch hok hr
  exact .inl ⟨by kernel_rfl, (schCopy_calls s.depth s cs w (Nat.le_refl _) hw hv).mono fun _ w' ⟨cs, he, hv, hb⟩ => ⟨encS s, _, η, .agg cs.toArray, ⟨rfl, rfl⟩, he, rep_sch (F := fun b => w.heap.size ≤ b ∧ b < w'.heap.size) (fun b i hF k o h1 _ => by have := (hM.in_ k b h1).2; omega) hv, goes_below hM hb⟩⟩
def wholeS (s : DSch) : Bool := decide (s.kind = 5) && decide (s.words.length ≤ s.parts.length)
set_option maxRecDepth 200000 in
set_option maxHeartbeats 4000000 in
theorem wholeS_d (s : DSch) : DPure Try.prog 124 [encS s] (.v (.bool (wholeS s))) := by
  refine dpure_of_dwp mixed Try.func124 rfl (fun _ _ => by kernel_rfl) (rs := [.tmp 2]) rfl (by kernel_rfl) trivial (fun S hS => ?_)
  by_cases h5 : s.kind = 5
  · have b5 : (s.kind == 5) = true := by simp [h5]
    (simp (disch := first | decide | omega | (simp only [add_next, set_next, grow_next, leave_next, drop_next, List.length_map]; first | done | omega)) only [go_sem, ↓reduceIte, Nat.reduceBEq, Nat.reduceAdd, Nat.reduceLeDiff, Nat.reduceEqDiff, Nat.reduceLT, Nat.reduceMul, encS_eq s, b5]; (repeat (with_reducible refine And.intro (by first | omega | assumption | rfl) ?_)))
    refine ⟨?_, (by (repeat' first | assumption | exact St.Sub.refl _ | exact RowOk.sub (by assumption) (by assumption) | refine St.Sub.trans ?_ (RowOk.sub (by assumption) (by assumption)) | refine St.Sub.add ?_ ?_ _ | refine St.Sub.set ?_ ?_ ?_ _ | refine St.Sub.keep ?_ ?_ | refine St.WF.leave ?_ _ | refine St.WF.add ?_ _ | refine St.WF.set ?_ ?_ _ | refine St.WF.grow ?_ _ _ _ | refine St.WF.keep ?_ ?_ | (first | omega | (simp only [RowOk.lo, add_next, set_next, grow_next, leave_next, drop_next]; first | done | omega))))⟩
    simp only [D.frz, wholeS, decide_eq_true h5, Bool.true_and]
    congr 3
    exact propext ⟨fun h => by omega, fun h => by omega⟩
  · have b5 : (s.kind == 5) = false := by simp [h5]
    (simp (disch := first | decide | omega | (simp only [add_next, set_next, grow_next, leave_next, drop_next, List.length_map]; first | done | omega)) only [go_sem, ↓reduceIte, Nat.reduceBEq, Nat.reduceAdd, Nat.reduceLeDiff, Nat.reduceEqDiff, Nat.reduceLT, Nat.reduceMul, encS_eq s, b5]; (repeat (with_reducible refine And.intro (by first | omega | assumption | rfl) ?_)))
    refine ⟨?_, (by (repeat' first | assumption | exact St.Sub.refl _ | exact RowOk.sub (by assumption) (by assumption) | refine St.Sub.trans ?_ (RowOk.sub (by assumption) (by assumption)) | refine St.Sub.add ?_ ?_ _ | refine St.Sub.set ?_ ?_ ?_ _ | refine St.Sub.keep ?_ ?_ | refine St.WF.leave ?_ _ | refine St.WF.add ?_ _ | refine St.WF.set ?_ ?_ _ | refine St.WF.grow ?_ _ _ _ | refine St.WF.keep ?_ ?_ | (first | omega | (simp only [RowOk.lo, add_next, set_next, grow_next, leave_next, drop_next]; first | done | omega))))⟩
    simp only [D.frz, wholeS, decide_eq_false h5, Bool.false_and]
def fieldS (s : DSch) (x : Str) : Option DSch := if wholeS s = true ∧ x ∈ s.words then some (s.parts.getD (ixN s.words x) default) else none
def tupS (o : Option DSch) : D := .tup [encS (o.getD zeroS), .v (.bool o.isSome)]
theorem tupS_closed (o : Option DSch) : (tupS o).closed := by
  simp only [tupS, D.closed, D.all, allL, and_true]; exact closed_encS _
theorem frz_tupS (s : DSch) (b : Bool) : (D.tup [encS s, .v (.bool b)]).frz = .tup [encS s, .v (.bool b)] := by simp only [D.frz, frzL, frz_encS]
theorem fieldS_cases {s : DSch} {x : Str} (h : wholeS s = true) (hm : x ∈ s.words) : ∃ hpl : ixN s.words x < s.parts.length, fieldS s x = some s.parts[ixN s.words x] := by
  have h1 := ix_lt hm
  have hpl : ixN s.words x < s.parts.length := by
    simp only [wholeS, Bool.and_eq_true, decide_eq_true_eq] at h
    omega
  exact ⟨hpl, by rw [fieldS, if_pos ⟨h, hm⟩, getD_at hpl]⟩
set_option maxRecDepth 200000 in
set_option maxHeartbeats 4000000 in
theorem fieldS_d (s : DSch) (x : Str) (hok : okS s) (hw : s.weight ≤ 1000000) : DPure Try.prog 101 [encS s, .v (sv x)] (tupS (fieldS s x)) := by
  obtain ⟨o1, o2, o3, o4, o5⟩ := (okS_eq s).1 hok
  refine dpure_of_dwp mixed Try.func101 rfl (fun _ _ => by kernel_rfl) (rs := [.cell 4 47, .tmp 5]) rfl (by kernel_rfl) (tupS_closed _) (fun S hS => ?_)
  have ec := encS_eq s
  (simp (disch := first | decide | omega | (simp only [add_next, set_next, grow_next, leave_next, drop_next, List.length_map]; first | done | omega)) only [go_sem, ↓reduceIte, Nat.reduceBEq, Nat.reduceAdd, Nat.reduceLeDiff, Nat.reduceEqDiff, Nat.reduceLT, Nat.reduceMul]; (repeat (with_reducible refine And.intro (by first | omega | assumption | rfl) ?_)))
  refine DCalls.of_pure (strIndex_d .no s.words x o3) ?_
  (simp (disch := first | decide | omega | (simp only [add_next, set_next, grow_next, leave_next, drop_next, List.length_map]; first | done | omega)) only [go_sem, ↓reduceIte, Nat.reduceBEq, Nat.reduceAdd, Nat.reduceLeDiff, Nat.reduceEqDiff, Nat.reduceLT, Nat.reduceMul]; (repeat (with_reducible refine And.intro (by first | omega | assumption | rfl) ?_)))
  refine DCalls.of_pure (wholeS_d s) ?_
  cases hwb : wholeS s with
  | true =>
    by_cases hm : x ∈ s.words
    · have b7 : decide (ixI s.words x < 0) = false := by unfold ixI; rw [if_pos hm]; simp
      obtain ⟨hpl, hf⟩ := fieldS_cases hwb hm
      have hi : ixI s.words x = (ixN s.words x : Int) := by unfold ixI; rw [if_pos hm]
      have b8 : decide ((ixN s.words x : Int) < 0) = false := by simp
      (simp (disch := first | decide | omega | (simp only [add_next, set_next, grow_next, leave_next, drop_next, List.length_map]; first | done | omega)) only [go_sem, ↓reduceIte, Nat.reduceBEq, Nat.reduceAdd, Nat.reduceLeDiff, Nat.reduceEqDiff, Nat.reduceLT, Nat.reduceMul, hi, b8]; (repeat (with_reducible refine And.intro (by first | omega | assumption | rfl) ?_)))
      refine DCalls.of_pure (schCopy_d s.parts[ixN s.words x] (o5 _ (List.getElem_mem hpl)) (by have := DSch.weight_part (List.getElem_mem hpl); omega)) ?_
      (simp (disch := first | decide | omega | (simp only [add_next, set_next, grow_next, leave_next, drop_next, List.length_map]; first | done | omega)) only [go_sem, ↓reduceIte, Nat.reduceBEq, Nat.reduceAdd, Nat.reduceLeDiff, Nat.reduceEqDiff, Nat.reduceLT, Nat.reduceMul]; (repeat (with_reducible refine And.intro (by first | omega | assumption | rfl) ?_)))
      refine ⟨?_, (by (repeat' first | assumption | exact St.Sub.refl _ | exact RowOk.sub (by assumption) (by assumption) | refine St.Sub.trans ?_ (RowOk.sub (by assumption) (by assumption)) | refine St.Sub.add ?_ ?_ _ | refine St.Sub.set ?_ ?_ ?_ _ | refine St.Sub.keep ?_ ?_ | refine St.WF.leave ?_ _ | refine St.WF.add ?_ _ | refine St.WF.set ?_ ?_ _ | refine St.WF.grow ?_ _ _ _ | refine St.WF.keep ?_ ?_ | (first | omega | (simp only [RowOk.lo, add_next, set_next, grow_next, leave_next, drop_next]; first | done | omega))))⟩
      rw [frz_tupS, hf]
      rfl
    · have b7 : decide (ixI s.words x < 0) = true := by unfold ixI; rw [if_neg hm]; decide
      (simp (disch := first | decide | omega | (simp only [add_next, set_next, grow_next, leave_next, drop_next, List.length_map]; first | done | omega)) only [go_sem, ↓reduceIte, Nat.reduceBEq, Nat.reduceAdd, Nat.reduceLeDiff, Nat.reduceEqDiff, Nat.reduceLT, Nat.reduceMul, b7]; (repeat (with_reducible refine And.intro (by first | omega | assumption | rfl) ?_)))
      refine ⟨?_, (by (repeat' first | assumption | exact St.Sub.refl _ | exact RowOk.sub (by assumption) (by assumption) | refine St.Sub.trans ?_ (RowOk.sub (by assumption) (by assumption)) | refine St.Sub.add ?_ ?_ _ | refine St.Sub.set ?_ ?_ ?_ _ | refine St.Sub.keep ?_ ?_ | refine St.WF.leave ?_ _ | refine St.WF.add ?_ _ | refine St.WF.set ?_ ?_ _ | refine St.WF.grow ?_ _ _ _ | refine St.WF.keep ?_ ?_ | (first | omega | (simp only [RowOk.lo, add_next, set_next, grow_next, leave_next, drop_next]; first | done | omega))))⟩
      rw [fieldS, if_neg (fun h => hm h.2)]
      rfl
  | false =>
    (simp (disch := first | decide | omega | (simp only [add_next, set_next, grow_next, leave_next, drop_next, List.length_map]; first | done | omega)) only [go_sem, ↓reduceIte, Nat.reduceBEq, Nat.reduceAdd, Nat.reduceLeDiff, Nat.reduceEqDiff, Nat.reduceLT, Nat.reduceMul]; (repeat (with_reducible refine And.intro (by first | omega | assumption | rfl) ?_)))
    refine ⟨?_, (by (repeat' first | assumption | exact St.Sub.refl _ | exact RowOk.sub (by assumption) (by assumption) | refine St.Sub.trans ?_ (RowOk.sub (by assumption) (by assumption)) | refine St.Sub.add ?_ ?_ _ | refine St.Sub.set ?_ ?_ ?_ _ | refine St.Sub.keep ?_ ?_ | refine St.WF.leave ?_ _ | refine St.WF.add ?_ _ | refine St.WF.set ?_ ?_ _ | refine St.WF.grow ?_ _ _ _ | refine St.WF.keep ?_ ?_ | (first | omega | (simp only [RowOk.lo, add_next, set_next, grow_next, leave_next, drop_next]; first | done | omega))))⟩
    rw [fieldS, if_neg (fun h => by rw [h.1] at hwb; cases hwb)]
    rfl
end Go.Proofs.Ytjjhjhjphhpeiaa

namespace Go.Proofs.Ytjjhjhjphhpeiaa
open Go.RowKit
set_option linter.unusedSimpArgs false
/-- The type in a place. -/
def typS : List DStp → DSch → Option DSch
  | [], s => some s
  | p :: ps, s => if p.1 = [] then (if s.kind = 6 ∧ p.2 ≠ 0 ∧ 0 < s.parts.length then typS ps (s.parts.getD 0 default) else none) else match fieldS s p.1 with
    | some t => typS ps t
    | none => none
def stepT (s : DSch) (p : DStp) : Option DSch := if p.1 = [] then (if s.kind = 6 ∧ p.2 ≠ 0 ∧ 0 < s.parts.length then some (s.parts.getD 0 default) else none) else fieldS s p.1
theorem typS_cons (p : DStp) (ps : List DStp) (s : DSch) : typS (p :: ps) s = (stepT s p).bind (typS ps) := by
  rw [typS, stepT]
  split
  · split <;> rfl
  · cases fieldS s p.1 <;> rfl
theorem typS_app : ∀ (ps qs : List DStp) (s : DSch), typS (ps ++ qs) s = (typS ps s).bind (typS qs)
  | [], qs, s => rfl
  | p :: ps, qs, s => by
    rw [List.cons_append, typS_cons, typS_cons, Option.bind_assoc]
    congr 1
    funext t
    exact typS_app ps qs t
def typA (ps : List DStp) (s : DSch) (i : Nat) : DSch := (typS (ps.take i) s).getD zeroS
theorem typA_succ {ps : List DStp} {s : DSch} {i : Nat} (hi : i < ps.length) (h : (typS (ps.take i) s).isSome = true) : typS (ps.take (i + 1)) s = stepT (typA ps s i) ps[i] := by
  rw [List.take_succ_eq_append_getElem hi, typS_app]
  obtain ⟨t, ht⟩ := Option.isSome_iff_exists.1 h
  rw [typA, ht]
  show typS [ps[i]] t = stepT t ps[i]
  rw [typS_cons]
  cases stepT t ps[i] <;> rfl
theorem typS_none {ps : List DStp} {s : DSch} {i : Nat} (h : typS (ps.take i) s = none) : typS ps s = none := by
  have := typS_app (ps.take i) (ps.drop i) s
  rw [List.take_append_drop] at this
  rw [this, h]; rfl
theorem fieldS_mem {s t : DSch} {x : Str} (h : fieldS s x = some t) : t ∈ s.parts := by
  by_cases hc : wholeS s = true ∧ x ∈ s.words
  · obtain ⟨hpl, hf⟩ := fieldS_cases hc.1 hc.2
    rw [hf] at h
    injection h with h
    rw [← h]; exact List.getElem_mem hpl
  · rw [fieldS, if_neg hc] at h; cases h
theorem stepT_mem {s t : DSch} {p : DStp} (h : stepT s p = some t) : t ∈ s.parts := by
  unfold stepT at h
  split at h
  · split at h
    · rename_i hc
      injection h with h
      rw [← h, getD_at hc.2.2]; exact List.getElem_mem _
    · cases h
  · exact fieldS_mem h
theorem typS_fine : ∀ (ps : List DStp) {s t : DSch}, typS ps s = some t → okS s → s.weight ≤ 1000000 → okS t ∧ t.weight ≤ 1000000
  | [], s, t, h, ho, hw => by injection h with h; subst h; exact ⟨ho, hw⟩
  | p :: ps, s, t, h, ho, hw => by
    rw [typS_cons] at h
    cases hs : stepT s p with
    | none => rw [hs] at h; cases h
    | some u =>
      rw [hs] at h
      have hm := stepT_mem hs
      exact typS_fine ps h (((okS_eq s).1 ho).2.2.2.2 u hm) (by have := DSch.weight_part hm; omega)
set_option maxRecDepth 200000 in
set_option maxHeartbeats 8000000 in
theorem type_d (s : DSch) (ps : List DStp) (own : Own) (hok : okS s) (hw : s.weight ≤ 1000000) (hl : ps.length ≤ 1000000) : DPure Try.prog 77 [encS s, .sl own (ps.map encP)] (tupS (typS ps s)) := by
  refine dpure_of_dwp mixed Try.func77 rfl (fun _ _ => by kernel_rfl) (rs := [.cell 4 47, .tmp 5]) rfl (by kernel_rfl) (tupS_closed _) (fun S hS => ?_)
  (simp (disch := first | decide | omega | (simp only [add_next, set_next, grow_next, leave_next, drop_next, List.length_map]; first | done | omega)) only [go_sem, ↓reduceIte, Nat.reduceBEq, Nat.reduceAdd, Nat.reduceLeDiff, Nat.reduceEqDiff, Nat.reduceLT, Nat.reduceMul]; (repeat (with_reducible refine And.intro (by first | omega | assumption | rfl) ?_)))
  (refine dloop_var (fun t => List.contains [5, 7, 8, 9, 12, 13, 14, 15, 16, 17, 18, 19, 20, 21, 22, 23, 24, 25, 26, 27, 28, 29, 30, 31, 32, 33, 34, 35, 36, 37, 38, 39, 40, 41, 42, 43, 44, 45, 46, 47, 48, 49, 50, 51] t) (by kernel_rfl) ?_ (ps.length) (S.next) (fun i => .box 47 (encS (typA ps s i)).cells) ?_ (fun i f => i ≤ ps.length ∧ f 12 = .v (.int .i64 (i : Nat)) ∧ ((typS (ps.take i) s).isSome = true)) ?_ ?_; (exact (by (repeat' first | assumption | refine St.WF.leave ?_ _ | refine St.WF.add ?_ _ | refine St.WF.set ?_ ?_ _ | refine St.WF.grow ?_ _ _ _ | refine St.WF.keep ?_ ?_ | (first | omega | (simp only [RowOk.lo, add_next, set_next, grow_next, leave_next, drop_next]; first | done | omega))))); (exact (by (first | (simp (disch := first | decide | omega | (simp only [add_next, set_next, grow_next, leave_next, drop_next, List.length_map]; first | done | omega)) only [go_sem, ↓reduceIte, Nat.reduceBEq, Nat.reduceAdd, Nat.reduceLeDiff, Nat.reduceEqDiff, Nat.reduceLT, Nat.reduceMul]; first | done | rfl) | rfl))); (exact ⟨(by omega), (by (first | (simp (disch := first | decide | omega | (simp only [add_next, set_next, grow_next, leave_next, drop_next, List.length_map]; first | done | omega)) only [go_sem, ↓reduceIte, Nat.reduceBEq, Nat.reduceAdd, Nat.reduceLeDiff, Nat.reduceEqDiff, Nat.reduceLT, Nat.reduceMul]; first | done | rfl) | rfl)), (rfl)⟩); intro i g tn hn hT hg hI; obtain ⟨le, q12, hs⟩ := hI; have q2 := hg 2 rfl; have q4 := hg 4 rfl; have q10 := hg 10 rfl; have q11 := hg 11 rfl; simp (disch := first | decide | omega | (simp only [add_next, set_next, grow_next, leave_next, drop_next, List.length_map]; first | done | omega)) only [go_sem, ↓reduceIte, Nat.reduceBEq, Nat.reduceAdd, Nat.reduceLeDiff, Nat.reduceEqDiff, Nat.reduceLT, Nat.reduceMul] at q2 q4 q10 q11; clear hg; have hn' := hn; try simp only [add_next, set_next, grow_next, leave_next, drop_next] at hn')
  obtain ⟨t, ht⟩ := Option.isSome_iff_exists.1 hs
  have hta : typA ps s i = t := by rw [typA, ht]; rfl
  have hnx0 := fun h => typA_succ (i := i) (ps := ps) (s := s) h hs
  obtain ⟨hto, htw⟩ := typS_fine _ ht hok hw
  rw [hta] at hnx0 hT
  rw [hta]
  by_cases hlt : i < ps.length
  · have b1 : decide ((i : Int) < (ps.length : Int)) = true := by simp; omega
    have w1 : IntKind.i64.wrap ((i : Int) + 1) = ((i + 1 : Nat) : Int) := IntWalk.i64_in _ ⟨by omega, by omega⟩
    have hnx := hnx0 hlt
    have hts := (okS_eq t).1 hto
    by_cases h0 : ps[i].1 = []
    · have b2 : (!(ps[i].1 == [])) = false := by simp [h0]
      by_cases h6 : t.kind = 6
      · have b3 : (t.kind == 6) = true := by simp [h6]
        by_cases hz : ps[i].2 = 0
        · have b4 : ((ps[i].2 : Int) != 0) = false := by simp [hz]
          (simp (disch := first | decide | omega | (simp only [add_next, set_next, grow_next, leave_next, drop_next, List.length_map]; first | done | omega)) only [go_sem, ↓reduceIte, Nat.reduceBEq, Nat.reduceAdd, Nat.reduceLeDiff, Nat.reduceEqDiff, Nat.reduceLT, Nat.reduceMul, q10, q11, q12, q2, q4, b1, b2, b3, b4]; (repeat (with_reducible refine And.intro (by first | omega | assumption | rfl) ?_)))
          have hn : typS ps s = none := typS_none (i := i + 1) (by rw [hnx, stepT, if_pos h0, if_neg (by omega)])
          refine ⟨?_, (by (repeat' first | assumption | exact St.Sub.refl _ | exact RowOk.sub (by assumption) (by assumption) | refine St.Sub.trans ?_ (RowOk.sub (by assumption) (by assumption)) | refine St.Sub.add ?_ ?_ _ | refine St.Sub.set ?_ ?_ ?_ _ | refine St.Sub.keep ?_ ?_ | refine St.WF.leave ?_ _ | refine St.WF.add ?_ _ | refine St.WF.set ?_ ?_ _ | refine St.WF.grow ?_ _ _ _ | refine St.WF.keep ?_ ?_ | (first | omega | (simp only [RowOk.lo, add_next, set_next, grow_next, leave_next, drop_next]; first | done | omega))))⟩
          rw [hn]; rfl
        · have b4 : ((ps[i].2 : Int) != 0) = true := by simp; omega
          by_cases hp : 0 < t.parts.length
          · have b5 : decide ((0 : Int) < (t.parts.length : Int)) = true := by simp; omega
            (simp (disch := first | decide | omega | (simp only [add_next, set_next, grow_next, leave_next, drop_next, List.length_map]; first | done | omega)) only [go_sem, ↓reduceIte, Nat.reduceBEq, Nat.reduceAdd, Nat.reduceLeDiff, Nat.reduceEqDiff, Nat.reduceLT, Nat.reduceMul, q10, q11, q12, q2, q4, b1, b2, b3, b4, b5, w1]; (repeat (with_reducible refine And.intro (by first | omega | assumption | rfl) ?_)))
            have hs1 : typS (ps.take (i + 1)) s = some t.parts[0] := by rw [hnx, stepT, if_pos h0, if_pos ⟨h6, hz, hp⟩, getD_at hp]
            have hta1 : typA ps s (i + 1) = t.parts[0] := by rw [typA, hs1]; rfl
            (refine ⟨by omega, St.Sub.upd hn (by simp only [hta1]) (by (repeat' first | assumption | exact St.Sub.refl _ | exact RowOk.sub (by assumption) (by assumption) | refine St.Sub.trans ?_ (RowOk.sub (by assumption) (by assumption)) | refine St.Sub.add ?_ ?_ _ | refine St.Sub.set ?_ ?_ ?_ _ | refine St.Sub.keep ?_ ?_ | refine St.WF.leave ?_ _ | refine St.WF.add ?_ _ | refine St.WF.set ?_ ?_ _ | refine St.WF.grow ?_ _ _ _ | refine St.WF.keep ?_ ?_ | (first | omega | (simp only [RowOk.lo, add_next, set_next, grow_next, leave_next, drop_next]; first | done | omega)))), ?_⟩; refine ⟨by omega, ?_, ?_⟩; all_goals (try (first | (simp (disch := first | decide | omega | (simp only [add_next, set_next, grow_next, leave_next, drop_next, List.length_map]; first | done | omega)) only [go_sem, ↓reduceIte, Nat.reduceBEq, Nat.reduceAdd, Nat.reduceLeDiff, Nat.reduceEqDiff, Nat.reduceLT, Nat.reduceMul, w1]; first | done | rfl) | rfl)))
            rw [hs1]; rfl
          · have b5 : decide ((0 : Int) < (t.parts.length : Int)) = false := decide_eq_false (by omega)
            (simp (disch := first | decide | omega | (simp only [add_next, set_next, grow_next, leave_next, drop_next, List.length_map]; first | done | omega)) only [go_sem, ↓reduceIte, Nat.reduceBEq, Nat.reduceAdd, Nat.reduceLeDiff, Nat.reduceEqDiff, Nat.reduceLT, Nat.reduceMul, q10, q11, q12, q2, q4, b1, b2, b3, b4, b5]; (repeat (with_reducible refine And.intro (by first | omega | assumption | rfl) ?_)))
            have hn : typS ps s = none := typS_none (i := i + 1) (by rw [hnx, stepT, if_pos h0, if_neg (by omega)])
            refine ⟨?_, (by (repeat' first | assumption | exact St.Sub.refl _ | exact RowOk.sub (by assumption) (by assumption) | refine St.Sub.trans ?_ (RowOk.sub (by assumption) (by assumption)) | refine St.Sub.add ?_ ?_ _ | refine St.Sub.set ?_ ?_ ?_ _ | refine St.Sub.keep ?_ ?_ | refine St.WF.leave ?_ _ | refine St.WF.add ?_ _ | refine St.WF.set ?_ ?_ _ | refine St.WF.grow ?_ _ _ _ | refine St.WF.keep ?_ ?_ | (first | omega | (simp only [RowOk.lo, add_next, set_next, grow_next, leave_next, drop_next]; first | done | omega))))⟩
            rw [hn]; rfl
      · have b3 : (t.kind == 6) = false := by simp [h6]
        (simp (disch := first | decide | omega | (simp only [add_next, set_next, grow_next, leave_next, drop_next, List.length_map]; first | done | omega)) only [go_sem, ↓reduceIte, Nat.reduceBEq, Nat.reduceAdd, Nat.reduceLeDiff, Nat.reduceEqDiff, Nat.reduceLT, Nat.reduceMul, q10, q11, q12, q2, q4, b1, b2, b3]; (repeat (with_reducible refine And.intro (by first | omega | assumption | rfl) ?_)))
        have hn : typS ps s = none := typS_none (i := i + 1) (by rw [hnx, stepT, if_pos h0, if_neg (by omega)])
        refine ⟨?_, (by (repeat' first | assumption | exact St.Sub.refl _ | exact RowOk.sub (by assumption) (by assumption) | refine St.Sub.trans ?_ (RowOk.sub (by assumption) (by assumption)) | refine St.Sub.add ?_ ?_ _ | refine St.Sub.set ?_ ?_ ?_ _ | refine St.Sub.keep ?_ ?_ | refine St.WF.leave ?_ _ | refine St.WF.add ?_ _ | refine St.WF.set ?_ ?_ _ | refine St.WF.grow ?_ _ _ _ | refine St.WF.keep ?_ ?_ | (first | omega | (simp only [RowOk.lo, add_next, set_next, grow_next, leave_next, drop_next]; first | done | omega))))⟩
        rw [hn]; rfl
    · have b2 : (!(ps[i].1 == [])) = true := by simp [h0]
      (simp (disch := first | decide | omega | (simp only [add_next, set_next, grow_next, leave_next, drop_next, List.length_map]; first | done | omega)) only [go_sem, ↓reduceIte, Nat.reduceBEq, Nat.reduceAdd, Nat.reduceLeDiff, Nat.reduceEqDiff, Nat.reduceLT, Nat.reduceMul, q10, q11, q12, q2, q4, b1, b2]; (repeat (with_reducible refine And.intro (by first | omega | assumption | rfl) ?_)))
      refine DCalls.of_pure (fieldS_d t ps[i].1 hto htw) ?_
      have hst : stepT t ps[i] = fieldS t ps[i].1 := by rw [stepT, if_neg h0]
      cases hf : fieldS t ps[i].1 with
      | none =>
        have hn : typS ps s = none := typS_none (i := i + 1) (by rw [hnx, hst, hf])
        (simp (disch := first | decide | omega | (simp only [add_next, set_next, grow_next, leave_next, drop_next, List.length_map]; first | done | omega)) only [go_sem, ↓reduceIte, Nat.reduceBEq, Nat.reduceAdd, Nat.reduceLeDiff, Nat.reduceEqDiff, Nat.reduceLT, Nat.reduceMul, tupS, hf, Option.isSome_none, q4]; (repeat (with_reducible refine And.intro (by first | omega | assumption | rfl) ?_)))
        refine ⟨?_, (by (repeat' first | assumption | exact St.Sub.refl _ | exact RowOk.sub (by assumption) (by assumption) | refine St.Sub.trans ?_ (RowOk.sub (by assumption) (by assumption)) | refine St.Sub.add ?_ ?_ _ | refine St.Sub.set ?_ ?_ ?_ _ | refine St.Sub.keep ?_ ?_ | refine St.WF.leave ?_ _ | refine St.WF.add ?_ _ | refine St.WF.set ?_ ?_ _ | refine St.WF.grow ?_ _ _ _ | refine St.WF.keep ?_ ?_ | (first | omega | (simp only [RowOk.lo, add_next, set_next, grow_next, leave_next, drop_next]; first | done | omega))))⟩
        rw [hn]; rfl
      | some u =>
        have hs1 : typS (ps.take (i + 1)) s = some u := by rw [hnx, hst, hf]
        have hta1 : typA ps s (i + 1) = u := by rw [typA, hs1]; rfl
        (simp (disch := first | decide | omega | (simp only [add_next, set_next, grow_next, leave_next, drop_next, List.length_map]; first | done | omega)) only [go_sem, ↓reduceIte, Nat.reduceBEq, Nat.reduceAdd, Nat.reduceLeDiff, Nat.reduceEqDiff, Nat.reduceLT, Nat.reduceMul, tupS, hf, Option.isSome_some, Option.getD_some, q12, q2, q4, w1]; (repeat (with_reducible refine And.intro (by first | omega | assumption | rfl) ?_)))
        (refine ⟨by omega, St.Sub.upd hn (by simp only [hta1]) (by (repeat' first | assumption | exact St.Sub.refl _ | exact RowOk.sub (by assumption) (by assumption) | refine St.Sub.trans ?_ (RowOk.sub (by assumption) (by assumption)) | refine St.Sub.add ?_ ?_ _ | refine St.Sub.set ?_ ?_ ?_ _ | refine St.Sub.keep ?_ ?_ | refine St.WF.leave ?_ _ | refine St.WF.add ?_ _ | refine St.WF.set ?_ ?_ _ | refine St.WF.grow ?_ _ _ _ | refine St.WF.keep ?_ ?_ | (first | omega | (simp only [RowOk.lo, add_next, set_next, grow_next, leave_next, drop_next]; first | done | omega)))), ?_⟩; refine ⟨by omega, ?_, ?_⟩; all_goals (try (first | (simp (disch := first | decide | omega | (simp only [add_next, set_next, grow_next, leave_next, drop_next, List.length_map]; first | done | omega)) only [go_sem, ↓reduceIte, Nat.reduceBEq, Nat.reduceAdd, Nat.reduceLeDiff, Nat.reduceEqDiff, Nat.reduceLT, Nat.reduceMul, w1]; first | done | rfl) | rfl)))
        rw [hs1]; rfl
  · have b1 : decide ((i : Int) < (ps.length : Int)) = false := by simp; omega
    (simp (disch := first | decide | omega | (simp only [add_next, set_next, grow_next, leave_next, drop_next, List.length_map]; first | done | omega)) only [go_sem, ↓reduceIte, Nat.reduceBEq, Nat.reduceAdd, Nat.reduceLeDiff, Nat.reduceEqDiff, Nat.reduceLT, Nat.reduceMul, q10, q11, q12, q2, q4, b1]; (repeat (with_reducible refine And.intro (by first | omega | assumption | rfl) ?_)))
    refine DCalls.of_pure (schCopy_d t hto htw) ?_
    (simp (disch := first | decide | omega | (simp only [add_next, set_next, grow_next, leave_next, drop_next, List.length_map]; first | done | omega)) only [go_sem, ↓reduceIte, Nat.reduceBEq, Nat.reduceAdd, Nat.reduceLeDiff, Nat.reduceEqDiff, Nat.reduceLT, Nat.reduceMul, q4]; (repeat (with_reducible refine And.intro (by first | omega | assumption | rfl) ?_)))
    refine ⟨?_, (by (repeat' first | assumption | exact St.Sub.refl _ | exact RowOk.sub (by assumption) (by assumption) | refine St.Sub.trans ?_ (RowOk.sub (by assumption) (by assumption)) | refine St.Sub.add ?_ ?_ _ | refine St.Sub.set ?_ ?_ ?_ _ | refine St.Sub.keep ?_ ?_ | refine St.WF.leave ?_ _ | refine St.WF.add ?_ _ | refine St.WF.set ?_ ?_ _ | refine St.WF.grow ?_ _ _ _ | refine St.WF.keep ?_ ?_ | (first | omega | (simp only [RowOk.lo, add_next, set_next, grow_next, leave_next, drop_next]; first | done | omega))))⟩
    rw [frz_tupS, show ps.take i = ps from List.take_of_length_le (by omega)] at *
    rw [ht]; rfl
end Go.Proofs.Ytjjhjhjphhpeiaa

namespace Go.Proofs.Ytjjhjhjphhpeiaa
open Go.RowKit
/-- A value that is right but for its depth, and fits. -/
inductive GV : DVal → DSch → Prop
  | mk {v : DVal} {s : DSch} (h1 : hereV v = true) (h2 : headF v s = true) (h3 : ∀ i, i < v.parts.length → atF s i < s.parts.length) (h4 : ∀ i, (hi : i < v.parts.length) → GV v.parts[i] (s.parts.getD (atF s i) default)) : GV v s
theorem GV.here_ {v : DVal} {s : DSch} (h : GV v s) : hereV v = true := by cases h; assumption
theorem GV.head {v : DVal} {s : DSch} (h : GV v s) : headF v s = true := by cases h; assumption
theorem GV.at_ {v : DVal} {s : DSch} (h : GV v s) {i : Nat} (hi : i < v.parts.length) : atF s i < s.parts.length := by cases h; rename_i h3 h4; exact h3 i hi
theorem GV.part {v : DVal} {s : DSch} (h : GV v s) {i : Nat} (hi : i < v.parts.length) : GV v.parts[i] (s.parts.getD (atF s i) default) := by cases h; rename_i h3 h4; exact h4 i hi
theorem GV.depth : ∀ (k : Nat) {v : DVal} {s : DSch}, s.depth ≤ k → GV v s → v.depth ≤ s.depth
  | 0, v, s, hk, h => by have := s.depth_pos; omega
  | k + 1, v, s, hk, h => by
    rw [v.depth_eq]
    have hs := s.depth_pos
    have : DVal.depths v.parts ≤ s.depth - 1 := (depthsV_all _ _).2 fun p hp => by
      obtain ⟨i, hi, rfl⟩ := List.getElem_of_mem hp
      have h1 := h.at_ hi
      have h2 := h.part hi
      rw [getD_at h1] at h2
      have h3 := DSch.depth_part (List.getElem_mem h1)
      have := GV.depth k (by omega) h2
      omega
    omega
theorem GV.sound : ∀ (k : Nat) {v : DVal} {s : DSch}, GV v s → soundV k v = true ∧ fitsV k v s = true
  | 0, v, s, h => ⟨rfl, rfl⟩
  | k + 1, v, s, h => by
    rw [soundV, fitsV, h.here_, h.head, Bool.true_and, Bool.true_and]
    refine ⟨List.all_eq_true.2 fun p hp => ?_, List.all_eq_true.2 fun i hi => ?_⟩
    · obtain ⟨i, hi, rfl⟩ := List.getElem_of_mem hp
      exact (GV.sound k (h.part hi)).1
    · have hi := List.mem_range.1 hi
      rw [getD_at hi]
      exact (GV.sound k (h.part hi)).2
theorem GV.of : ∀ (k : Nat) {v : DVal} {s : DSch}, v.depth ≤ k → RS s → soundV k v = true → fitsV k v s = true → GV v s
  | 0, v, s, hk, _, _, _ => by have := v.depth_pos; omega
  | k + 1, v, s, hk, hs, h1, h2 => by
    have hrv : RV v := ⟨k + 1, hk, h1⟩
    rw [soundV, Bool.and_eq_true] at h1
    rw [fitsV, Bool.and_eq_true] at h2
    refine .mk h1.1 h2.1 (fun i hi => atF_lt hrv hs h2.1 hi) fun i hi => ?_
    have ha := atF_lt hrv hs h2.1 hi
    have h3 := List.all_eq_true.1 h2.2 i (List.mem_range.2 hi)
    have h4 := List.all_eq_true.1 h1.2 _ (List.getElem_mem hi)
    rw [getD_at hi] at h3
    have := DVal.depth_part (List.getElem_mem hi)
    refine GV.of k (by omega) ?_ h4 h3
    rw [getD_at ha]
    exact hs.part (List.getElem_mem ha)
theorem RS.of_top {s : DSch} (h : rightS 5 s = true) : RS s ∧ s.depth ≤ 5 := by
  have h1 := RS.of_right h
  refine ⟨⟨_, Nat.le_refl _, h1⟩, ?_⟩
  have := right_sound 5 s s.depth (Nat.le_refl _)
  rw [h] at this
  have := (Bool.and_eq_true _ _ ▸ this.symm).1
  simpa using this
theorem fitsTop_iff {v : DVal} {s : DSch} : fitsTop v s = true ↔ rightS 5 s = true ∧ GV v s := by
  constructor
  · intro h
    rw [fitsTop, Bool.and_eq_true, Bool.and_eq_true] at h
    obtain ⟨h1, h2, h3⟩ := h
    have := right_soundV 5 v v.depth (Nat.le_refl _)
    rw [h1] at this
    exact ⟨h2, GV.of v.depth (Nat.le_refl _) (RS.of_top h2).1 (Bool.and_eq_true _ _ ▸ this.symm).2 h3⟩
  · rintro ⟨h1, h2⟩
    obtain ⟨_, hd⟩ := RS.of_top h1
    have hv := GV.depth s.depth (Nat.le_refl _) h2
    have h3 := right_soundV 5 v v.depth (Nat.le_refl _)
    rw [(h2.sound v.depth).1, decide_eq_true (by omega : v.depth ≤ 5)] at h3
    rw [fitsTop, h3, h1, (h2.sound v.depth).2]; rfl
theorem GV.rv {v : DVal} {s : DSch} (h : GV v s) : RV v := ⟨v.depth, Nat.le_refl _, (h.sound v.depth).1⟩
theorem GV.kind {v : DVal} {s : DSch} (h : GV v s) : v.kind = s.kind := by
  have := h.head
  rw [headF, Bool.and_eq_true, decide_eq_true_eq] at this
  exact this.1
/-- Another part in the place of a part. -/
theorem GV.set {v : DVal} {s : DSch} (h : GV v s) {i : Nat} (hi : i < v.parts.length) {y : DVal} (hy : GV y (s.parts.getD (atF s i) default)) : GV (v.withParts (v.parts.set i y)) s := by
  have hl : (v.withParts (v.parts.set i y)).parts.length = v.parts.length := List.length_set
  refine .mk ?_ ?_ (fun j hj => h.at_ (by omega)) fun j hj => ?_
  · have := h.here_
    unfold hereV at this ⊢
    rw [hl]
    exact this
  · exact h.head
  · have hj' : j < (v.parts.set i y).length := hj
    show GV ((v.parts.set i y)[j]'hj') _
    rw [List.getElem_set]
    split
    · rename_i e; subst e; exact hy
    · exact h.part (by omega)
/-- The part that a step leads to fits the type that it leads to. -/
theorem GV.step {v : DVal} {s t : DSch} (h : GV v s) (hs : RS s) {p : DStp} (hp : inP v p) (ht : stepT s p = some t) : ∃ hi : plN v p < v.parts.length, s.parts.getD (atF s (plN v p)) default = t ∧ GV v.parts[plN v p] t := by
  have hi : plN v p < v.parts.length := by have := hp.1; have := hp.2; unfold plN; omega
  have hk := h.kind
  have key : s.parts.getD (atF s (plN v p)) default = t := by
    unfold stepT at ht
    have hpl := hp.1
    unfold placeOf at hpl
    by_cases h0 : p.1 = []
    · rw [if_pos h0] at ht hpl
      split at ht
      · rename_i hc
        injection ht with ht
        rw [atF, if_pos hc.1]
        exact ht
      · cases ht
    · rw [if_neg h0] at ht hpl
      unfold fieldS at ht
      split at ht
      · rename_i hc
        injection ht with ht
        have h5 : s.kind = 5 := by
          have := hc.1
          simp only [wholeS, Bool.and_eq_true, decide_eq_true_eq] at this
          exact this.1
        have hn : v.names = s.words := by
          have := h.head
          rw [headF, Bool.and_eq_true, Bool.and_eq_true] at this
          have h2 := this.2.2
          rw [decide_eq_true (by omega : v.kind = 5)] at h2
          simpa using h2
        have hw : wholeB v = true ∧ p.1 ∈ v.names := by
          refine ⟨?_, by rw [hn]; exact hc.2⟩
          have := h.rv.here
          simp only [wholeB, Bool.and_eq_true, decide_eq_true_eq]
          omega
        have hpn : plN v p = ixN s.words p.1 := by
          unfold plN placeOf
          rw [if_neg h0, if_pos hw, hn]
          simp
        rw [atF, if_neg (by omega), hpn]
        exact ht
      · cases ht
  exact ⟨hi, key, key ▸ h.part hi⟩
theorem RS.step {s t : DSch} (h : RS s) {p : DStp} (ht : stepT s p = some t) : RS t := h.part (stepT_mem ht)
theorem GV.get : ∀ (ps : List DStp) {v x : DVal} {s t : DSch}, GV v s → RS s → typS ps s = some t → getV ps v = some x → GV x t ∧ RS t ∧ t.depth + ps.length ≤ s.depth
  | [], v, x, s, t, h, hs, ht, hx => by
    injection ht with ht
    injection hx with hx
    subst ht hx
    exact ⟨h, hs, by simp⟩
  | p :: ps, v, x, s, t, h, hs, ht, hx => by
    rw [typS_cons] at ht
    cases hq : stepT s p with
    | none => rw [hq] at ht; cases ht
    | some u =>
      rw [hq] at ht
      rw [getV_cons] at hx
      split at hx
      · rename_i hin
        obtain ⟨hi, _, hg⟩ := h.step hs hin hq
        rw [getD_at hi] at hx
        have hd := DSch.depth_part (stepT_mem hq)
        obtain ⟨g1, g2, g3⟩ := GV.get ps hg (hs.step hq) ht hx
        exact ⟨g1, g2, by simp only [List.length_cons]; omega⟩
      · cases hx
theorem GV.put : ∀ (ps : List DStp) {v x y : DVal} {s t : DSch}, GV v s → RS s → typS ps s = some t → getV ps v = some x → GV y t → GV (chV (fun _ => y) ps v) s
  | [], v, x, y, s, t, h, hs, ht, hx, hy => by injection ht with ht; subst ht; exact hy
  | p :: ps, v, x, y, s, t, h, hs, ht, hx, hy => by
    rw [typS_cons] at ht
    cases hq : stepT s p with
    | none => rw [hq] at ht; cases ht
    | some u =>
      rw [hq] at ht
      rw [getV_cons] at hx
      split at hx
      · rename_i hin
        obtain ⟨hi, hu, hg⟩ := h.step hs hin hq
        rw [getD_at hi] at hx
        rw [chV, if_pos hin, getD_at hi]
        refine h.set hi ?_
        rw [hu]
        exact GV.put ps hg (hs.step hq) ht hx hy
      · cases hx
/-- A value that fits has something in each place that has a type, but for elements that aren't there. -/
theorem idOk_iff (l : List Nat) : (List.range l.length).all (idOk l) = true ↔ l.Nodup ∧ 0 ∉ l := by
  rw [List.all_eq_true]
  constructor
  · intro h
    have h' := fun i (hi : i < l.length) => h i (List.mem_range.2 hi)
    simp only [idOk, Bool.and_eq_true, Bool.not_eq_true', decide_eq_false_iff_not] at h'
    refine ⟨List.pairwise_iff_getElem.2 fun i j hi hj hij e => ?_, fun h0 => ?_⟩
    · have := (h' j hj).2
      rw [getD_at hj, ← e, List.mem_take_iff_getElem] at this
      exact this ⟨i, by omega, rfl⟩
    · obtain ⟨i, hi, e⟩ := List.getElem_of_mem h0
      have := (h' i hi).1
      rw [getD_at hi, e] at this
      simp at this
  · rintro ⟨h1, h2⟩ i hi
    have hi := List.mem_range.1 hi
    simp only [idOk, Bool.and_eq_true, Bool.not_eq_true', decide_eq_false_iff_not]
    rw [getD_at hi]
    refine ⟨?_, fun hm => ?_⟩
    · have : l[i] ≠ 0 := fun e => h2 (e ▸ List.getElem_mem hi)
      simpa using this
    · rw [List.mem_take_iff_getElem] at hm
      obtain ⟨j, hj, e⟩ := hm
      exact List.pairwise_iff_getElem.1 h1 j i (by omega) hi (by omega) e
end Go.Proofs.Ytjjhjhjphhpeiaa

namespace Go.Proofs.Ytjjhjhjphhpeiaa
open Go.RowKit
/-- What a list that fits is. -/
structure GList (v : DVal) (t : DSch) : Prop where
  kind : v.kind = 6
  names : v.names = []
  nodup : v.ids.Nodup
  zero : 0 ∉ v.ids
  most : v.ids.length ≤ 12
  len : v.parts.length = v.ids.length
  parts : ∀ p ∈ v.parts, GV p (t.parts.getD 0 default)
theorem here_parts {v : DVal} (h : hereV v = true) : ¬ bad1 v.kind v.n v.s.length v.names.length v.ids.length ∧ ¬ bad2 v.kind v.n v.s.length v.names.length v.ids.length v.parts.length (nameB v.s) ∧ (List.range v.names.length).all (riseOk v.names) = true ∧ (List.range v.ids.length).all (idOk v.ids) = true := by
  rw [hereV, Bool.and_eq_true, Bool.and_eq_true, Bool.and_eq_true, Bool.not_eq_true', Bool.not_eq_true', decide_eq_false_iff_not, decide_eq_false_iff_not] at h
  exact ⟨h.1.1, h.1.2, h.2.1, h.2.2⟩
theorem here_of {v : DVal} (h : ¬ bad1 v.kind v.n v.s.length v.names.length v.ids.length ∧ ¬ bad2 v.kind v.n v.s.length v.names.length v.ids.length v.parts.length (nameB v.s) ∧ (List.range v.names.length).all (riseOk v.names) = true ∧ (List.range v.ids.length).all (idOk v.ids) = true) : hereV v = true := by
  rw [hereV, Bool.and_eq_true, Bool.and_eq_true, Bool.and_eq_true, Bool.not_eq_true', Bool.not_eq_true', decide_eq_false_iff_not, decide_eq_false_iff_not]
  exact ⟨⟨h.1, h.2.1⟩, h.2.2.1, h.2.2.2⟩
theorem GV.list {v : DVal} {t : DSch} (h : GV v t) (h6 : t.kind = 6) : GList v t := by
  obtain ⟨b1, b2, b3, b4⟩ := here_parts h.here_
  have hk : v.kind = 6 := h.kind.trans h6
  obtain ⟨n1, n2⟩ := (idOk_iff _).1 b4
  unfold bad1 at b1
  unfold bad2 at b2
  refine ⟨hk, List.eq_nil_of_length_eq_zero (by omega), n1, n2, by omega, by omega, fun p hp => ?_⟩
  obtain ⟨i, hi, rfl⟩ := List.getElem_of_mem hp
  have := h.part hi
  rwa [atF, if_pos h6] at this
theorem GV.ofList {v : DVal} {t : DSch} (h : GV v t) (ht : RS t) (h6 : t.kind = 6) {is : List Nat} {ps : List DVal} (hn : is.Nodup) (h0 : 0 ∉ is) (h12 : is.length ≤ 12) (hl : ps.length = is.length) (hp : ∀ p ∈ ps, GV p (t.parts.getD 0 default)) : GV (v.ofList is ps) t := by
  obtain ⟨b1, b2, b3, b4⟩ := here_parts h.here_
  have hk : v.kind = 6 := h.kind.trans h6
  have hnn := (h.list h6).names
  have h1 := ht.here.2 h6
  refine .mk (here_of ⟨?_, ?_, b3, (idOk_iff _).2 ⟨hn, h0⟩⟩) h.head (fun i hi => by rw [atF, if_pos h6]; omega) fun i hi => ?_
  · show ¬ bad1 v.kind v.n v.s.length v.names.length is.length
    unfold bad1 at b1 ⊢
    omega
  · show ¬ bad2 v.kind v.n v.s.length v.names.length is.length ps.length (nameB v.s)
    unfold bad2 at b2 ⊢
    rw [hnn] at b2 ⊢
    simp only [List.length_nil] at b2 ⊢
    omega
  · rw [atF, if_pos h6]
    exact hp _ (List.getElem_mem hi)
theorem perm_ins {α : Type} (l : List α) (x : α) (k : Nat) : (l.take k ++ [x] ++ l.drop k).Perm (x :: l) := by
  have h := List.perm_middle (a := x) (l₁ := l.take k) (l₂ := l.drop k)
  rw [List.take_append_drop] at h
  simpa using h
theorem sub_del {α : Type} (l : List α) (k : Nat) : (l.take k ++ l.drop (k + 1)).Sublist l := by
  rw [← List.eraseIdx_eq_take_drop_succ]
  exact List.eraseIdx_sublist l k
theorem notMem_del {l : List Nat} (h : l.Nodup) {k : Nat} (hk : k < l.length) : l[k] ∉ l.take k ++ l.drop (k + 1) := by
  have e : l = l.take k ++ l[k] :: l.drop (k + 1) := by rw [← List.drop_eq_getElem_cons hk, List.take_append_drop]
  have hp := List.perm_middle (a := l[k]) (l₁ := l.take k) (l₂ := l.drop (k + 1))
  rw [← e] at hp
  exact (List.nodup_cons.1 (hp.nodup_iff.1 h)).1
theorem GV.pl {v x : DVal} {t : DSch} (h : GV v t) (ht : RS t) (h6 : t.kind = 6) {id after : Nat} (hid : id ∉ v.ids) (h0 : id ≠ 0) (h12 : v.ids.length < 12) (hx : GV x (t.parts.getD 0 default)) : GV (plV v id after x) t := by
  have hg := h.list h6
  have hp := perm_ins v.ids id (plK v after)
  refine h.ofList ht h6 (hp.nodup_iff.2 (List.nodup_cons.2 ⟨hid, hg.nodup⟩)) (fun hm => ?_) (by rw [ins_len _ _ (plK_le v after)]; omega) (by rw [ins_len _ _ (plK_le v after), ins_len _ _ (by rw [hg.len]; exact plK_le v after), hg.len]) fun p hpm => ?_
  · rcases List.mem_cons.1 (hp.mem_iff.1 hm) with e | e
    · exact h0 e.symm
    · exact hg.zero e
  · rcases List.mem_cons.1 ((perm_ins v.parts x (plK v after)).mem_iff.1 hpm) with e | e
    · rw [e]; exact hx
    · exact hg.parts p e
theorem GV.tk {v : DVal} {t : DSch} (h : GV v t) (ht : RS t) (h6 : t.kind = 6) {k : Nat} (hk : k < v.ids.length) : GV (tkV v k) t := by
  have hg := h.list h6
  have hs := sub_del v.ids k
  refine h.ofList ht h6 (hs.nodup hg.nodup) (fun hm => hg.zero (hs.subset hm)) (by have := hs.length_le; have := hg.most; omega) (by rw [del_len _ hk, del_len _ (by rw [hg.len]; exact hk), hg.len]) fun p hpm => hg.parts p ((sub_del v.parts k).subset hpm)
/-- What an operation makes of a list. -/
theorem GV.ls {o : DOp} {v : DVal} {t : DSch} (h : GV v t) (ht : RS t) (h6 : t.kind = 6) (hi : o.kind = 2 → o.id ≠ 0 ∧ GV o.val (t.parts.getD 0 default)) : GV (lsV o v) t := by
  have hg := h.list h6
  unfold lsV
  split
  · rename_i k2
    split
    · rename_i hc
      exact h.pl ht h6 hc.1 (hi k2).1 hc.2 (hi k2).2
    · exact h
  · split
    · exact h
    · rename_i hm
      have hm : o.id ∈ v.ids := Classical.not_not.1 hm
      have hk := ix_lt hm
      have hix : v.ids[ixN v.ids o.id] = o.id := by
        have := List.getElem_idxOf (x := o.id) (xs := v.ids) hk
        exact this
      split
      · have hpl : ixN v.ids o.id < v.parts.length := by rw [hg.len]; exact hk
        have hl := del_len v.ids hk
        have hmo := hg.most
        refine (h.tk ht h6 hk).pl ht h6 ?_ (fun e => hg.zero (e ▸ hm)) ?_ ?_
        · have := notMem_del hg.nodup hk
          rw [hix] at this
          exact this
        · have hl' : (tkV v (ixN v.ids o.id)).ids.length = v.ids.length - 1 := hl
          rw [hl']; omega
        · rw [show elK o v = ixN v.ids o.id from rfl, getD_at hpl]
          exact hg.parts _ (List.getElem_mem hpl)
      · exact h.tk ht h6 hk
end Go.Proofs.Ytjjhjhjphhpeiaa
