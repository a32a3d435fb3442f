/- ValueRight answers true for any two values, and leaves its arguments as they were. Conditions: none but the statement's own. -/
import Derived.Test.YtpnjkebjdclkfaaCValRight9
import Derived.Test.YtpnjkebjdclkfaaRows
set_option linter.unusedVariables false
set_option linter.unusedSimpArgs false
/- Bytes of paths: which paths are right. Conditions: none. -/
namespace Go.Proofs.Ytpnjkebjdclkfaa
open Go.RowKit
set_option linter.unusedSimpArgs false
set_option linter.unusedVariables false
theorem name_d (s : Str) (hs : s.length ≤ maxLen) : DPure Try.prog 136 [.v (sv s)] (.v (.bool (nameB s))) :=
  dpure_of_gives (fun _ _ => by kernel_rfl) fun w η X vs hr => by
    simp only [RepL, Rep] at hr
    obtain ⟨x, xs, rfl, rfl, rfl⟩ := hr
    exact name_calls s w hs
theorem nameB_nil : nameB [] = false := by decide
def fineB (p : DStp) : Bool := (nameB p.1 && ((p.2 : Int) == 0)) || (p.1 == [] && !((p.2 : Int) == 0))
set_option maxRecDepth 200000 in
set_option maxHeartbeats 8000000 in
theorem fine_d (p : DStp) (hl : p.1.length ≤ maxLen) : DPure Try.prog 117 [encP p] (.v (.bool (fineB p))) := by
  refine dpure_of_dwp mixed Try.func117 rfl (fun _ _ => by kernel_rfl) (rs := [.tmp 2]) rfl (by kernel_rfl) trivial (fun S hS => ?_)
  by_cases h0 : p.1 = []
  · have b1 : (p.1 == []) = true := by simp [h0]
    (simp (disch := first | decide | omega | (simp only [add_next, set_next, grow_next, leave_next, drop_next, List.length_map]; first | done | omega)) only [go_sem, ↓reduceIte, Nat.reduceBEq, Nat.reduceAdd, Nat.reduceLeDiff, Nat.reduceEqDiff, Nat.reduceLT, Nat.reduceMul, encP, b1]; (repeat (with_reducible refine And.intro (by first | omega | assumption | rfl) ?_)))
    refine ⟨?_, (by (repeat' first | assumption | exact St.Sub.refl _ | exact RowOk.sub (by assumption) (by assumption) | refine St.Sub.trans ?_ (RowOk.sub (by assumption) (by assumption)) | refine St.Sub.add ?_ ?_ _ | refine St.Sub.set ?_ ?_ ?_ _ | refine St.Sub.keep ?_ ?_ | refine St.WF.leave ?_ _ | refine St.WF.add ?_ _ | refine St.WF.set ?_ ?_ _ | refine St.WF.grow ?_ _ _ _ | refine St.WF.keep ?_ ?_ | (first | omega | (simp only [RowOk.lo, add_next, set_next, grow_next, leave_next, drop_next]; first | done | omega))))⟩
    rw [fineB, b1, h0, nameB_nil]; simp [D.frz, bne]
  · have b1 : (p.1 == []) = false := by simp [h0]
    cases b2 : ((p.2 : Int) == 0)
    · (simp (disch := first | decide | omega | (simp only [add_next, set_next, grow_next, leave_next, drop_next, List.length_map]; first | done | omega)) only [go_sem, ↓reduceIte, Nat.reduceBEq, Nat.reduceAdd, Nat.reduceLeDiff, Nat.reduceEqDiff, Nat.reduceLT, Nat.reduceMul, encP, b1, b2]; (repeat (with_reducible refine And.intro (by first | omega | assumption | rfl) ?_)))
      refine ⟨?_, (by (repeat' first | assumption | exact St.Sub.refl _ | exact RowOk.sub (by assumption) (by assumption) | refine St.Sub.trans ?_ (RowOk.sub (by assumption) (by assumption)) | refine St.Sub.add ?_ ?_ _ | refine St.Sub.set ?_ ?_ ?_ _ | refine St.Sub.keep ?_ ?_ | refine St.WF.leave ?_ _ | refine St.WF.add ?_ _ | refine St.WF.set ?_ ?_ _ | refine St.WF.grow ?_ _ _ _ | refine St.WF.keep ?_ ?_ | (first | omega | (simp only [RowOk.lo, add_next, set_next, grow_next, leave_next, drop_next]; first | done | omega))))⟩
      rw [fineB, b1, b2]; simp [D.frz]
    · (simp (disch := first | decide | omega | (simp only [add_next, set_next, grow_next, leave_next, drop_next, List.length_map]; first | done | omega)) only [go_sem, ↓reduceIte, Nat.reduceBEq, Nat.reduceAdd, Nat.reduceLeDiff, Nat.reduceEqDiff, Nat.reduceLT, Nat.reduceMul, encP, b1, b2]; (repeat (with_reducible refine And.intro (by first | omega | assumption | rfl) ?_)))
      refine DCalls.of_pure (name_d p.1 hl) ?_
      (simp (disch := first | decide | omega | (simp only [add_next, set_next, grow_next, leave_next, drop_next, List.length_map]; first | done | omega)) only [go_sem, ↓reduceIte, Nat.reduceBEq, Nat.reduceAdd, Nat.reduceLeDiff, Nat.reduceEqDiff, Nat.reduceLT, Nat.reduceMul]; (repeat (with_reducible refine And.intro (by first | omega | assumption | rfl) ?_)))
      refine ⟨?_, (by (repeat' first | assumption | exact St.Sub.refl _ | exact RowOk.sub (by assumption) (by assumption) | refine St.Sub.trans ?_ (RowOk.sub (by assumption) (by assumption)) | refine St.Sub.add ?_ ?_ _ | refine St.Sub.set ?_ ?_ ?_ _ | refine St.Sub.keep ?_ ?_ | refine St.WF.leave ?_ _ | refine St.WF.add ?_ _ | refine St.WF.set ?_ ?_ _ | refine St.WF.grow ?_ _ _ _ | refine St.WF.keep ?_ ?_ | (first | omega | (simp only [RowOk.lo, add_next, set_next, grow_next, leave_next, drop_next]; first | done | omega))))⟩
      rw [fineB, b1, b2]; simp [D.frz]
set_option maxRecDepth 200000 in
set_option maxHeartbeats 8000000 in
theorem notFine_d (p : DStp) (hl : p.1.length ≤ maxLen) : DPure Try.prog 116 [encP p] (.v (.bool (!fineB p))) := by
  refine dpure_of_dwp mixed Try.func116 rfl (fun _ _ => by kernel_rfl) (rs := [.tmp 2]) rfl (by kernel_rfl) trivial (fun S hS => ?_)
  (simp (disch := first | decide | omega | (simp only [add_next, set_next, grow_next, leave_next, drop_next, List.length_map]; first | done | omega)) only [go_sem, ↓reduceIte, Nat.reduceBEq, Nat.reduceAdd, Nat.reduceLeDiff, Nat.reduceEqDiff, Nat.reduceLT, Nat.reduceMul, encP]; (repeat (with_reducible refine And.intro (by first | omega | assumption | rfl) ?_)))
  refine DCalls.of_pure (fine_d p hl) ?_
  (simp (disch := first | decide | omega | (simp only [add_next, set_next, grow_next, leave_next, drop_next, List.length_map]; first | done | omega)) only [go_sem, ↓reduceIte, Nat.reduceBEq, Nat.reduceAdd, Nat.reduceLeDiff, Nat.reduceEqDiff, Nat.reduceLT, Nat.reduceMul]; (repeat (with_reducible refine And.intro (by first | omega | assumption | rfl) ?_)))
  refine ⟨?_, (by (repeat' first | assumption | exact St.Sub.refl _ | exact RowOk.sub (by assumption) (by assumption) | refine St.Sub.trans ?_ (RowOk.sub (by assumption) (by assumption)) | refine St.Sub.add ?_ ?_ _ | refine St.Sub.set ?_ ?_ ?_ _ | refine St.Sub.keep ?_ ?_ | refine St.WF.leave ?_ _ | refine St.WF.add ?_ _ | refine St.WF.set ?_ ?_ _ | refine St.WF.grow ?_ _ _ _ | refine St.WF.keep ?_ ?_ | (first | omega | (simp only [RowOk.lo, add_next, set_next, grow_next, leave_next, drop_next]; first | done | omega))))⟩
  rfl
def ixF (l : List DStp) : Int := match l.findIdx? (fun p => !fineB p) with
  | some i => i
  | none => -1
set_option maxRecDepth 200000 in
set_option maxHeartbeats 8000000 in
theorem ixF_d (own : Own) (l : List DStp) (hl : l.length ≤ 1000000) (hs : ∀ p ∈ l, p.1.length ≤ maxLen) : DPure Try.prog 140 [.sl own (l.map encP), .fn (.func 116) [] []] (.v (.int .i64 (ixF l))) := by
  refine dpure_of_dwp mixed Try.func140 rfl (fun _ _ => by kernel_rfl) (rs := [.tmp 4]) rfl (by kernel_rfl) trivial (fun S hS => ?_)
  (simp (disch := first | decide | omega | (simp only [add_next, set_next, grow_next, leave_next, drop_next, List.length_map]; first | done | omega)) only [go_sem, ↓reduceIte, Nat.reduceBEq, Nat.reduceAdd, Nat.reduceLeDiff, Nat.reduceEqDiff, Nat.reduceLT, Nat.reduceMul]; (repeat (with_reducible refine And.intro (by first | omega | assumption | rfl) ?_)))
  (refine dloop_st (fun t => List.contains [4, 5, 8, 9, 10, 11, 12, 13, 14, 15, 16, 17, 18] t) (by kernel_rfl) ?_ (l.length) (fun i f => i ≤ l.length ∧ f 8 = .v (.int .i64 (i : Nat)) ∧ (∀ j (hj : j < l.length), j < i → fineB l[j] = true)) ?_ ?_; (exact (by (repeat' first | assumption | refine St.WF.leave ?_ _ | refine St.WF.add ?_ _ | refine St.WF.set ?_ ?_ _ | refine St.WF.grow ?_ _ _ _ | refine St.WF.keep ?_ ?_ | (first | omega | (simp only [RowOk.lo, add_next, set_next, grow_next, leave_next, drop_next]; first | done | omega))))); (exact ⟨(by omega), (by (first | (simp (disch := first | decide | omega | (simp only [add_next, set_next, grow_next, leave_next, drop_next, List.length_map]; first | done | omega)) only [go_sem, ↓reduceIte, Nat.reduceBEq, Nat.reduceAdd, Nat.reduceLeDiff, Nat.reduceEqDiff, Nat.reduceLT, Nat.reduceMul]; first | done | rfl) | rfl)), (fun j _ hj => by omega)⟩); intro i g tn hn hT hg hI; obtain ⟨le, q8, hno⟩ := hI; have q0 := hg 0 rfl; have q1 := hg 1 rfl; have q7 := hg 7 rfl; simp (disch := first | decide | omega | (simp only [add_next, set_next, grow_next, leave_next, drop_next, List.length_map]; first | done | omega)) only [go_sem, ↓reduceIte, Nat.reduceBEq, Nat.reduceAdd, Nat.reduceLeDiff, Nat.reduceEqDiff, Nat.reduceLT, Nat.reduceMul] at q0 q1 q7; clear hg; have hn' := hn; try simp only [add_next, set_next, grow_next, leave_next, drop_next] at hn')
  by_cases hlt : i < l.length
  · have b1 : decide ((i : Int) < (l.length : Int)) = true := by simp; omega
    have w1 : IntKind.i64.wrap ((i : Int) + 1) = ((i + 1 : Nat) : Int) := IntWalk.i64_in _ ⟨by omega, by omega⟩
    (simp (disch := first | decide | omega | (simp only [add_next, set_next, grow_next, leave_next, drop_next, List.length_map]; first | done | omega)) only [go_sem, ↓reduceIte, Nat.reduceBEq, Nat.reduceAdd, Nat.reduceLeDiff, Nat.reduceEqDiff, Nat.reduceLT, Nat.reduceMul, q0, q1, q7, q8, b1]; (repeat (with_reducible refine And.intro (by first | omega | assumption | rfl) ?_)))
    refine DCalls.of_pure (notFine_d l[i] (hs _ (List.getElem_mem hlt))) ?_
    cases hf : fineB l[i]
    · (simp (disch := first | decide | omega | (simp only [add_next, set_next, grow_next, leave_next, drop_next, List.length_map]; first | done | omega)) only [go_sem, ↓reduceIte, Nat.reduceBEq, Nat.reduceAdd, Nat.reduceLeDiff, Nat.reduceEqDiff, Nat.reduceLT, Nat.reduceMul, q0, q1, q7, q8, b1]; (repeat (with_reducible refine And.intro (by first | omega | assumption | rfl) ?_)))
      refine ⟨?_, (by (repeat' first | assumption | exact St.Sub.refl _ | exact RowOk.sub (by assumption) (by assumption) | refine St.Sub.trans ?_ (RowOk.sub (by assumption) (by assumption)) | refine St.Sub.add ?_ ?_ _ | refine St.Sub.set ?_ ?_ ?_ _ | refine St.Sub.keep ?_ ?_ | refine St.WF.leave ?_ _ | refine St.WF.add ?_ _ | refine St.WF.set ?_ ?_ _ | refine St.WF.grow ?_ _ _ _ | refine St.WF.keep ?_ ?_ | (first | omega | (simp only [RowOk.lo, add_next, set_next, grow_next, leave_next, drop_next]; first | done | omega))))⟩
      have h1 : l.findIdx? (fun p => !fineB p) = some i := List.findIdx?_eq_some_iff_getElem.2 ⟨hlt, by simp [hf], fun j hj => by simp [hno j (by omega) hj]⟩
      rw [ixF, h1]; rfl
    · (simp (disch := first | decide | omega | (simp only [add_next, set_next, grow_next, leave_next, drop_next, List.length_map]; first | done | omega)) only [go_sem, ↓reduceIte, Nat.reduceBEq, Nat.reduceAdd, Nat.reduceLeDiff, Nat.reduceEqDiff, Nat.reduceLT, Nat.reduceMul, q0, q1, q7, q8, b1, w1]; (repeat (with_reducible refine And.intro (by first | omega | assumption | rfl) ?_)))
      (refine ⟨by omega, (by (repeat' first | assumption | exact St.Sub.refl _ | exact RowOk.sub (by assumption) (by assumption) | refine St.Sub.trans ?_ (RowOk.sub (by assumption) (by assumption)) | refine St.Sub.add ?_ ?_ _ | refine St.Sub.set ?_ ?_ ?_ _ | refine St.Sub.keep ?_ ?_ | refine St.WF.leave ?_ _ | refine St.WF.add ?_ _ | refine St.WF.set ?_ ?_ _ | refine St.WF.grow ?_ _ _ _ | refine St.WF.keep ?_ ?_ | (first | omega | (simp only [RowOk.lo, add_next, set_next, grow_next, leave_next, drop_next]; first | done | omega)))), ?_⟩; refine ⟨by omega, ?_, ?_⟩; all_goals (try (first | (simp (disch := first | decide | omega | (simp only [add_next, set_next, grow_next, leave_next, drop_next, List.length_map]; first | done | omega)) only [go_sem, ↓reduceIte, Nat.reduceBEq, Nat.reduceAdd, Nat.reduceLeDiff, Nat.reduceEqDiff, Nat.reduceLT, Nat.reduceMul, w1]; first | done | rfl) | rfl)))
      intro j hj hji
      by_cases e : j = i
      · subst e; exact hf
      · exact hno j hj (by omega)
  · have b1 : decide ((i : Int) < (l.length : Int)) = false := by simp; omega
    (simp (disch := first | decide | omega | (simp only [add_next, set_next, grow_next, leave_next, drop_next, List.length_map]; first | done | omega)) only [go_sem, ↓reduceIte, Nat.reduceBEq, Nat.reduceAdd, Nat.reduceLeDiff, Nat.reduceEqDiff, Nat.reduceLT, Nat.reduceMul, q0, q1, q7, q8, b1]; (repeat (with_reducible refine And.intro (by first | omega | assumption | rfl) ?_)))
    refine ⟨?_, (by (repeat' first | assumption | exact St.Sub.refl _ | exact RowOk.sub (by assumption) (by assumption) | refine St.Sub.trans ?_ (RowOk.sub (by assumption) (by assumption)) | refine St.Sub.add ?_ ?_ _ | refine St.Sub.set ?_ ?_ ?_ _ | refine St.Sub.keep ?_ ?_ | refine St.WF.leave ?_ _ | refine St.WF.add ?_ _ | refine St.WF.set ?_ ?_ _ | refine St.WF.grow ?_ _ _ _ | refine St.WF.keep ?_ ?_ | (first | omega | (simp only [RowOk.lo, add_next, set_next, grow_next, leave_next, drop_next]; first | done | omega))))⟩
    have h1 : l.findIdx? (fun p => !fineB p) = none := List.findIdx?_eq_none_iff.2 fun x hx => by
      obtain ⟨j, hj, rfl⟩ := List.getElem_of_mem hx
      simp [hno j hj (by omega)]
    rw [ixF, h1]; rfl
theorem ixF_le (l : List DStp) : decide ((0 : Int) ≤ ixF l) = !l.all fineB := by
  unfold ixF
  split
  · rename_i i h
    obtain ⟨hi, h1, _⟩ := List.findIdx?_eq_some_iff_getElem.1 h
    rw [show l.all fineB = false from List.all_eq_false.2 ⟨l[i], List.getElem_mem hi, by simpa using h1⟩]
    simp
  · rename_i h
    have h1 := List.findIdx?_eq_none_iff.1 h
    rw [show l.all fineB = true from List.all_eq_true.2 fun x hx => by simpa using h1 x hx]
    rfl
set_option maxRecDepth 200000 in
set_option maxHeartbeats 8000000 in
theorem anyNot_d (own : Own) (l : List DStp) (hl : l.length ≤ 1000000) (hs : ∀ p ∈ l, p.1.length ≤ maxLen) : DPure Try.prog 115 [.sl own (l.map encP), .fn (.func 116) [] []] (.v (.bool (!l.all fineB))) := by
  refine dpure_of_dwp mixed Try.func115 rfl (fun _ _ => by kernel_rfl) (rs := [.tmp 4]) rfl (by kernel_rfl) trivial (fun S hS => ?_)
  (simp (disch := first | decide | omega | (simp only [add_next, set_next, grow_next, leave_next, drop_next, List.length_map]; first | done | omega)) only [go_sem, ↓reduceIte, Nat.reduceBEq, Nat.reduceAdd, Nat.reduceLeDiff, Nat.reduceEqDiff, Nat.reduceLT, Nat.reduceMul]; (repeat (with_reducible refine And.intro (by first | omega | assumption | rfl) ?_)))
  refine DCalls.of_pure (ixF_d own l hl hs) ?_
  (simp (disch := first | decide | omega | (simp only [add_next, set_next, grow_next, leave_next, drop_next, List.length_map]; first | done | omega)) only [go_sem, ↓reduceIte, Nat.reduceBEq, Nat.reduceAdd, Nat.reduceLeDiff, Nat.reduceEqDiff, Nat.reduceLT, Nat.reduceMul]; (repeat (with_reducible refine And.intro (by first | omega | assumption | rfl) ?_)))
  refine ⟨?_, (by (repeat' first | assumption | exact St.Sub.refl _ | exact RowOk.sub (by assumption) (by assumption) | refine St.Sub.trans ?_ (RowOk.sub (by assumption) (by assumption)) | refine St.Sub.add ?_ ?_ _ | refine St.Sub.set ?_ ?_ ?_ _ | refine St.Sub.keep ?_ ?_ | refine St.WF.leave ?_ _ | refine St.WF.add ?_ _ | refine St.WF.set ?_ ?_ _ | refine St.WF.grow ?_ _ _ _ | refine St.WF.keep ?_ ?_ | (first | omega | (simp only [RowOk.lo, add_next, set_next, grow_next, leave_next, drop_next]; first | done | omega))))⟩
  rw [ixF_le]; rfl
def rightP (l : List DStp) : Bool := decide (l.length ≤ 8) && l.all fineB
set_option maxRecDepth 200000 in
set_option maxHeartbeats 8000000 in
theorem pathRight_d (own : Own) (l : List DStp) (hl : l.length ≤ 1000000) (hs : ∀ p ∈ l, p.1.length ≤ maxLen) : DPure Try.prog 84 [.sl own (l.map encP)] (.v (.bool (rightP l))) := by
  refine dpure_of_dwp mixed Try.func84 rfl (fun _ _ => by kernel_rfl) (rs := [.tmp 2]) rfl (by kernel_rfl) trivial (fun S hS => ?_)
  by_cases h8 : l.length ≤ 8
  · have b1 : decide ((l.length : Int) ≤ 8) = true := by simp; omega
    (simp (disch := first | decide | omega | (simp only [add_next, set_next, grow_next, leave_next, drop_next, List.length_map]; first | done | omega)) only [go_sem, ↓reduceIte, Nat.reduceBEq, Nat.reduceAdd, Nat.reduceLeDiff, Nat.reduceEqDiff, Nat.reduceLT, Nat.reduceMul, b1]; (repeat (with_reducible refine And.intro (by first | omega | assumption | rfl) ?_)))
    refine DCalls.of_pure (anyNot_d own l hl hs) ?_
    (simp (disch := first | decide | omega | (simp only [add_next, set_next, grow_next, leave_next, drop_next, List.length_map]; first | done | omega)) only [go_sem, ↓reduceIte, Nat.reduceBEq, Nat.reduceAdd, Nat.reduceLeDiff, Nat.reduceEqDiff, Nat.reduceLT, Nat.reduceMul]; (repeat (with_reducible refine And.intro (by first | omega | assumption | rfl) ?_)))
    refine ⟨?_, (by (repeat' first | assumption | exact St.Sub.refl _ | exact RowOk.sub (by assumption) (by assumption) | refine St.Sub.trans ?_ (RowOk.sub (by assumption) (by assumption)) | refine St.Sub.add ?_ ?_ _ | refine St.Sub.set ?_ ?_ ?_ _ | refine St.Sub.keep ?_ ?_ | refine St.WF.leave ?_ _ | refine St.WF.add ?_ _ | refine St.WF.set ?_ ?_ _ | refine St.WF.grow ?_ _ _ _ | refine St.WF.keep ?_ ?_ | (first | omega | (simp only [RowOk.lo, add_next, set_next, grow_next, leave_next, drop_next]; first | done | omega))))⟩
    rw [rightP, decide_eq_true h8]; simp [D.frz]
  · have b1 : decide ((l.length : Int) ≤ 8) = false := by simp; omega
    (simp (disch := first | decide | omega | (simp only [add_next, set_next, grow_next, leave_next, drop_next, List.length_map]; first | done | omega)) only [go_sem, ↓reduceIte, Nat.reduceBEq, Nat.reduceAdd, Nat.reduceLeDiff, Nat.reduceEqDiff, Nat.reduceLT, Nat.reduceMul, b1]; (repeat (with_reducible refine And.intro (by first | omega | assumption | rfl) ?_)))
    refine ⟨?_, (by (repeat' first | assumption | exact St.Sub.refl _ | exact RowOk.sub (by assumption) (by assumption) | refine St.Sub.trans ?_ (RowOk.sub (by assumption) (by assumption)) | refine St.Sub.add ?_ ?_ _ | refine St.Sub.set ?_ ?_ ?_ _ | refine St.Sub.keep ?_ ?_ | refine St.WF.leave ?_ _ | refine St.WF.add ?_ _ | refine St.WF.set ?_ ?_ _ | refine St.WF.grow ?_ _ _ _ | refine St.WF.keep ?_ ?_ | (first | omega | (simp only [RowOk.lo, add_next, set_next, grow_next, leave_next, drop_next]; first | done | omega))))⟩
    rw [rightP, decide_eq_false h8]; rfl
set_option maxRecDepth 200000 in
set_option maxHeartbeats 8000000 in
theorem refRight_d (own : Own) (l : List DStp) (hl : l.length ≤ 1000000) (hs : ∀ p ∈ l, p.1.length ≤ maxLen) : DPure Try.prog 51 [.sl own (l.map encP)] (.v (.bool (rightP l))) := by
  refine dpure_of_dwp mixed Try.func51 rfl (fun _ _ => by kernel_rfl) (rs := [.tmp 2]) rfl (by kernel_rfl) trivial (fun S hS => ?_)
  (simp (disch := first | decide | omega | (simp only [add_next, set_next, grow_next, leave_next, drop_next, List.length_map]; first | done | omega)) only [go_sem, ↓reduceIte, Nat.reduceBEq, Nat.reduceAdd, Nat.reduceLeDiff, Nat.reduceEqDiff, Nat.reduceLT, Nat.reduceMul]; (repeat (with_reducible refine And.intro (by first | omega | assumption | rfl) ?_)))
  (refine dloop_st (fun t => List.contains [2, 3, 4, 5, 6, 7, 8, 9, 10, 11, 12, 13, 14, 15, 16, 17, 18, 19, 20, 21, 22, 23, 24, 25, 26, 27, 28, 29, 30, 31, 32, 33, 34, 35, 36, 37, 38, 39, 40, 41, 42, 43, 44, 45] t) (by kernel_rfl) ?_ (l.length) (fun i f => i ≤ l.length ∧ f 3 = .v (.int .i64 (i : Nat)) ∧ (∀ j (hj : j < l.length), j < i → fineB l[j] = true)) ?_ ?_; (exact (by (repeat' first | assumption | refine St.WF.leave ?_ _ | refine St.WF.add ?_ _ | refine St.WF.set ?_ ?_ _ | refine St.WF.grow ?_ _ _ _ | refine St.WF.keep ?_ ?_ | (first | omega | (simp only [RowOk.lo, add_next, set_next, grow_next, leave_next, drop_next]; first | done | omega))))); (exact ⟨(by omega), (by (first | (simp (disch := first | decide | omega | (simp only [add_next, set_next, grow_next, leave_next, drop_next, List.length_map]; first | done | omega)) only [go_sem, ↓reduceIte, Nat.reduceBEq, Nat.reduceAdd, Nat.reduceLeDiff, Nat.reduceEqDiff, Nat.reduceLT, Nat.reduceMul]; first | done | rfl) | rfl)), (fun j _ hj => by omega)⟩); intro i g tn hn hT hg hI; obtain ⟨le, q3, hno⟩ := hI; have q0 := hg 0 rfl; simp (disch := first | decide | omega | (simp only [add_next, set_next, grow_next, leave_next, drop_next, List.length_map]; first | done | omega)) only [go_sem, ↓reduceIte, Nat.reduceBEq, Nat.reduceAdd, Nat.reduceLeDiff, Nat.reduceEqDiff, Nat.reduceLT, Nat.reduceMul] at q0; clear hg; have hn' := hn; try simp only [add_next, set_next, grow_next, leave_next, drop_next] at hn')
  by_cases hlt : i < l.length
  · have b1 : decide ((i : Int) < (l.length : Int)) = true := by simp; omega
    have w1 : IntKind.i64.wrap ((i : Int) + 1) = ((i + 1 : Nat) : Int) := IntWalk.i64_in _ ⟨by omega, by omega⟩
    (simp (disch := first | decide | omega | (simp only [add_next, set_next, grow_next, leave_next, drop_next, List.length_map]; first | done | omega)) only [go_sem, ↓reduceIte, Nat.reduceBEq, Nat.reduceAdd, Nat.reduceLeDiff, Nat.reduceEqDiff, Nat.reduceLT, Nat.reduceMul, q0, q3, b1, encP]; (repeat (with_reducible refine And.intro (by first | omega | assumption | rfl) ?_)))
    refine DCalls.of_pure (refName_d l[i].1 (hs _ (List.getElem_mem hlt))) ?_
    cases hn : nameB l[i].1 <;> cases hz : ((l[i].2 : Int) == 0) <;> cases he : (l[i].1 == [])
    all_goals have hz' : ((l[i].2 : Int) != 0) = !((l[i].2 : Int) == 0) := rfl
    all_goals rw [hz] at hz'
    all_goals have hf : fineB l[i] = ((nameB l[i].1 && ((l[i].2 : Int) == 0)) || (l[i].1 == [] && !((l[i].2 : Int) == 0))) := rfl
    all_goals rw [hn, hz, he] at hf
    all_goals (simp (disch := first | decide | omega | (simp only [add_next, set_next, grow_next, leave_next, drop_next, List.length_map]; first | done | omega)) only [go_sem, ↓reduceIte, Nat.reduceBEq, Nat.reduceAdd, Nat.reduceLeDiff, Nat.reduceEqDiff, Nat.reduceLT, Nat.reduceMul, q0, q3, b1, encP, hz, hz', he, w1]; (repeat (with_reducible refine And.intro (by first | omega | assumption | rfl) ?_)))
    all_goals first
      | (refine ⟨?_, (by (repeat' first | assumption | exact St.Sub.refl _ | exact RowOk.sub (by assumption) (by assumption) | refine St.Sub.trans ?_ (RowOk.sub (by assumption) (by assumption)) | refine St.Sub.add ?_ ?_ _ | refine St.Sub.set ?_ ?_ ?_ _ | refine St.Sub.keep ?_ ?_ | refine St.WF.leave ?_ _ | refine St.WF.add ?_ _ | refine St.WF.set ?_ ?_ _ | refine St.WF.grow ?_ _ _ _ | refine St.WF.keep ?_ ?_ | (first | omega | (simp only [RowOk.lo, add_next, set_next, grow_next, leave_next, drop_next]; first | done | omega))))⟩; have h0 : l.all fineB = false := List.all_eq_false.2 ⟨l[i], List.getElem_mem hlt, by rw [hf]; decide⟩; rw [rightP, h0, Bool.and_false]; rfl)
      | ((refine ⟨by omega, (by (repeat' first | assumption | exact St.Sub.refl _ | exact RowOk.sub (by assumption) (by assumption) | refine St.Sub.trans ?_ (RowOk.sub (by assumption) (by assumption)) | refine St.Sub.add ?_ ?_ _ | refine St.Sub.set ?_ ?_ ?_ _ | refine St.Sub.keep ?_ ?_ | refine St.WF.leave ?_ _ | refine St.WF.add ?_ _ | refine St.WF.set ?_ ?_ _ | refine St.WF.grow ?_ _ _ _ | refine St.WF.keep ?_ ?_ | (first | omega | (simp only [RowOk.lo, add_next, set_next, grow_next, leave_next, drop_next]; first | done | omega)))), ?_⟩; refine ⟨by omega, ?_, ?_⟩; all_goals (try (first | (simp (disch := first | decide | omega | (simp only [add_next, set_next, grow_next, leave_next, drop_next, List.length_map]; first | done | omega)) only [go_sem, ↓reduceIte, Nat.reduceBEq, Nat.reduceAdd, Nat.reduceLeDiff, Nat.reduceEqDiff, Nat.reduceLT, Nat.reduceMul, w1]; first | done | rfl) | rfl))); intro j hj hji; by_cases e : j = i; (subst e; exact hf); exact hno j hj (by omega))
  · have b1 : decide ((i : Int) < (l.length : Int)) = false := by simp; omega
    (simp (disch := first | decide | omega | (simp only [add_next, set_next, grow_next, leave_next, drop_next, List.length_map]; first | done | omega)) only [go_sem, ↓reduceIte, Nat.reduceBEq, Nat.reduceAdd, Nat.reduceLeDiff, Nat.reduceEqDiff, Nat.reduceLT, Nat.reduceMul, q0, q3, b1]; (repeat (with_reducible refine And.intro (by first | omega | assumption | rfl) ?_)))
    refine ⟨?_, (by (repeat' first | assumption | exact St.Sub.refl _ | exact RowOk.sub (by assumption) (by assumption) | refine St.Sub.trans ?_ (RowOk.sub (by assumption) (by assumption)) | refine St.Sub.add ?_ ?_ _ | refine St.Sub.set ?_ ?_ ?_ _ | refine St.Sub.keep ?_ ?_ | refine St.WF.leave ?_ _ | refine St.WF.add ?_ _ | refine St.WF.set ?_ ?_ _ | refine St.WF.grow ?_ _ _ _ | refine St.WF.keep ?_ ?_ | (first | omega | (simp only [RowOk.lo, add_next, set_next, grow_next, leave_next, drop_next]; first | done | omega))))⟩
    have : l.all fineB = true := List.all_eq_true.2 fun x hx => by
      obtain ⟨j, hj, rfl⟩ := List.getElem_of_mem hx
      exact hno j hj (by omega)
    have h8 : decide ((l.length : Int) ≤ 8) = decide (l.length ≤ 8) := by rw [decide_eq_decide]; omega
    rw [rightP, this, Bool.and_true, ← h8]; rfl
end Go.Proofs.Ytpnjkebjdclkfaa

/- Values' bytes, walked: written. Conditions: none. -/
namespace Go.Proofs.Ytpnjkebjdclkfaa
open Go.RowKit
set_option linter.unusedSimpArgs false
set_option linter.unusedVariables false
def vkindB (v : DVal) : UInt8 := UInt8.ofNat v.kind.toNat
def vheadB (v : DVal) : List UInt8 := vkindB v :: (if v.kind = 1 then [if v.n = 1 then 1 else 0] else if v.kind = 2 then numB (zig v.n) else if v.kind = 3 ∨ v.kind = 4 then numB v.s.length ++ v.s else numB v.parts.length)
def vkeyB (v : DVal) (i : Nat) : List UInt8 := if v.kind = 5 then numB (v.names.getD i []).length ++ v.names.getD i [] else numB (v.ids.getD i 0)
def bytesV : Nat → DVal → List UInt8
  | 0, _ => []
  | m + 1, v => vheadB v ++ (List.range v.parts.length).flatMap fun i => vkeyB v i ++ bytesV m (v.parts.getD i default)
def vpartB (m : Nat) (v : DVal) (i : Nat) : List UInt8 := (List.range i).flatMap fun i => vkeyB v i ++ bytesV m (v.parts.getD i default)
theorem vpartB_succ (m : Nat) (v : DVal) (i : Nat) : vpartB m v (i + 1) = vpartB m v i ++ (vkeyB v i ++ bytesV m (v.parts.getD i default)) := by
  unfold vpartB
  rw [List.range_succ, List.flatMap_append]
  simp
theorem isU64 {n : Nat} (h : U64 (n : Int)) : IsU64 n := by have := bounds_u64 h; unfold IsU64; omega
theorem isI64 {n : Int} (h : I64 n) : IsI64 n := by have := bounds_i64 h; unfold IsI64; omega
structure VF (v : DVal) : Prop where
  kind : 1 ≤ v.kind ∧ v.kind ≤ 6
  s : v.s.length ≤ 64
  names : ∀ x ∈ v.names, x.length ≤ 12
  nn : v.names.length ≤ 8
  ni : v.ids.length ≤ 12
theorem RV.facts {v : DVal} (h : RV v) : VF v := by
  obtain ⟨m, h1, h2⟩ := h
  obtain ⟨m, rfl⟩ : ∃ n, m = n + 1 := ⟨m - 1, by have := v.depth_pos; omega⟩
  rw [soundV, Bool.and_eq_true, hereV, Bool.and_eq_true, Bool.and_eq_true, Bool.not_eq_true', Bool.not_eq_true', decide_eq_false_iff_not, decide_eq_false_iff_not] at h2
  have h3 := h2.1.1.1
  have h4 := h2.1.1.2
  have h5 := h2.1.2
  rw [Bool.and_eq_true] at h5
  have hn4 : v.kind = 4 → v.s.length ≤ 12 := fun e => by
    cases hb : nameB v.s with
    | false => unfold bad2 at h4; rw [hb] at h4; simp [e] at h4
    | true =>
      unfold nameB at hb
      rw [Bool.and_eq_true, decide_eq_true_eq] at hb
      exact hb.2.2
  have hnm : ∀ x ∈ v.names, x.length ≤ 12 := fun x hx => by
    obtain ⟨i, hi, rfl⟩ := List.getElem_of_mem hx
    have := List.all_eq_true.1 h5.1 i (List.mem_range.2 hi)
    unfold riseOk at this
    rw [Bool.and_eq_true] at this
    have h6 := this.1
    have e : v.names.getD i [] = v.names[i] := getD_at hi
    simp only [e] at h6
    unfold nameB at h6
    rw [Bool.and_eq_true, decide_eq_true_eq] at h6
    exact h6.2.2
  unfold bad1 at h3
  unfold bad2 at h4
  refine ⟨by omega, ?_, hnm, by omega, by omega⟩
  by_cases e3 : v.kind = 3
  · omega
  · by_cases e4 : v.kind = 4
    · have := hn4 e4; omega
    · omega
theorem vhead_len {v : DVal} (h : VF v) (ho : okV v) : (vheadB v).length ≤ 80 := by
  have hp := (okV_eq v).1 ho
  have h1 := numB_length_le v.s.length (by have := h.s; omega)
  unfold vheadB
  split
  · simp
  · split
    · have := numB_length_le (zig v.n) (zig_u64 v.n (isI64 hp.2.1))
      simp only [List.length_cons]; omega
    · split
      · have := h.s
        simp only [List.length_cons, List.length_append]; omega
      · have := numB_length_le v.parts.length (by have := hp.2.2.2.2.2.2.2.1; omega)
        simp only [List.length_cons]; omega
theorem vkey_len {v : DVal} (h : VF v) (ho : okV v) (i : Nat) : (vkeyB v i).length ≤ 30 := by
  have hp := (okV_eq v).1 ho
  unfold vkeyB
  split
  · have hx : (v.names.getD i []).length ≤ 12 := by
      rcases Nat.lt_or_ge i v.names.length with hi | hi
      · rw [getD_at hi]; exact h.names _ (List.getElem_mem hi)
      · rw [List.getD, List.getElem?_eq_none hi]; simp
    have := numB_length_le (v.names.getD i []).length (by omega)
    simp only [List.length_append]; omega
  · have hx : IsU64 (v.ids.getD i 0) := by
      rcases Nat.lt_or_ge i v.ids.length with hi | hi
      · rw [getD_at hi]
        have := hp.2.2.2.2.2.1 _ (List.getElem_mem hi)
        exact isU64 this
      · rw [List.getD, List.getElem?_eq_none hi]; simp [IsU64]
    have := numB_length_le (v.ids.getD i 0) hx
    omega
theorem weights_snoc (l : List DVal) (p : DVal) : DVal.weights (l ++ [p]) = DVal.weights l + p.weight := by
  induction l with
  | nil => simp [DVal.weights]
  | cons a l ihl => simp only [List.cons_append, DVal.weights, ihl]; omega
mutual
theorem bytesV_len : ∀ (m : Nat) (v : DVal), v.depth ≤ m → RV v → okV v → (bytesV m v).length ≤ 110 * v.weight
  | 0, v, h, _, _ => by have := v.depth_pos; omega
  | m + 1, v, hd, hr, ho => by
    have h0 := vhead_len hr.facts ho
    have hh := hr.here
    have hwe := v.weight_eq
    have h5 := vpart_len m v v.parts.length (Nat.le_refl _) hd hr ho
    rw [List.take_of_length_le (Nat.le_refl _)] at h5
    show (vheadB v ++ vpartB m v v.parts.length).length ≤ _
    rw [List.length_append]
    have := hh.2.2
    omega
  termination_by m _ => (m, 1, 0)
theorem vpart_len : ∀ (m : Nat) (v : DVal) (i : Nat), i ≤ v.parts.length → v.depth ≤ m + 1 → RV v → okV v → (vpartB m v i).length ≤ 110 * DVal.weights (v.parts.take i) + 30 * i
  | m, v, 0, _, _, _, _ => by simp [vpartB]
  | m, v, i + 1, hi, hd, hr, ho => by
    have h1 := vpart_len m v i (by omega) hd hr ho
    have h2 := vkey_len hr.facts ho i
    have hlt : i < v.parts.length := hi
    have hm := List.getElem_mem hlt
    have h3 := bytesV_len m v.parts[i] (by have := DVal.depth_part hm; omega) (hr.part hm) (((okV_eq v).1 ho).2.2.2.2.2.2.2.2 _ hm)
    have e : v.parts.getD i default = v.parts[i] := getD_at hlt
    rw [vpartB_succ, List.length_append, List.length_append, e, List.take_succ_eq_append_getElem hlt, weights_snoc]
    omega
  termination_by m _ i => (m, 2, i)
end
set_option maxRecDepth 200000 in
set_option maxHeartbeats 8000000 in
theorem valWrite_w (m : Nat) : ∀ (v : DVal) {S : St} {k : Nat} {bs : List UInt8} (hd : v.depth ≤ m) (hr : RV v) (ho : okV v) (hw : v.weight ≤ 100000) (hk : k < S.next) (h : WAt k bs S) (hb : bs.length + 200 * v.weight ≤ 1000000000),
    DCalls Try.prog 106 [.loc k 0, encV v] S fun d T => d = undefD ∧ WAt k (bs ++ bytesV m v) T ∧ WFr k S T := by
  induction m with
  | zero => intro v S k bs h; have := v.depth_pos; omega
  | succ m ih =>
    intro v S k bs hd hr ho hw hk h hb
    have hf := hr.facts
    have hh := hr.here
    have hp := (okV_eq v).1 ho
    have hwe := v.weight_eq
    have hpl := partsLen v
    have hkk := hf.kind
    refine dcalls_inline mixed Try.func106 rfl (fun _ _ => by kernel_rfl) (rs := []) rfl (by kernel_rfl) (fun hS => ?_)
    have wk : IntKind.u8.wrap v.kind = ((vkindB v).toNat : Int) := by
      rw [IntKind.wrap_u8]
      unfold vkindB
      rw [UInt8.toNat_ofNat']
      omega
    (simp (disch := first | decide | omega | (simp only [add_next, set_next, grow_next, leave_next, drop_next, List.length_map]; first | done | omega)) only [go_sem, ↓reduceIte, Nat.reduceBEq, Nat.reduceAdd, Nat.reduceLeDiff, Nat.reduceEqDiff, Nat.reduceLT, Nat.reduceMul, encV_eq v, wk]; (repeat (with_reducible refine And.intro (by first | omega | assumption | rfl) ?_)))
    refine (byte_w (vkindB v) (k := k) (by show k < S.next + 1; omega) (h.box (by show S.next ≤ S.next + 1; omega) hS (add_keep hS _)) (by omega)).wf.mono ?_
    rintro _ T0 ⟨⟨rfl, hW0, hF0⟩, hT0⟩
    have hx0 := hF0.box S.next 31 [.v (.int .i64 v.kind), .v (.int .i64 v.n), .v (sv v.s), .sl .no (v.names.map strD), .sl .no (v.ids.map u64D), .sl .no (v.parts.map encV)] (by omega) (by (first | (simp (disch := first | decide | omega | (simp only [add_next, set_next, grow_next, leave_next, drop_next, List.length_map]; first | done | omega)) only [go_sem, ↓reduceIte, Nat.reduceBEq, Nat.reduceAdd, Nat.reduceLeDiff, Nat.reduceEqDiff, Nat.reduceLT, Nat.reduceMul]; first | done | rfl) | rfl))
    have hn0 : S.next + 1 ≤ T0.next := hF0.next
    have hFS : WFr k S T0 := (WFr.of_keep (by show S.next ≤ S.next + 1; omega) (add_keep hS _)).trans hF0
    have hempty : v.kind ≠ 5 → v.kind ≠ 6 → v.parts.length = 0 := fun h5 h6 => by have := hh.1 h5; have := hh.2.1 h6; omega
    have kne : ∀ n : Int, v.kind ≠ n → (v.kind == n) = false := fun n h => by simpa using h
    have keq : ∀ n : Int, v.kind = n → (v.kind == n) = true := fun n h => by simpa using h
    by_cases k1 : v.kind = 1
    · have np1 := hempty (by omega) (by omega)
      have np0 : decide ((0 : Int) < (v.parts.length : Int)) = false := by rw [np1]; decide
      have b1 := keq 1 k1
      (simp (disch := first | decide | omega | (simp only [add_next, set_next, grow_next, leave_next, drop_next, List.length_map]; first | done | omega)) only [go_sem, ↓reduceIte, Nat.reduceBEq, Nat.reduceAdd, Nat.reduceLeDiff, Nat.reduceEqDiff, Nat.reduceLT, Nat.reduceMul, hx0, b1]; (repeat (with_reducible refine And.intro (by first | omega | assumption | rfl) ?_)))
      refine (bool_w (v.n == 1) (k := k) (by omega) hW0 (by simp; omega)).wf.mono ?_
      rintro _ T1 ⟨⟨rfl, hW1, hF1⟩, hT1⟩
      have hx1 := hF1.box S.next _ _ (by omega) hx0
      (simp (disch := first | decide | omega | (simp only [add_next, set_next, grow_next, leave_next, drop_next, List.length_map]; first | done | omega)) only [go_sem, ↓reduceIte, Nat.reduceBEq, Nat.reduceAdd, Nat.reduceLeDiff, Nat.reduceEqDiff, Nat.reduceLT, Nat.reduceMul, hx1]; (repeat (with_reducible refine And.intro (by first | omega | assumption | rfl) ?_)))
      refine dloop_fuel 1 hT1 (by kernel_rfl) ?_
      rw [loopN_eq]
      (simp (disch := first | decide | omega | (simp only [add_next, set_next, grow_next, leave_next, drop_next, List.length_map]; first | done | omega)) only [go_sem, ↓reduceIte, Nat.reduceBEq, Nat.reduceAdd, Nat.reduceLeDiff, Nat.reduceEqDiff, Nat.reduceLT, Nat.reduceMul, hx1, np0]; (repeat (with_reducible refine And.intro (by first | omega | assumption | rfl) ?_)))
      refine ⟨?_, hFS.trans hF1⟩
      show WAt k (bs ++ (vheadB v ++ vpartB m v v.parts.length)) _
      rw [np1]
      simpa [vheadB, vpartB, k1, List.append_assoc] using hW1
    by_cases k2 : v.kind = 2
    · have np1 := hempty (by omega) (by omega)
      have np0 : decide ((0 : Int) < (v.parts.length : Int)) = false := by rw [np1]; decide
      have b1 := kne 1 k1
      have b2 := keq 2 k2
      (simp (disch := first | decide | omega | (simp only [add_next, set_next, grow_next, leave_next, drop_next, List.length_map]; first | done | omega)) only [go_sem, ↓reduceIte, Nat.reduceBEq, Nat.reduceAdd, Nat.reduceLeDiff, Nat.reduceEqDiff, Nat.reduceLT, Nat.reduceMul, hx0, b1, b2]; (repeat (with_reducible refine And.intro (by first | omega | assumption | rfl) ?_)))
      refine (int_w v.n (isI64 hp.2.1) (k := k) (by omega) hW0 (by simp; omega)).wf.mono ?_
      rintro _ T1 ⟨⟨rfl, hW1, hF1⟩, hT1⟩
      have hx1 := hF1.box S.next _ _ (by omega) hx0
      (simp (disch := first | decide | omega | (simp only [add_next, set_next, grow_next, leave_next, drop_next, List.length_map]; first | done | omega)) only [go_sem, ↓reduceIte, Nat.reduceBEq, Nat.reduceAdd, Nat.reduceLeDiff, Nat.reduceEqDiff, Nat.reduceLT, Nat.reduceMul, hx1]; (repeat (with_reducible refine And.intro (by first | omega | assumption | rfl) ?_)))
      refine dloop_fuel 1 hT1 (by kernel_rfl) ?_
      rw [loopN_eq]
      (simp (disch := first | decide | omega | (simp only [add_next, set_next, grow_next, leave_next, drop_next, List.length_map]; first | done | omega)) only [go_sem, ↓reduceIte, Nat.reduceBEq, Nat.reduceAdd, Nat.reduceLeDiff, Nat.reduceEqDiff, Nat.reduceLT, Nat.reduceMul, hx1, np0]; (repeat (with_reducible refine And.intro (by first | omega | assumption | rfl) ?_)))
      refine ⟨?_, hFS.trans hF1⟩
      show WAt k (bs ++ (vheadB v ++ vpartB m v v.parts.length)) _
      rw [np1]
      simpa [vheadB, vpartB, k2, List.append_assoc] using hW1
    by_cases k3 : v.kind = 3
    · have np1 := hempty (by omega) (by omega)
      have np0 : decide ((0 : Int) < (v.parts.length : Int)) = false := by rw [np1]; decide
      have b1 := kne 1 k1
      have b2 := kne 2 k2
      have b3 := keq 3 k3
      have hsl := hf.s
      (simp (disch := first | decide | omega | (simp only [add_next, set_next, grow_next, leave_next, drop_next, List.length_map]; first | done | omega)) only [go_sem, ↓reduceIte, Nat.reduceBEq, Nat.reduceAdd, Nat.reduceLeDiff, Nat.reduceEqDiff, Nat.reduceLT, Nat.reduceMul, hx0, b1, b2, b3]; (repeat (with_reducible refine And.intro (by first | omega | assumption | rfl) ?_)))
      refine (text_w ⟨v.s.toArray⟩ (k := k) (by omega) hW0 (by simp; omega)).wf.mono ?_
      rintro _ T1 ⟨⟨rfl, hW1, hF1⟩, hT1⟩
      have hx1 := hF1.box S.next _ _ (by omega) hx0
      (simp (disch := first | decide | omega | (simp only [add_next, set_next, grow_next, leave_next, drop_next, List.length_map]; first | done | omega)) only [go_sem, ↓reduceIte, Nat.reduceBEq, Nat.reduceAdd, Nat.reduceLeDiff, Nat.reduceEqDiff, Nat.reduceLT, Nat.reduceMul, hx1]; (repeat (with_reducible refine And.intro (by first | omega | assumption | rfl) ?_)))
      refine dloop_fuel 1 hT1 (by kernel_rfl) ?_
      rw [loopN_eq]
      (simp (disch := first | decide | omega | (simp only [add_next, set_next, grow_next, leave_next, drop_next, List.length_map]; first | done | omega)) only [go_sem, ↓reduceIte, Nat.reduceBEq, Nat.reduceAdd, Nat.reduceLeDiff, Nat.reduceEqDiff, Nat.reduceLT, Nat.reduceMul, hx1, np0]; (repeat (with_reducible refine And.intro (by first | omega | assumption | rfl) ?_)))
      refine ⟨?_, hFS.trans hF1⟩
      show WAt k (bs ++ (vheadB v ++ vpartB m v v.parts.length)) _
      rw [np1]
      simpa [vheadB, vpartB, k3, List.append_assoc] using hW1
    by_cases k4 : v.kind = 4
    · have np1 := hempty (by omega) (by omega)
      have np0 : decide ((0 : Int) < (v.parts.length : Int)) = false := by rw [np1]; decide
      have b1 := kne 1 k1
      have b2 := kne 2 k2
      have b3 := kne 3 k3
      have b4 := keq 4 k4
      have hsl := hf.s
      (simp (disch := first | decide | omega | (simp only [add_next, set_next, grow_next, leave_next, drop_next, List.length_map]; first | done | omega)) only [go_sem, ↓reduceIte, Nat.reduceBEq, Nat.reduceAdd, Nat.reduceLeDiff, Nat.reduceEqDiff, Nat.reduceLT, Nat.reduceMul, hx0, b1, b2, b3, b4]; (repeat (with_reducible refine And.intro (by first | omega | assumption | rfl) ?_)))
      refine (text_w ⟨v.s.toArray⟩ (k := k) (by omega) hW0 (by simp; omega)).wf.mono ?_
      rintro _ T1 ⟨⟨rfl, hW1, hF1⟩, hT1⟩
      have hx1 := hF1.box S.next _ _ (by omega) hx0
      (simp (disch := first | decide | omega | (simp only [add_next, set_next, grow_next, leave_next, drop_next, List.length_map]; first | done | omega)) only [go_sem, ↓reduceIte, Nat.reduceBEq, Nat.reduceAdd, Nat.reduceLeDiff, Nat.reduceEqDiff, Nat.reduceLT, Nat.reduceMul, hx1]; (repeat (with_reducible refine And.intro (by first | omega | assumption | rfl) ?_)))
      refine dloop_fuel 1 hT1 (by kernel_rfl) ?_
      rw [loopN_eq]
      (simp (disch := first | decide | omega | (simp only [add_next, set_next, grow_next, leave_next, drop_next, List.length_map]; first | done | omega)) only [go_sem, ↓reduceIte, Nat.reduceBEq, Nat.reduceAdd, Nat.reduceLeDiff, Nat.reduceEqDiff, Nat.reduceLT, Nat.reduceMul, hx1, np0]; (repeat (with_reducible refine And.intro (by first | omega | assumption | rfl) ?_)))
      refine ⟨?_, hFS.trans hF1⟩
      show WAt k (bs ++ (vheadB v ++ vpartB m v v.parts.length)) _
      rw [np1]
      simpa [vheadB, vpartB, k4, List.append_assoc] using hW1
    have b1 := kne 1 k1
    have b2 := kne 2 k2
    have b3 := kne 3 k3
    have b4 := kne 4 k4
    have hnu : IsU64 v.parts.length := by unfold IsU64; omega
    (simp (disch := first | decide | omega | (simp only [add_next, set_next, grow_next, leave_next, drop_next, List.length_map]; first | done | omega)) only [go_sem, ↓reduceIte, Nat.reduceBEq, Nat.reduceAdd, Nat.reduceLeDiff, Nat.reduceEqDiff, Nat.reduceLT, Nat.reduceMul, hx0, b1, b2, b3, b4, wrap_u64 v.parts.length hnu]; (repeat (with_reducible refine And.intro (by first | omega | assumption | rfl) ?_)))
    refine (number_w v.parts.length hnu (k := k) (by omega) hW0 (by simp; omega)).wf.mono ?_
    rintro _ T1 ⟨⟨rfl, hW1, hF1⟩, hT1⟩
    have hx1 := hF1.box S.next _ _ (by omega) hx0
    have hn1 : T0.next ≤ T1.next := hF1.next
    have hFS1 := hFS.trans hF1
    have ehead : bs ++ [vkindB v] ++ numB v.parts.length = bs ++ vheadB v := by
      rw [vheadB, if_neg k1, if_neg k2, if_neg (by omega), List.append_assoc]; rfl
    rw [ehead] at hW1
    (simp (disch := first | decide | omega | (simp only [add_next, set_next, grow_next, leave_next, drop_next, List.length_map]; first | done | omega)) only [go_sem, ↓reduceIte, Nat.reduceBEq, Nat.reduceAdd, Nat.reduceLeDiff, Nat.reduceEqDiff, Nat.reduceLT, Nat.reduceMul, hx1]; (repeat (with_reducible refine And.intro (by first | omega | assumption | rfl) ?_)))
    refine dloop_up (fun t => List.contains [4, 5, 42, 43, 44, 45, 46, 47, 48, 49, 50, 51, 52, 53, 54, 55, 56, 57, 58, 59, 60, 61, 62, 63, 64, 65, 66, 67] t) (by kernel_rfl) hT1 v.parts.length (fun i g T => i ≤ v.parts.length ∧ g 42 = .v (.int .i64 ((i : Nat) : Int)) ∧ WAt k ((bs ++ vheadB v) ++ vpartB m v i) T ∧ WFr k S T ∧ T.ob S.next = some (.box 31 [.v (.int .i64 v.kind), .v (.int .i64 v.n), .v (sv v.s), .sl .no (v.names.map strD), .sl .no (v.ids.map u64D), .sl .no (v.parts.map encV)]) ∧ S.next < T.next) ⟨by omega, by (first | (simp (disch := first | decide | omega | (simp only [add_next, set_next, grow_next, leave_next, drop_next, List.length_map]; first | done | omega)) only [go_sem, ↓reduceIte, Nat.reduceBEq, Nat.reduceAdd, Nat.reduceLeDiff, Nat.reduceEqDiff, Nat.reduceLT, Nat.reduceMul]; first | done | rfl) | rfl), by simpa [vpartB] using hW1, hFS1, hx1, by omega⟩ ?_
    rintro i g T hT hg ⟨le, q42, hW, hF, hx, hsn⟩
    have q0 := hg 0 rfl
    have q3 := hg 3 rfl
    have q40 := hg 40 rfl
    have q41 := hg 41 rfl
    simp (disch := first | decide | omega | (simp only [add_next, set_next, grow_next, leave_next, drop_next, List.length_map]; first | done | omega)) only [go_sem, ↓reduceIte, Nat.reduceBEq, Nat.reduceAdd, Nat.reduceLeDiff, Nat.reduceEqDiff, Nat.reduceLT, Nat.reduceMul] at q0 q3 q40 q41
    clear hg
    by_cases hlt : i < v.parts.length
    · have b5 : decide ((i : Int) < (v.parts.length : Int)) = true := by simp; omega
      have w1 : IntKind.i64.wrap ((i : Int) + 1) = ((i + 1 : Nat) : Int) := IntWalk.i64_in _ ⟨by omega, by omega⟩
      have hmem := List.getElem_mem hlt
      have hpe : v.parts.getD i default = v.parts[i] := getD_at hlt
      have hkT : k < T.next := Nat.lt_of_lt_of_le hk hF.next
      have hWa : WAt k ((bs ++ vheadB v) ++ vpartB m v i) (T.add (.box 31 (encV v.parts[i]).cells)) := hW.box (by show T.next ≤ T.next + 1; omega) hT (add_keep hT _)
      have hFa : WFr k S (T.add (.box 31 (encV v.parts[i]).cells)) := hF.trans (WFr.of_keep (by show T.next ≤ T.next + 1; omega) (add_keep hT _))
      have hxa : (T.add (.box 31 (encV v.parts[i]).cells)).ob S.next = some (.box 31 [.v (.int .i64 v.kind), .v (.int .i64 v.n), .v (sv v.s), .sl .no (v.names.map strD), .sl .no (v.ids.map u64D), .sl .no (v.parts.map encV)]) := by (first | (simp (disch := first | decide | omega | (simp only [add_next, set_next, grow_next, leave_next, drop_next, List.length_map]; first | done | omega)) only [go_sem, ↓reduceIte, Nat.reduceBEq, Nat.reduceAdd, Nat.reduceLeDiff, Nat.reduceEqDiff, Nat.reduceLT, Nat.reduceMul, hx]; first | done | rfl) | rfl)
      have hpa : (T.add (.box 31 (encV v.parts[i]).cells)).ob T.next = some (.box 31 (encV v.parts[i]).cells) := by (first | (simp (disch := first | decide | omega | (simp only [add_next, set_next, grow_next, leave_next, drop_next, List.length_map]; first | done | omega)) only [go_sem, ↓reduceIte, Nat.reduceBEq, Nat.reduceAdd, Nat.reduceLeDiff, Nat.reduceEqDiff, Nat.reduceLT, Nat.reduceMul]; first | done | rfl) | rfl)
      have hkl := vkey_len hf ho i
      have hlen : ((bs ++ vheadB v) ++ vpartB m v i).length + 30 + 200 * v.parts[i].weight ≤ 1000000000 := by
        have h1 := vhead_len hf ho
        have h3 := vpart_len m v i le (by omega) hr ho
        have h4 : DVal.weights (v.parts.take i) + v.parts[i].weight ≤ DVal.weights v.parts := by
          have := weights_take_le v.parts (i + 1)
          rwa [List.take_succ_eq_append_getElem hlt, weights_snoc] at this
        have h5 := hh.2.2
        simp only [List.length_append]
        omega
      by_cases k5 : v.kind = 5
      · have b6 := keq 5 k5
        have hin : i < v.names.length := by have := hh.2.2; have := hh.2.1 (by omega); omega
        have hke : vkeyB v i = numB v.names[i].length ++ v.names[i] := by rw [vkeyB, if_pos k5, getD_at hin]
        have hnl := hf.names _ (List.getElem_mem hin)
        (simp (disch := first | decide | omega | (simp only [add_next, set_next, grow_next, leave_next, drop_next, List.length_map]; first | done | omega)) only [go_sem, ↓reduceIte, Nat.reduceBEq, Nat.reduceAdd, Nat.reduceLeDiff, Nat.reduceEqDiff, Nat.reduceLT, Nat.reduceMul, q0, q3, q40, q41, q42, b5, hx, St.add_set, hxa, b6]; (repeat (with_reducible refine And.intro (by first | omega | assumption | rfl) ?_)))
        refine (text_w ⟨v.names[i].toArray⟩ (k := k) (by show k < T.next + 1; omega) hWa (by simp only [List.toList_toArray]; omega)).mono ?_
        rintro _ T2 ⟨rfl, hW2, hF2⟩
        rw [show numB (ByteArray.mk v.names[i].toArray).data.toList.length ++ (ByteArray.mk v.names[i].toArray).data.toList = vkeyB v i by rw [hke]] at hW2
        have hx2 := hF2.box S.next _ _ (by omega) hxa
        have hxp := hF2.box T.next 31 (encV v.parts[i]).cells (by omega) hpa
        have hn2 : T.next + 1 ≤ T2.next := hF2.next
        (simp (disch := first | decide | omega | (simp only [add_next, set_next, grow_next, leave_next, drop_next, List.length_map]; first | done | omega)) only [go_sem, ↓reduceIte, Nat.reduceBEq, Nat.reduceAdd, Nat.reduceLeDiff, Nat.reduceEqDiff, Nat.reduceLT, Nat.reduceMul, hxp, q0]; (repeat (with_reducible refine And.intro (by first | omega | assumption | rfl) ?_)))
        refine (ih v.parts[i] (by have := DVal.depth_part hmem; omega) (hr.part hmem) (hp.2.2.2.2.2.2.2.2 _ hmem) (by have := DVal.weight_part hmem; omega) (k := k) (by omega) hW2 (by simp only [List.length_append] at hkl hlen ⊢; omega)).wf.mono ?_
        rintro _ T3 ⟨⟨rfl, hW3, hF3⟩, hT3⟩
        have hx3 := hF3.box S.next _ _ (by omega) hx2
        have hn3 : T2.next ≤ T3.next := hF3.next
        (simp (disch := first | decide | omega | (simp only [add_next, set_next, grow_next, leave_next, drop_next, List.length_map]; first | done | omega)) only [go_sem, ↓reduceIte, Nat.reduceBEq, Nat.reduceAdd, Nat.reduceLeDiff, Nat.reduceEqDiff, Nat.reduceLT, Nat.reduceMul, q42, w1]; (repeat (with_reducible refine And.intro (by first | omega | assumption | rfl) ?_)))
        refine ⟨hlt, T3.ob, fun _ _ h => h, by omega, by (first | (simp (disch := first | decide | omega | (simp only [add_next, set_next, grow_next, leave_next, drop_next, List.length_map]; first | done | omega)) only [go_sem, ↓reduceIte, Nat.reduceBEq, Nat.reduceAdd, Nat.reduceLeDiff, Nat.reduceEqDiff, Nat.reduceLT, Nat.reduceMul]; first | done | rfl) | rfl), ?_, (hFa.trans hF2).trans hF3, hx3, by show S.next < T3.next; omega⟩
        show WAt k _ T3
        rw [vpartB_succ, hpe]
        simpa [List.append_assoc] using hW3
      · have b6 := kne 5 k5
        have hin : i < v.ids.length := by have := hh.2.2; have := hh.1 k5; omega
        have hke : vkeyB v i = numB v.ids[i] := by rw [vkeyB, if_neg k5, getD_at hin]
        (simp (disch := first | decide | omega | (simp only [add_next, set_next, grow_next, leave_next, drop_next, List.length_map]; first | done | omega)) only [go_sem, ↓reduceIte, Nat.reduceBEq, Nat.reduceAdd, Nat.reduceLeDiff, Nat.reduceEqDiff, Nat.reduceLT, Nat.reduceMul, q0, q3, q40, q41, q42, b5, hx, St.add_set, hxa, b6]; (repeat (with_reducible refine And.intro (by first | omega | assumption | rfl) ?_)))
        refine (number_w v.ids[i] (isU64 (hp.2.2.2.2.2.1 _ (List.getElem_mem hin))) (k := k) (by show k < T.next + 1; omega) hWa (by omega)).mono ?_
        rintro _ T2 ⟨rfl, hW2, hF2⟩
        rw [show numB v.ids[i] = vkeyB v i from hke.symm] at hW2
        have hx2 := hF2.box S.next _ _ (by omega) hxa
        have hxp := hF2.box T.next 31 (encV v.parts[i]).cells (by omega) hpa
        have hn2 : T.next + 1 ≤ T2.next := hF2.next
        (simp (disch := first | decide | omega | (simp only [add_next, set_next, grow_next, leave_next, drop_next, List.length_map]; first | done | omega)) only [go_sem, ↓reduceIte, Nat.reduceBEq, Nat.reduceAdd, Nat.reduceLeDiff, Nat.reduceEqDiff, Nat.reduceLT, Nat.reduceMul, hxp, q0]; (repeat (with_reducible refine And.intro (by first | omega | assumption | rfl) ?_)))
        refine (ih v.parts[i] (by have := DVal.depth_part hmem; omega) (hr.part hmem) (hp.2.2.2.2.2.2.2.2 _ hmem) (by have := DVal.weight_part hmem; omega) (k := k) (by omega) hW2 (by simp only [List.length_append] at hkl hlen ⊢; omega)).wf.mono ?_
        rintro _ T3 ⟨⟨rfl, hW3, hF3⟩, hT3⟩
        have hx3 := hF3.box S.next _ _ (by omega) hx2
        have hn3 : T2.next ≤ T3.next := hF3.next
        (simp (disch := first | decide | omega | (simp only [add_next, set_next, grow_next, leave_next, drop_next, List.length_map]; first | done | omega)) only [go_sem, ↓reduceIte, Nat.reduceBEq, Nat.reduceAdd, Nat.reduceLeDiff, Nat.reduceEqDiff, Nat.reduceLT, Nat.reduceMul, q42, w1]; (repeat (with_reducible refine And.intro (by first | omega | assumption | rfl) ?_)))
        refine ⟨hlt, T3.ob, fun _ _ h => h, by omega, by (first | (simp (disch := first | decide | omega | (simp only [add_next, set_next, grow_next, leave_next, drop_next, List.length_map]; first | done | omega)) only [go_sem, ↓reduceIte, Nat.reduceBEq, Nat.reduceAdd, Nat.reduceLeDiff, Nat.reduceEqDiff, Nat.reduceLT, Nat.reduceMul]; first | done | rfl) | rfl), ?_, (hFa.trans hF2).trans hF3, hx3, by show S.next < T3.next; omega⟩
        show WAt k _ T3
        rw [vpartB_succ, hpe]
        simpa [List.append_assoc] using hW3
    · have b5 : decide ((i : Int) < (v.parts.length : Int)) = false := by simp; omega
      (simp (disch := first | decide | omega | (simp only [add_next, set_next, grow_next, leave_next, drop_next, List.length_map]; first | done | omega)) only [go_sem, ↓reduceIte, Nat.reduceBEq, Nat.reduceAdd, Nat.reduceLeDiff, Nat.reduceEqDiff, Nat.reduceLT, Nat.reduceMul, q0, q3, q40, q41, q42, b5]; (repeat (with_reducible refine And.intro (by first | omega | assumption | rfl) ?_)))
      have e : i = v.parts.length := by omega
      rw [e, List.append_assoc] at hW
      exact ⟨hW, hF⟩
end Go.Proofs.Ytpnjkebjdclkfaa

/- Values' bytes, walked: encoded. Conditions: none. -/
namespace Go.Proofs.Ytpnjkebjdclkfaa
open Go.RowKit
set_option linter.unusedSimpArgs false
set_option linter.unusedVariables false
/-- An error's number. -/
def errD (n : Int) : D := .ifc 100 (.v (.int .i64 n))
def bytesOfV (v : DVal) : List UInt8 := bytesV v.depth v
def encRes (v : DVal) : D :=
  if rightV 5 v = false then .tup [.sl .no [], errD 1]
  else if 4096 < (bytesOfV v).length then .tup [.sl .no [], errD 3]
  else .tup [.sl .no ((bytesOfV v).map bD), .v .nilIface]
theorem closed_bD (l : List UInt8) : allL (fun _ => False) (l.map bD) := allL_iff.2 fun d hd => by
  obtain ⟨b, _, rfl⟩ := List.mem_map.1 hd
  simp [bD, D.all]
theorem frz_bD (l : List UInt8) : frzL (l.map bD) = l.map bD := by
  induction l with
  | nil => rfl
  | cons b l ih => simp only [List.map_cons, frzL, ih]; rfl
theorem encRes_closed (v : DVal) : (encRes v).closed := by
  unfold encRes errD
  split
  · simp [D.closed, D.all, allL, Own.all]
  · split
    · simp [D.closed, D.all, allL, Own.all]
    · simp only [D.closed, D.all, allL, Own.all]
      exact ⟨⟨trivial, closed_bD _⟩, trivial, trivial⟩
set_option maxRecDepth 200000 in
set_option maxHeartbeats 4000000 in
theorem encode_d (v : DVal) (ho : okV v) (hw : v.weight ≤ 100000) : DPure Try.prog 75 [encV v] (encRes v) := by
  refine dpure_of_dwp mixed Try.func75 rfl (fun _ _ => by kernel_rfl) (rs := [.tmp 2, .tmp 3]) rfl (by kernel_rfl) (encRes_closed v) (fun S hS => ?_)
  (simp (disch := first | decide | omega | (simp only [add_next, set_next, grow_next, leave_next, drop_next, List.length_map]; first | done | omega)) only [go_sem, ↓reduceIte, Nat.reduceBEq, Nat.reduceAdd, Nat.reduceLeDiff, Nat.reduceEqDiff, Nat.reduceLT, Nat.reduceMul]; (repeat (with_reducible refine And.intro (by first | omega | assumption | rfl) ?_)))
  refine DCalls.of_pure (valRight_d v ho) ?_
  cases hR : rightV 5 v
  · (simp (disch := first | decide | omega | (simp only [add_next, set_next, grow_next, leave_next, drop_next, List.length_map]; first | done | omega)) only [go_sem, ↓reduceIte, Nat.reduceBEq, Nat.reduceAdd, Nat.reduceLeDiff, Nat.reduceEqDiff, Nat.reduceLT, Nat.reduceMul]; (repeat (with_reducible refine And.intro (by first | omega | assumption | rfl) ?_)))
    refine ⟨?_, (by (repeat' first | assumption | exact St.Sub.refl _ | exact RowOk.sub (by assumption) (by assumption) | refine St.Sub.trans ?_ (RowOk.sub (by assumption) (by assumption)) | refine St.Sub.add ?_ ?_ _ | refine St.Sub.set ?_ ?_ ?_ _ | refine St.Sub.keep ?_ ?_ | refine St.WF.leave ?_ _ | refine St.WF.add ?_ _ | refine St.WF.set ?_ ?_ _ | refine St.WF.grow ?_ _ _ _ | refine St.WF.keep ?_ ?_ | (first | omega | (simp only [RowOk.lo, add_next, set_next, grow_next, leave_next, drop_next]; first | done | omega))))⟩
    rw [encRes, if_pos hR]
    rfl
  · have hr := RV.of_right hR
    (simp (disch := first | decide | omega | (simp only [add_next, set_next, grow_next, leave_next, drop_next, List.length_map]; first | done | omega)) only [go_sem, ↓reduceIte, Nat.reduceBEq, Nat.reduceAdd, Nat.reduceLeDiff, Nat.reduceEqDiff, Nat.reduceLT, Nat.reduceMul]; (repeat (with_reducible refine And.intro (by first | omega | assumption | rfl) ?_)))
    refine (valWrite_w v.depth v (k := S.next + 1) (bs := []) (Nat.le_refl _) hr ho hw (by simp only [add_next]; omega) ⟨.full, by (first | (simp (disch := first | decide | omega | (simp only [add_next, set_next, grow_next, leave_next, drop_next, List.length_map]; first | done | omega)) only [go_sem, ↓reduceIte, Nat.reduceBEq, Nat.reduceAdd, Nat.reduceLeDiff, Nat.reduceEqDiff, Nat.reduceLT, Nat.reduceMul]; first | done | rfl) | rfl), .inl ⟨rfl, rfl⟩⟩ (by simp; omega)).wf.mono ?_
    rintro _ T ⟨⟨rfl, hW, hF⟩, hT⟩
    have hbl := bytesV_len v.depth v (Nat.le_refl _) hr ho
    rw [List.nil_append] at hW
    (simp (disch := first | decide | omega | (simp only [add_next, set_next, grow_next, leave_next, drop_next, List.length_map]; first | done | omega)) only [go_sem, ↓reduceIte, Nat.reduceBEq, Nat.reduceAdd, Nat.reduceLeDiff, Nat.reduceEqDiff, Nat.reduceLT, Nat.reduceMul]; (repeat (with_reducible refine And.intro (by first | omega | assumption | rfl) ?_)))
    refine (out_w hW (by omega)).wf.mono ?_
    rintro _ T1 ⟨⟨o, rfl, hW1, hF1⟩, hT1⟩
    have hsub : S.Sub T1 := by
      have h1 := hF.trans hF1
      have hn := h1.next
      simp only [add_next] at hn
      exact ⟨by omega, fun j o' hj => h1.ob j o' (.inl (by have := hS.lt hj; omega)) (by have := hS.lt hj; rw [ob_skip (by simp only [add_next]; omega), ob_skip (by omega)]; exact hj)⟩
    by_cases h4 : 4096 < (bytesV v.depth v).length
    · have b1 : decide ((4096 : Int) < ((bytesV v.depth v).length : Int)) = true := by simp; omega
      (simp (disch := first | decide | omega | (simp only [add_next, set_next, grow_next, leave_next, drop_next, List.length_map]; first | done | omega)) only [go_sem, ↓reduceIte, Nat.reduceBEq, Nat.reduceAdd, Nat.reduceLeDiff, Nat.reduceEqDiff, Nat.reduceLT, Nat.reduceMul, b1]; (repeat (with_reducible refine And.intro (by first | omega | assumption | rfl) ?_)))
      refine ⟨?_, hsub⟩
      rw [encRes, if_neg (by rw [hR]; simp), if_pos (show 4096 < (bytesOfV v).length from h4)]
      rfl
    · have b1 : decide ((4096 : Int) < ((bytesV v.depth v).length : Int)) = false := by simp; omega
      (simp (disch := first | decide | omega | (simp only [add_next, set_next, grow_next, leave_next, drop_next, List.length_map]; first | done | omega)) only [go_sem, ↓reduceIte, Nat.reduceBEq, Nat.reduceAdd, Nat.reduceLeDiff, Nat.reduceEqDiff, Nat.reduceLT, Nat.reduceMul, b1]; (repeat (with_reducible refine And.intro (by first | omega | assumption | rfl) ?_)))
      refine ⟨?_, hsub⟩
      rw [encRes, if_neg (by rw [hR]; simp), if_neg (show ¬ 4096 < (bytesOfV v).length from h4)]
      simp only [D.frz, frzL, frz_bD]
      rfl
end Go.Proofs.Ytpnjkebjdclkfaa

/- Bytes that are the same: the document's, walked. Conditions: none. -/
namespace Go.Proofs.Ytpnjkebjdclkfaa
open Go.RowKit
set_option linter.unusedSimpArgs false
set_option linter.unusedVariables false
theorem u8ne (x y : UInt8) : ((x.toNat : Int) != (y.toNat : Int)) = !decide (x = y) := by
  by_cases h : x = y
  · subst h; simp
  · have : ¬ ((x.toNat : Int) = (y.toNat : Int)) := fun e => h (UInt8.toNat_inj.1 (by omega))
    simp [h, this, bne]
set_option maxRecDepth 200000 in
set_option maxHeartbeats 8000000 in
theorem bytesEq_d (own own2 : Own) (p q : List UInt8) (hp : p.length ≤ 1000000) (hq : q.length ≤ 1000000) : DPure Try.prog 55 [.sl own (p.map bD), .sl own2 (q.map bD)] (.v (.bool (decide (p = q)))) := by
  refine dpure_of_dwp mixed Try.func55 rfl (fun _ _ => by kernel_rfl) (rs := [.tmp 4]) rfl (by kernel_rfl) trivial (fun S hS => ?_)
  by_cases hl : p.length = q.length
  · have b0 : ((p.length : Int) != (q.length : Int)) = false := by simp [hl]
    (simp (disch := first | decide | omega | (simp only [add_next, set_next, grow_next, leave_next, drop_next, List.length_map]; first | done | omega)) only [go_sem, ↓reduceIte, Nat.reduceBEq, Nat.reduceAdd, Nat.reduceLeDiff, Nat.reduceEqDiff, Nat.reduceLT, Nat.reduceMul, b0]; (repeat (with_reducible refine And.intro (by first | omega | assumption | rfl) ?_)))
    (refine dloop_st (fun t => List.contains [4, 5, 11, 12, 13, 14, 15, 16, 17, 18, 19, 20, 21, 22, 23, 24, 25] t) (by kernel_rfl) ?_ (p.length) (fun i f => i ≤ p.length ∧ f 5 = .v (.int .i64 (i : Nat)) ∧ (∀ j, j < i → p[j]? = q[j]?)) ?_ ?_; (exact (by (repeat' first | assumption | refine St.WF.leave ?_ _ | refine St.WF.add ?_ _ | refine St.WF.set ?_ ?_ _ | refine St.WF.grow ?_ _ _ _ | refine St.WF.keep ?_ ?_ | (first | omega | (simp only [RowOk.lo, add_next, set_next, grow_next, leave_next, drop_next]; first | done | omega))))); (exact ⟨(by omega), (by (first | (simp (disch := first | decide | omega | (simp only [add_next, set_next, grow_next, leave_next, drop_next, List.length_map]; first | done | omega)) only [go_sem, ↓reduceIte, Nat.reduceBEq, Nat.reduceAdd, Nat.reduceLeDiff, Nat.reduceEqDiff, Nat.reduceLT, Nat.reduceMul]; first | done | rfl) | rfl)), (fun j hj => by omega)⟩); intro i g tn hn hT hg hI; obtain ⟨le, q5, hsame⟩ := hI; have q0 := hg 0 rfl; have q1 := hg 1 rfl; simp (disch := first | decide | omega | (simp only [add_next, set_next, grow_next, leave_next, drop_next, List.length_map]; first | done | omega)) only [go_sem, ↓reduceIte, Nat.reduceBEq, Nat.reduceAdd, Nat.reduceLeDiff, Nat.reduceEqDiff, Nat.reduceLT, Nat.reduceMul] at q0 q1; clear hg; have hn' := hn; try simp only [add_next, set_next, grow_next, leave_next, drop_next] at hn')
    by_cases hlt : i < p.length
    · have b1 : decide ((i : Int) < (p.length : Int)) = true := by simp; omega
      have w1 : IntKind.i64.wrap ((i : Int) + 1) = ((i + 1 : Nat) : Int) := IntWalk.i64_in _ ⟨by omega, by omega⟩
      have hlt2 : i < q.length := by omega
      by_cases hx : p[i] = q[i]
      · have b2 : (!decide (p[i] = q[i])) = false := by simp [hx]
        (simp (disch := first | decide | omega | (simp only [add_next, set_next, grow_next, leave_next, drop_next, List.length_map]; first | done | omega)) only [go_sem, ↓reduceIte, Nat.reduceBEq, Nat.reduceAdd, Nat.reduceLeDiff, Nat.reduceEqDiff, Nat.reduceLT, Nat.reduceMul, q0, q1, q5, b1, w1]; (repeat (with_reducible refine And.intro (by first | omega | assumption | rfl) ?_)))
        refine ddraw_mk 9 (by kernel_rfl) ?_
        (simp (disch := first | decide | omega | (simp only [add_next, set_next, grow_next, leave_next, drop_next, List.length_map]; first | done | omega)) only [go_sem, ↓reduceIte, Nat.reduceBEq, Nat.reduceAdd, Nat.reduceLeDiff, Nat.reduceEqDiff, Nat.reduceLT, Nat.reduceMul, q0, q1, q5, b1, b2, w1, bD_eq, u8ne]; (repeat (with_reducible refine And.intro (by first | omega | assumption | rfl) ?_)))
        (refine ⟨by omega, (by (repeat' first | assumption | exact St.Sub.refl _ | exact RowOk.sub (by assumption) (by assumption) | refine St.Sub.trans ?_ (RowOk.sub (by assumption) (by assumption)) | refine St.Sub.add ?_ ?_ _ | refine St.Sub.set ?_ ?_ ?_ _ | refine St.Sub.keep ?_ ?_ | refine St.WF.leave ?_ _ | refine St.WF.add ?_ _ | refine St.WF.set ?_ ?_ _ | refine St.WF.grow ?_ _ _ _ | refine St.WF.keep ?_ ?_ | (first | omega | (simp only [RowOk.lo, add_next, set_next, grow_next, leave_next, drop_next]; first | done | omega)))), ?_⟩; refine ⟨by omega, ?_, ?_⟩; all_goals (try (first | (simp (disch := first | decide | omega | (simp only [add_next, set_next, grow_next, leave_next, drop_next, List.length_map]; first | done | omega)) only [go_sem, ↓reduceIte, Nat.reduceBEq, Nat.reduceAdd, Nat.reduceLeDiff, Nat.reduceEqDiff, Nat.reduceLT, Nat.reduceMul, w1]; first | done | rfl) | rfl)))
        intro j hj
        by_cases e : j = i
        · subst e; rw [List.getElem?_eq_getElem hlt, List.getElem?_eq_getElem hlt2, hx]
        · exact hsame j (by omega)
      · have b2 : (!decide (p[i] = q[i])) = true := by simp [hx]
        (simp (disch := first | decide | omega | (simp only [add_next, set_next, grow_next, leave_next, drop_next, List.length_map]; first | done | omega)) only [go_sem, ↓reduceIte, Nat.reduceBEq, Nat.reduceAdd, Nat.reduceLeDiff, Nat.reduceEqDiff, Nat.reduceLT, Nat.reduceMul, q0, q1, q5, b1]; (repeat (with_reducible refine And.intro (by first | omega | assumption | rfl) ?_)))
        refine ddraw_mk 9 (by kernel_rfl) ?_
        (simp (disch := first | decide | omega | (simp only [add_next, set_next, grow_next, leave_next, drop_next, List.length_map]; first | done | omega)) only [go_sem, ↓reduceIte, Nat.reduceBEq, Nat.reduceAdd, Nat.reduceLeDiff, Nat.reduceEqDiff, Nat.reduceLT, Nat.reduceMul, q0, q1, q5, b1, b2, bD_eq, u8ne]; (repeat (with_reducible refine And.intro (by first | omega | assumption | rfl) ?_)))
        refine ⟨?_, (by (repeat' first | assumption | exact St.Sub.refl _ | exact RowOk.sub (by assumption) (by assumption) | refine St.Sub.trans ?_ (RowOk.sub (by assumption) (by assumption)) | refine St.Sub.add ?_ ?_ _ | refine St.Sub.set ?_ ?_ ?_ _ | refine St.Sub.keep ?_ ?_ | refine St.WF.leave ?_ _ | refine St.WF.add ?_ _ | refine St.WF.set ?_ ?_ _ | refine St.WF.grow ?_ _ _ _ | refine St.WF.keep ?_ ?_ | (first | omega | (simp only [RowOk.lo, add_next, set_next, grow_next, leave_next, drop_next]; first | done | omega))))⟩
        rw [decide_eq_false]
        · rfl
        · intro e; subst e; exact hx rfl
    · have b1 : decide ((i : Int) < (p.length : Int)) = false := by simp; omega
      (simp (disch := first | decide | omega | (simp only [add_next, set_next, grow_next, leave_next, drop_next, List.length_map]; first | done | omega)) only [go_sem, ↓reduceIte, Nat.reduceBEq, Nat.reduceAdd, Nat.reduceLeDiff, Nat.reduceEqDiff, Nat.reduceLT, Nat.reduceMul, q0, q1, q5, b1]; (repeat (with_reducible refine And.intro (by first | omega | assumption | rfl) ?_)))
      refine ⟨?_, (by (repeat' first | assumption | exact St.Sub.refl _ | exact RowOk.sub (by assumption) (by assumption) | refine St.Sub.trans ?_ (RowOk.sub (by assumption) (by assumption)) | refine St.Sub.add ?_ ?_ _ | refine St.Sub.set ?_ ?_ ?_ _ | refine St.Sub.keep ?_ ?_ | refine St.WF.leave ?_ _ | refine St.WF.add ?_ _ | refine St.WF.set ?_ ?_ _ | refine St.WF.grow ?_ _ _ _ | refine St.WF.keep ?_ ?_ | (first | omega | (simp only [RowOk.lo, add_next, set_next, grow_next, leave_next, drop_next]; first | done | omega))))⟩
      rw [decide_eq_true]
      · rfl
      · refine List.ext_getElem? fun j => ?_
        by_cases hj : j < i
        · exact hsame j hj
        · rw [List.getElem?_eq_none (by omega), List.getElem?_eq_none (by omega)]
  · have b0 : ((p.length : Int) != (q.length : Int)) = true := by simp; omega
    (simp (disch := first | decide | omega | (simp only [add_next, set_next, grow_next, leave_next, drop_next, List.length_map]; first | done | omega)) only [go_sem, ↓reduceIte, Nat.reduceBEq, Nat.reduceAdd, Nat.reduceLeDiff, Nat.reduceEqDiff, Nat.reduceLT, Nat.reduceMul, b0]; (repeat (with_reducible refine And.intro (by first | omega | assumption | rfl) ?_)))
    refine ⟨?_, (by (repeat' first | assumption | exact St.Sub.refl _ | exact RowOk.sub (by assumption) (by assumption) | refine St.Sub.trans ?_ (RowOk.sub (by assumption) (by assumption)) | refine St.Sub.add ?_ ?_ _ | refine St.Sub.set ?_ ?_ ?_ _ | refine St.Sub.keep ?_ ?_ | refine St.WF.leave ?_ _ | refine St.WF.add ?_ _ | refine St.WF.set ?_ ?_ _ | refine St.WF.grow ?_ _ _ _ | refine St.WF.keep ?_ ?_ | (first | omega | (simp only [RowOk.lo, add_next, set_next, grow_next, leave_next, drop_next]; first | done | omega))))⟩
    rw [decide_eq_false]
    · rfl
    · intro e; subst e; exact hl rfl
end Go.Proofs.Ytpnjkebjdclkfaa

/- The document's example of values, walked. Conditions: none. -/
namespace Go.Proofs.Ytpnjkebjdclkfaa
open Go.RowKit
set_option linter.unusedSimpArgs false
set_option linter.unusedVariables false
theorem i64_5 : I64 5 := WalkArith.wf_i64 (by omega)
def exA : DVal := .mk 2 5 [] [] [] []
def exB : DVal := .mk 1 1 [] [] [] []
def exV : DVal := .mk 5 0 [] [[97], [98]] [] [exB, exA]
theorem ex_rec : recV [[98], [97]] [exA, exB] 2 = exV := by kernel_rfl
theorem ex_bytes : bytesOfV exV = [5, 2, 1, 97, 1, 1, 1, 98, 2, 10] := by
  have e1 : bytesV 1 exA = [2, 10] := by
    simp [bytesV, vheadB, vkindB, exA, DVal.kind, DVal.n, DVal.parts, zig, numB_lt]
    decide
  have e2 : bytesV 1 exB = [1, 1] := by
    simp [bytesV, vheadB, vkindB, exB, DVal.kind, DVal.n, DVal.parts]
  show bytesV 2 exV = _
  have h : bytesV 2 exV = vheadB exV ++ (List.range exV.parts.length).flatMap fun i => vkeyB exV i ++ bytesV 1 (exV.parts.getD i default) := rfl
  rw [h]
  have h2 : List.range exV.parts.length = [0, 1] := rfl
  rw [h2]
  have p0 : exV.parts.getD 0 default = exB := rfl
  have p1 : exV.parts.getD 1 default = exA := rfl
  simp only [List.flatMap_cons, List.flatMap_nil, p0, p1, e1, e2]
  have k0 : vkeyB exV 0 = [1, 97] := by
    show numB 1 ++ [97] = _
    rw [numB_lt _ (by omega)]; rfl
  have k1 : vkeyB exV 1 = [1, 98] := by
    show numB 1 ++ [98] = _
    rw [numB_lt _ (by omega)]; rfl
  have hh : vheadB exV = [5, 2] := by
    show vkindB exV :: numB 2 = _
    rw [numB_lt _ (by omega)]; rfl
  rw [k0, k1, hh]
  rfl
theorem ex_enc : encRes exV = .tup [.sl .no (([5, 2, 1, 97, 1, 1, 1, 98, 2, 10] : List UInt8).map bD), .v .nilIface] := by
  have hr : rightV 5 exV = true := by kernel_rfl
  rw [encRes, if_neg (by rw [hr]; simp), ex_bytes, if_neg (by simp)]
set_option maxRecDepth 200000 in
set_option maxHeartbeats 4000000 in
theorem awake08_d : DPure Try.prog 38 [] (.v (.bool true)) := by
  refine dpure_of_dwp mixed Try.func38 rfl (fun _ _ => by kernel_rfl) (rs := [.tmp 0]) rfl (by kernel_rfl) trivial (fun S hS => ?_)
  (simp (disch := first | decide | omega | (simp only [add_next, set_next, grow_next, leave_next, drop_next, List.length_map]; first | done | omega)) only [go_sem, ↓reduceIte, Nat.reduceBEq, Nat.reduceAdd, Nat.reduceLeDiff, Nat.reduceEqDiff, Nat.reduceLT, Nat.reduceMul]; (repeat (with_reducible refine And.intro (by first | omega | assumption | rfl) ?_)))
  have hrec := record_d .no .no [[98], [97]] [exA, exB] (by simp) (by simp) (by
    intro p hp
    simp only [List.mem_cons, List.not_mem_nil, or_false] at hp
    rcases hp with rfl | rfl <;> (rw [DVal.weight_eq]; simp [exA, exB, DVal.names, DVal.ids, DVal.parts, DVal.weights])) (by
    intro x hx
    simp only [List.mem_cons, List.not_mem_nil, or_false] at hx
    rcases hx with rfl | rfl <;> simp [maxLen])
  rw [show min ([[98], [97]] : List Str).length [exA, exB].length = 2 from rfl, ex_rec] at hrec
  refine DCalls.of_pure (DPure.weak hrec (by
    simp only [frzL, D.frz, List.map_cons, List.map_nil, encV_eq]
    rfl)) ?_
  (simp (disch := first | decide | omega | (simp only [add_next, set_next, grow_next, leave_next, drop_next, List.length_map]; first | done | omega)) only [go_sem, ↓reduceIte, Nat.reduceBEq, Nat.reduceAdd, Nat.reduceLeDiff, Nat.reduceEqDiff, Nat.reduceLT, Nat.reduceMul]; (repeat (with_reducible refine And.intro (by first | omega | assumption | rfl) ?_)))
  refine DCalls.of_pure (encode_d exV (by
    rw [okV_eq]
    refine ⟨i64_5, i64_0, by simp [exV, DVal.s], ?_, by simp [exV, DVal.names], by simp [exV, DVal.ids], by simp [exV, DVal.ids], by simp [exV, DVal.parts], ?_⟩
    · intro x hx
      simp only [exV, DVal.names, List.mem_cons, List.not_mem_nil, or_false] at hx
      rcases hx with rfl | rfl <;> simp [maxLen]
    · intro p hp
      simp only [exV, DVal.parts, List.mem_cons, List.not_mem_nil, or_false] at hp
      rcases hp with rfl | rfl
      all_goals
        rw [okV_eq]
        refine ⟨?_, ?_, by simp [exA, exB, DVal.s], by simp [exA, exB, DVal.names], by simp [exA, exB, DVal.names], by simp [exA, exB, DVal.ids], by simp [exA, exB, DVal.ids], by simp [exA, exB, DVal.parts], by simp [exA, exB, DVal.parts]⟩ <;> exact WalkArith.wf_i64 (by simp [exA, exB, DVal.kind, DVal.n])) (by
    rw [DVal.weight_eq]; simp [exV, exA, exB, DVal.names, DVal.ids, DVal.parts, DVal.weights, DVal.weight_eq])) ?_
  rw [ex_enc]
  (simp (disch := first | decide | omega | (simp only [add_next, set_next, grow_next, leave_next, drop_next, List.length_map]; first | done | omega)) only [go_sem, ↓reduceIte, Nat.reduceBEq, Nat.reduceAdd, Nat.reduceLeDiff, Nat.reduceEqDiff, Nat.reduceLT, Nat.reduceMul]; (repeat (with_reducible refine And.intro (by first | omega | assumption | rfl) ?_)))
  have hbe := bytesEq_d .no .full [5, 2, 1, 97, 1, 1, 1, 98, 2, 10] [5, 2, 1, 97, 1, 1, 1, 98, 2, 10] (by simp) (by simp)
  rw [decide_eq_true rfl] at hbe
  refine DCalls.of_pure hbe ?_
  (simp (disch := first | decide | omega | (simp only [add_next, set_next, grow_next, leave_next, drop_next, List.length_map]; first | done | omega)) only [go_sem, ↓reduceIte, Nat.reduceBEq, Nat.reduceAdd, Nat.reduceLeDiff, Nat.reduceEqDiff, Nat.reduceLT, Nat.reduceMul]; (repeat (with_reducible refine And.intro (by first | omega | assumption | rfl) ?_)))
  exact ⟨rfl, (by (repeat' first | assumption | exact St.Sub.refl _ | exact RowOk.sub (by assumption) (by assumption) | refine St.Sub.trans ?_ (RowOk.sub (by assumption) (by assumption)) | refine St.Sub.add ?_ ?_ _ | refine St.Sub.set ?_ ?_ ?_ _ | refine St.Sub.keep ?_ ?_ | refine St.WF.leave ?_ _ | refine St.WF.add ?_ _ | refine St.WF.set ?_ ?_ _ | refine St.WF.grow ?_ _ _ _ | refine St.WF.keep ?_ ?_ | (first | omega | (simp only [RowOk.lo, add_next, set_next, grow_next, leave_next, drop_next]; first | done | omega))))⟩
end Go.Proofs.Ytpnjkebjdclkfaa

/- Values, walked: the program's Same. Conditions: none. -/
namespace Go.Proofs.Ytpnjkebjdclkfaa
open Go.RowKit
set_option linter.unusedSimpArgs false
set_option linter.unusedVariables false
theorem strEq_d (own own2 : Own) (l m : List Str) (hn : l.length ≤ 140737488351232) (hm : m.length ≤ 140737488351232) : DPure Try.prog 61 [.sl own (l.map strD), .sl own2 (m.map strD)] (.v (.bool (decide (l = m)))) :=
  dpure_of_gives (fun _ _ => by kernel_rfl) fun w η X vs hr => by
    simp only [RepL] at hr
    obtain ⟨y, ys, rfl, h1, z, zs, rfl, h2, rfl⟩ := hr
    obtain ⟨A, c, rfl, hc, hf⟩ := strArg h1
    obtain ⟨A2, c2, rfl, hc2, hf2⟩ := strArg h2
    exact strEqual_calls l m A A2 c c2 w hf hf2 hn hm
set_option maxRecDepth 200000 in
set_option maxHeartbeats 4000000 in
theorem uEq_d (own own2 : Own) (l m : List Nat) (hn : l.length ≤ 1000000) : DPure Try.prog 82 [.sl own (l.map u64D), .sl own2 (m.map u64D)] (.v (.bool (decide (l = m)))) := by
  refine dpure_of_dwp mixed Try.func82 rfl (fun _ _ => by kernel_rfl) (rs := [.tmp 4]) rfl (by kernel_rfl) trivial (fun S hS => ?_)
  by_cases hlm : l.length = m.length
  · have b0 : ((l.length : Int) != (m.length : Int)) = false := by simp [hlm]
    (simp (disch := first | decide | omega | (simp only [add_next, set_next, grow_next, leave_next, drop_next, List.length_map]; first | done | omega)) only [go_sem, ↓reduceIte, Nat.reduceBEq, Nat.reduceAdd, Nat.reduceLeDiff, Nat.reduceEqDiff, Nat.reduceLT, Nat.reduceMul, b0]; (repeat (with_reducible refine And.intro (by first | omega | assumption | rfl) ?_)))
    (refine dloop_st (fun t => List.contains [4, 5, 13, 14, 15, 16, 17, 18, 19, 20, 21, 22, 23, 24, 25] t) (by kernel_rfl) ?_ (l.length) (fun i f => i ≤ l.length ∧ f 13 = .v (.int .i64 ((i : Nat) : Int)) ∧ (∀ (r : Nat) (h1 : r < l.length) (h2 : r < m.length), r < i → l[r] = m[r])) ?_ ?_; (exact (by (repeat' first | assumption | refine St.WF.leave ?_ _ | refine St.WF.add ?_ _ | refine St.WF.set ?_ ?_ _ | refine St.WF.grow ?_ _ _ _ | refine St.WF.keep ?_ ?_ | (first | omega | (simp only [RowOk.lo, add_next, set_next, grow_next, leave_next, drop_next]; first | done | omega))))); (exact ⟨(by omega), (by (first | (simp (disch := first | decide | omega | (simp only [add_next, set_next, grow_next, leave_next, drop_next, List.length_map]; first | done | omega)) only [go_sem, ↓reduceIte, Nat.reduceBEq, Nat.reduceAdd, Nat.reduceLeDiff, Nat.reduceEqDiff, Nat.reduceLT, Nat.reduceMul]; first | done | rfl) | rfl)), (fun r _ _ h => by omega)⟩); intro i g tn hn hT hg hI; obtain ⟨le, q13, hno⟩ := hI; have q0 := hg 0 rfl; have q1 := hg 1 rfl; have q12 := hg 12 rfl; simp (disch := first | decide | omega | (simp only [add_next, set_next, grow_next, leave_next, drop_next, List.length_map]; first | done | omega)) only [go_sem, ↓reduceIte, Nat.reduceBEq, Nat.reduceAdd, Nat.reduceLeDiff, Nat.reduceEqDiff, Nat.reduceLT, Nat.reduceMul] at q0 q1 q12; clear hg; have hn' := hn; try simp only [add_next, set_next, grow_next, leave_next, drop_next] at hn')
    by_cases hlt : i < l.length
    · have hlt2 : i < m.length := by omega
      have b1 : decide ((i : Int) < (l.length : Int)) = true := by simp; omega
      have w1 : IntKind.i64.wrap ((i : Int) + 1) = ((i + 1 : Nat) : Int) := IntWalk.i64_in _ ⟨by omega, by omega⟩
      have hx := getD_map u64D l i hlt
      have hy := getD_map u64D m i hlt2
      (simp (disch := first | decide | omega | (simp only [add_next, set_next, grow_next, leave_next, drop_next, List.length_map]; first | done | omega)) only [go_sem, ↓reduceIte, Nat.reduceBEq, Nat.reduceAdd, Nat.reduceLeDiff, Nat.reduceEqDiff, Nat.reduceLT, Nat.reduceMul, b1, q0, q1, q12, q13]; (repeat (with_reducible refine And.intro (by first | omega | assumption | rfl) ?_)))
      refine ddraw_mk 9 (by kernel_rfl) ?_
      (simp (disch := first | decide | omega | (simp only [add_next, set_next, grow_next, leave_next, drop_next, List.length_map]; first | done | omega)) only [go_sem, ↓reduceIte, Nat.reduceBEq, Nat.reduceAdd, Nat.reduceLeDiff, Nat.reduceEqDiff, Nat.reduceLT, Nat.reduceMul, b1, hx, hy, q0, q1, q12, q13]; (repeat (with_reducible refine And.intro (by first | omega | assumption | rfl) ?_)))
      by_cases he : l[i] = m[i]
      · have b2 : ((l[i] : Int) != (m[i] : Int)) = false := by simp [he]
        (simp (disch := first | decide | omega | (simp only [add_next, set_next, grow_next, leave_next, drop_next, List.length_map]; first | done | omega)) only [go_sem, ↓reduceIte, Nat.reduceBEq, Nat.reduceAdd, Nat.reduceLeDiff, Nat.reduceEqDiff, Nat.reduceLT, Nat.reduceMul, b2, w1, q0, q1, q12, q13]; (repeat (with_reducible refine And.intro (by first | omega | assumption | rfl) ?_)))
        (refine ⟨by omega, (by (repeat' first | assumption | exact St.Sub.refl _ | exact RowOk.sub (by assumption) (by assumption) | refine St.Sub.trans ?_ (RowOk.sub (by assumption) (by assumption)) | refine St.Sub.add ?_ ?_ _ | refine St.Sub.set ?_ ?_ ?_ _ | refine St.Sub.keep ?_ ?_ | refine St.WF.leave ?_ _ | refine St.WF.add ?_ _ | refine St.WF.set ?_ ?_ _ | refine St.WF.grow ?_ _ _ _ | refine St.WF.keep ?_ ?_ | (first | omega | (simp only [RowOk.lo, add_next, set_next, grow_next, leave_next, drop_next]; first | done | omega)))), ?_⟩; refine ⟨by omega, ?_, ?_⟩; all_goals (try (first | (simp (disch := first | decide | omega | (simp only [add_next, set_next, grow_next, leave_next, drop_next, List.length_map]; first | done | omega)) only [go_sem, ↓reduceIte, Nat.reduceBEq, Nat.reduceAdd, Nat.reduceLeDiff, Nat.reduceEqDiff, Nat.reduceLT, Nat.reduceMul, w1]; first | done | rfl) | rfl)))
        intro r h1 h2 hr
        by_cases e : r = i
        · subst e; exact he
        · exact hno r h1 h2 (by omega)
      · have b2 : ((l[i] : Int) != (m[i] : Int)) = true := by simp; omega
        (simp (disch := first | decide | omega | (simp only [add_next, set_next, grow_next, leave_next, drop_next, List.length_map]; first | done | omega)) only [go_sem, ↓reduceIte, Nat.reduceBEq, Nat.reduceAdd, Nat.reduceLeDiff, Nat.reduceEqDiff, Nat.reduceLT, Nat.reduceMul, b2]; (repeat (with_reducible refine And.intro (by first | omega | assumption | rfl) ?_)))
        have hne : decide (l = m) = false := by
          rw [decide_eq_false_iff_not]
          rintro rfl
          exact he rfl
        rw [hne]
        exact ⟨rfl, (by (repeat' first | assumption | exact St.Sub.refl _ | exact RowOk.sub (by assumption) (by assumption) | refine St.Sub.trans ?_ (RowOk.sub (by assumption) (by assumption)) | refine St.Sub.add ?_ ?_ _ | refine St.Sub.set ?_ ?_ ?_ _ | refine St.Sub.keep ?_ ?_ | refine St.WF.leave ?_ _ | refine St.WF.add ?_ _ | refine St.WF.set ?_ ?_ _ | refine St.WF.grow ?_ _ _ _ | refine St.WF.keep ?_ ?_ | (first | omega | (simp only [RowOk.lo, add_next, set_next, grow_next, leave_next, drop_next]; first | done | omega))))⟩
    · have b1 : decide ((i : Int) < (l.length : Int)) = false := by simp; omega
      (simp (disch := first | decide | omega | (simp only [add_next, set_next, grow_next, leave_next, drop_next, List.length_map]; first | done | omega)) only [go_sem, ↓reduceIte, Nat.reduceBEq, Nat.reduceAdd, Nat.reduceLeDiff, Nat.reduceEqDiff, Nat.reduceLT, Nat.reduceMul, b1, q0, q1, q12, q13]; (repeat (with_reducible refine And.intro (by first | omega | assumption | rfl) ?_)))
      have heq : decide (l = m) = true := by
        rw [decide_eq_true_eq]
        exact List.ext_getElem hlm fun r h1 h2 => hno r h1 h2 (by omega)
      rw [heq]
      exact ⟨rfl, (by (repeat' first | assumption | exact St.Sub.refl _ | exact RowOk.sub (by assumption) (by assumption) | refine St.Sub.trans ?_ (RowOk.sub (by assumption) (by assumption)) | refine St.Sub.add ?_ ?_ _ | refine St.Sub.set ?_ ?_ ?_ _ | refine St.Sub.keep ?_ ?_ | refine St.WF.leave ?_ _ | refine St.WF.add ?_ _ | refine St.WF.set ?_ ?_ _ | refine St.WF.grow ?_ _ _ _ | refine St.WF.keep ?_ ?_ | (first | omega | (simp only [RowOk.lo, add_next, set_next, grow_next, leave_next, drop_next]; first | done | omega))))⟩
  · have b0 : ((l.length : Int) != (m.length : Int)) = true := by simp; omega
    (simp (disch := first | decide | omega | (simp only [add_next, set_next, grow_next, leave_next, drop_next, List.length_map]; first | done | omega)) only [go_sem, ↓reduceIte, Nat.reduceBEq, Nat.reduceAdd, Nat.reduceLeDiff, Nat.reduceEqDiff, Nat.reduceLT, Nat.reduceMul, b0]; (repeat (with_reducible refine And.intro (by first | omega | assumption | rfl) ?_)))
    have hne : decide (l = m) = false := by
      rw [decide_eq_false_iff_not]
      rintro rfl
      exact hlm rfl
    rw [hne]
    exact ⟨rfl, (by (repeat' first | assumption | exact St.Sub.refl _ | exact RowOk.sub (by assumption) (by assumption) | refine St.Sub.trans ?_ (RowOk.sub (by assumption) (by assumption)) | refine St.Sub.add ?_ ?_ _ | refine St.Sub.set ?_ ?_ ?_ _ | refine St.Sub.keep ?_ ?_ | refine St.WF.leave ?_ _ | refine St.WF.add ?_ _ | refine St.WF.set ?_ ?_ _ | refine St.WF.grow ?_ _ _ _ | refine St.WF.keep ?_ ?_ | (first | omega | (simp only [RowOk.lo, add_next, set_next, grow_next, leave_next, drop_next]; first | done | omega))))⟩
set_option maxRecDepth 200000 in
set_option maxHeartbeats 4000000 in
theorem valEqF_d (g : FuncId) (own own2 : Own) (l m : List DVal) (hn : l.length ≤ 1000000) (h : l.length = m.length → ∀ (i : Nat) (h1 : i < l.length) (h2 : i < m.length), DPure Try.prog g [encV l[i], encV m[i]] (.v (.bool (eqB l[i] m[i])))) : DPure Try.prog 83 [.sl own (l.map encV), .sl own2 (m.map encV), .fn (.func g) [] []] (.v (.bool (eqB l m))) := by
  refine dpure_of_dwp mixed Try.func83 rfl (fun _ _ => by kernel_rfl) (rs := [.tmp 6]) rfl (by kernel_rfl) trivial (fun S hS => ?_)
  by_cases hlm : l.length = m.length
  · have b0 : ((l.length : Int) != (m.length : Int)) = false := by simp [hlm]
    (simp (disch := first | decide | omega | (simp only [add_next, set_next, grow_next, leave_next, drop_next, List.length_map]; first | done | omega)) only [go_sem, ↓reduceIte, Nat.reduceBEq, Nat.reduceAdd, Nat.reduceLeDiff, Nat.reduceEqDiff, Nat.reduceLT, Nat.reduceMul, b0]; (repeat (with_reducible refine And.intro (by first | omega | assumption | rfl) ?_)))
    (refine dloop_st (fun t => List.contains [6, 7, 8, 9, 17, 18, 19, 20, 21, 22, 23, 24, 25, 26, 27, 28, 29, 30, 31] t) (by kernel_rfl) ?_ (l.length) (fun i f => i ≤ l.length ∧ f 17 = .v (.int .i64 ((i : Nat) : Int)) ∧ (∀ (r : Nat) (h1 : r < l.length) (h2 : r < m.length), r < i → l[r] = m[r])) ?_ ?_; (exact (by (repeat' first | assumption | refine St.WF.leave ?_ _ | refine St.WF.add ?_ _ | refine St.WF.set ?_ ?_ _ | refine St.WF.grow ?_ _ _ _ | refine St.WF.keep ?_ ?_ | (first | omega | (simp only [RowOk.lo, add_next, set_next, grow_next, leave_next, drop_next]; first | done | omega))))); (exact ⟨(by omega), (by (first | (simp (disch := first | decide | omega | (simp only [add_next, set_next, grow_next, leave_next, drop_next, List.length_map]; first | done | omega)) only [go_sem, ↓reduceIte, Nat.reduceBEq, Nat.reduceAdd, Nat.reduceLeDiff, Nat.reduceEqDiff, Nat.reduceLT, Nat.reduceMul]; first | done | rfl) | rfl)), (fun r _ _ h => by omega)⟩); intro i g tn hn hT hg hI; obtain ⟨le, q17, hno⟩ := hI; have q1 := hg 1 rfl; have q2 := hg 2 rfl; have q15 := hg 15 rfl; have q16 := hg 16 rfl; simp (disch := first | decide | omega | (simp only [add_next, set_next, grow_next, leave_next, drop_next, List.length_map]; first | done | omega)) only [go_sem, ↓reduceIte, Nat.reduceBEq, Nat.reduceAdd, Nat.reduceLeDiff, Nat.reduceEqDiff, Nat.reduceLT, Nat.reduceMul] at q1 q2 q15 q16; clear hg; have hn' := hn; try simp only [add_next, set_next, grow_next, leave_next, drop_next] at hn')
    by_cases hlt : i < l.length
    · have hlt2 : i < m.length := by omega
      have b1 : decide ((i : Int) < (l.length : Int)) = true := by simp; omega
      have w1 : IntKind.i64.wrap ((i : Int) + 1) = ((i + 1 : Nat) : Int) := IntWalk.i64_in _ ⟨by omega, by omega⟩
      have hx := getD_map encV l i hlt
      have hy := getD_map encV m i hlt2
      (simp (disch := first | decide | omega | (simp only [add_next, set_next, grow_next, leave_next, drop_next, List.length_map]; first | done | omega)) only [go_sem, ↓reduceIte, Nat.reduceBEq, Nat.reduceAdd, Nat.reduceLeDiff, Nat.reduceEqDiff, Nat.reduceLT, Nat.reduceMul, b1, hx, hy, q1, q2, q15, q16, q17]; (repeat (with_reducible refine And.intro (by first | omega | assumption | rfl) ?_)))
      refine DCalls.of_pure (h hlm i hlt hlt2) ?_
      by_cases he : l[i] = m[i]
      · rw [eqB_true he]
        (simp (disch := first | decide | omega | (simp only [add_next, set_next, grow_next, leave_next, drop_next, List.length_map]; first | done | omega)) only [go_sem, ↓reduceIte, Nat.reduceBEq, Nat.reduceAdd, Nat.reduceLeDiff, Nat.reduceEqDiff, Nat.reduceLT, Nat.reduceMul, w1, q1, q2, q15, q16, q17]; (repeat (with_reducible refine And.intro (by first | omega | assumption | rfl) ?_)))
        (refine ⟨by omega, (by (repeat' first | assumption | exact St.Sub.refl _ | exact RowOk.sub (by assumption) (by assumption) | refine St.Sub.trans ?_ (RowOk.sub (by assumption) (by assumption)) | refine St.Sub.add ?_ ?_ _ | refine St.Sub.set ?_ ?_ ?_ _ | refine St.Sub.keep ?_ ?_ | refine St.WF.leave ?_ _ | refine St.WF.add ?_ _ | refine St.WF.set ?_ ?_ _ | refine St.WF.grow ?_ _ _ _ | refine St.WF.keep ?_ ?_ | (first | omega | (simp only [RowOk.lo, add_next, set_next, grow_next, leave_next, drop_next]; first | done | omega)))), ?_⟩; refine ⟨by omega, ?_, ?_⟩; all_goals (try (first | (simp (disch := first | decide | omega | (simp only [add_next, set_next, grow_next, leave_next, drop_next, List.length_map]; first | done | omega)) only [go_sem, ↓reduceIte, Nat.reduceBEq, Nat.reduceAdd, Nat.reduceLeDiff, Nat.reduceEqDiff, Nat.reduceLT, Nat.reduceMul, w1]; first | done | rfl) | rfl)))
        intro r h1 h2 hr
        by_cases e : r = i
        · subst e; exact he
        · exact hno r h1 h2 (by omega)
      · rw [eqB_false he]
        (simp (disch := first | decide | omega | (simp only [add_next, set_next, grow_next, leave_next, drop_next, List.length_map]; first | done | omega)) only [go_sem, ↓reduceIte, Nat.reduceBEq, Nat.reduceAdd, Nat.reduceLeDiff, Nat.reduceEqDiff, Nat.reduceLT, Nat.reduceMul]; (repeat (with_reducible refine And.intro (by first | omega | assumption | rfl) ?_)))
        have hne : eqB l m = false := eqB_false (by rintro rfl; exact he rfl)
        rw [hne]
        exact ⟨rfl, (by (repeat' first | assumption | exact St.Sub.refl _ | exact RowOk.sub (by assumption) (by assumption) | refine St.Sub.trans ?_ (RowOk.sub (by assumption) (by assumption)) | refine St.Sub.add ?_ ?_ _ | refine St.Sub.set ?_ ?_ ?_ _ | refine St.Sub.keep ?_ ?_ | refine St.WF.leave ?_ _ | refine St.WF.add ?_ _ | refine St.WF.set ?_ ?_ _ | refine St.WF.grow ?_ _ _ _ | refine St.WF.keep ?_ ?_ | (first | omega | (simp only [RowOk.lo, add_next, set_next, grow_next, leave_next, drop_next]; first | done | omega))))⟩
    · have b1 : decide ((i : Int) < (l.length : Int)) = false := by simp; omega
      (simp (disch := first | decide | omega | (simp only [add_next, set_next, grow_next, leave_next, drop_next, List.length_map]; first | done | omega)) only [go_sem, ↓reduceIte, Nat.reduceBEq, Nat.reduceAdd, Nat.reduceLeDiff, Nat.reduceEqDiff, Nat.reduceLT, Nat.reduceMul, b1, q1, q2, q15, q16, q17]; (repeat (with_reducible refine And.intro (by first | omega | assumption | rfl) ?_)))
      have heq : eqB l m = true := eqB_true (List.ext_getElem hlm fun r h1 h2 => hno r h1 h2 (by omega))
      rw [heq]
      exact ⟨rfl, (by (repeat' first | assumption | exact St.Sub.refl _ | exact RowOk.sub (by assumption) (by assumption) | refine St.Sub.trans ?_ (RowOk.sub (by assumption) (by assumption)) | refine St.Sub.add ?_ ?_ _ | refine St.Sub.set ?_ ?_ ?_ _ | refine St.Sub.keep ?_ ?_ | refine St.WF.leave ?_ _ | refine St.WF.add ?_ _ | refine St.WF.set ?_ ?_ _ | refine St.WF.grow ?_ _ _ _ | refine St.WF.keep ?_ ?_ | (first | omega | (simp only [RowOk.lo, add_next, set_next, grow_next, leave_next, drop_next]; first | done | omega))))⟩
  · have b0 : ((l.length : Int) != (m.length : Int)) = true := by simp; omega
    (simp (disch := first | decide | omega | (simp only [add_next, set_next, grow_next, leave_next, drop_next, List.length_map]; first | done | omega)) only [go_sem, ↓reduceIte, Nat.reduceBEq, Nat.reduceAdd, Nat.reduceLeDiff, Nat.reduceEqDiff, Nat.reduceLT, Nat.reduceMul, b0]; (repeat (with_reducible refine And.intro (by first | omega | assumption | rfl) ?_)))
    have hne : eqB l m = false := eqB_false (by rintro rfl; exact hlm rfl)
    rw [hne]
    exact ⟨rfl, (by (repeat' first | assumption | exact St.Sub.refl _ | exact RowOk.sub (by assumption) (by assumption) | refine St.Sub.trans ?_ (RowOk.sub (by assumption) (by assumption)) | refine St.Sub.add ?_ ?_ _ | refine St.Sub.set ?_ ?_ ?_ _ | refine St.Sub.keep ?_ ?_ | refine St.WF.leave ?_ _ | refine St.WF.add ?_ _ | refine St.WF.set ?_ ?_ _ | refine St.WF.grow ?_ _ _ _ | refine St.WF.keep ?_ ?_ | (first | omega | (simp only [RowOk.lo, add_next, set_next, grow_next, leave_next, drop_next]; first | done | omega))))⟩
set_option maxRecDepth 200000 in
set_option maxHeartbeats 4000000 in
theorem valSame_d (k : Nat) : ∀ (a b : DVal), a.depth ≤ k → a.weight ≤ 1000000 → b.weight ≤ 1000000 → DPure Try.prog 49 [encV a, encV b] (.v (.bool (eqB a b))) := by
  induction k with
  | zero => intro a b h; have := a.depth_pos; omega
  | succ k ih =>
    intro a b hk ha hb
    have hwa := a.weight_eq
    have hwb := b.weight_eq
    have hpa := partsLen a
    have hpb := partsLen b
    refine dpure_of_dwp mixed Try.func49 rfl (fun _ _ => by kernel_rfl) (rs := [.tmp 4]) rfl (by kernel_rfl) trivial (fun S hS => ?_)
    have fin : ∀ (T : St), S.Sub T → eqB a b = false → PFin S T (.v (.bool false)) (.v (.bool (eqB a b))) := fun T hT he => by rw [he]; exact ⟨rfl, hT⟩
    by_cases h1 : a.kind = b.kind
    rotate_left
    · have b1 : (a.kind == b.kind) = false := by simpa using h1
      (simp (disch := first | decide | omega | (simp only [add_next, set_next, grow_next, leave_next, drop_next, List.length_map]; first | done | omega)) only [go_sem, ↓reduceIte, Nat.reduceBEq, Nat.reduceAdd, Nat.reduceLeDiff, Nat.reduceEqDiff, Nat.reduceLT, Nat.reduceMul, encV_eq, b1]; (repeat (with_reducible refine And.intro (by first | omega | assumption | rfl) ?_)))
      exact fin _ (by (repeat' first | assumption | exact St.Sub.refl _ | exact RowOk.sub (by assumption) (by assumption) | refine St.Sub.trans ?_ (RowOk.sub (by assumption) (by assumption)) | refine St.Sub.add ?_ ?_ _ | refine St.Sub.set ?_ ?_ ?_ _ | refine St.Sub.keep ?_ ?_ | refine St.WF.leave ?_ _ | refine St.WF.add ?_ _ | refine St.WF.set ?_ ?_ _ | refine St.WF.grow ?_ _ _ _ | refine St.WF.keep ?_ ?_ | (first | omega | (simp only [RowOk.lo, add_next, set_next, grow_next, leave_next, drop_next]; first | done | omega)))) (eqB_false (by rintro rfl; exact h1 rfl))
    by_cases h2 : a.n = b.n
    rotate_left
    · have b1 : (a.kind == b.kind) = true := by simpa using h1
      have b2 : (a.n == b.n) = false := by simpa using h2
      (simp (disch := first | decide | omega | (simp only [add_next, set_next, grow_next, leave_next, drop_next, List.length_map]; first | done | omega)) only [go_sem, ↓reduceIte, Nat.reduceBEq, Nat.reduceAdd, Nat.reduceLeDiff, Nat.reduceEqDiff, Nat.reduceLT, Nat.reduceMul, encV_eq, b1, b2]; (repeat (with_reducible refine And.intro (by first | omega | assumption | rfl) ?_)))
      exact fin _ (by (repeat' first | assumption | exact St.Sub.refl _ | exact RowOk.sub (by assumption) (by assumption) | refine St.Sub.trans ?_ (RowOk.sub (by assumption) (by assumption)) | refine St.Sub.add ?_ ?_ _ | refine St.Sub.set ?_ ?_ ?_ _ | refine St.Sub.keep ?_ ?_ | refine St.WF.leave ?_ _ | refine St.WF.add ?_ _ | refine St.WF.set ?_ ?_ _ | refine St.WF.grow ?_ _ _ _ | refine St.WF.keep ?_ ?_ | (first | omega | (simp only [RowOk.lo, add_next, set_next, grow_next, leave_next, drop_next]; first | done | omega)))) (eqB_false (by rintro rfl; exact h2 rfl))
    by_cases h3 : a.s = b.s
    rotate_left
    · have b1 : (a.kind == b.kind) = true := by simpa using h1
      have b2 : (a.n == b.n) = true := by simpa using h2
      have b3 : (a.s == b.s) = false := by simpa using h3
      (simp (disch := first | decide | omega | (simp only [add_next, set_next, grow_next, leave_next, drop_next, List.length_map]; first | done | omega)) only [go_sem, ↓reduceIte, Nat.reduceBEq, Nat.reduceAdd, Nat.reduceLeDiff, Nat.reduceEqDiff, Nat.reduceLT, Nat.reduceMul, encV_eq, b1, b2, b3]; (repeat (with_reducible refine And.intro (by first | omega | assumption | rfl) ?_)))
      exact fin _ (by (repeat' first | assumption | exact St.Sub.refl _ | exact RowOk.sub (by assumption) (by assumption) | refine St.Sub.trans ?_ (RowOk.sub (by assumption) (by assumption)) | refine St.Sub.add ?_ ?_ _ | refine St.Sub.set ?_ ?_ ?_ _ | refine St.Sub.keep ?_ ?_ | refine St.WF.leave ?_ _ | refine St.WF.add ?_ _ | refine St.WF.set ?_ ?_ _ | refine St.WF.grow ?_ _ _ _ | refine St.WF.keep ?_ ?_ | (first | omega | (simp only [RowOk.lo, add_next, set_next, grow_next, leave_next, drop_next]; first | done | omega)))) (eqB_false (by rintro rfl; exact h3 rfl))
    have b1 : (a.kind == b.kind) = true := by simpa using h1
    have b2 : (a.n == b.n) = true := by simpa using h2
    have b3 : (a.s == b.s) = true := by simpa using h3
    (simp (disch := first | decide | omega | (simp only [add_next, set_next, grow_next, leave_next, drop_next, List.length_map]; first | done | omega)) only [go_sem, ↓reduceIte, Nat.reduceBEq, Nat.reduceAdd, Nat.reduceLeDiff, Nat.reduceEqDiff, Nat.reduceLT, Nat.reduceMul, encV_eq, b1, b2, b3]; (repeat (with_reducible refine And.intro (by first | omega | assumption | rfl) ?_)))
    refine DCalls.of_pure (strEq_d .no .no a.names b.names (by omega) (by omega)) ?_
    by_cases h4 : a.names = b.names
    rotate_left
    · have b4 : decide (a.names = b.names) = false := by simpa using h4
      (simp (disch := first | decide | omega | (simp only [add_next, set_next, grow_next, leave_next, drop_next, List.length_map]; first | done | omega)) only [go_sem, ↓reduceIte, Nat.reduceBEq, Nat.reduceAdd, Nat.reduceLeDiff, Nat.reduceEqDiff, Nat.reduceLT, Nat.reduceMul, b4]; (repeat (with_reducible refine And.intro (by first | omega | assumption | rfl) ?_)))
      exact fin _ (by (repeat' first | assumption | exact St.Sub.refl _ | exact RowOk.sub (by assumption) (by assumption) | refine St.Sub.trans ?_ (RowOk.sub (by assumption) (by assumption)) | refine St.Sub.add ?_ ?_ _ | refine St.Sub.set ?_ ?_ ?_ _ | refine St.Sub.keep ?_ ?_ | refine St.WF.leave ?_ _ | refine St.WF.add ?_ _ | refine St.WF.set ?_ ?_ _ | refine St.WF.grow ?_ _ _ _ | refine St.WF.keep ?_ ?_ | (first | omega | (simp only [RowOk.lo, add_next, set_next, grow_next, leave_next, drop_next]; first | done | omega)))) (eqB_false (by rintro rfl; exact h4 rfl))
    have b4 : decide (a.names = b.names) = true := by simpa using h4
    (simp (disch := first | decide | omega | (simp only [add_next, set_next, grow_next, leave_next, drop_next, List.length_map]; first | done | omega)) only [go_sem, ↓reduceIte, Nat.reduceBEq, Nat.reduceAdd, Nat.reduceLeDiff, Nat.reduceEqDiff, Nat.reduceLT, Nat.reduceMul, b4]; (repeat (with_reducible refine And.intro (by first | omega | assumption | rfl) ?_)))
    refine DCalls.of_pure (uEq_d .no .no a.ids b.ids (by omega)) ?_
    by_cases h5 : a.ids = b.ids
    rotate_left
    · have b5 : decide (a.ids = b.ids) = false := by simpa using h5
      (simp (disch := first | decide | omega | (simp only [add_next, set_next, grow_next, leave_next, drop_next, List.length_map]; first | done | omega)) only [go_sem, ↓reduceIte, Nat.reduceBEq, Nat.reduceAdd, Nat.reduceLeDiff, Nat.reduceEqDiff, Nat.reduceLT, Nat.reduceMul, b5]; (repeat (with_reducible refine And.intro (by first | omega | assumption | rfl) ?_)))
      exact fin _ (by (repeat' first | assumption | exact St.Sub.refl _ | exact RowOk.sub (by assumption) (by assumption) | refine St.Sub.trans ?_ (RowOk.sub (by assumption) (by assumption)) | refine St.Sub.add ?_ ?_ _ | refine St.Sub.set ?_ ?_ ?_ _ | refine St.Sub.keep ?_ ?_ | refine St.WF.leave ?_ _ | refine St.WF.add ?_ _ | refine St.WF.set ?_ ?_ _ | refine St.WF.grow ?_ _ _ _ | refine St.WF.keep ?_ ?_ | (first | omega | (simp only [RowOk.lo, add_next, set_next, grow_next, leave_next, drop_next]; first | done | omega)))) (eqB_false (by rintro rfl; exact h5 rfl))
    have b5 : decide (a.ids = b.ids) = true := by simpa using h5
    (simp (disch := first | decide | omega | (simp only [add_next, set_next, grow_next, leave_next, drop_next, List.length_map]; first | done | omega)) only [go_sem, ↓reduceIte, Nat.reduceBEq, Nat.reduceAdd, Nat.reduceLeDiff, Nat.reduceEqDiff, Nat.reduceLT, Nat.reduceMul, b5]; (repeat (with_reducible refine And.intro (by first | omega | assumption | rfl) ?_)))
    refine DCalls.of_pure (valEqF_d 49 .no .no a.parts b.parts (by omega) fun _ i i1 i2 => ih a.parts[i] b.parts[i] (by have := DVal.depth_part (List.getElem_mem i1); omega) (by have := DVal.weight_part (List.getElem_mem i1); omega) (by have := DVal.weight_part (List.getElem_mem i2); omega)) ?_
    (simp (disch := first | decide | omega | (simp only [add_next, set_next, grow_next, leave_next, drop_next, List.length_map]; first | done | omega)) only [go_sem, ↓reduceIte, Nat.reduceBEq, Nat.reduceAdd, Nat.reduceLeDiff, Nat.reduceEqDiff, Nat.reduceLT, Nat.reduceMul]; (repeat (with_reducible refine And.intro (by first | omega | assumption | rfl) ?_)))
    refine ⟨?_, (by (repeat' first | assumption | exact St.Sub.refl _ | exact RowOk.sub (by assumption) (by assumption) | refine St.Sub.trans ?_ (RowOk.sub (by assumption) (by assumption)) | refine St.Sub.add ?_ ?_ _ | refine St.Sub.set ?_ ?_ ?_ _ | refine St.Sub.keep ?_ ?_ | refine St.WF.leave ?_ _ | refine St.WF.add ?_ _ | refine St.WF.set ?_ ?_ _ | refine St.WF.grow ?_ _ _ _ | refine St.WF.keep ?_ ?_ | (first | omega | (simp only [RowOk.lo, add_next, set_next, grow_next, leave_next, drop_next]; first | done | omega))))⟩
    have : eqB a.parts b.parts = eqB a b := by
      by_cases h6 : a.parts = b.parts
      · rw [eqB_true h6, eqB_true ((DVal.ext_iff' a b).2 ⟨h1, h2, h3, h4, h5, h6⟩)]
      · rw [eqB_false h6, eqB_false (by rintro rfl; exact h6 rfl)]
    rw [this]
    rfl
end Go.Proofs.Ytpnjkebjdclkfaa

/- Whether values are right, walked: the law. Conditions: none. -/
namespace Go.Proofs.Ytpnjkebjdclkfaa
open Go.RowKit
set_option linter.unusedSimpArgs false
set_option linter.unusedVariables false
set_option maxRecDepth 200000 in
set_option maxHeartbeats 4000000 in
theorem valueRight_d (v o : DVal) (hv : okV v) (ho : okV o) : DPure Try.prog 9 [encV v, encV o] (.v (.bool true)) := by
  refine dpure_of_dwp mixed Try.func9 rfl (fun _ _ => by kernel_rfl) (rs := [.tmp 4]) rfl (by kernel_rfl) trivial (fun S hS => ?_)
  (simp (disch := first | decide | omega | (simp only [add_next, set_next, grow_next, leave_next, drop_next, List.length_map]; first | done | omega)) only [go_sem, ↓reduceIte, Nat.reduceBEq, Nat.reduceAdd, Nat.reduceLeDiff, Nat.reduceEqDiff, Nat.reduceLT, Nat.reduceMul]; (repeat (with_reducible refine And.intro (by first | omega | assumption | rfl) ?_)))
  refine DCalls.of_pure (greatV_d v hv) ?_
  cases g1 : decide (roomV 12 v 300 < 0) with
  | true =>
    (simp (disch := first | decide | omega | (simp only [add_next, set_next, grow_next, leave_next, drop_next, List.length_map]; first | done | omega)) only [go_sem, ↓reduceIte, Nat.reduceBEq, Nat.reduceAdd, Nat.reduceLeDiff, Nat.reduceEqDiff, Nat.reduceLT, Nat.reduceMul]; (repeat (with_reducible refine And.intro (by first | omega | assumption | rfl) ?_)))
    refine DCalls.of_pure awake08_d ?_
    (simp (disch := first | decide | omega | (simp only [add_next, set_next, grow_next, leave_next, drop_next, List.length_map]; first | done | omega)) only [go_sem, ↓reduceIte, Nat.reduceBEq, Nat.reduceAdd, Nat.reduceLeDiff, Nat.reduceEqDiff, Nat.reduceLT, Nat.reduceMul]; (repeat (with_reducible refine And.intro (by first | omega | assumption | rfl) ?_)))
    exact ⟨rfl, (by (repeat' first | assumption | exact St.Sub.refl _ | exact RowOk.sub (by assumption) (by assumption) | refine St.Sub.trans ?_ (RowOk.sub (by assumption) (by assumption)) | refine St.Sub.add ?_ ?_ _ | refine St.Sub.set ?_ ?_ ?_ _ | refine St.Sub.keep ?_ ?_ | refine St.WF.leave ?_ _ | refine St.WF.add ?_ _ | refine St.WF.set ?_ ?_ _ | refine St.WF.grow ?_ _ _ _ | refine St.WF.keep ?_ ?_ | (first | omega | (simp only [RowOk.lo, add_next, set_next, grow_next, leave_next, drop_next]; first | done | omega))))⟩
  | false =>
    (simp (disch := first | decide | omega | (simp only [add_next, set_next, grow_next, leave_next, drop_next, List.length_map]; first | done | omega)) only [go_sem, ↓reduceIte, Nat.reduceBEq, Nat.reduceAdd, Nat.reduceLeDiff, Nat.reduceEqDiff, Nat.reduceLT, Nat.reduceMul]; (repeat (with_reducible refine And.intro (by first | omega | assumption | rfl) ?_)))
    refine DCalls.of_pure (greatV_d o ho) ?_
    cases g2 : decide (roomV 12 o 300 < 0) with
    | true =>
      (simp (disch := first | decide | omega | (simp only [add_next, set_next, grow_next, leave_next, drop_next, List.length_map]; first | done | omega)) only [go_sem, ↓reduceIte, Nat.reduceBEq, Nat.reduceAdd, Nat.reduceLeDiff, Nat.reduceEqDiff, Nat.reduceLT, Nat.reduceMul]; (repeat (with_reducible refine And.intro (by first | omega | assumption | rfl) ?_)))
      refine DCalls.of_pure awake08_d ?_
      (simp (disch := first | decide | omega | (simp only [add_next, set_next, grow_next, leave_next, drop_next, List.length_map]; first | done | omega)) only [go_sem, ↓reduceIte, Nat.reduceBEq, Nat.reduceAdd, Nat.reduceLeDiff, Nat.reduceEqDiff, Nat.reduceLT, Nat.reduceMul]; (repeat (with_reducible refine And.intro (by first | omega | assumption | rfl) ?_)))
      exact ⟨rfl, (by (repeat' first | assumption | exact St.Sub.refl _ | exact RowOk.sub (by assumption) (by assumption) | refine St.Sub.trans ?_ (RowOk.sub (by assumption) (by assumption)) | refine St.Sub.add ?_ ?_ _ | refine St.Sub.set ?_ ?_ ?_ _ | refine St.Sub.keep ?_ ?_ | refine St.WF.leave ?_ _ | refine St.WF.add ?_ _ | refine St.WF.set ?_ ?_ _ | refine St.WF.grow ?_ _ _ _ | refine St.WF.keep ?_ ?_ | (first | omega | (simp only [RowOk.lo, add_next, set_next, grow_next, leave_next, drop_next]; first | done | omega))))⟩
    | false =>
      have hw1 := (roomV_spec 12 v 300 (by have := of_decide_eq_false g1; omega)).1
      have hw2 := (roomV_spec 12 o 300 (by have := of_decide_eq_false g2; omega)).1
      have n1 := of_decide_eq_false g1
      have n2 := of_decide_eq_false g2
      have hd1 := DVal.depth_weight v.depth v (Nat.le_refl _)
      have hd2 := DVal.depth_weight o.depth o (Nat.le_refl _)
      (simp (disch := first | decide | omega | (simp only [add_next, set_next, grow_next, leave_next, drop_next, List.length_map]; first | done | omega)) only [go_sem, ↓reduceIte, Nat.reduceBEq, Nat.reduceAdd, Nat.reduceLeDiff, Nat.reduceEqDiff, Nat.reduceLT, Nat.reduceMul]; (repeat (with_reducible refine And.intro (by first | omega | assumption | rfl) ?_)))
      refine DCalls.of_pure (copyV_d v.depth v (Nat.le_refl _) (by omega)) ?_
      (simp (disch := first | decide | omega | (simp only [add_next, set_next, grow_next, leave_next, drop_next, List.length_map]; first | done | omega)) only [go_sem, ↓reduceIte, Nat.reduceBEq, Nat.reduceAdd, Nat.reduceLeDiff, Nat.reduceEqDiff, Nat.reduceLT, Nat.reduceMul, St.add_set]; (repeat (with_reducible refine And.intro (by first | omega | assumption | rfl) ?_)))
      refine ddraw_mk 42 (by kernel_rfl) ?_
      (simp (disch := first | decide | omega | (simp only [add_next, set_next, grow_next, leave_next, drop_next, List.length_map]; first | done | omega)) only [go_sem, ↓reduceIte, Nat.reduceBEq, Nat.reduceAdd, Nat.reduceLeDiff, Nat.reduceEqDiff, Nat.reduceLT, Nat.reduceMul]; (repeat (with_reducible refine And.intro (by first | omega | assumption | rfl) ?_)))
      refine dqgo_mk (valRight_d v hv) ?_
      (simp (disch := first | decide | omega | (simp only [add_next, set_next, grow_next, leave_next, drop_next, List.length_map]; first | done | omega)) only [go_sem, ↓reduceIte, Nat.reduceBEq, Nat.reduceAdd, Nat.reduceLeDiff, Nat.reduceEqDiff, Nat.reduceLT, Nat.reduceMul]; (repeat (with_reducible refine And.intro (by first | omega | assumption | rfl) ?_)))
      refine dqgo_mk (refValRight_d v hv (by omega)) ?_
      (simp (disch := first | decide | omega | (simp only [add_next, set_next, grow_next, leave_next, drop_next, List.length_map]; first | done | omega)) only [go_sem, ↓reduceIte, Nat.reduceBEq, Nat.reduceAdd, Nat.reduceLeDiff, Nat.reduceEqDiff, Nat.reduceLT, Nat.reduceMul, beq_self_eq_true]; (repeat (with_reducible refine And.intro (by first | omega | assumption | rfl) ?_)))
      refine dqgo_mk (valDepth_d v hv (by omega)) ?_
      (simp (disch := first | decide | omega | (simp only [add_next, set_next, grow_next, leave_next, drop_next, List.length_map]; first | done | omega)) only [go_sem, ↓reduceIte, Nat.reduceBEq, Nat.reduceAdd, Nat.reduceLeDiff, Nat.reduceEqDiff, Nat.reduceLT, Nat.reduceMul, beq_self_eq_true]; (repeat (with_reducible refine And.intro (by first | omega | assumption | rfl) ?_)))
      refine dqgo_mk (refValDepth_d v hv (by omega)) ?_
      (simp (disch := first | decide | omega | (simp only [add_next, set_next, grow_next, leave_next, drop_next, List.length_map]; first | done | omega)) only [go_sem, ↓reduceIte, Nat.reduceBEq, Nat.reduceAdd, Nat.reduceLeDiff, Nat.reduceEqDiff, Nat.reduceLT, Nat.reduceMul, beq_self_eq_true]; (repeat (with_reducible refine And.intro (by first | omega | assumption | rfl) ?_)))
      refine dqgo_mk (sizeV_d v.depth v (Nat.le_refl _) (by omega)) ?_
      (simp (disch := first | decide | omega | (simp only [add_next, set_next, grow_next, leave_next, drop_next, List.length_map]; first | done | omega)) only [go_sem, ↓reduceIte, Nat.reduceBEq, Nat.reduceAdd, Nat.reduceLeDiff, Nat.reduceEqDiff, Nat.reduceLT, Nat.reduceMul, beq_self_eq_true]; (repeat (with_reducible refine And.intro (by first | omega | assumption | rfl) ?_)))
      refine dqgo_mk (refSizeV_d v.depth v (Nat.le_refl _) (by omega)) ?_
      (simp (disch := first | decide | omega | (simp only [add_next, set_next, grow_next, leave_next, drop_next, List.length_map]; first | done | omega)) only [go_sem, ↓reduceIte, Nat.reduceBEq, Nat.reduceAdd, Nat.reduceLeDiff, Nat.reduceEqDiff, Nat.reduceLT, Nat.reduceMul, beq_self_eq_true]; (repeat (with_reducible refine And.intro (by first | omega | assumption | rfl) ?_)))
      refine dqgo_mk (valSame_d v.depth v o (Nat.le_refl _) (by omega) (by omega)) ?_
      (simp (disch := first | decide | omega | (simp only [add_next, set_next, grow_next, leave_next, drop_next, List.length_map]; first | done | omega)) only [go_sem, ↓reduceIte, Nat.reduceBEq, Nat.reduceAdd, Nat.reduceLeDiff, Nat.reduceEqDiff, Nat.reduceLT, Nat.reduceMul, beq_self_eq_true]; (repeat (with_reducible refine And.intro (by first | omega | assumption | rfl) ?_)))
      refine dqgo_mk (refSameV_d v o hv ho) ?_
      (simp (disch := first | decide | omega | (simp only [add_next, set_next, grow_next, leave_next, drop_next, List.length_map]; first | done | omega)) only [go_sem, ↓reduceIte, Nat.reduceBEq, Nat.reduceAdd, Nat.reduceLeDiff, Nat.reduceEqDiff, Nat.reduceLT, Nat.reduceMul, beq_self_eq_true]; (repeat (with_reducible refine And.intro (by first | omega | assumption | rfl) ?_)))
      refine dqgo_mk (refSameV_d v v hv hv) ?_
      (simp (disch := first | decide | omega | (simp only [add_next, set_next, grow_next, leave_next, drop_next, List.length_map]; first | done | omega)) only [go_sem, ↓reduceIte, Nat.reduceBEq, Nat.reduceAdd, Nat.reduceLeDiff, Nat.reduceEqDiff, Nat.reduceLT, Nat.reduceMul, eqB_true rfl]; (repeat (with_reducible refine And.intro (by first | omega | assumption | rfl) ?_)))
      refine dqgo_mk (valSame_d v.depth v v (Nat.le_refl _) (by omega) (by omega)) ?_
      (simp (disch := first | decide | omega | (simp only [add_next, set_next, grow_next, leave_next, drop_next, List.length_map]; first | done | omega)) only [go_sem, ↓reduceIte, Nat.reduceBEq, Nat.reduceAdd, Nat.reduceLeDiff, Nat.reduceEqDiff, Nat.reduceLT, Nat.reduceMul, eqB_true rfl]; (repeat (with_reducible refine And.intro (by first | omega | assumption | rfl) ?_)))
      refine dqgo_mk awake08_d ?_
      (simp (disch := first | decide | omega | (simp only [add_next, set_next, grow_next, leave_next, drop_next, List.length_map]; first | done | omega)) only [go_sem, ↓reduceIte, Nat.reduceBEq, Nat.reduceAdd, Nat.reduceLeDiff, Nat.reduceEqDiff, Nat.reduceLT, Nat.reduceMul]; (repeat (with_reducible refine And.intro (by first | omega | assumption | rfl) ?_)))
      exact ⟨rfl, (by (repeat' first | assumption | exact St.Sub.refl _ | exact RowOk.sub (by assumption) (by assumption) | refine St.Sub.trans ?_ (RowOk.sub (by assumption) (by assumption)) | refine St.Sub.add ?_ ?_ _ | refine St.Sub.set ?_ ?_ ?_ _ | refine St.Sub.keep ?_ ?_ | refine St.WF.leave ?_ _ | refine St.WF.add ?_ _ | refine St.WF.set ?_ ?_ _ | refine St.WF.grow ?_ _ _ _ | refine St.WF.keep ?_ ?_ | (first | omega | (simp only [RowOk.lo, add_next, set_next, grow_next, leave_next, drop_next]; first | done | omega))))⟩
theorem valueRight_calls (v o : DVal) (cs ds : List Value) (w : World) (hv : IsVal w (· < w.heap.size) v cs) (ho : IsVal w (· < w.heap.size) o ds) :
    Calls Try.prog 9 #[.agg cs.toArray, .agg ds.toArray] w (Gives (.bool true) w) :=
  gives_of_dpure (vs := [.agg cs.toArray, .agg ds.toArray]) (valueRight_d v o hv.ok ho.ok) (by
    simp only [RepL]
    exact ⟨_, _, rfl, rep_val (fun b i _ => fix_nil b i) hv, _, _, rfl, rep_val (fun b i _ => fix_nil b i) ho, rfl⟩)
end Go.Proofs.Ytpnjkebjdclkfaa

/- ValueRight answers true for any two values, and leaves its arguments as they were. Conditions: none but the statement's own. -/
namespace Go.Proofs.Ytpnjkebjdclkfaa
open Go.ChangeShapes Go.WideShapes Go.ChangeAt Go.RowKit
theorem valueRight_own : ownKnob Try.prog.godebug = none := by kernel_rfl
theorem valueRight_laidOut : laidOutB Try.prog = true := by kernel_rfl
set_option maxRecDepth 100000 in
theorem valueRight_lifted (os : Os) (started : os.Started) (H : Type) (enc : TypeId × Value → H) :
    ReturnsInHanded {} Try.checked os 9 .any (Rows.valueRightSpec.pre6 enc Try.prog Try.f9 Rows.valueRightRow.domain false) (Rows.valueRightSpec.post enc Try.prog Try.f9 false true false false) := by
  refine returnsInHanded_of_change_sized (C := Try.checked) valueRight_own started (by kernel_rfl) Try.func9
    (ChangeSpec.witness6 (enc := enc) (C := Try.checked) false ⟨#[], #[.agg #[.int .i64 0, .int .i64 0, .string "".toUTF8, .slice none 0 0, .slice none 0 0, .slice none 0 0], .agg #[.int .i64 0, .int .i64 0, .string "".toUTF8, .slice none 0 0, .slice none 0 0, .slice none 0 0]], []⟩ 8 (by kernel_rfl) (by kernel_rfl) (by kernel_rfl) (by kernel_rfl)) ?_
  intro W base args ds gs before hval0 hW hcnd hsz0 _
  have hval : ∀ (j : Nat) t v, Try.f9.params[j]? = some t → args[j]? = some v → Value.okWide Try.prog W .any base t v := hval0
  have hsz : (DataW.weightsEach Try.prog (Try.f9.params.toList ++ Rows.valueRightSpec.plain.varTypes Try.prog) (ds ++ gs)).all (· ≤ reachBytes) = true := hsz0
  have hW' := hW
  obtain ⟨p, q, hA0, hV, rfl, hfz, hnd⟩ := hW
  have hA : DataW.TrodAll enc Try.prog W 0 (fun _ => true) true Try.f9.params.toList args.toList ds p := hA0
  obtain ⟨rfl, rfl⟩ := trodVars_none hV
  rw [Try.params9] at hA hval hsz
  have hA1 := hA
  obtain ⟨v0, vs0, d0, ds0, p0, q0, hargs, rfl, rfl, h0, r0⟩ := trodAll_cons hA
  obtain ⟨v1, vs1, d1, ds1, p1, q1, rfl, rfl, rfl, h1, r1⟩ := trodAll_cons r0
  obtain ⟨rfl, rfl, rfl⟩ := trodAll_nil r1
  obtain rfl : args = #[v0, v1] := by cases args; simp_all
  have z0 : Sized Try.prog 31 d0 := sized_of_each (j := 0) hsz rfl rfl
  have k0 : Value.okWide Try.prog W .any base 31 v0 := hval 0 _ _ rfl rfl
  have z1 : Sized Try.prog 31 d1 := sized_of_each (j := 1) hsz rfl rfl
  have k1 : Value.okWide Try.prog W .any base 31 v1 := hval 1 _ _ rfl rfl
  clear hA0 hval0 hsz hsz0 hval
  have key : Calls Try.prog 9 #[v0, v1] W (Gives (.bool true) W) := by
    obtain ⟨s, cs, rfl, hs⟩ := open_value h0 z0 k0
    obtain ⟨t, ds, rfl, ht⟩ := open_value h1 z1 k1
    exact valueRight_calls s t cs ds W hs ht
  refine key.mono fun e W' ⟨he, bel⟩ => ?_
  subst he
  exact ⟨_, rfl, _, _, _, [], _, [], hW', trodAll_mk1 (shut_bool Try.underlying4 _), trodAll_below valueRight_laidOut bel (by kernel_rfl) hA1, rfl, bel.frame _, fun h => by cases h⟩

theorem valueRight_holds : Rows.ValueRightSaid :=
  OpenClaim.holds_of_wide 9 Try.f9 rfl rfl rfl rfl rfl rfl rfl ⟨rfl, rfl, rfl, rfl, rfl⟩ rfl rfl rfl rfl rfl (by kernel_rfl) Try.func9 (by kernel_rfl)
    (of_decide_eq_true (by kernel_rfl)) (by unfold Func.isWrapper; first | (rw [if_pos (by decide +kernel)]; kernel_rfl) | (rw [if_neg (by decide +kernel)]; exact ⟨rfl, rfl⟩))
    (fun os started H enc _ => valueRight_lifted os started H enc)
#print axioms valueRight_holds
end Go.Proofs.Ytpnjkebjdclkfaa
