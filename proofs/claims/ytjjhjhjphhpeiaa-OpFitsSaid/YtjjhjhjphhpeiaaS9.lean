/- OpFits answers true for any schema, any value and any operations, and leaves its arguments as they were. Conditions: none but the statement's own. -/
import Derived.Test.YtjjhjhjphhpeiaaS8
import Derived.Test.YtjjhjhjphhpeiaaRows
set_option linter.unusedVariables false
set_option linter.unusedSimpArgs false
namespace Go.Proofs.Ytjjhjhjphhpeiaa
open Go.RowKit
set_option linter.unusedSimpArgs false
set_option linter.unusedVariables false
/-- What is asked of an operation that came in. -/
structure OkO (o : DOp) : Prop where
  path : o.path.length ≤ 1000
  names : ∀ p ∈ o.path, p.1.length ≤ maxLen
  val : okV o.val
  wt : o.val.weight ≤ 1000
  kind : I64 o.kind
  id : U64 (o.id : Int)
  after : U64 (o.after : Int)
noncomputable def rightO (o : DOp) : Bool := rightP o.path &&
  (if o.kind = 1 then decide (o.id = 0) && decide (o.after = 0) && rightV 5 o.val
   else if o.kind = 2 then decide (o.id ≠ 0) && decide (o.id ≠ o.after) && rightV 5 o.val
   else if o.kind = 3 then decide (o.id ≠ 0) && decide (o.after = 0) && eqB o.val zeroV
   else if o.kind = 4 then decide (o.id ≠ 0) && decide (o.id ≠ o.after) && eqB o.val zeroV
   else false)
theorem zero_wt : zeroV.weight = 1 := by simp [zeroV, DVal.weight_eq, DVal.names, DVal.ids, DVal.parts, DVal.weights]
theorem u64_dec (a b : Nat) : ((a : Int) == (b : Int)) = decide (a = b) := by rw [Bool.eq_iff_iff]; simp; omega
theorem u64_dne (a b : Nat) : ((a : Int) != (b : Int)) = decide (a ≠ b) := by
  have : ((a : Int) != (b : Int)) = !((a : Int) == (b : Int)) := rfl
  rw [this, u64_dec]; simp
theorem u64_d0 (a : Nat) : ((a : Int) == 0) = decide (a = 0) := u64_dec a 0
theorem u64_n0 (a : Nat) : ((a : Int) != 0) = decide (a ≠ 0) := u64_dne a 0
set_option maxRecDepth 200000 in
set_option maxHeartbeats 8000000 in
theorem right_o (o : DOp) (h : OkO o) : DPure Try.prog 76 [encO o] (.v (.bool (rightO o))) := by
  have hwt := h.wt
  have hpl := h.path
  refine dpure_of_dwp mixed Try.func76 rfl (fun _ _ => by kernel_rfl) (rs := [.tmp 2]) rfl (by kernel_rfl) trivial (fun S hS => ?_)
  (simp (disch := first | decide | omega | (simp only [add_next, set_next, grow_next, leave_next, drop_next, List.length_map]; first | done | omega)) only [go_sem, ↓reduceIte, Nat.reduceBEq, Nat.reduceAdd, Nat.reduceLeDiff, Nat.reduceEqDiff, Nat.reduceLT, Nat.reduceMul, opCs]; (repeat (with_reducible refine And.intro (by first | omega | assumption | rfl) ?_)))
  refine DCalls.of_pure (pathRight_d .no o.path (by omega) h.names) ?_
  cases hp : rightP o.path with
  | false =>
    (simp (disch := first | decide | omega | (simp only [add_next, set_next, grow_next, leave_next, drop_next, List.length_map]; first | done | omega)) only [go_sem, ↓reduceIte, Nat.reduceBEq, Nat.reduceAdd, Nat.reduceLeDiff, Nat.reduceEqDiff, Nat.reduceLT, Nat.reduceMul]; (repeat (with_reducible refine And.intro (by first | omega | assumption | rfl) ?_)))
    refine ⟨?_, (by (repeat' first | assumption | exact St.Sub.refl _ | exact RowOk.sub (by assumption) (by assumption) | refine St.Sub.trans ?_ (RowOk.sub (by assumption) (by assumption)) | refine St.Sub.add ?_ ?_ _ | refine St.Sub.set ?_ ?_ ?_ _ | refine St.Sub.keep ?_ ?_ | refine St.WF.leave ?_ _ | refine St.WF.add ?_ _ | refine St.WF.set ?_ ?_ _ | refine St.WF.grow ?_ _ _ _ | refine St.WF.keep ?_ ?_ | (first | omega | (simp only [RowOk.lo, add_next, set_next, grow_next, leave_next, drop_next]; first | done | omega))))⟩
    rw [rightO, hp]; rfl
  | true =>
  (simp (disch := first | decide | omega | (simp only [add_next, set_next, grow_next, leave_next, drop_next, List.length_map]; first | done | omega)) only [go_sem, ↓reduceIte, Nat.reduceBEq, Nat.reduceAdd, Nat.reduceLeDiff, Nat.reduceEqDiff, Nat.reduceLT, Nat.reduceMul]; (repeat (with_reducible refine And.intro (by first | omega | assumption | rfl) ?_)))
  have hsm := valSame_d o.val.depth o.val zeroV (Nat.le_refl _) (by omega) (by rw [zero_wt]; omega)
  refine DCalls.of_pure (DPure.weak hsm (by simp only [frzL, frz_encV]; rfl)) ?_
  have hv := valRight_d o.val h.val
  by_cases k1 : o.kind = 1
  · have c1 : (o.kind == 1) = true := by simp [k1]
    by_cases i0 : o.id = 0
    · by_cases a0 : o.after = 0
      · have d1 := decide_eq_true i0
        have d2 := decide_eq_true a0
        (simp (disch := first | decide | omega | (simp only [add_next, set_next, grow_next, leave_next, drop_next, List.length_map]; first | done | omega)) only [go_sem, ↓reduceIte, Nat.reduceBEq, Nat.reduceAdd, Nat.reduceLeDiff, Nat.reduceEqDiff, Nat.reduceLT, Nat.reduceMul, c1, u64_d0, d1, d2]; (repeat (with_reducible refine And.intro (by first | omega | assumption | rfl) ?_)))
        refine DCalls.of_pure hv ?_
        (simp (disch := first | decide | omega | (simp only [add_next, set_next, grow_next, leave_next, drop_next, List.length_map]; first | done | omega)) only [go_sem, ↓reduceIte, Nat.reduceBEq, Nat.reduceAdd, Nat.reduceLeDiff, Nat.reduceEqDiff, Nat.reduceLT, Nat.reduceMul]; (repeat (with_reducible refine And.intro (by first | omega | assumption | rfl) ?_)))
        refine ⟨?_, (by (repeat' first | assumption | exact St.Sub.refl _ | exact RowOk.sub (by assumption) (by assumption) | refine St.Sub.trans ?_ (RowOk.sub (by assumption) (by assumption)) | refine St.Sub.add ?_ ?_ _ | refine St.Sub.set ?_ ?_ ?_ _ | refine St.Sub.keep ?_ ?_ | refine St.WF.leave ?_ _ | refine St.WF.add ?_ _ | refine St.WF.set ?_ ?_ _ | refine St.WF.grow ?_ _ _ _ | refine St.WF.keep ?_ ?_ | (first | omega | (simp only [RowOk.lo, add_next, set_next, grow_next, leave_next, drop_next]; first | done | omega))))⟩
        rw [rightO, hp, if_pos k1, d1, d2]; rfl
      · have d1 := decide_eq_true i0
        have d2 := decide_eq_false a0
        (simp (disch := first | decide | omega | (simp only [add_next, set_next, grow_next, leave_next, drop_next, List.length_map]; first | done | omega)) only [go_sem, ↓reduceIte, Nat.reduceBEq, Nat.reduceAdd, Nat.reduceLeDiff, Nat.reduceEqDiff, Nat.reduceLT, Nat.reduceMul, c1, u64_d0, d1, d2]; (repeat (with_reducible refine And.intro (by first | omega | assumption | rfl) ?_)))
        refine ⟨?_, (by (repeat' first | assumption | exact St.Sub.refl _ | exact RowOk.sub (by assumption) (by assumption) | refine St.Sub.trans ?_ (RowOk.sub (by assumption) (by assumption)) | refine St.Sub.add ?_ ?_ _ | refine St.Sub.set ?_ ?_ ?_ _ | refine St.Sub.keep ?_ ?_ | refine St.WF.leave ?_ _ | refine St.WF.add ?_ _ | refine St.WF.set ?_ ?_ _ | refine St.WF.grow ?_ _ _ _ | refine St.WF.keep ?_ ?_ | (first | omega | (simp only [RowOk.lo, add_next, set_next, grow_next, leave_next, drop_next]; first | done | omega))))⟩
        rw [rightO, hp, if_pos k1, d1, d2]; rfl
    · have d1 := decide_eq_false i0
      (simp (disch := first | decide | omega | (simp only [add_next, set_next, grow_next, leave_next, drop_next, List.length_map]; first | done | omega)) only [go_sem, ↓reduceIte, Nat.reduceBEq, Nat.reduceAdd, Nat.reduceLeDiff, Nat.reduceEqDiff, Nat.reduceLT, Nat.reduceMul, c1, u64_d0, d1]; (repeat (with_reducible refine And.intro (by first | omega | assumption | rfl) ?_)))
      refine ⟨?_, (by (repeat' first | assumption | exact St.Sub.refl _ | exact RowOk.sub (by assumption) (by assumption) | refine St.Sub.trans ?_ (RowOk.sub (by assumption) (by assumption)) | refine St.Sub.add ?_ ?_ _ | refine St.Sub.set ?_ ?_ ?_ _ | refine St.Sub.keep ?_ ?_ | refine St.WF.leave ?_ _ | refine St.WF.add ?_ _ | refine St.WF.set ?_ ?_ _ | refine St.WF.grow ?_ _ _ _ | refine St.WF.keep ?_ ?_ | (first | omega | (simp only [RowOk.lo, add_next, set_next, grow_next, leave_next, drop_next]; first | done | omega))))⟩
      rw [rightO, hp, if_pos k1, d1]; rfl
  have c1 : (o.kind == 1) = false := by simp [k1]
  by_cases k2 : o.kind = 2
  · have c2 : (o.kind == 2) = true := by simp [k2]
    by_cases i0 : o.id ≠ 0
    · by_cases a0 : o.id ≠ o.after
      · have d1 := decide_eq_true i0
        have d2 := decide_eq_true a0
        (simp (disch := first | decide | omega | (simp only [add_next, set_next, grow_next, leave_next, drop_next, List.length_map]; first | done | omega)) only [go_sem, ↓reduceIte, Nat.reduceBEq, Nat.reduceAdd, Nat.reduceLeDiff, Nat.reduceEqDiff, Nat.reduceLT, Nat.reduceMul, c1, c2, u64_n0, u64_dne, d1, d2]; (repeat (with_reducible refine And.intro (by first | omega | assumption | rfl) ?_)))
        refine DCalls.of_pure hv ?_
        (simp (disch := first | decide | omega | (simp only [add_next, set_next, grow_next, leave_next, drop_next, List.length_map]; first | done | omega)) only [go_sem, ↓reduceIte, Nat.reduceBEq, Nat.reduceAdd, Nat.reduceLeDiff, Nat.reduceEqDiff, Nat.reduceLT, Nat.reduceMul]; (repeat (with_reducible refine And.intro (by first | omega | assumption | rfl) ?_)))
        refine ⟨?_, (by (repeat' first | assumption | exact St.Sub.refl _ | exact RowOk.sub (by assumption) (by assumption) | refine St.Sub.trans ?_ (RowOk.sub (by assumption) (by assumption)) | refine St.Sub.add ?_ ?_ _ | refine St.Sub.set ?_ ?_ ?_ _ | refine St.Sub.keep ?_ ?_ | refine St.WF.leave ?_ _ | refine St.WF.add ?_ _ | refine St.WF.set ?_ ?_ _ | refine St.WF.grow ?_ _ _ _ | refine St.WF.keep ?_ ?_ | (first | omega | (simp only [RowOk.lo, add_next, set_next, grow_next, leave_next, drop_next]; first | done | omega))))⟩
        rw [rightO, hp, if_neg k1, if_pos k2, d1, d2]; rfl
      · have d1 := decide_eq_true i0
        have d2 := decide_eq_false a0
        (simp (disch := first | decide | omega | (simp only [add_next, set_next, grow_next, leave_next, drop_next, List.length_map]; first | done | omega)) only [go_sem, ↓reduceIte, Nat.reduceBEq, Nat.reduceAdd, Nat.reduceLeDiff, Nat.reduceEqDiff, Nat.reduceLT, Nat.reduceMul, c1, c2, u64_n0, u64_dne, d1, d2]; (repeat (with_reducible refine And.intro (by first | omega | assumption | rfl) ?_)))
        refine ⟨?_, (by (repeat' first | assumption | exact St.Sub.refl _ | exact RowOk.sub (by assumption) (by assumption) | refine St.Sub.trans ?_ (RowOk.sub (by assumption) (by assumption)) | refine St.Sub.add ?_ ?_ _ | refine St.Sub.set ?_ ?_ ?_ _ | refine St.Sub.keep ?_ ?_ | refine St.WF.leave ?_ _ | refine St.WF.add ?_ _ | refine St.WF.set ?_ ?_ _ | refine St.WF.grow ?_ _ _ _ | refine St.WF.keep ?_ ?_ | (first | omega | (simp only [RowOk.lo, add_next, set_next, grow_next, leave_next, drop_next]; first | done | omega))))⟩
        rw [rightO, hp, if_neg k1, if_pos k2, d1, d2]; rfl
    · have d1 := decide_eq_false i0
      (simp (disch := first | decide | omega | (simp only [add_next, set_next, grow_next, leave_next, drop_next, List.length_map]; first | done | omega)) only [go_sem, ↓reduceIte, Nat.reduceBEq, Nat.reduceAdd, Nat.reduceLeDiff, Nat.reduceEqDiff, Nat.reduceLT, Nat.reduceMul, c1, c2, u64_n0, u64_dne, d1]; (repeat (with_reducible refine And.intro (by first | omega | assumption | rfl) ?_)))
      refine ⟨?_, (by (repeat' first | assumption | exact St.Sub.refl _ | exact RowOk.sub (by assumption) (by assumption) | refine St.Sub.trans ?_ (RowOk.sub (by assumption) (by assumption)) | refine St.Sub.add ?_ ?_ _ | refine St.Sub.set ?_ ?_ ?_ _ | refine St.Sub.keep ?_ ?_ | refine St.WF.leave ?_ _ | refine St.WF.add ?_ _ | refine St.WF.set ?_ ?_ _ | refine St.WF.grow ?_ _ _ _ | refine St.WF.keep ?_ ?_ | (first | omega | (simp only [RowOk.lo, add_next, set_next, grow_next, leave_next, drop_next]; first | done | omega))))⟩
      rw [rightO, hp, if_neg k1, if_pos k2, d1]; rfl
  have c2 : (o.kind == 2) = false := by simp [k2]
  by_cases k3 : o.kind = 3
  · have c3 : (o.kind == 3) = true := by simp [k3]
    by_cases i0 : o.id ≠ 0
    · by_cases a0 : o.after = 0
      · have d1 := decide_eq_true i0
        have d2 := decide_eq_true a0
        (simp (disch := first | decide | omega | (simp only [add_next, set_next, grow_next, leave_next, drop_next, List.length_map]; first | done | omega)) only [go_sem, ↓reduceIte, Nat.reduceBEq, Nat.reduceAdd, Nat.reduceLeDiff, Nat.reduceEqDiff, Nat.reduceLT, Nat.reduceMul, c1, c2, c3, u64_n0, u64_d0, d1, d2]; (repeat (with_reducible refine And.intro (by first | omega | assumption | rfl) ?_)))
        refine ⟨?_, (by (repeat' first | assumption | exact St.Sub.refl _ | exact RowOk.sub (by assumption) (by assumption) | refine St.Sub.trans ?_ (RowOk.sub (by assumption) (by assumption)) | refine St.Sub.add ?_ ?_ _ | refine St.Sub.set ?_ ?_ ?_ _ | refine St.Sub.keep ?_ ?_ | refine St.WF.leave ?_ _ | refine St.WF.add ?_ _ | refine St.WF.set ?_ ?_ _ | refine St.WF.grow ?_ _ _ _ | refine St.WF.keep ?_ ?_ | (first | omega | (simp only [RowOk.lo, add_next, set_next, grow_next, leave_next, drop_next]; first | done | omega))))⟩
        rw [rightO, hp, if_neg k1, if_neg k2, if_pos k3, d1, d2]; rfl
      · have d1 := decide_eq_true i0
        have d2 := decide_eq_false a0
        (simp (disch := first | decide | omega | (simp only [add_next, set_next, grow_next, leave_next, drop_next, List.length_map]; first | done | omega)) only [go_sem, ↓reduceIte, Nat.reduceBEq, Nat.reduceAdd, Nat.reduceLeDiff, Nat.reduceEqDiff, Nat.reduceLT, Nat.reduceMul, c1, c2, c3, u64_n0, u64_d0, d1, d2]; (repeat (with_reducible refine And.intro (by first | omega | assumption | rfl) ?_)))
        refine ⟨?_, (by (repeat' first | assumption | exact St.Sub.refl _ | exact RowOk.sub (by assumption) (by assumption) | refine St.Sub.trans ?_ (RowOk.sub (by assumption) (by assumption)) | refine St.Sub.add ?_ ?_ _ | refine St.Sub.set ?_ ?_ ?_ _ | refine St.Sub.keep ?_ ?_ | refine St.WF.leave ?_ _ | refine St.WF.add ?_ _ | refine St.WF.set ?_ ?_ _ | refine St.WF.grow ?_ _ _ _ | refine St.WF.keep ?_ ?_ | (first | omega | (simp only [RowOk.lo, add_next, set_next, grow_next, leave_next, drop_next]; first | done | omega))))⟩
        rw [rightO, hp, if_neg k1, if_neg k2, if_pos k3, d1, d2]; rfl
    · have d1 := decide_eq_false i0
      (simp (disch := first | decide | omega | (simp only [add_next, set_next, grow_next, leave_next, drop_next, List.length_map]; first | done | omega)) only [go_sem, ↓reduceIte, Nat.reduceBEq, Nat.reduceAdd, Nat.reduceLeDiff, Nat.reduceEqDiff, Nat.reduceLT, Nat.reduceMul, c1, c2, c3, u64_n0, u64_d0, d1]; (repeat (with_reducible refine And.intro (by first | omega | assumption | rfl) ?_)))
      refine ⟨?_, (by (repeat' first | assumption | exact St.Sub.refl _ | exact RowOk.sub (by assumption) (by assumption) | refine St.Sub.trans ?_ (RowOk.sub (by assumption) (by assumption)) | refine St.Sub.add ?_ ?_ _ | refine St.Sub.set ?_ ?_ ?_ _ | refine St.Sub.keep ?_ ?_ | refine St.WF.leave ?_ _ | refine St.WF.add ?_ _ | refine St.WF.set ?_ ?_ _ | refine St.WF.grow ?_ _ _ _ | refine St.WF.keep ?_ ?_ | (first | omega | (simp only [RowOk.lo, add_next, set_next, grow_next, leave_next, drop_next]; first | done | omega))))⟩
      rw [rightO, hp, if_neg k1, if_neg k2, if_pos k3, d1]; rfl
  have c3 : (o.kind == 3) = false := by simp [k3]
  by_cases k4 : o.kind = 4
  · have c4 : (o.kind == 4) = true := by simp [k4]
    by_cases i0 : o.id ≠ 0
    · by_cases a0 : o.id ≠ o.after
      · have d1 := decide_eq_true i0
        have d2 := decide_eq_true a0
        (simp (disch := first | decide | omega | (simp only [add_next, set_next, grow_next, leave_next, drop_next, List.length_map]; first | done | omega)) only [go_sem, ↓reduceIte, Nat.reduceBEq, Nat.reduceAdd, Nat.reduceLeDiff, Nat.reduceEqDiff, Nat.reduceLT, Nat.reduceMul, c1, c2, c3, c4, u64_n0, u64_dne, d1, d2]; (repeat (with_reducible refine And.intro (by first | omega | assumption | rfl) ?_)))
        refine ⟨?_, (by (repeat' first | assumption | exact St.Sub.refl _ | exact RowOk.sub (by assumption) (by assumption) | refine St.Sub.trans ?_ (RowOk.sub (by assumption) (by assumption)) | refine St.Sub.add ?_ ?_ _ | refine St.Sub.set ?_ ?_ ?_ _ | refine St.Sub.keep ?_ ?_ | refine St.WF.leave ?_ _ | refine St.WF.add ?_ _ | refine St.WF.set ?_ ?_ _ | refine St.WF.grow ?_ _ _ _ | refine St.WF.keep ?_ ?_ | (first | omega | (simp only [RowOk.lo, add_next, set_next, grow_next, leave_next, drop_next]; first | done | omega))))⟩
        rw [rightO, hp, if_neg k1, if_neg k2, if_neg k3, if_pos k4, d1, d2]; rfl
      · have d1 := decide_eq_true i0
        have d2 := decide_eq_false a0
        (simp (disch := first | decide | omega | (simp only [add_next, set_next, grow_next, leave_next, drop_next, List.length_map]; first | done | omega)) only [go_sem, ↓reduceIte, Nat.reduceBEq, Nat.reduceAdd, Nat.reduceLeDiff, Nat.reduceEqDiff, Nat.reduceLT, Nat.reduceMul, c1, c2, c3, c4, u64_n0, u64_dne, d1, d2]; (repeat (with_reducible refine And.intro (by first | omega | assumption | rfl) ?_)))
        refine ⟨?_, (by (repeat' first | assumption | exact St.Sub.refl _ | exact RowOk.sub (by assumption) (by assumption) | refine St.Sub.trans ?_ (RowOk.sub (by assumption) (by assumption)) | refine St.Sub.add ?_ ?_ _ | refine St.Sub.set ?_ ?_ ?_ _ | refine St.Sub.keep ?_ ?_ | refine St.WF.leave ?_ _ | refine St.WF.add ?_ _ | refine St.WF.set ?_ ?_ _ | refine St.WF.grow ?_ _ _ _ | refine St.WF.keep ?_ ?_ | (first | omega | (simp only [RowOk.lo, add_next, set_next, grow_next, leave_next, drop_next]; first | done | omega))))⟩
        rw [rightO, hp, if_neg k1, if_neg k2, if_neg k3, if_pos k4, d1, d2]; rfl
    · have d1 := decide_eq_false i0
      (simp (disch := first | decide | omega | (simp only [add_next, set_next, grow_next, leave_next, drop_next, List.length_map]; first | done | omega)) only [go_sem, ↓reduceIte, Nat.reduceBEq, Nat.reduceAdd, Nat.reduceLeDiff, Nat.reduceEqDiff, Nat.reduceLT, Nat.reduceMul, c1, c2, c3, c4, u64_n0, u64_dne, d1]; (repeat (with_reducible refine And.intro (by first | omega | assumption | rfl) ?_)))
      refine ⟨?_, (by (repeat' first | assumption | exact St.Sub.refl _ | exact RowOk.sub (by assumption) (by assumption) | refine St.Sub.trans ?_ (RowOk.sub (by assumption) (by assumption)) | refine St.Sub.add ?_ ?_ _ | refine St.Sub.set ?_ ?_ ?_ _ | refine St.Sub.keep ?_ ?_ | refine St.WF.leave ?_ _ | refine St.WF.add ?_ _ | refine St.WF.set ?_ ?_ _ | refine St.WF.grow ?_ _ _ _ | refine St.WF.keep ?_ ?_ | (first | omega | (simp only [RowOk.lo, add_next, set_next, grow_next, leave_next, drop_next]; first | done | omega))))⟩
      rw [rightO, hp, if_neg k1, if_neg k2, if_neg k3, if_pos k4, d1]; rfl
  have c4 : (o.kind == 4) = false := by simp [k4]
  (simp (disch := first | decide | omega | (simp only [add_next, set_next, grow_next, leave_next, drop_next, List.length_map]; first | done | omega)) only [go_sem, ↓reduceIte, Nat.reduceBEq, Nat.reduceAdd, Nat.reduceLeDiff, Nat.reduceEqDiff, Nat.reduceLT, Nat.reduceMul, c1, c2, c3, c4]; (repeat (with_reducible refine And.intro (by first | omega | assumption | rfl) ?_)))
  refine ⟨?_, (by (repeat' first | assumption | exact St.Sub.refl _ | exact RowOk.sub (by assumption) (by assumption) | refine St.Sub.trans ?_ (RowOk.sub (by assumption) (by assumption)) | refine St.Sub.add ?_ ?_ _ | refine St.Sub.set ?_ ?_ ?_ _ | refine St.Sub.keep ?_ ?_ | refine St.WF.leave ?_ _ | refine St.WF.add ?_ _ | refine St.WF.set ?_ ?_ _ | refine St.WF.grow ?_ _ _ _ | refine St.WF.keep ?_ ?_ | (first | omega | (simp only [RowOk.lo, add_next, set_next, grow_next, leave_next, drop_next]; first | done | omega))))⟩
  rw [rightO, hp, if_neg k1, if_neg k2, if_neg k3, if_neg k4]; rfl
/-- Does an operation fit a type? -/
def fitO (o : DOp) (t : DSch) : Bool := if o.kind = 1 then fitsTop o.val t else if t.kind = 6 then (if o.kind = 2 then fitsTop o.val (t.parts.getD 0 default) else true) else false
/-- Why an operation can't be done: an error's number. -/
noncomputable def chkO (o : DOp) (s : DSch) : Nat := if rightO o = true ∧ rightS 5 s = true then (match typS o.path s with | some t => if fitO o t = true then 0 else 6 | none => 6) else 1
def errO (c : Nat) : D := if c = 0 then .v .nilIface else .ifc 84 (.v (.int .i64 (c : Int)))
theorem errO_closed (c : Nat) : (errO c).closed := by unfold errO; split <;> simp [D.closed, D.all]
set_option maxRecDepth 200000 in
set_option maxHeartbeats 8000000 in
theorem check_o (o : DOp) (s : DSch) (h : OkO o) (hs : okS s) (hsw : s.weight ≤ 1000) : DPure Try.prog 51 [encO o, encS s] (errO (chkO o s)) := by
  have hwt := h.wt
  have hpl := h.path
  have hdw := DVal.depth_weight o.val.depth o.val (Nat.le_refl _)
  refine dpure_of_dwp mixed Try.func51 rfl (fun _ _ => by kernel_rfl) (rs := [.tmp 4]) rfl (by kernel_rfl) (errO_closed _) (fun S hS => ?_)
  (simp (disch := first | decide | omega | (simp only [add_next, set_next, grow_next, leave_next, drop_next, List.length_map]; first | done | omega)) only [go_sem, ↓reduceIte, Nat.reduceBEq, Nat.reduceAdd, Nat.reduceLeDiff, Nat.reduceEqDiff, Nat.reduceLT, Nat.reduceMul]; (repeat (with_reducible refine And.intro (by first | omega | assumption | rfl) ?_)))
  refine DCalls.of_pure (right_o o h) ?_
  cases hr : rightO o with
  | false =>
    (simp (disch := first | decide | omega | (simp only [add_next, set_next, grow_next, leave_next, drop_next, List.length_map]; first | done | omega)) only [go_sem, ↓reduceIte, Nat.reduceBEq, Nat.reduceAdd, Nat.reduceLeDiff, Nat.reduceEqDiff, Nat.reduceLT, Nat.reduceMul]; (repeat (with_reducible refine And.intro (by first | omega | assumption | rfl) ?_)))
    refine ⟨?_, (by (repeat' first | assumption | exact St.Sub.refl _ | exact RowOk.sub (by assumption) (by assumption) | refine St.Sub.trans ?_ (RowOk.sub (by assumption) (by assumption)) | refine St.Sub.add ?_ ?_ _ | refine St.Sub.set ?_ ?_ ?_ _ | refine St.Sub.keep ?_ ?_ | refine St.WF.leave ?_ _ | refine St.WF.add ?_ _ | refine St.WF.set ?_ ?_ _ | refine St.WF.grow ?_ _ _ _ | refine St.WF.keep ?_ ?_ | (first | omega | (simp only [RowOk.lo, add_next, set_next, grow_next, leave_next, drop_next]; first | done | omega))))⟩
    rw [chkO, if_neg (by rw [hr]; simp)]; rfl
  | true =>
  (simp (disch := first | decide | omega | (simp only [add_next, set_next, grow_next, leave_next, drop_next, List.length_map]; first | done | omega)) only [go_sem, ↓reduceIte, Nat.reduceBEq, Nat.reduceAdd, Nat.reduceLeDiff, Nat.reduceEqDiff, Nat.reduceLT, Nat.reduceMul]; (repeat (with_reducible refine And.intro (by first | omega | assumption | rfl) ?_)))
  refine DCalls.of_pure (schRight_d s hs) ?_
  cases hrs : rightS 5 s with
  | false =>
    (simp (disch := first | decide | omega | (simp only [add_next, set_next, grow_next, leave_next, drop_next, List.length_map]; first | done | omega)) only [go_sem, ↓reduceIte, Nat.reduceBEq, Nat.reduceAdd, Nat.reduceLeDiff, Nat.reduceEqDiff, Nat.reduceLT, Nat.reduceMul]; (repeat (with_reducible refine And.intro (by first | omega | assumption | rfl) ?_)))
    refine ⟨?_, (by (repeat' first | assumption | exact St.Sub.refl _ | exact RowOk.sub (by assumption) (by assumption) | refine St.Sub.trans ?_ (RowOk.sub (by assumption) (by assumption)) | refine St.Sub.add ?_ ?_ _ | refine St.Sub.set ?_ ?_ ?_ _ | refine St.Sub.keep ?_ ?_ | refine St.WF.leave ?_ _ | refine St.WF.add ?_ _ | refine St.WF.set ?_ ?_ _ | refine St.WF.grow ?_ _ _ _ | refine St.WF.keep ?_ ?_ | (first | omega | (simp only [RowOk.lo, add_next, set_next, grow_next, leave_next, drop_next]; first | done | omega))))⟩
    rw [chkO, if_neg (by rw [hrs]; simp)]; rfl
  | true =>
  have hc : chkO o s = (match typS o.path s with | some t => if fitO o t = true then 0 else 6 | none => 6) := by rw [chkO, if_pos ⟨hr, hrs⟩]
  obtain ⟨hRS, hdep⟩ := RS.of_top hrs
  (simp (disch := first | decide | omega | (simp only [add_next, set_next, grow_next, leave_next, drop_next, List.length_map]; first | done | omega)) only [go_sem, ↓reduceIte, Nat.reduceBEq, Nat.reduceAdd, Nat.reduceLeDiff, Nat.reduceEqDiff, Nat.reduceLT, Nat.reduceMul, opCs]; (repeat (with_reducible refine And.intro (by first | omega | assumption | rfl) ?_)))
  refine DCalls.of_pure (type_d s o.path .no hs (by omega) (by omega)) ?_
  cases ht : typS o.path s with
  | none =>
    (simp (disch := first | decide | omega | (simp only [add_next, set_next, grow_next, leave_next, drop_next, List.length_map]; first | done | omega)) only [go_sem, ↓reduceIte, Nat.reduceBEq, Nat.reduceAdd, Nat.reduceLeDiff, Nat.reduceEqDiff, Nat.reduceLT, Nat.reduceMul, tupS, Option.getD_none, Option.isSome_none]; (repeat (with_reducible refine And.intro (by first | omega | assumption | rfl) ?_)))
    refine ⟨?_, (by (repeat' first | assumption | exact St.Sub.refl _ | exact RowOk.sub (by assumption) (by assumption) | refine St.Sub.trans ?_ (RowOk.sub (by assumption) (by assumption)) | refine St.Sub.add ?_ ?_ _ | refine St.Sub.set ?_ ?_ ?_ _ | refine St.Sub.keep ?_ ?_ | refine St.WF.leave ?_ _ | refine St.WF.add ?_ _ | refine St.WF.set ?_ ?_ _ | refine St.WF.grow ?_ _ _ _ | refine St.WF.keep ?_ ?_ | (first | omega | (simp only [RowOk.lo, add_next, set_next, grow_next, leave_next, drop_next]; first | done | omega))))⟩
    rw [hc, ht]; rfl
  | some t =>
  obtain ⟨hto, htw⟩ := typS_fine _ ht hs (by omega)
  rw [ht] at hc
  simp only at hc
  by_cases k1 : o.kind = 1
  · have c1 : (o.kind == 1) = true := by simp [k1]
    (simp (disch := first | decide | omega | (simp only [add_next, set_next, grow_next, leave_next, drop_next, List.length_map]; first | done | omega)) only [go_sem, ↓reduceIte, Nat.reduceBEq, Nat.reduceAdd, Nat.reduceLeDiff, Nat.reduceEqDiff, Nat.reduceLT, Nat.reduceMul, tupS, Option.getD_some, Option.isSome_some, c1]; (repeat (with_reducible refine And.intro (by first | omega | assumption | rfl) ?_)))
    refine DCalls.of_pure (fitsTop_d o.val t h.val hto) ?_
    have hf : fitO o t = fitsTop o.val t := by rw [fitO, if_pos k1]
    cases hft : fitsTop o.val t with
    | true =>
      (simp (disch := first | decide | omega | (simp only [add_next, set_next, grow_next, leave_next, drop_next, List.length_map]; first | done | omega)) only [go_sem, ↓reduceIte, Nat.reduceBEq, Nat.reduceAdd, Nat.reduceLeDiff, Nat.reduceEqDiff, Nat.reduceLT, Nat.reduceMul]; (repeat (with_reducible refine And.intro (by first | omega | assumption | rfl) ?_)))
      refine ⟨?_, (by (repeat' first | assumption | exact St.Sub.refl _ | exact RowOk.sub (by assumption) (by assumption) | refine St.Sub.trans ?_ (RowOk.sub (by assumption) (by assumption)) | refine St.Sub.add ?_ ?_ _ | refine St.Sub.set ?_ ?_ ?_ _ | refine St.Sub.keep ?_ ?_ | refine St.WF.leave ?_ _ | refine St.WF.add ?_ _ | refine St.WF.set ?_ ?_ _ | refine St.WF.grow ?_ _ _ _ | refine St.WF.keep ?_ ?_ | (first | omega | (simp only [RowOk.lo, add_next, set_next, grow_next, leave_next, drop_next]; first | done | omega))))⟩
      rw [hc, hf, hft]; rfl
    | false =>
      (simp (disch := first | decide | omega | (simp only [add_next, set_next, grow_next, leave_next, drop_next, List.length_map]; first | done | omega)) only [go_sem, ↓reduceIte, Nat.reduceBEq, Nat.reduceAdd, Nat.reduceLeDiff, Nat.reduceEqDiff, Nat.reduceLT, Nat.reduceMul]; (repeat (with_reducible refine And.intro (by first | omega | assumption | rfl) ?_)))
      refine ⟨?_, (by (repeat' first | assumption | exact St.Sub.refl _ | exact RowOk.sub (by assumption) (by assumption) | refine St.Sub.trans ?_ (RowOk.sub (by assumption) (by assumption)) | refine St.Sub.add ?_ ?_ _ | refine St.Sub.set ?_ ?_ ?_ _ | refine St.Sub.keep ?_ ?_ | refine St.WF.leave ?_ _ | refine St.WF.add ?_ _ | refine St.WF.set ?_ ?_ _ | refine St.WF.grow ?_ _ _ _ | refine St.WF.keep ?_ ?_ | (first | omega | (simp only [RowOk.lo, add_next, set_next, grow_next, leave_next, drop_next]; first | done | omega))))⟩
      rw [hc, hf, hft]; rfl
  have c1 : (o.kind == 1) = false := by simp [k1]
  by_cases t6 : t.kind = 6
  · have c6 : (t.kind != 6) = false := by simp [t6]
    by_cases k2 : o.kind = 2
    · have c2 : (o.kind == 2) = true := by simp [k2]
      have hRt : RS t := by
        have : ∀ (ps : List DStp) (s t : DSch), RS s → typS ps s = some t → RS t := by
          intro ps
          induction ps with
          | nil => intro s t h1 h2; injection h2 with h2; subst h2; exact h1
          | cons p ps ih =>
            intro s t h1 h2
            rw [typS_cons] at h2
            cases hq : stepT s p with
            | none => rw [hq] at h2; cases h2
            | some u => rw [hq] at h2; exact ih u t (h1.step hq) h2
        exact this _ _ _ hRS ht
      have hp1 := hRt.here.2 t6
      have hp0 : 0 < t.parts.length := by omega
      have g0 := getD_map encS t.parts 0 hp0
      have hp0i : (0 : Int) < (t.parts.length : Int) := by omega
      (simp (disch := first | decide | omega | (simp only [add_next, set_next, grow_next, leave_next, drop_next, List.length_map]; first | done | omega)) only [go_sem, ↓reduceIte, Nat.reduceBEq, Nat.reduceAdd, Nat.reduceLeDiff, Nat.reduceEqDiff, Nat.reduceLT, Nat.reduceMul, tupS, Option.getD_some, Option.isSome_some, c1, c2, c6]; (repeat (with_reducible refine And.intro (by first | omega | assumption | rfl) ?_)))
      refine ddraw_mk 8 (by kernel_rfl) ?_
      (simp (disch := first | decide | omega | (simp only [add_next, set_next, grow_next, leave_next, drop_next, List.length_map]; first | done | omega)) only [go_sem, ↓reduceIte, Nat.reduceBEq, Nat.reduceAdd, Nat.reduceLeDiff, Nat.reduceEqDiff, Nat.reduceLT, Nat.reduceMul, opCs, g0, hp0i]; (repeat (with_reducible refine And.intro (by first | omega | assumption | rfl) ?_)))
      have hto0 : okS t.parts[0] := ((okS_eq t).1 hto).2.2.2.2 _ (List.getElem_mem hp0)
      refine dqgo_mk (fitsTop_d o.val t.parts[0] h.val hto0) ?_
      have hf : fitO o t = fitsTop o.val t.parts[0] := by rw [fitO, if_neg k1, if_pos t6, if_pos k2, getD_at hp0]
      cases hft : fitsTop o.val t.parts[0] with
      | true =>
        (simp (disch := first | decide | omega | (simp only [add_next, set_next, grow_next, leave_next, drop_next, List.length_map]; first | done | omega)) only [go_sem, ↓reduceIte, Nat.reduceBEq, Nat.reduceAdd, Nat.reduceLeDiff, Nat.reduceEqDiff, Nat.reduceLT, Nat.reduceMul]; (repeat (with_reducible refine And.intro (by first | omega | assumption | rfl) ?_)))
        refine ⟨?_, (by (repeat' first | assumption | exact St.Sub.refl _ | exact RowOk.sub (by assumption) (by assumption) | refine St.Sub.trans ?_ (RowOk.sub (by assumption) (by assumption)) | refine St.Sub.add ?_ ?_ _ | refine St.Sub.set ?_ ?_ ?_ _ | refine St.Sub.keep ?_ ?_ | refine St.WF.leave ?_ _ | refine St.WF.add ?_ _ | refine St.WF.set ?_ ?_ _ | refine St.WF.grow ?_ _ _ _ | refine St.WF.keep ?_ ?_ | (first | omega | (simp only [RowOk.lo, add_next, set_next, grow_next, leave_next, drop_next]; first | done | omega))))⟩
        rw [hc, hf, hft]; rfl
      | false =>
        (simp (disch := first | decide | omega | (simp only [add_next, set_next, grow_next, leave_next, drop_next, List.length_map]; first | done | omega)) only [go_sem, ↓reduceIte, Nat.reduceBEq, Nat.reduceAdd, Nat.reduceLeDiff, Nat.reduceEqDiff, Nat.reduceLT, Nat.reduceMul]; (repeat (with_reducible refine And.intro (by first | omega | assumption | rfl) ?_)))
        refine ⟨?_, (by (repeat' first | assumption | exact St.Sub.refl _ | exact RowOk.sub (by assumption) (by assumption) | refine St.Sub.trans ?_ (RowOk.sub (by assumption) (by assumption)) | refine St.Sub.add ?_ ?_ _ | refine St.Sub.set ?_ ?_ ?_ _ | refine St.Sub.keep ?_ ?_ | refine St.WF.leave ?_ _ | refine St.WF.add ?_ _ | refine St.WF.set ?_ ?_ _ | refine St.WF.grow ?_ _ _ _ | refine St.WF.keep ?_ ?_ | (first | omega | (simp only [RowOk.lo, add_next, set_next, grow_next, leave_next, drop_next]; first | done | omega))))⟩
        rw [hc, hf, hft]; rfl
    · have c2 : (o.kind == 2) = false := by simp [k2]
      (simp (disch := first | decide | omega | (simp only [add_next, set_next, grow_next, leave_next, drop_next, List.length_map]; first | done | omega)) only [go_sem, ↓reduceIte, Nat.reduceBEq, Nat.reduceAdd, Nat.reduceLeDiff, Nat.reduceEqDiff, Nat.reduceLT, Nat.reduceMul, tupS, Option.getD_some, Option.isSome_some, c1, c2, c6]; (repeat (with_reducible refine And.intro (by first | omega | assumption | rfl) ?_)))
      refine ⟨?_, (by (repeat' first | assumption | exact St.Sub.refl _ | exact RowOk.sub (by assumption) (by assumption) | refine St.Sub.trans ?_ (RowOk.sub (by assumption) (by assumption)) | refine St.Sub.add ?_ ?_ _ | refine St.Sub.set ?_ ?_ ?_ _ | refine St.Sub.keep ?_ ?_ | refine St.WF.leave ?_ _ | refine St.WF.add ?_ _ | refine St.WF.set ?_ ?_ _ | refine St.WF.grow ?_ _ _ _ | refine St.WF.keep ?_ ?_ | (first | omega | (simp only [RowOk.lo, add_next, set_next, grow_next, leave_next, drop_next]; first | done | omega))))⟩
      have hf : fitO o t = true := by rw [fitO, if_neg k1, if_pos t6, if_neg k2]
      rw [hc, hf]; rfl
  · have c6 : (t.kind != 6) = true := by simp [t6]
    (simp (disch := first | decide | omega | (simp only [add_next, set_next, grow_next, leave_next, drop_next, List.length_map]; first | done | omega)) only [go_sem, ↓reduceIte, Nat.reduceBEq, Nat.reduceAdd, Nat.reduceLeDiff, Nat.reduceEqDiff, Nat.reduceLT, Nat.reduceMul, tupS, Option.getD_some, Option.isSome_some, c1, c6]; (repeat (with_reducible refine And.intro (by first | omega | assumption | rfl) ?_)))
    refine ⟨?_, (by (repeat' first | assumption | exact St.Sub.refl _ | exact RowOk.sub (by assumption) (by assumption) | refine St.Sub.trans ?_ (RowOk.sub (by assumption) (by assumption)) | refine St.Sub.add ?_ ?_ _ | refine St.Sub.set ?_ ?_ ?_ _ | refine St.Sub.keep ?_ ?_ | refine St.WF.leave ?_ _ | refine St.WF.add ?_ _ | refine St.WF.set ?_ ?_ _ | refine St.WF.grow ?_ _ _ _ | refine St.WF.keep ?_ ?_ | (first | omega | (simp only [RowOk.lo, add_next, set_next, grow_next, leave_next, drop_next]; first | done | omega))))⟩
    have hf : fitO o t = false := by rw [fitO, if_neg k1, if_neg t6]
    rw [hc, hf]; rfl
end Go.Proofs.Ytjjhjhjphhpeiaa

namespace Go.Proofs.Ytjjhjhjphhpeiaa
open Go.RowKit
set_option linter.unusedSimpArgs false
set_option linter.unusedVariables false
/-- What is put into the place. -/
def mdV (o : DOp) (x : DVal) : DVal := if o.kind = 1 then o.val else lsV o x
def apV (o : DOp) (v : DVal) : DVal := match getV o.path v with
  | some x => chV (fun _ => mdV o x) o.path v
  | none => v
set_option maxRecDepth 200000 in
set_option maxHeartbeats 8000000 in
theorem made_o {S : St} {K : D → St → Prop} (o : DOp) (x : DVal) (ko kx : Nat) (a b c ca cb cc : Nat) {zn zi zp : List D} (h : OkO o) (hko : S.ob ko = some (.box 53 (opCs .no o))) (hkx : S.ob kx = some (.box 28 (ownV x a b c ca cb cc).cells)) (hO : OV S x a b c ca cb cc zn zi zp)
    (hx : o.kind ≠ 1 → x.kind = 6 ∧ x.parts.length = x.ids.length ∧ x.ids.length ≤ 1000000 ∧ x.names.length ≤ 1000000)
    (hK : ∀ T, Fz (fun j => j ≠ a ∧ j ≠ b ∧ j ≠ c) S T → T.WF → K (encV (mdV o x)) T) :
    DCalls Try.prog 78 [.loc ko 0, .loc kx 0] S K := by
  refine DCalls.thaw ?_
  refine dcalls_inline mixed Try.func78 rfl (fun _ _ => by kernel_rfl) (rs := [.cell 2 28]) rfl (by kernel_rfl) (fun hS => ?_)
  have l1 := hS.lt hO.obn
  have l2 := hS.lt hO.obi
  have l3 := hS.lt hO.obp
  have l4 := hS.lt hko
  have l5 := hS.lt hkx
  have e1 : ko ≠ S.next := by omega
  have e2 : kx ≠ S.next := by omega
  have hwt := h.wt
  by_cases k1 : o.kind = 1
  · have c1 : (o.kind == 1) = true := by simp [k1]
    (simp (disch := first | decide | omega | (simp only [add_next, set_next, grow_next, leave_next, drop_next, List.length_map]; first | done | omega)) only [go_sem, ↓reduceIte, Nat.reduceBEq, Nat.reduceAdd, Nat.reduceLeDiff, Nat.reduceEqDiff, Nat.reduceLT, Nat.reduceMul, e1, e2, hko, hkx, c1, opCs]; (repeat (with_reducible refine And.intro (by first | omega | assumption | rfl) ?_)))
    refine ⟨_, _, Thaw.refl _ _ _, ?_⟩
    have hm : mdV o x = o.val := by rw [mdV, if_pos k1]
    rw [hm] at hK
    refine hK _ (((Fz.refl _ S).add hS).set hS (.inr (Nat.le_refl _))) ((hS.add _).set (by show S.next < S.next + 1; omega) _)
  · have c1 : (o.kind == 1) = false := by simp [k1]
    obtain ⟨x6, xl, xn, xm⟩ := hx k1
    have hm : mdV o x = lsV o x := by rw [mdV, if_neg k1]
    rw [hm] at hK
    (simp (disch := first | decide | omega | (simp only [add_next, set_next, grow_next, leave_next, drop_next, List.length_map]; first | done | omega)) only [go_sem, ↓reduceIte, Nat.reduceBEq, Nat.reduceAdd, Nat.reduceLeDiff, Nat.reduceEqDiff, Nat.reduceLT, Nat.reduceMul, e1, e2, hko, hkx, c1, opCs]; (repeat (with_reducible refine And.intro (by first | omega | assumption | rfl) ?_)))
    refine list_o o x a b c ca cb cc (hO.add hS) x6 xl xn (by omega) xm fun T b' c' cb' cc' zi' zp' hF hT hb' hc' hO1 => ?_
    have hn := hF.next
    simp only [add_next] at hn hb' hc'
    have u2 := hF.ob S.next _ ⟨by omega, by omega⟩ (by (first | (simp (disch := first | decide | omega | (simp only [add_next, set_next, grow_next, leave_next, drop_next, List.length_map]; first | done | omega)) only [go_sem, ↓reduceIte, Nat.reduceBEq, Nat.reduceAdd, Nat.reduceLeDiff, Nat.reduceEqDiff, Nat.reduceLT, Nat.reduceMul]; first | done | rfl) | rfl))
    (simp (disch := first | decide | omega | (simp only [add_next, set_next, grow_next, leave_next, drop_next, List.length_map]; first | done | omega)) only [go_sem, ↓reduceIte, Nat.reduceBEq, Nat.reduceAdd, Nat.reduceLeDiff, Nat.reduceEqDiff, Nat.reduceLT, Nat.reduceMul, u2]; (repeat (with_reducible refine And.intro (by first | omega | assumption | rfl) ?_)))
    refine ⟨_, _, thawOV (hO1.set (k := S.next) (by omega) (by omega) (by omega)), ?_⟩
    refine hK _ ?_ ((((hT.set (by omega) _).drop _).drop _).drop _)
    have h0 : Fz (fun j => j ≠ a ∧ j ≠ b ∧ j ≠ c) S T := ((Fz.refl _ S).add hS).trans (hF.mono fun j hj => hj.2)
    have d2 : ¬ (b' ≠ a ∧ b' ≠ b ∧ b' ≠ c) ∨ S.next ≤ b' := by rcases hb' with rfl | hb'; exact .inl (fun h => h.2.1 rfl); exact .inr (by omega)
    have d3 : ¬ (c' ≠ a ∧ c' ≠ b ∧ c' ≠ c) ∨ S.next ≤ c' := by rcases hc' with rfl | hc'; exact .inl (fun h => h.2.2 rfl); exact .inr (by omega)
    exact (((h0.set hS (.inr (Nat.le_refl _))).drop hS (.inl fun h => h.1 rfl)).drop hS d2).drop hS d3
set_option maxRecDepth 200000 in
set_option maxHeartbeats 8000000 in
theorem apply_o (o : DOp) (v : DVal) (h : OkO o) (hok : okV v) (hw : v.weight ≤ 1000000) (hw2 : (apV o v).weight ≤ 1000000)
    (hx : ∀ x, getV o.path v = some x → o.kind ≠ 1 → x.kind = 6 ∧ x.parts.length = x.ids.length ∧ x.ids.length ≤ 1000000 ∧ x.names.length ≤ 1000000) :
    DPure Try.prog 52 [encO o, encV v] (encV (apV o v)) := by
  have hpl := h.path
  refine dpure_of_dwp mixed Try.func52 rfl (fun _ _ => by kernel_rfl) (rs := [.cell 4 28]) rfl (by kernel_rfl) (closed_encV _) (fun S hS => ?_)
  (simp (disch := first | decide | omega | (simp only [add_next, set_next, grow_next, leave_next, drop_next, List.length_map]; first | done | omega)) only [go_sem, ↓reduceIte, Nat.reduceBEq, Nat.reduceAdd, Nat.reduceLeDiff, Nat.reduceEqDiff, Nat.reduceLT, Nat.reduceMul, opCs]; (repeat (with_reducible refine And.intro (by first | omega | assumption | rfl) ?_)))
  have hFa : Fz (fun _ => True) S (((S.add (.box 53 (opCs .no o))).add (.box 28 (encV v).cells)).add (.box 28 [.v (.int .i64 0), .v (.int .i64 0), .v (.string ⟨#[]⟩), .sl .full [], .sl .full [], .sl .full []])) := (((Fz.refl _ S).add hS).add hS).add hS
  refine get_o v o.path .no hok (by omega) (by omega) (fun T hg hF hT => ?_) (fun T u a b c ca cb cc zn zi zp hg hF hT ha hb hc hO => ?_)
  · have hn := hF.next
    simp only [add_next] at hn
    have u2 : T.ob S.next = some (.box 53 (opCs .no o)) := hF.ob S.next _ trivial (by (first | (simp (disch := first | decide | omega | (simp only [add_next, set_next, grow_next, leave_next, drop_next, List.length_map]; first | done | omega)) only [go_sem, ↓reduceIte, Nat.reduceBEq, Nat.reduceAdd, Nat.reduceLeDiff, Nat.reduceEqDiff, Nat.reduceLT, Nat.reduceMul, opCs]; first | done | rfl) | rfl))
    have u3 := hF.ob (S.next + 1) _ trivial (by (first | (simp (disch := first | decide | omega | (simp only [add_next, set_next, grow_next, leave_next, drop_next, List.length_map]; first | done | omega)) only [go_sem, ↓reduceIte, Nat.reduceBEq, Nat.reduceAdd, Nat.reduceLeDiff, Nat.reduceEqDiff, Nat.reduceLT, Nat.reduceMul]; first | done | rfl) | rfl))
    have u4 := hF.ob (S.next + 1 + 1) _ trivial (by (first | (simp (disch := first | decide | omega | (simp only [add_next, set_next, grow_next, leave_next, drop_next, List.length_map]; first | done | omega)) only [go_sem, ↓reduceIte, Nat.reduceBEq, Nat.reduceAdd, Nat.reduceLeDiff, Nat.reduceEqDiff, Nat.reduceLT, Nat.reduceMul]; first | done | rfl) | rfl))
    have e1 : S.next ≠ T.next := by omega
    have e2 : S.next + 1 ≠ T.next := by omega
    have e3 : S.next + 1 + 1 ≠ T.next := by omega
    (simp (disch := first | decide | omega | (simp only [add_next, set_next, grow_next, leave_next, drop_next, List.length_map]; first | done | omega)) only [go_sem, ↓reduceIte, Nat.reduceBEq, Nat.reduceAdd, Nat.reduceLeDiff, Nat.reduceEqDiff, Nat.reduceLT, Nat.reduceMul, zCells, u2, u3, u4, e1, e2, e3]; (repeat (with_reducible refine And.intro (by first | omega | assumption | rfl) ?_)))
    refine ⟨?_, ?_⟩
    rotate_left
    · have hz := (((hFa.trans hF).add hS (o := .box 28 zCells)).set hS (k := T.next) (o := .box 28 zCells) (.inr (by omega))).set hS (k := S.next + 1 + 1) (o := .box 28 (encV v).cells) (.inr (by omega))
      exact ⟨hz.next, fun j o' e => hz.ob j o' trivial e⟩
    rw [frz_encV, apV, hg]
  · have hn := hF.next
    simp only [add_next] at hn ha hb hc
    have u2 : T.ob S.next = some (.box 53 (opCs .no o)) := hF.ob S.next _ trivial (by (first | (simp (disch := first | decide | omega | (simp only [add_next, set_next, grow_next, leave_next, drop_next, List.length_map]; first | done | omega)) only [go_sem, ↓reduceIte, Nat.reduceBEq, Nat.reduceAdd, Nat.reduceLeDiff, Nat.reduceEqDiff, Nat.reduceLT, Nat.reduceMul, opCs]; first | done | rfl) | rfl))
    have u3 := hF.ob (S.next + 1) _ trivial (by (first | (simp (disch := first | decide | omega | (simp only [add_next, set_next, grow_next, leave_next, drop_next, List.length_map]; first | done | omega)) only [go_sem, ↓reduceIte, Nat.reduceBEq, Nat.reduceAdd, Nat.reduceLeDiff, Nat.reduceEqDiff, Nat.reduceLT, Nat.reduceMul]; first | done | rfl) | rfl))
    have u4 := hF.ob (S.next + 1 + 1) _ trivial (by (first | (simp (disch := first | decide | omega | (simp only [add_next, set_next, grow_next, leave_next, drop_next, List.length_map]; first | done | omega)) only [go_sem, ↓reduceIte, Nat.reduceBEq, Nat.reduceAdd, Nat.reduceLeDiff, Nat.reduceEqDiff, Nat.reduceLT, Nat.reduceMul]; first | done | rfl) | rfl))
    have e1 : S.next ≠ T.next := by omega
    have e2 : S.next + 1 ≠ T.next := by omega
    have e3 : S.next + 1 + 1 ≠ T.next := by omega
    (simp (disch := first | decide | omega | (simp only [add_next, set_next, grow_next, leave_next, drop_next, List.length_map]; first | done | omega)) only [go_sem, ↓reduceIte, Nat.reduceBEq, Nat.reduceAdd, Nat.reduceLeDiff, Nat.reduceEqDiff, Nat.reduceLT, Nat.reduceMul, u2, u3, u4, e1, e2, e3]; (repeat (with_reducible refine And.intro (by first | omega | assumption | rfl) ?_)))
    obtain ⟨T1, hT1e⟩ : ∃ T1, (T.add (.box 28 [.v (.int .i64 0), .v (.int .i64 0), .v (.string ⟨#[]⟩), .sl .full [], .sl .full [], .sl .full []])).set T.next (.box 28 (ownV u a b c ca cb cc).cells) = T1 := ⟨_, rfl⟩
    have hT1 : T1.WF := by rw [← hT1e]; exact (hT.add _).set (by show T.next < T.next + 1; omega) _
    have hF1 : Fz (fun _ => True) T T1 := by rw [← hT1e]; exact ((Fz.refl _ T).add hT).set hT (.inr (Nat.le_refl _))
    have hn1 : T1.next = T.next + 1 := by rw [← hT1e]; rfl
    have w2 := hF1.ob _ _ trivial u2
    have w3 := hF1.ob _ _ trivial u3
    have w4 := hF1.ob _ _ trivial u4
    have w5 : T1.ob T.next = some (.box 28 (ownV u a b c ca cb cc).cells) := by rw [← hT1e]; (first | (simp (disch := first | decide | omega | (simp only [add_next, set_next, grow_next, leave_next, drop_next, List.length_map]; first | done | omega)) only [go_sem, ↓reduceIte, Nat.reduceBEq, Nat.reduceAdd, Nat.reduceLeDiff, Nat.reduceEqDiff, Nat.reduceLT, Nat.reduceMul]; first | done | rfl) | rfl)
    have hO1 := hO.fz hF1
    rw [hT1e]
    have hsome : (getV o.path v).isSome = true := by rw [hg]; rfl
    have hap : apV o v = chV (fun _ => mdV o u) o.path v := by rw [apV, hg]
    have hput := put_d v (mdV o u) o.path .no hok (by omega) (by omega) (by rw [← hap]; exact hw2)
    rw [hsome, ← hap] at hput
    have la := hT1.lt hO1.obn
    have lb := hT1.lt hO1.obi
    have lc := hT1.lt hO1.obp
    have hq : ∀ j, j < S.next + 1 + 1 + 1 → j ≠ a ∧ j ≠ b ∧ j ≠ c := fun j hj => ⟨by omega, by omega, by omega⟩
    have fin : ∀ X : St, Fz (fun j => j < S.next) T1 X → S.Sub X := fun X hX => ⟨by have := hX.next; omega, fun j o' e => hX.ob j o' (hS.lt e) ((hFa.trans hF).trans hF1 |>.ob j o' trivial e)⟩
    refine ddraw_any (fun S' => S'.ob (S.next + 1) = some (.box 28 (encV v).cells) ∧ S'.ob S.next = some (.box 53 (opCs .no o))) 12 (by (first | (simp (disch := first | decide | omega | (simp only [add_next, set_next, grow_next, leave_next, drop_next, List.length_map]; first | done | omega)) only [go_sem, ↓reduceIte, Nat.reduceBEq, Nat.reduceAdd, Nat.reduceLeDiff, Nat.reduceEqDiff, Nat.reduceLT, Nat.reduceMul, w2, w3]; first | done | rfl) | rfl)) (by kernel_rfl) ?_
    (refine s_take 0 rfl (by kernel_rfl) (by kernel_rfl) (v := ?v1) (fun S' hz => dquietR_of ?h1) ?k1; (case h1 => ((simp (disch := first | decide | omega | (simp only [add_next, set_next, grow_next, leave_next, drop_next, List.length_map]; first | done | omega)) only [go_sem, ↓reduceIte, Nat.reduceBEq, Nat.reduceAdd, Nat.reduceLeDiff, Nat.reduceEqDiff, Nat.reduceLT, Nat.reduceMul, opCs, hz]; (repeat (with_reducible refine And.intro (by first | omega | assumption | rfl) ?_))); first | done | exact rfl | omega)); refine s_take 1 rfl (by kernel_rfl) (by kernel_rfl) (v := ?v2) (fun S' hz => dquietR_of ?h2) ?k2; (case h2 => ((simp (disch := first | decide | omega | (simp only [add_next, set_next, grow_next, leave_next, drop_next, List.length_map]; first | done | omega)) only [go_sem, ↓reduceIte, Nat.reduceBEq, Nat.reduceAdd, Nat.reduceLeDiff, Nat.reduceEqDiff, Nat.reduceLT, Nat.reduceMul, opCs, hz]; (repeat (with_reducible refine And.intro (by first | omega | assumption | rfl) ?_))); first | done | exact rfl | omega)); refine s_take 3 rfl (by kernel_rfl) (by kernel_rfl) (v := ?v3) (fun S' hz => dquietR_of ?h3) ?k3; (case h3 => ((simp (disch := first | decide | omega | (simp only [add_next, set_next, grow_next, leave_next, drop_next, List.length_map]; first | done | omega)) only [go_sem, ↓reduceIte, Nat.reduceBEq, Nat.reduceAdd, Nat.reduceLeDiff, Nat.reduceEqDiff, Nat.reduceLT, Nat.reduceMul, opCs, hz]; (repeat (with_reducible refine And.intro (by first | omega | assumption | rfl) ?_))); first | done | exact rfl | omega)); refine s_take 4 rfl (by kernel_rfl) (by kernel_rfl) (v := ?v4) (fun S' hz => dquietR_of ?h4) ?k4; (case h4 => ((simp (disch := first | decide | omega | (simp only [add_next, set_next, grow_next, leave_next, drop_next, List.length_map]; first | done | omega)) only [go_sem, ↓reduceIte, Nat.reduceBEq, Nat.reduceAdd, Nat.reduceLeDiff, Nat.reduceEqDiff, Nat.reduceLT, Nat.reduceMul, opCs, hz]; (repeat (with_reducible refine And.intro (by first | omega | assumption | rfl) ?_))); first | done | exact rfl | omega)))
    refine s_split [2, 9] (by kernel_rfl) (by simp) ?_
    intro j hj
    simp only [List.mem_cons, List.not_mem_nil, or_false] at hj
    rcases hj with rfl | rfl
    · refine s_op rfl ?_
      (simp (disch := first | decide | omega | (simp only [add_next, set_next, grow_next, leave_next, drop_next, List.length_map]; first | done | omega)) only [go_sem, ↓reduceIte, Nat.reduceBEq, Nat.reduceAdd, Nat.reduceLeDiff, Nat.reduceEqDiff, Nat.reduceLT, Nat.reduceMul]; (repeat (with_reducible refine And.intro (by first | omega | assumption | rfl) ?_)))
      refine made_o o u S.next T.next a b c ca cb cc h w2 w5 hO1 (hx u hg) fun T2 hF2 hT2 => ?_
      have hn2 := hF2.next
      have x2 := hF2.ob _ _ (hq _ (by omega)) w2
      have x3 := hF2.ob _ _ (hq _ (by omega)) w3
      have x4 := hF2.ob _ _ (hq _ (by omega)) w4
      refine ⟨⟨x3, x2⟩, ?_⟩
      (refine s_take 5 rfl (by kernel_rfl) (by kernel_rfl) (v := ?v5) (fun S' hz => dquietR_of ?h5) ?k5; (case h5 => ((simp (disch := first | decide | omega | (simp only [add_next, set_next, grow_next, leave_next, drop_next, List.length_map]; first | done | omega)) only [go_sem, ↓reduceIte, Nat.reduceBEq, Nat.reduceAdd, Nat.reduceLeDiff, Nat.reduceEqDiff, Nat.reduceLT, Nat.reduceMul, hz]; (repeat (with_reducible refine And.intro (by first | omega | assumption | rfl) ?_))); refine dqgo_mk (hput) ?_; exact rfl)))
      (refine s_take 6 rfl (by kernel_rfl) (by kernel_rfl) (v := ?v6) (fun S' hz => dquietR_of ?h6) ?k6; (case h6 => ((simp (disch := first | decide | omega | (simp only [add_next, set_next, grow_next, leave_next, drop_next, List.length_map]; first | done | omega)) only [go_sem, ↓reduceIte, Nat.reduceBEq, Nat.reduceAdd, Nat.reduceLeDiff, Nat.reduceEqDiff, Nat.reduceLT, Nat.reduceMul, hz]; (repeat (with_reducible refine And.intro (by first | omega | assumption | rfl) ?_))); first | done | exact rfl | omega)); refine s_take 7 rfl (by kernel_rfl) (by kernel_rfl) (v := ?v7) (fun S' hz => dquietR_of ?h7) ?k7; (case h7 => ((simp (disch := first | decide | omega | (simp only [add_next, set_next, grow_next, leave_next, drop_next, List.length_map]; first | done | omega)) only [go_sem, ↓reduceIte, Nat.reduceBEq, Nat.reduceAdd, Nat.reduceLeDiff, Nat.reduceEqDiff, Nat.reduceLT, Nat.reduceMul, hz]; (repeat (with_reducible refine And.intro (by first | omega | assumption | rfl) ?_))); first | done | exact rfl | omega)); refine s_take 8 rfl (by kernel_rfl) (by kernel_rfl) (v := ?v8) (fun S' hz => dquietR_of ?h8) ?k8; (case h8 => ((simp (disch := first | decide | omega | (simp only [add_next, set_next, grow_next, leave_next, drop_next, List.length_map]; first | done | omega)) only [go_sem, ↓reduceIte, Nat.reduceBEq, Nat.reduceAdd, Nat.reduceLeDiff, Nat.reduceEqDiff, Nat.reduceLT, Nat.reduceMul, hz]; (repeat (with_reducible refine And.intro (by first | omega | assumption | rfl) ?_))); first | done | exact rfl | omega)))
      have f1 : S.next ≠ T2.next := by omega
      have f2 : S.next + 1 ≠ T2.next := by omega
      have f3 : S.next + 1 + 1 ≠ T2.next := by omega
      (refine s_split [9] (by kernel_rfl) (by simp) ?_; intro j_ hj_; obtain rfl : j_ = 9 := (by simpa using hj_); clear hj_; refine s_op rfl ?_; (simp (disch := first | decide | omega | (simp only [add_next, set_next, grow_next, leave_next, drop_next, List.length_map]; first | done | omega)) only [go_sem, ↓reduceIte, Nat.reduceBEq, Nat.reduceAdd, Nat.reduceLeDiff, Nat.reduceEqDiff, Nat.reduceLT, Nat.reduceMul, x2, x3, f1, f2]; (repeat (with_reducible refine And.intro (by first | omega | assumption | rfl) ?_))))
      (refine s_split [10] (by kernel_rfl) (by simp) ?_; intro j_ hj_; obtain rfl : j_ = 10 := (by simpa using hj_); clear hj_; refine s_op rfl ?_; (simp (disch := first | decide | omega | (simp only [add_next, set_next, grow_next, leave_next, drop_next, List.length_map]; first | done | omega)) only [go_sem, ↓reduceIte, Nat.reduceBEq, Nat.reduceAdd, Nat.reduceLeDiff, Nat.reduceEqDiff, Nat.reduceLT, Nat.reduceMul, x2, x3, f1, f2]; (repeat (with_reducible refine And.intro (by first | omega | assumption | rfl) ?_))))
      (refine s_take 11 rfl (by kernel_rfl) (by kernel_rfl) (v := ?v9) (fun S' hz => dquietR_of ?h9) ?k9; (case h9 => ((simp (disch := first | decide | omega | (simp only [add_next, set_next, grow_next, leave_next, drop_next, List.length_map]; first | done | omega)) only [go_sem, ↓reduceIte, Nat.reduceBEq, Nat.reduceAdd, Nat.reduceLeDiff, Nat.reduceEqDiff, Nat.reduceLT, Nat.reduceMul, hz]; (repeat (with_reducible refine And.intro (by first | omega | assumption | rfl) ?_))); first | done | exact rfl | omega)))
      (refine s_done (by kernel_rfl) ?_; (simp (disch := first | decide | omega | (simp only [add_next, set_next, grow_next, leave_next, drop_next, List.length_map]; first | done | omega)) only [go_sem, ↓reduceIte, Nat.reduceBEq, Nat.reduceAdd, Nat.reduceLeDiff, Nat.reduceEqDiff, Nat.reduceLT, Nat.reduceMul, x4, f3]; (repeat (with_reducible refine And.intro (by first | omega | assumption | rfl) ?_))))
      refine ⟨?_, fin _ ?_⟩
      · rw [frz_encV]
      · have hF2' : Fz (fun j => j < S.next) T1 T2 := hF2.mono fun j hj => hq j (by omega)
        exact ((hF2'.add hT1).set hT1 (.inr hn2)).set hT1 (.inl (by omega))
    · refine s_op rfl ?_
      have f1 : S.next ≠ T1.next := by omega
      have f2 : S.next + 1 ≠ T1.next := by omega
      (simp (disch := first | decide | omega | (simp only [add_next, set_next, grow_next, leave_next, drop_next, List.length_map]; first | done | omega)) only [go_sem, ↓reduceIte, Nat.reduceBEq, Nat.reduceAdd, Nat.reduceLeDiff, Nat.reduceEqDiff, Nat.reduceLT, Nat.reduceMul, w2, w3, f1, f2]; (repeat (with_reducible refine And.intro (by first | omega | assumption | rfl) ?_)))
      refine s_split [2] (by kernel_rfl) (by simp) ?_
      intro j hj
      obtain rfl : j = 2 := by simpa using hj
      refine s_op rfl ?_
      (simp (disch := first | decide | omega | (simp only [add_next, set_next, grow_next, leave_next, drop_next, List.length_map]; first | done | omega)) only [go_sem, ↓reduceIte, Nat.reduceBEq, Nat.reduceAdd, Nat.reduceLeDiff, Nat.reduceEqDiff, Nat.reduceLT, Nat.reduceMul]; (repeat (with_reducible refine And.intro (by first | omega | assumption | rfl) ?_)))
      have g1 : T.next ≠ T1.next := by omega
      refine made_o o u S.next T.next a b c ca cb cc h (by (first | (simp (disch := first | decide | omega | (simp only [add_next, set_next, grow_next, leave_next, drop_next, List.length_map]; first | done | omega)) only [go_sem, ↓reduceIte, Nat.reduceBEq, Nat.reduceAdd, Nat.reduceLeDiff, Nat.reduceEqDiff, Nat.reduceLT, Nat.reduceMul, w2, f1]; first | done | rfl) | rfl)) (by (first | (simp (disch := first | decide | omega | (simp only [add_next, set_next, grow_next, leave_next, drop_next, List.length_map]; first | done | omega)) only [go_sem, ↓reduceIte, Nat.reduceBEq, Nat.reduceAdd, Nat.reduceLeDiff, Nat.reduceEqDiff, Nat.reduceLT, Nat.reduceMul, w5, g1]; first | done | rfl) | rfl)) (hO1.add hT1) (hx u hg) fun T2 hF2 hT2 => ?_
      have hn2 := hF2.next
      simp only [add_next] at hn2
      have f3 : S.next + 1 + 1 ≠ T1.next := by omega
      have x2 : T2.ob S.next = some (.box 53 (opCs .no o)) := hF2.ob _ _ (hq _ (by omega)) (by (first | (simp (disch := first | decide | omega | (simp only [add_next, set_next, grow_next, leave_next, drop_next, List.length_map]; first | done | omega)) only [go_sem, ↓reduceIte, Nat.reduceBEq, Nat.reduceAdd, Nat.reduceLeDiff, Nat.reduceEqDiff, Nat.reduceLT, Nat.reduceMul, w2, f1]; first | done | rfl) | rfl))
      have x3 : T2.ob (S.next + 1) = some (.box 28 (encV v).cells) := hF2.ob _ _ (hq _ (by omega)) (by (first | (simp (disch := first | decide | omega | (simp only [add_next, set_next, grow_next, leave_next, drop_next, List.length_map]; first | done | omega)) only [go_sem, ↓reduceIte, Nat.reduceBEq, Nat.reduceAdd, Nat.reduceLeDiff, Nat.reduceEqDiff, Nat.reduceLT, Nat.reduceMul, w3, f2]; first | done | rfl) | rfl))
      have x4 := hF2.ob (S.next + 1 + 1) _ (hq _ (by omega)) (by (first | (simp (disch := first | decide | omega | (simp only [add_next, set_next, grow_next, leave_next, drop_next, List.length_map]; first | done | omega)) only [go_sem, ↓reduceIte, Nat.reduceBEq, Nat.reduceAdd, Nat.reduceLeDiff, Nat.reduceEqDiff, Nat.reduceLT, Nat.reduceMul, w4, f3]; first | done | rfl) | rfl))
      have x8 := hF2.ob T1.next _ ⟨by omega, by omega, by omega⟩ (by (first | (simp (disch := first | decide | omega | (simp only [add_next, set_next, grow_next, leave_next, drop_next, List.length_map]; first | done | omega)) only [go_sem, ↓reduceIte, Nat.reduceBEq, Nat.reduceAdd, Nat.reduceLeDiff, Nat.reduceEqDiff, Nat.reduceLT, Nat.reduceMul]; first | done | rfl) | rfl))
      refine ⟨⟨x3, x2⟩, ?_⟩
      (refine s_take 5 rfl (by kernel_rfl) (by kernel_rfl) (v := ?v10) (fun S' hz => dquietR_of ?h10) ?k10; (case h10 => ((simp (disch := first | decide | omega | (simp only [add_next, set_next, grow_next, leave_next, drop_next, List.length_map]; first | done | omega)) only [go_sem, ↓reduceIte, Nat.reduceBEq, Nat.reduceAdd, Nat.reduceLeDiff, Nat.reduceEqDiff, Nat.reduceLT, Nat.reduceMul, hz]; (repeat (with_reducible refine And.intro (by first | omega | assumption | rfl) ?_))); refine dqgo_mk (hput) ?_; exact rfl)))
      (refine s_take 6 rfl (by kernel_rfl) (by kernel_rfl) (v := ?v11) (fun S' hz => dquietR_of ?h11) ?k11; (case h11 => ((simp (disch := first | decide | omega | (simp only [add_next, set_next, grow_next, leave_next, drop_next, List.length_map]; first | done | omega)) only [go_sem, ↓reduceIte, Nat.reduceBEq, Nat.reduceAdd, Nat.reduceLeDiff, Nat.reduceEqDiff, Nat.reduceLT, Nat.reduceMul, hz]; (repeat (with_reducible refine And.intro (by first | omega | assumption | rfl) ?_))); first | done | exact rfl | omega)); refine s_take 7 rfl (by kernel_rfl) (by kernel_rfl) (v := ?v12) (fun S' hz => dquietR_of ?h12) ?k12; (case h12 => ((simp (disch := first | decide | omega | (simp only [add_next, set_next, grow_next, leave_next, drop_next, List.length_map]; first | done | omega)) only [go_sem, ↓reduceIte, Nat.reduceBEq, Nat.reduceAdd, Nat.reduceLeDiff, Nat.reduceEqDiff, Nat.reduceLT, Nat.reduceMul, hz]; (repeat (with_reducible refine And.intro (by first | omega | assumption | rfl) ?_))); first | done | exact rfl | omega)); refine s_take 8 rfl (by kernel_rfl) (by kernel_rfl) (v := ?v13) (fun S' hz => dquietR_of ?h13) ?k13; (case h13 => ((simp (disch := first | decide | omega | (simp only [add_next, set_next, grow_next, leave_next, drop_next, List.length_map]; first | done | omega)) only [go_sem, ↓reduceIte, Nat.reduceBEq, Nat.reduceAdd, Nat.reduceLeDiff, Nat.reduceEqDiff, Nat.reduceLT, Nat.reduceMul, hz]; (repeat (with_reducible refine And.intro (by first | omega | assumption | rfl) ?_))); first | done | exact rfl | omega)))
      (refine s_split [10] (by kernel_rfl) (by simp) ?_; intro j_ hj_; obtain rfl : j_ = 10 := (by simpa using hj_); clear hj_; refine s_op rfl ?_; (simp (disch := first | decide | omega | (simp only [add_next, set_next, grow_next, leave_next, drop_next, List.length_map]; first | done | omega)) only [go_sem, ↓reduceIte, Nat.reduceBEq, Nat.reduceAdd, Nat.reduceLeDiff, Nat.reduceEqDiff, Nat.reduceLT, Nat.reduceMul, x2, x3, x8, f1, f2]; (repeat (with_reducible refine And.intro (by first | omega | assumption | rfl) ?_))))
      (refine s_take 11 rfl (by kernel_rfl) (by kernel_rfl) (v := ?v14) (fun S' hz => dquietR_of ?h14) ?k14; (case h14 => ((simp (disch := first | decide | omega | (simp only [add_next, set_next, grow_next, leave_next, drop_next, List.length_map]; first | done | omega)) only [go_sem, ↓reduceIte, Nat.reduceBEq, Nat.reduceAdd, Nat.reduceLeDiff, Nat.reduceEqDiff, Nat.reduceLT, Nat.reduceMul, hz]; (repeat (with_reducible refine And.intro (by first | omega | assumption | rfl) ?_))); first | done | exact rfl | omega)))
      (refine s_done (by kernel_rfl) ?_; (simp (disch := first | decide | omega | (simp only [add_next, set_next, grow_next, leave_next, drop_next, List.length_map]; first | done | omega)) only [go_sem, ↓reduceIte, Nat.reduceBEq, Nat.reduceAdd, Nat.reduceLeDiff, Nat.reduceEqDiff, Nat.reduceLT, Nat.reduceMul, x4, f3]; (repeat (with_reducible refine And.intro (by first | omega | assumption | rfl) ?_))))
      refine ⟨?_, fin _ ?_⟩
      · rw [frz_encV]
      · have hF2' : Fz (fun j => j < S.next) T1 T2 := ((Fz.refl _ T1).add hT1).trans (hF2.mono fun j hj => hq j (by omega))
        exact (hF2'.set hT1 (.inr (Nat.le_refl _))).set hT1 (.inl (by omega))
end Go.Proofs.Ytjjhjhjphhpeiaa

namespace Go.Proofs.Ytjjhjhjphhpeiaa
open Go.RowKit
theorem getV_ok : ∀ (p : List DStp) {v u : DVal}, okV v → getV p v = some u → okV u
  | [], v, u, h, e => by injection e with e; exact e ▸ h
  | p :: ps, v, u, h, e => by
    rw [getV_cons] at e
    split at e
    · rename_i hin
      have hpl : plN v p < v.parts.length := by have := hin.1; have := hin.2; unfold plN; omega
      exact getV_ok ps (((okV_eq v).1 h).2.2.2.2.2.2.2.2 _ (by rw [getD_at hpl]; exact List.getElem_mem _)) e
    · cases e
end Go.Proofs.Ytjjhjhjphhpeiaa

namespace Go.Proofs.Ytjjhjhjphhpeiaa
open Go.RowKit
set_option linter.unusedSimpArgs false
set_option linter.unusedVariables false
theorem chkO_zero {o : DOp} {s : DSch} (h : chkO o s = 0) : rightO o = true ∧ rightS 5 s = true ∧ ∃ t, typS o.path s = some t ∧ fitO o t = true := by
  unfold chkO at h
  split at h
  · rename_i h1
    split at h
    · rename_i t ht
      split at h
      · rename_i hf
        exact ⟨h1.1, h1.2, t, ht, hf⟩
      · omega
    · omega
  · omega
theorem rightO_id {o : DOp} (h : rightO o = true) (h2 : o.kind = 2) : o.id ≠ 0 := by
  unfold rightO at h
  rw [if_neg (by omega), if_pos h2] at h
  simp only [Bool.and_eq_true, decide_eq_true_eq] at h
  exact h.2.1.1
theorem fitO_made {o : DOp} {t : DSch} {x : DVal} (hr : rightO o = true) (hf : fitO o t = true) (hx : GV x t) (ht : RS t) : GV (mdV o x) t ∧ (o.kind ≠ 1 → t.kind = 6) := by
  unfold fitO at hf
  unfold mdV
  by_cases k1 : o.kind = 1
  · rw [if_pos k1] at hf ⊢
    exact ⟨(fitsTop_iff.1 hf).2, fun h => absurd k1 h⟩
  · rw [if_neg k1] at hf ⊢
    split at hf
    · rename_i t6
      refine ⟨hx.ls ht t6 fun k2 => ⟨rightO_id hr k2, ?_⟩, fun _ => t6⟩
      rw [if_pos k2] at hf
      exact (fitsTop_iff.1 hf).2
    · cases hf
/-- An operation that fits makes a value that fits of one that does. -/
theorem apV_fits {o : DOp} {s : DSch} {v : DVal} (h : GV v s) (hc : chkO o s = 0) : GV (apV o v) s := by
  obtain ⟨hr, hs, t, ht, hf⟩ := chkO_zero hc
  obtain ⟨hS, _⟩ := RS.of_top hs
  unfold apV
  cases hg : getV o.path v with
  | none => exact h
  | some x =>
    obtain ⟨g1, g2, _⟩ := GV.get o.path h hS ht hg
    exact GV.put o.path h hS ht hg (fitO_made hr hf g1 g2).1
theorem apV_list {o : DOp} {s : DSch} {v x : DVal} (h : GV v s) (hc : chkO o s = 0) (hg : getV o.path v = some x) (k1 : o.kind ≠ 1) : x.kind = 6 ∧ x.parts.length = x.ids.length ∧ x.ids.length ≤ 12 ∧ x.names.length = 0 := by
  obtain ⟨hr, hs, t, ht, hf⟩ := chkO_zero hc
  obtain ⟨hS, _⟩ := RS.of_top hs
  obtain ⟨g1, g2, _⟩ := GV.get o.path h hS ht hg
  have t6 := (fitO_made hr hf g1 g2).2 k1
  have hl := g1.list t6
  exact ⟨hl.kind, hl.len, hl.most, by rw [hl.names]; rfl⟩
def wtK : Nat → Nat
  | 0 => 0
  | k + 1 => 13 + 12 * wtK k
theorem weights_le (l : List DVal) (m : Nat) (h : ∀ p ∈ l, p.weight ≤ m) : DVal.weights l ≤ l.length * m := by
  induction l with
  | nil => simp [DVal.weights]
  | cons a l ih =>
    have h1 := h a (by simp)
    have h2 := ih fun p hp => h p (by simp [hp])
    simp only [DVal.weights, List.length_cons, Nat.add_mul]
    omega
theorem GV.weight : ∀ (k : Nat) {v : DVal} {s : DSch}, s.depth ≤ k → GV v s → v.weight ≤ wtK k
  | 0, v, s, hk, h => by have := s.depth_pos; omega
  | k + 1, v, s, hk, h => by
    obtain ⟨b1, b2, _, _⟩ := here_parts h.here_
    have hh := h.rv.here
    unfold bad1 at b1
    unfold bad2 at b2
    have hn : v.names.length + v.ids.length ≤ 12 := by
      by_cases h5 : v.kind = 5
      · have := hh.2.1 (by omega); omega
      · have := hh.1 h5; omega
    have h1 := weights_le v.parts (wtK k) fun p hp => by
      obtain ⟨i, hi, rfl⟩ := List.getElem_of_mem hp
      have ha := h.at_ hi
      have hg := h.part hi
      rw [getD_at ha] at hg
      exact GV.weight k (by have := DSch.depth_part (List.getElem_mem ha); omega) hg
    have h2 : v.parts.length * wtK k ≤ 12 * wtK k := Nat.mul_le_mul_right _ (by omega)
    rw [v.weight_eq]
    show _ ≤ 13 + 12 * wtK k
    omega
theorem wtK_mono {a b : Nat} (h : a ≤ b) : wtK a ≤ wtK b := by
  induction b generalizing a with
  | zero => have : a = 0 := by omega
            subst this; exact Nat.le_refl _
  | succ b ih =>
    cases a with
    | zero => exact Nat.zero_le _
    | succ a => have := ih (a := a) (by omega); simp only [wtK]; omega
theorem GV.wt {v : DVal} {s : DSch} (h : GV v s) (hs : rightS 5 s = true) : v.weight ≤ 1000000 := by
  have h1 := GV.weight s.depth (Nat.le_refl _) h
  have h2 := wtK_mono (RS.of_top hs).2
  have h3 : wtK 5 = 294073 := by decide
  omega
theorem okV_parts {v : DVal} (h : okV v) {ps : List DVal} (hl : ps.length ≤ 140737488351232) (hp : ∀ p ∈ ps, okV p) : okV (v.withParts ps) := by
  obtain ⟨o1, o2, o3, o4, o5, o6, o7, o8, o9⟩ := (okV_eq v).1 h
  exact (okV_eq _).2 ⟨o1, o2, o3, o4, o5, o6, o7, hl, hp⟩
theorem chV_ok {y : DVal} (hy : okV y) : ∀ (ps : List DStp) {v : DVal}, okV v → okV (chV (fun _ => y) ps v)
  | [], v, _ => hy
  | p :: ps, v, h => by
    rw [chV]
    split
    · rename_i hin
      obtain ⟨o1, o2, o3, o4, o5, o6, o7, o8, o9⟩ := (okV_eq v).1 h
      have hpl : plN v p < v.parts.length := by have := hin.1; have := hin.2; unfold plN; omega
      refine okV_parts h (by rw [List.length_set]; exact o8) fun q hq => ?_
      rcases List.mem_or_eq_of_mem_set hq with hq | rfl
      · exact o9 q hq
      · rw [getD_at hpl]
        exact chV_ok hy ps (o9 _ (List.getElem_mem hpl))
    · exact h
theorem okV_ofList {v : DVal} (h : okV v) {is : List Nat} {ps : List DVal} (h1 : ∀ i ∈ is, U64 (i : Int)) (h2 : is.length ≤ 140737488351232) (h3 : ps.length ≤ 140737488351232) (h4 : ∀ p ∈ ps, okV p) : okV (v.ofList is ps) := by
  obtain ⟨o1, o2, o3, o4, o5, o6, o7, o8, o9⟩ := (okV_eq v).1 h
  exact (okV_eq _).2 ⟨o1, o2, o3, o4, o5, h1, h2, h3, h4⟩
theorem plV_ok {v x : DVal} (h : okV v) (hx : okV x) {id after : Nat} (hid : U64 (id : Int)) (hl : v.parts.length = v.ids.length) (hn : v.ids.length ≤ 1000000) : okV (plV v id after x) := by
  obtain ⟨o1, o2, o3, o4, o5, o6, o7, o8, o9⟩ := (okV_eq v).1 h
  refine okV_ofList h (fun i hi => ?_) (by rw [ins_len _ _ (plK_le v after)]; omega) (by rw [ins_len _ _ (by rw [hl]; exact plK_le v after)]; omega) fun p hp => ?_
  · rcases List.mem_cons.1 ((perm_ins v.ids id (plK v after)).mem_iff.1 hi) with e | e
    · rw [e]; exact hid
    · exact o6 i e
  · rcases List.mem_cons.1 ((perm_ins v.parts x (plK v after)).mem_iff.1 hp) with e | e
    · rw [e]; exact hx
    · exact o9 p e
theorem tkV_ok {v : DVal} (h : okV v) (k : Nat) : okV (tkV v k) := by
  obtain ⟨o1, o2, o3, o4, o5, o6, o7, o8, o9⟩ := (okV_eq v).1 h
  have s1 := sub_del v.ids k
  have s2 := sub_del v.parts k
  exact okV_ofList h (fun i hi => o6 i (s1.subset hi)) (by have := s1.length_le; omega) (by have := s2.length_le; omega) fun p hp => o9 p (s2.subset hp)
theorem lsV_ok {o : DOp} {v : DVal} (h : okV v) (ho : OkO o) (hl : v.parts.length = v.ids.length) (hn : v.ids.length ≤ 1000000) : okV (lsV o v) := by
  unfold lsV
  split
  · split
    · exact plV_ok h ho.val ho.id hl hn
    · exact h
  · split
    · exact h
    · rename_i hm
      have hm : o.id ∈ v.ids := Classical.not_not.1 hm
      have hk : elK o v < v.ids.length := ix_lt hm
      split
      · have hpl : elK o v < v.parts.length := by omega
        refine plV_ok (tkV_ok h _) ?_ ho.id (by rw [tkV_plen hpl, tkV_ilen hk, hl]) (by rw [tkV_ilen hk]; omega)
        rw [getD_at hpl]
        exact ((okV_eq v).1 h).2.2.2.2.2.2.2.2 _ (List.getElem_mem hpl)
      · exact tkV_ok h _
theorem apV_ok {o : DOp} {s : DSch} {v : DVal} (h : GV v s) (hc : chkO o s = 0) (hok : okV v) (ho : OkO o) : okV (apV o v) := by
  unfold apV
  cases hg : getV o.path v with
  | none => exact hok
  | some x =>
    refine chV_ok ?_ o.path hok
    unfold mdV
    split
    · exact ho.val
    · rename_i k1
      obtain ⟨_, h2, h3, _⟩ := apV_list h hc hg k1
      exact lsV_ok (getV_ok _ hok hg) ho h2 (by omega)
noncomputable def apS (s : DSch) (v : DVal) (o : DOp) : DVal := if chkO o s = 0 then apV o v else v
/-- What operations make of a value. -/
noncomputable def applyV (s : DSch) (v : DVal) (l : List DOp) : DVal := if fitsTop v s = true then l.foldl (apS s) v else v
theorem apS_fits {s : DSch} {v : DVal} {o : DOp} (h : GV v s) : GV (apS s v o) s := by
  unfold apS
  split
  · rename_i hc; exact apV_fits h hc
  · exact h
theorem apS_ok {s : DSch} {v : DVal} {o : DOp} (h : GV v s) (hok : okV v) (ho : OkO o) : okV (apS s v o) := by
  unfold apS
  split
  · rename_i hc; exact apV_ok h hc hok ho
  · exact hok
theorem fold_fits {s : DSch} : ∀ (l : List DOp) {v : DVal}, GV v s → okV v → (∀ o ∈ l, OkO o) → GV (l.foldl (apS s) v) s ∧ okV (l.foldl (apS s) v)
  | [], v, h, hok, _ => ⟨h, hok⟩
  | o :: l, v, h, hok, ho => fold_fits l (apS_fits h) (apS_ok h hok (ho o (by simp))) fun q hq => ho q (by simp [hq])
/-- A value that fits stays one that fits. -/
theorem applyV_fits {s : DSch} {v : DVal} (l : List DOp) (h : fitsTop v s = true) (hok : okV v) (ho : ∀ o ∈ l, OkO o) : fitsTop (applyV s v l) s = true := by
  obtain ⟨h1, h2⟩ := fitsTop_iff.1 h
  rw [applyV, if_pos h]
  exact fitsTop_iff.2 ⟨h1, (fold_fits l h2 hok ho).1⟩
end Go.Proofs.Ytjjhjhjphhpeiaa

namespace Go.Proofs.Ytjjhjhjphhpeiaa
open Go.RowKit
set_option linter.unusedSimpArgs false
set_option linter.unusedVariables false
theorem errD_zero {c : Nat} (h : c = 0) : errO c = .v .nilIface := by rw [errO, if_pos h]
theorem errD_ne {c : Nat} (h : c ≠ 0) : errO c = .ifc 84 (.v (.int .i64 (c : Int))) := by rw [errO, if_neg h]
instance : Inhabited DOp := ⟨⟨0, [], 0, 0, default⟩⟩
noncomputable def foldO (s : DSch) (v : DVal) (l : List DOp) (i : Nat) : DVal := (l.take i).foldl (apS s) v
theorem foldO_succ {s : DSch} {v : DVal} {l : List DOp} {i : Nat} (h : i < l.length) : foldO s v l (i + 1) = apS s (foldO s v l i) l[i] := by
  rw [foldO, List.take_succ_eq_append_getElem h, List.foldl_append]; rfl
theorem foldO_all {s : DSch} {v : DVal} {l : List DOp} (h : fitsTop v s = true) : foldO s v l l.length = applyV s v l := by
  rw [foldO, List.take_length, applyV, if_pos h]
set_option maxRecDepth 200000 in
set_option maxHeartbeats 8000000 in
theorem applyAll_d (s : DSch) (v : DVal) (l : List DOp) (own : Own) (hs : okS s) (hsw : s.weight ≤ 1000) (hok : okV v) (hw : v.weight ≤ 1000000) (hl : l.length ≤ 1000000) (ho : ∀ o ∈ l, OkO o) :
    DPure Try.prog 27 [encS s, encV v, .sl own (l.map encO)] (encV (applyV s v l)) := by
  refine dpure_of_dwp mixed Try.func27 rfl (fun _ _ => by kernel_rfl) (rs := [.cell 6 28]) rfl (by kernel_rfl) (closed_encV _) (fun S hS => ?_)
  (simp (disch := first | decide | omega | (simp only [add_next, set_next, grow_next, leave_next, drop_next, List.length_map]; first | done | omega)) only [go_sem, ↓reduceIte, Nat.reduceBEq, Nat.reduceAdd, Nat.reduceLeDiff, Nat.reduceEqDiff, Nat.reduceLT, Nat.reduceMul]; (repeat (with_reducible refine And.intro (by first | omega | assumption | rfl) ?_)))
  refine DCalls.of_pure (copyV_d v.depth v (Nat.le_refl _) hw) ?_
  (simp (disch := first | decide | omega | (simp only [add_next, set_next, grow_next, leave_next, drop_next, List.length_map]; first | done | omega)) only [go_sem, ↓reduceIte, Nat.reduceBEq, Nat.reduceAdd, Nat.reduceLeDiff, Nat.reduceEqDiff, Nat.reduceLT, Nat.reduceMul]; (repeat (with_reducible refine And.intro (by first | omega | assumption | rfl) ?_)))
  refine DCalls.of_pure (fitsTop_d v s hok hs) ?_
  cases hf : fitsTop v s with
  | false =>
    (simp (disch := first | decide | omega | (simp only [add_next, set_next, grow_next, leave_next, drop_next, List.length_map]; first | done | omega)) only [go_sem, ↓reduceIte, Nat.reduceBEq, Nat.reduceAdd, Nat.reduceLeDiff, Nat.reduceEqDiff, Nat.reduceLT, Nat.reduceMul]; (repeat (with_reducible refine And.intro (by first | omega | assumption | rfl) ?_)))
    refine ⟨?_, (by (repeat' first | assumption | exact St.Sub.refl _ | exact RowOk.sub (by assumption) (by assumption) | refine St.Sub.trans ?_ (RowOk.sub (by assumption) (by assumption)) | refine St.Sub.add ?_ ?_ _ | refine St.Sub.set ?_ ?_ ?_ _ | refine St.Sub.keep ?_ ?_ | refine St.WF.leave ?_ _ | refine St.WF.add ?_ _ | refine St.WF.set ?_ ?_ _ | refine St.WF.grow ?_ _ _ _ | refine St.WF.keep ?_ ?_ | (first | omega | (simp only [RowOk.lo, add_next, set_next, grow_next, leave_next, drop_next]; first | done | omega))))⟩
    rw [frz_encV, applyV, if_neg (by rw [hf]; simp)]
  | true =>
  obtain ⟨h1, h2⟩ := fitsTop_iff.1 hf
  (simp (disch := first | decide | omega | (simp only [add_next, set_next, grow_next, leave_next, drop_next, List.length_map]; first | done | omega)) only [go_sem, ↓reduceIte, Nat.reduceBEq, Nat.reduceAdd, Nat.reduceLeDiff, Nat.reduceEqDiff, Nat.reduceLT, Nat.reduceMul]; (repeat (with_reducible refine And.intro (by first | omega | assumption | rfl) ?_)))
  (refine dloop_var (fun t => List.contains [8, 18, 19, 20, 21, 22, 23, 24, 25, 26, 27, 28, 29] t) (by kernel_rfl) ?_ (l.length) (S.next + 1) (fun i => .box 28 (encV (foldO s v l i)).cells) ?_ (fun i f => i ≤ l.length ∧ f 18 = .v (.int .i64 (i : Nat))) ?_ ?_; (exact (by (repeat' first | assumption | refine St.WF.leave ?_ _ | refine St.WF.add ?_ _ | refine St.WF.set ?_ ?_ _ | refine St.WF.grow ?_ _ _ _ | refine St.WF.keep ?_ ?_ | (first | omega | (simp only [RowOk.lo, add_next, set_next, grow_next, leave_next, drop_next]; first | done | omega))))); (exact (by (first | (simp (disch := first | decide | omega | (simp only [add_next, set_next, grow_next, leave_next, drop_next, List.length_map]; first | done | omega)) only [go_sem, ↓reduceIte, Nat.reduceBEq, Nat.reduceAdd, Nat.reduceLeDiff, Nat.reduceEqDiff, Nat.reduceLT, Nat.reduceMul]; first | done | rfl) | rfl))); (exact ⟨(by omega), (by (first | (simp (disch := first | decide | omega | (simp only [add_next, set_next, grow_next, leave_next, drop_next, List.length_map]; first | done | omega)) only [go_sem, ↓reduceIte, Nat.reduceBEq, Nat.reduceAdd, Nat.reduceLeDiff, Nat.reduceEqDiff, Nat.reduceLT, Nat.reduceMul]; first | done | rfl) | rfl))⟩); intro i g tn hn hT hg hI; obtain ⟨le, q18⟩ := hI; have q3 := hg 3 rfl; have q4 := hg 4 rfl; have q6 := hg 6 rfl; have q16 := hg 16 rfl; have q17 := hg 17 rfl; simp (disch := first | decide | omega | (simp only [add_next, set_next, grow_next, leave_next, drop_next, List.length_map]; first | done | omega)) only [go_sem, ↓reduceIte, Nat.reduceBEq, Nat.reduceAdd, Nat.reduceLeDiff, Nat.reduceEqDiff, Nat.reduceLT, Nat.reduceMul] at q3 q4 q6 q16 q17; clear hg; have hn' := hn; try simp only [add_next, set_next, grow_next, leave_next, drop_next] at hn')
  obtain ⟨gw, okw⟩ : GV (foldO s v l i) s ∧ okV (foldO s v l i) := fold_fits (l.take i) h2 hok fun o hom => ho o (List.mem_of_mem_take hom)
  have hnx := fun h => foldO_succ (s := s) (v := v) (l := l) (i := i) h
  have hend := foldO_all (l := l) hf
  by_cases hlt : i < l.length
  · have b1 : decide ((i : Int) < (l.length : Int)) = true := by simp; omega
    have w1 : IntKind.i64.wrap ((i : Int) + 1) = ((i + 1 : Nat) : Int) := IntWalk.i64_in _ ⟨by omega, by omega⟩
    have hoi := ho _ (List.getElem_mem hlt)
    have hsucc := hnx hlt
    have hgd := getD_map encO l i hlt
    generalize foldO s v l i = w at *
    (simp (disch := first | decide | omega | (simp only [add_next, set_next, grow_next, leave_next, drop_next, List.length_map]; first | done | omega)) only [go_sem, ↓reduceIte, Nat.reduceBEq, Nat.reduceAdd, Nat.reduceLeDiff, Nat.reduceEqDiff, Nat.reduceLT, Nat.reduceMul, q16, q17, q18, q3, q4, b1, hgd]; (repeat (with_reducible refine And.intro (by first | omega | assumption | rfl) ?_)))
    refine DCalls.of_pure (check_o l[i] s hoi hs hsw) ?_
    by_cases hc : chkO l[i] s = 0
    · have he := errD_zero hc
      have hap : apS s w l[i] = apV l[i] w := by rw [apS, if_pos hc]
      (simp (disch := first | decide | omega | (simp only [add_next, set_next, grow_next, leave_next, drop_next, List.length_map]; first | done | omega)) only [go_sem, ↓reduceIte, Nat.reduceBEq, Nat.reduceAdd, Nat.reduceLeDiff, Nat.reduceEqDiff, Nat.reduceLT, Nat.reduceMul, q16, q17, q18, q3, q4, he]; (repeat (with_reducible refine And.intro (by first | omega | assumption | rfl) ?_)))
      have hww := gw.wt h1
      have hw2 := (apV_fits gw hc).wt h1
      refine DCalls.of_pure (apply_o l[i] w hoi okw hww hw2 fun x hx k1 => ?_) ?_
      · obtain ⟨x1, x2, x3, x4⟩ := apV_list gw hc hx k1
        exact ⟨x1, x2, by omega, by omega⟩
      (simp (disch := first | decide | omega | (simp only [add_next, set_next, grow_next, leave_next, drop_next, List.length_map]; first | done | omega)) only [go_sem, ↓reduceIte, Nat.reduceBEq, Nat.reduceAdd, Nat.reduceLeDiff, Nat.reduceEqDiff, Nat.reduceLT, Nat.reduceMul, q16, q17, q18, q3, q4, w1]; (repeat (with_reducible refine And.intro (by first | omega | assumption | rfl) ?_)))
      rw [← hap, ← hsucc]
      (refine ⟨by omega, St.Sub.upd hn (rfl) (by (repeat' first | assumption | exact St.Sub.refl _ | exact RowOk.sub (by assumption) (by assumption) | refine St.Sub.trans ?_ (RowOk.sub (by assumption) (by assumption)) | refine St.Sub.add ?_ ?_ _ | refine St.Sub.set ?_ ?_ ?_ _ | refine St.Sub.keep ?_ ?_ | refine St.WF.leave ?_ _ | refine St.WF.add ?_ _ | refine St.WF.set ?_ ?_ _ | refine St.WF.grow ?_ _ _ _ | refine St.WF.keep ?_ ?_ | (first | omega | (simp only [RowOk.lo, add_next, set_next, grow_next, leave_next, drop_next]; first | done | omega)))), ?_⟩; refine ⟨by omega, ?_⟩; all_goals (try (first | (simp (disch := first | decide | omega | (simp only [add_next, set_next, grow_next, leave_next, drop_next, List.length_map]; first | done | omega)) only [go_sem, ↓reduceIte, Nat.reduceBEq, Nat.reduceAdd, Nat.reduceLeDiff, Nat.reduceEqDiff, Nat.reduceLT, Nat.reduceMul, w1]; first | done | rfl) | rfl)))
    · have he := errD_ne hc
      have hap : apS s w l[i] = w := by rw [apS, if_neg hc]
      (simp (disch := first | decide | omega | (simp only [add_next, set_next, grow_next, leave_next, drop_next, List.length_map]; first | done | omega)) only [go_sem, ↓reduceIte, Nat.reduceBEq, Nat.reduceAdd, Nat.reduceLeDiff, Nat.reduceEqDiff, Nat.reduceLT, Nat.reduceMul, q16, q17, q18, q3, q4, he, w1]; (repeat (with_reducible refine And.intro (by first | omega | assumption | rfl) ?_)))
      refine ⟨hlt, ?_, by omega, by (first | (simp (disch := first | decide | omega | (simp only [add_next, set_next, grow_next, leave_next, drop_next, List.length_map]; first | done | omega)) only [go_sem, ↓reduceIte, Nat.reduceBEq, Nat.reduceAdd, Nat.reduceLeDiff, Nat.reduceEqDiff, Nat.reduceLT, Nat.reduceMul, w1]; first | done | rfl) | rfl)⟩
      show St.Sub (St.set _ (S.next + 1) (Ob.box 28 (encV (foldO s v l (i + 1))).cells)) _
      rw [hsucc, hap]
      have hb : ∀ X : St, X.next ≤ tn → X.Sub ⟨tn, X.ob⟩ := fun X h => ⟨h, fun _ _ h => h⟩
      refine St.Sub.set (St.Sub.add (hb _ ?_) ?_ _) ?_ ?_ _
      · exact hn
      · exact (by (repeat' first | assumption | refine St.WF.leave ?_ _ | refine St.WF.add ?_ _ | refine St.WF.set ?_ ?_ _ | refine St.WF.grow ?_ _ _ _ | refine St.WF.keep ?_ ?_ | (first | omega | (simp only [RowOk.lo, add_next, set_next, grow_next, leave_next, drop_next]; first | done | omega))))
      · exact (by (repeat' first | assumption | refine St.WF.leave ?_ _ | refine St.WF.add ?_ _ | refine St.WF.set ?_ ?_ _ | refine St.WF.grow ?_ _ _ _ | refine St.WF.keep ?_ ?_ | (first | omega | (simp only [RowOk.lo, add_next, set_next, grow_next, leave_next, drop_next]; first | done | omega))))
      · exact hn
  · have b1 : decide ((i : Int) < (l.length : Int)) = false := by simp; omega
    have hil : i = l.length := by omega
    subst hil
    (simp (disch := first | decide | omega | (simp only [add_next, set_next, grow_next, leave_next, drop_next, List.length_map]; first | done | omega)) only [go_sem, ↓reduceIte, Nat.reduceBEq, Nat.reduceAdd, Nat.reduceLeDiff, Nat.reduceEqDiff, Nat.reduceLT, Nat.reduceMul, q16, q17, q18, q3, q4, q6, b1]; (repeat (with_reducible refine And.intro (by first | omega | assumption | rfl) ?_)))
    rw [hend]
    refine ⟨?_, (by (repeat' first | assumption | exact St.Sub.refl _ | exact RowOk.sub (by assumption) (by assumption) | refine St.Sub.trans ?_ (RowOk.sub (by assumption) (by assumption)) | refine St.Sub.add ?_ ?_ _ | refine St.Sub.set ?_ ?_ ?_ _ | refine St.Sub.keep ?_ ?_ | refine St.WF.leave ?_ _ | refine St.WF.add ?_ _ | refine St.WF.set ?_ ?_ _ | refine St.WF.grow ?_ _ _ _ | refine St.WF.keep ?_ ?_ | (first | omega | (simp only [RowOk.lo, add_next, set_next, grow_next, leave_next, drop_next]; first | done | omega))))⟩
    rw [frz_encV]
end Go.Proofs.Ytjjhjhjphhpeiaa

namespace Go.Proofs.Ytjjhjhjphhpeiaa
open Go.RowKit
set_option linter.unusedSimpArgs false
set_option linter.unusedVariables false
/-- How an operation that came in reads. -/
structure InO (o : DOp) : Prop where
  names : ∀ p ∈ o.path, p.1.length ≤ maxLen
  val : okV o.val
  kind : I64 o.kind
  id : U64 (o.id : Int)
  after : U64 (o.after : Int)
def greatO (o : DOp) : Bool := greatP o.path || decide (roomV 12 o.val 300 < 0)
theorem InO.ok {o : DOp} (h : InO o) (hg : greatO o = false) : OkO o := by
  rw [greatO, Bool.or_eq_false_iff, greatP, Bool.or_eq_false_iff] at hg
  obtain ⟨⟨h1, _⟩, h2⟩ := hg
  have h1 := of_decide_eq_false h1
  have h2 := of_decide_eq_false h2
  have hw := (roomV_spec 12 o.val 300 (by omega)).1
  exact ⟨by omega, h.names, h.val, by omega, h.kind, h.id, h.after⟩
set_option maxRecDepth 200000 in
set_option maxHeartbeats 8000000 in
theorem greatO_d (o : DOp) (h : InO o) : DPure Try.prog 26 [encO o] (.v (.bool (greatO o))) := by
  refine dpure_of_dwp mixed Try.func26 rfl (fun _ _ => by kernel_rfl) (rs := [.tmp 2]) rfl (by kernel_rfl) trivial (fun S hS => ?_)
  (simp (disch := first | decide | omega | (simp only [add_next, set_next, grow_next, leave_next, drop_next, List.length_map]; first | done | omega)) only [go_sem, ↓reduceIte, Nat.reduceBEq, Nat.reduceAdd, Nat.reduceLeDiff, Nat.reduceEqDiff, Nat.reduceLT, Nat.reduceMul, opCs]; (repeat (with_reducible refine And.intro (by first | omega | assumption | rfl) ?_)))
  refine DCalls.of_pure (greatP_d o.path .no) ?_
  cases hp : greatP o.path with
  | true =>
    (simp (disch := first | decide | omega | (simp only [add_next, set_next, grow_next, leave_next, drop_next, List.length_map]; first | done | omega)) only [go_sem, ↓reduceIte, Nat.reduceBEq, Nat.reduceAdd, Nat.reduceLeDiff, Nat.reduceEqDiff, Nat.reduceLT, Nat.reduceMul]; (repeat (with_reducible refine And.intro (by first | omega | assumption | rfl) ?_)))
    refine ⟨?_, (by (repeat' first | assumption | exact St.Sub.refl _ | exact RowOk.sub (by assumption) (by assumption) | refine St.Sub.trans ?_ (RowOk.sub (by assumption) (by assumption)) | refine St.Sub.add ?_ ?_ _ | refine St.Sub.set ?_ ?_ ?_ _ | refine St.Sub.keep ?_ ?_ | refine St.WF.leave ?_ _ | refine St.WF.add ?_ _ | refine St.WF.set ?_ ?_ _ | refine St.WF.grow ?_ _ _ _ | refine St.WF.keep ?_ ?_ | (first | omega | (simp only [RowOk.lo, add_next, set_next, grow_next, leave_next, drop_next]; first | done | omega))))⟩
    rw [greatO, hp]; rfl
  | false =>
    (simp (disch := first | decide | omega | (simp only [add_next, set_next, grow_next, leave_next, drop_next, List.length_map]; first | done | omega)) only [go_sem, ↓reduceIte, Nat.reduceBEq, Nat.reduceAdd, Nat.reduceLeDiff, Nat.reduceEqDiff, Nat.reduceLT, Nat.reduceMul]; (repeat (with_reducible refine And.intro (by first | omega | assumption | rfl) ?_)))
    refine DCalls.of_pure (greatV_d o.val h.val) ?_
    (simp (disch := first | decide | omega | (simp only [add_next, set_next, grow_next, leave_next, drop_next, List.length_map]; first | done | omega)) only [go_sem, ↓reduceIte, Nat.reduceBEq, Nat.reduceAdd, Nat.reduceLeDiff, Nat.reduceEqDiff, Nat.reduceLT, Nat.reduceMul]; (repeat (with_reducible refine And.intro (by first | omega | assumption | rfl) ?_)))
    refine ⟨?_, (by (repeat' first | assumption | exact St.Sub.refl _ | exact RowOk.sub (by assumption) (by assumption) | refine St.Sub.trans ?_ (RowOk.sub (by assumption) (by assumption)) | refine St.Sub.add ?_ ?_ _ | refine St.Sub.set ?_ ?_ ?_ _ | refine St.Sub.keep ?_ ?_ | refine St.WF.leave ?_ _ | refine St.WF.add ?_ _ | refine St.WF.set ?_ ?_ _ | refine St.WF.grow ?_ _ _ _ | refine St.WF.keep ?_ ?_ | (first | omega | (simp only [RowOk.lo, add_next, set_next, grow_next, leave_next, drop_next]; first | done | omega))))⟩
    rw [greatO, hp]; rfl
def awS : DSch := .mk 6 [] [.mk 2 [] []]
def awV : DVal := .mk 6 0 [] [] [1, 2] [.mk 2 5 [] [] [] [], .mk 2 6 [] [] [] []]
def awW : DVal := .mk 6 0 [] [] [2, 1] [.mk 2 6 [] [] [] [], .mk 2 5 [] [] [] []]
def awO : DOp := ⟨4, [], 1, 2, zeroV⟩
theorem aw_int (n : Int) (h : I64 n) : okV (.mk 2 n [] [] [] []) := by
  rw [okV_eq]
  refine ⟨?_, h, by simp [DVal.s], by simp [DVal.names], by simp [DVal.names], by simp [DVal.ids], by simp [DVal.ids], by simp [DVal.parts], by simp [DVal.parts]⟩
  exact WalkArith.wf_i64 (by simp [DVal.kind])
theorem awV_ok : okV awV := by
  rw [okV_eq]
  refine ⟨WalkArith.wf_i64 (by simp [awV, DVal.kind]), WalkArith.wf_i64 (by simp [awV, DVal.n]), by simp [awV, DVal.s], by simp [awV, DVal.names], by simp [awV, DVal.names], ?_, by simp [awV, DVal.ids], by simp [awV, DVal.parts], ?_⟩
  · intro i hi
    simp only [awV, DVal.ids, List.mem_cons, List.not_mem_nil, or_false] at hi
    rcases hi with rfl | rfl <;> (unfold U64; decide)
  · intro p hp
    simp only [awV, DVal.parts, List.mem_cons, List.not_mem_nil, or_false] at hp
    rcases hp with rfl | rfl
    · exact aw_int 5 (WalkArith.wf_i64 (by omega))
    · exact aw_int 6 (WalkArith.wf_i64 (by omega))
theorem awS_ok : okS awS := by
  have h2 : okS (.mk 2 [] []) := by
    rw [okS_eq]
    exact ⟨WalkArith.wf_i64 (by simp [DSch.kind]), by simp [DSch.words], by simp [DSch.words], by simp [DSch.parts], by simp [DSch.parts]⟩
  rw [okS_eq]
  refine ⟨WalkArith.wf_i64 (by simp [awS, DSch.kind]), by simp [awS, DSch.words], by simp [awS, DSch.words], by simp [awS, DSch.parts], ?_⟩
  intro p hp
  simp only [awS, DSch.parts, List.mem_cons, List.not_mem_nil, or_false] at hp
  subst hp
  exact h2
theorem awO_ok : OkO awO := ⟨by simp [awO], by simp [awO], zeroV_ok, by simp [awO, zero_wt], WalkArith.wf_i64 (by simp [awO]), by simp only [awO]; unfold U64; decide, by simp only [awO]; unfold U64; decide⟩
theorem aw_chk : chkO awO awS = 0 := by
  have hr : rightO awO = true := by
    have hz : eqB awO.val zeroV = true := eqB_true rfl
    rw [rightO, if_neg (by decide), if_neg (by decide), if_neg (by decide), if_pos (show awO.kind = 4 from rfl), hz]
    decide
  have hs : rightS 5 awS = true := by kernel_rfl
  rw [chkO, if_pos ⟨hr, hs⟩]
  rfl
theorem aw_apply : applyV awS awV [awO] = awW := by
  have hf : fitsTop awV awS = true := by kernel_rfl
  rw [applyV, if_pos hf]
  show apS awS awV awO = awW
  rw [apS, if_pos aw_chk]
  rfl
set_option maxRecDepth 200000 in
set_option maxHeartbeats 8000000 in
theorem awake12_d : DPure Try.prog 25 [] (.v (.bool true)) := by
  have hap := applyAll_d awS awV [awO] .no awS_ok (by simp [awS, DSch.weight, DSch.weights]) awV_ok (by simp [awV, DVal.weight, DVal.weights]) (by simp) (by
    intro o ho
    rw [List.mem_singleton] at ho
    subst ho
    exact awO_ok)
  rw [aw_apply] at hap
  refine dpure_of_dwp mixed Try.func25 rfl (fun _ _ => by kernel_rfl) (rs := [.tmp 0]) rfl (by kernel_rfl) trivial (fun S hS => ?_)
  (simp (disch := first | decide | omega | (simp only [add_next, set_next, grow_next, leave_next, drop_next, List.length_map]; first | done | omega)) only [go_sem, ↓reduceIte, Nat.reduceBEq, Nat.reduceAdd, Nat.reduceLeDiff, Nat.reduceEqDiff, Nat.reduceLT, Nat.reduceMul]; (repeat (with_reducible refine And.intro (by first | omega | assumption | rfl) ?_)))
  refine DCalls.of_pure (DPure.weak hap (by simp only [frzL, D.frz, encV_eq, encS_eq]; rfl)) ?_
  have b22 : (((2 : Nat) : Int) == 2) = true := rfl
  have e4 : (encV awW).cells.getD 4 undefD = .sl .no [.v (.int .u64 2), .v (.int .u64 1)] := rfl
  have e5 : (encV awW).cells.getD 5 undefD = .sl .no [encV (.mk 2 6 [] [] [] []), encV (.mk 2 5 [] [] [] [])] := rfl
  (simp (disch := first | decide | omega | (simp only [add_next, set_next, grow_next, leave_next, drop_next, List.length_map]; first | done | omega)) only [go_sem, ↓reduceIte, Nat.reduceBEq, Nat.reduceAdd, Nat.reduceLeDiff, Nat.reduceEqDiff, Nat.reduceLT, Nat.reduceMul, e4, e5, b22, DVal.n]; (repeat (with_reducible refine And.intro (by first | omega | assumption | rfl) ?_)))
  refine ⟨?_, (by (repeat' first | assumption | exact St.Sub.refl _ | exact RowOk.sub (by assumption) (by assumption) | refine St.Sub.trans ?_ (RowOk.sub (by assumption) (by assumption)) | refine St.Sub.add ?_ ?_ _ | refine St.Sub.set ?_ ?_ ?_ _ | refine St.Sub.keep ?_ ?_ | refine St.WF.leave ?_ _ | refine St.WF.add ?_ _ | refine St.WF.set ?_ ?_ _ | refine St.WF.grow ?_ _ _ _ | refine St.WF.keep ?_ ?_ | (first | omega | (simp only [RowOk.lo, add_next, set_next, grow_next, leave_next, drop_next]; first | done | omega))))⟩
  rfl
end Go.Proofs.Ytjjhjhjphhpeiaa

namespace Go.Proofs.Ytjjhjhjphhpeiaa
open Go.ChangeShapes Go.WideShapes Go.ChangeAt Go.RowKit Go.Deep Go.Joins
section
variable {H : Type} {enc : TypeId × Value → H} {w : World}
theorem trod_struct5 {P : Program} {t : TypeId} {f0 f1 f2 f3 f4 : Field} {fuel : Nat} {cs : List Value} {x : DataW H × List MemPlace} (ht : P.underlying t = some (.struct #[f0, f1, f2, f3, f4])) (h : DataW.trod enc P w 0 (fun _ => true) true fuel t cs = some x) :
    ∃ y0 y1 y2 y3 y4 n, x.1 = .agg [y0.1, y1.1, y2.1, y3.1, y4.1] ∧ cs.length = P.cellsOf t ∧ DataW.trod enc P w 0 (fun _ => true) true n f0.type ((cs.drop f0.offset).take (P.cellsOf f0.type)) = some y0 ∧
      DataW.trod enc P w 0 (fun _ => true) true n f1.type ((cs.drop f1.offset).take (P.cellsOf f1.type)) = some y1 ∧ DataW.trod enc P w 0 (fun _ => true) true n f2.type ((cs.drop f2.offset).take (P.cellsOf f2.type)) = some y2 ∧
      DataW.trod enc P w 0 (fun _ => true) true n f3.type ((cs.drop f3.offset).take (P.cellsOf f3.type)) = some y3 ∧ DataW.trod enc P w 0 (fun _ => true) true n f4.type ((cs.drop f4.offset).take (P.cellsOf f4.type)) = some y4 := by
  obtain ⟨xs, n, _, rfl, hl, hlen, hf⟩ := DataW.trod_struct ht h
  match xs, hlen with
  | [y0, y1, y2, y3, y4], _ => exact ⟨y0, y1, y2, y3, y4, n, by simp, hl, by simpa using hf 0 f0 rfl, by simpa using hf 1 f1 rfl, by simpa using hf 2 f2 rfl, by simpa using hf 3 f3 rfl, by simpa using hf 4 f4 rfl⟩
/-- An operation's cells: what they stand for. -/
def IsOp (w : World) (o : DOp) (cs : List Value) : Prop := InO o ∧ ∀ (η : Names) (X : Nat → Nat → Prop), (∀ b i, X b i) → Rep Try.prog w η X (encO o) (.agg cs.toArray)
/-- A path's slice, as open_steps has it, from a cell. -/
theorem open_steps_cell {fuel : Nat} {u : Value} {x : DataW H × List MemPlace} (h : DataW.trod enc Try.prog w 0 (fun _ => true) true fuel 44 [u] = some x) (hs : Sized Try.prog 44 x.1) :
    ∃ l : List DStp, (∀ q ∈ l, q.1.length ≤ maxLen ∧ U64 (q.2 : Int)) ∧ ∀ (η : Names) (X : Nat → Nat → Prop), (∀ b i, X b i) → Rep Try.prog w η X (.sl .no (l.map encP)) u := by
  have elem : ∀ (fuel : Nat) (cs : List Value) (x : DataW H × List MemPlace) (b o : Nat), b < w.heap.size → DataW.trod enc Try.prog w 0 (fun _ => true) true fuel 78 cs = some x → Sized Try.prog 78 x.1 → cs.length = 2 → (∀ j u, cs[j]? = some u → w.cell? ⟨b, o + j, none⟩ = some u) → ∃ d, IsStep w b o d := fun fuel cs x b o hb h hs hlen hcell => by
    match cs, hlen with
    | [x0, x1], _ =>
      obtain ⟨y0, y1, n, hx, _, g0, g1⟩ := trod_struct2 Try.underlying78 h
      have k0 : Try.prog.cellsOf 9 = 1 := by kernel_rfl
      have k1 : Try.prog.cellsOf 24 = 1 := by kernel_rfl
      rw [hx] at hs
      simp only [k0, k1] at g0 g1
      obtain ⟨q1, e1, _, w1⟩ := DataW.trod_int Try.underlying24 g1
      obtain ⟨q2, e2, h2, w2⟩ := DataW.trod_string Try.underlying9 g0
      simp at e1 e2
      rw [sv_of] at e2
      have := bounds_u64 w1
      have hq : q1 = (q1.toNat : Int) := by omega
      refine ⟨(q2.data.toList, q1.toNat), (hcell 0 x0 rfl).trans (by rw [e2]), (hcell 1 x1 rfl).trans (by rw [e1]; unfold uv; rw [← hq]), ?_, by rw [← hq]; exact w1⟩
      show q2.data.toList.length ≤ maxLen
      simpa using w2
  obtain ⟨A, c, l, hu, hc, hr, hb⟩ := open_rows_trod (P := Try.prog) (size := 2) (bytes := 24) Try.underlying44 (by kernel_rfl) (by omega) (by kernel_rfl) (by omega) (IsStep w) elem h hs
  injection hu with hu _
  subst hu
  refine ⟨l, fun q hq => ?_, fun η X hX => ?_⟩
  · obtain ⟨i, hi, rfl⟩ := List.getElem_of_mem hq
    obtain ⟨b, o, _, _, hf⟩ := hr (by omega)
    exact (hf i _ (List.getElem?_eq_getElem hi)).2.2
  · rcases Nat.eq_zero_or_pos l.length with h0 | h0
    · obtain rfl : l = [] := List.eq_nil_of_length_eq_zero h0
      simp only [Rep, List.map_nil, List.length_nil]
      exact ⟨A, c, rfl, Nat.zero_le _, by omega, trivial, fun h => absurd h (by omega)⟩
    · obtain ⟨b, o, rfl, hbl, hf⟩ := hr h0
      refine rep_structs (F := (· < w.heap.size)) encP 2 (by omega) (fun b i _ => hX b i) (b := b) (o := o) (C := fun i => [sv (l.getD i default).1, uv (l.getD i default).2]) (fun _ => ⟨rfl, hbl⟩) (fun i a ha => ⟨rfl, fun j u hu => ?_⟩) (fun i a ha => ?_) (fun _ => rfl) hc (by omega)
      · have ha' : l.getD i default = a := by rw [List.getD_eq_getElem?_getD, ha]; rfl
        rw [ha'] at hu
        obtain ⟨h1, h2, _⟩ := hf i a ha
        match j, hu with
        | 0, hu => simp at hu; subst hu; exact h1
        | 1, hu => simp at hu; subst hu; exact h2
        | j + 2, hu => simp at hu
      · have ha' : l.getD i default = a := by rw [List.getD_eq_getElem?_getD, ha]; rfl
        rw [ha']
        simp only [encP, strD, u64D, Rep, RepL]
        exact ⟨_, rfl, ⟨_, _, rfl, rfl, _, _, rfl, rfl, rfl⟩, by simp [Value.oneCell']⟩
set_option maxRecDepth 20000 in
theorem open_op_trod {fuel : Nat} {cs : List Value} {x : DataW H × List MemPlace} (h : DataW.trod enc Try.prog w 0 (fun _ => true) true fuel 53 cs = some x) (hs : Sized Try.prog 53 x.1) : ∃ o, IsOp w o cs := by
  obtain ⟨y0, y1, y2, y3, y4, m, hx, hl, g0, g1, g2, g3, g4⟩ := trod_struct5 Try.underlying53 h
  have k0 : Try.prog.cellsOf 3 = 1 := by kernel_rfl
  have k1 : Try.prog.cellsOf 44 = 1 := by kernel_rfl
  have k2 : Try.prog.cellsOf 24 = 1 := by kernel_rfl
  have k3 : Try.prog.cellsOf 28 = 6 := by kernel_rfl
  have k4 : Try.prog.cellsOf 53 = 10 := by kernel_rfl
  rw [k4] at hl
  rw [hx] at hs
  match cs, hl with
  | [x0, x1, x2, x3, x4, x5, x6, x7, x8, x9], _ =>
    simp only [k0, k1, k2, k3] at g0 g1 g2 g3 g4
    obtain ⟨q0, e0, _, w0⟩ := DataW.trod_int Try.underlying3 g0
    obtain ⟨q2, e2, _, w2⟩ := DataW.trod_int Try.underlying24 g2
    obtain ⟨q3, e3, _, w3⟩ := DataW.trod_int Try.underlying24 g3
    simp at e0 e2 e3
    simp only [List.drop_succ_cons, List.drop_zero, List.take_succ_cons, List.take_zero] at g1 g4
    obtain ⟨l, hl1, hl2⟩ := open_steps_cell g1 (sized_each Try.underlying53 hs (j := 1) rfl rfl)
    obtain ⟨v, hv⟩ := open_value_trod _ _ _ _ (Nat.lt_succ_self _) g4 (sized_each Try.underlying53 hs (j := 4) rfl rfl)
    have b2 := bounds_u64 w2
    have b3 := bounds_u64 w3
    have n2 : ((q2.toNat : Nat) : Int) = q2 := Int.toNat_of_nonneg b2.1
    have n3 : ((q3.toNat : Nat) : Int) = q3 := Int.toNat_of_nonneg b3.1
    refine ⟨⟨q0, l, q2.toNat, q3.toNat, v⟩, ⟨fun p hp => (hl1 p hp).1, hv.ok, i64_of w0, by show U64 _; rw [n2]; exact w2, by show U64 _; rw [n3]; exact w3⟩, fun η X hX => ?_⟩
    have hr := rep_val (P := Try.prog) (w := w) (η := η) (X := X) (F := (· < w.heap.size)) (fun b i _ => hX b i) hv
    rw [← agg_encV v] at hr
    simp only [Rep] at hr
    obtain ⟨vs, h1, h2, h3⟩ := hr
    injection h1 with h1
    have h1' : vs = [x4, x5, x6, x7, x8, x9] := by
      have := congrArg Array.toList h1
      simpa using this.symm
    subst h1'
    simp only [encO, Rep]
    refine ⟨_, rfl, ?_, fun u hu => ?_⟩
    · simp only [opCs, RepL]
      refine ⟨x0, _, rfl, by simp only [Rep]; rw [e0], x1, _, rfl, hl2 η X hX, x2, _, rfl, by simp only [Rep]; rw [e2, n2], x3, _, rfl, by simp only [Rep]; rw [e3, n3], h2⟩
    · simp only [List.mem_cons, List.not_mem_nil, or_false] at hu
      rcases hu with rfl | rfl | rfl | rfl | hu
      · rw [e0]; rfl
      · have := hl2 η X hX
        simp only [Rep] at this
        obtain ⟨A, c, rfl, _⟩ := this
        rfl
      · rw [e2]; rfl
      · rw [e3]; rfl
      · exact h3 u (by simpa using hu)
set_option maxRecDepth 20000 in
theorem open_ops {v : Value} {d : DataW H} {p : List MemPlace} {W : World} {base : Nat} (h : DataW.Trod enc Try.prog w 0 (fun _ => true) true 48 v d p) (hs : Sized Try.prog 48 d) (hk : Value.okWide Try.prog W .any base 48 v) :
    ∃ l : List DOp, (∀ o ∈ l, InO o) ∧ l.length ≤ 140737488351232 ∧ ∀ (η : Names) (X : Nat → Nat → Prop), (∀ b i, X b i) → Rep Try.prog w η X (.sl .no (l.map encO)) v := by
  obtain ⟨l, h1, h2, h3⟩ := open_structs (P := Try.prog) encO (size := 10) (bytes := 152) Try.underlying48 (by kernel_rfl) (by omega) (by kernel_rfl) (by omega) (fun o cs => IsOp w o cs) (fun fuel cs x hx hsx _ => open_op_trod hx hsx) width_encO (fun _ => rfl) (fun o cs hq η X hX => hq.2 η X hX) h hs hk
  exact ⟨l, fun a ha => by obtain ⟨cs, hq⟩ := h1 a ha; exact hq.1, h2, h3⟩
end
end Go.Proofs.Ytjjhjhjphhpeiaa

namespace Go.Proofs.Ytjjhjhjphhpeiaa
open Go.RowKit
set_option linter.unusedSimpArgs false
set_option linter.unusedVariables false
noncomputable def fitF (s : DSch) (v : DVal) (l : List DOp) (i : Nat) : DVal := (l.take i).foldl (fun w o => applyV s w [o]) v
theorem fitF_succ {s : DSch} {v : DVal} {l : List DOp} {i : Nat} (h : i < l.length) : fitF s v l (i + 1) = applyV s (fitF s v l i) [l[i]] := by
  rw [fitF, List.take_succ_eq_append_getElem h, List.foldl_append]; rfl
theorem applyV_ok {s : DSch} {v : DVal} {l : List DOp} (hok : okV v) (ho : ∀ o ∈ l, OkO o) : okV (applyV s v l) := by
  unfold applyV
  split
  · rename_i h
    exact (fold_fits l (fitsTop_iff.1 h).2 hok ho).2
  · exact hok
set_option maxRecDepth 200000 in
set_option maxHeartbeats 8000000 in
theorem opFits_d (s : DSch) (v : DVal) (l : List DOp) (own : Own) (hs : okS s) (hok : okV v) (hi : ∀ o ∈ l, InO o) : DPure Try.prog 6 [encS s, encV v, .sl own (l.map encO)] (.v (.bool true)) := by
  refine dpure_of_dwp mixed Try.func6 rfl (fun _ _ => by kernel_rfl) (rs := [.tmp 6]) rfl (by kernel_rfl) trivial (fun S hS => ?_)
  (simp (disch := first | decide | omega | (simp only [add_next, set_next, grow_next, leave_next, drop_next, List.length_map]; first | done | omega)) only [go_sem, ↓reduceIte, Nat.reduceBEq, Nat.reduceAdd, Nat.reduceLeDiff, Nat.reduceEqDiff, Nat.reduceLT, Nat.reduceMul]; (repeat (with_reducible refine And.intro (by first | omega | assumption | rfl) ?_)))
  refine DCalls.of_pure (greatS_d s hs) ?_
  cases g1 : decide (roomS 12 s 300 < 0) with
  | true =>
    (simp (disch := first | decide | omega | (simp only [add_next, set_next, grow_next, leave_next, drop_next, List.length_map]; first | done | omega)) only [go_sem, ↓reduceIte, Nat.reduceBEq, Nat.reduceAdd, Nat.reduceLeDiff, Nat.reduceEqDiff, Nat.reduceLT, Nat.reduceMul]; (repeat (with_reducible refine And.intro (by first | omega | assumption | rfl) ?_)))
    refine DCalls.of_pure awake12_d ?_
    (simp (disch := first | decide | omega | (simp only [add_next, set_next, grow_next, leave_next, drop_next, List.length_map]; first | done | omega)) only [go_sem, ↓reduceIte, Nat.reduceBEq, Nat.reduceAdd, Nat.reduceLeDiff, Nat.reduceEqDiff, Nat.reduceLT, Nat.reduceMul]; (repeat (with_reducible refine And.intro (by first | omega | assumption | rfl) ?_)))
    refine ⟨?_, (by (repeat' first | assumption | exact St.Sub.refl _ | exact RowOk.sub (by assumption) (by assumption) | refine St.Sub.trans ?_ (RowOk.sub (by assumption) (by assumption)) | refine St.Sub.add ?_ ?_ _ | refine St.Sub.set ?_ ?_ ?_ _ | refine St.Sub.keep ?_ ?_ | refine St.WF.leave ?_ _ | refine St.WF.add ?_ _ | refine St.WF.set ?_ ?_ _ | refine St.WF.grow ?_ _ _ _ | refine St.WF.keep ?_ ?_ | (first | omega | (simp only [RowOk.lo, add_next, set_next, grow_next, leave_next, drop_next]; first | done | omega))))⟩
    rfl
  | false =>
  have hsw := (room_spec 12 s 300 (by have := of_decide_eq_false g1; omega)).1
  have n1 := of_decide_eq_false g1
  (simp (disch := first | decide | omega | (simp only [add_next, set_next, grow_next, leave_next, drop_next, List.length_map]; first | done | omega)) only [go_sem, ↓reduceIte, Nat.reduceBEq, Nat.reduceAdd, Nat.reduceLeDiff, Nat.reduceEqDiff, Nat.reduceLT, Nat.reduceMul]; (repeat (with_reducible refine And.intro (by first | omega | assumption | rfl) ?_)))
  refine DCalls.of_pure (greatV_d v hok) ?_
  cases g2 : decide (roomV 12 v 300 < 0) with
  | true =>
    (simp (disch := first | decide | omega | (simp only [add_next, set_next, grow_next, leave_next, drop_next, List.length_map]; first | done | omega)) only [go_sem, ↓reduceIte, Nat.reduceBEq, Nat.reduceAdd, Nat.reduceLeDiff, Nat.reduceEqDiff, Nat.reduceLT, Nat.reduceMul]; (repeat (with_reducible refine And.intro (by first | omega | assumption | rfl) ?_)))
    refine DCalls.of_pure awake12_d ?_
    (simp (disch := first | decide | omega | (simp only [add_next, set_next, grow_next, leave_next, drop_next, List.length_map]; first | done | omega)) only [go_sem, ↓reduceIte, Nat.reduceBEq, Nat.reduceAdd, Nat.reduceLeDiff, Nat.reduceEqDiff, Nat.reduceLT, Nat.reduceMul]; (repeat (with_reducible refine And.intro (by first | omega | assumption | rfl) ?_)))
    refine ⟨?_, (by (repeat' first | assumption | exact St.Sub.refl _ | exact RowOk.sub (by assumption) (by assumption) | refine St.Sub.trans ?_ (RowOk.sub (by assumption) (by assumption)) | refine St.Sub.add ?_ ?_ _ | refine St.Sub.set ?_ ?_ ?_ _ | refine St.Sub.keep ?_ ?_ | refine St.WF.leave ?_ _ | refine St.WF.add ?_ _ | refine St.WF.set ?_ ?_ _ | refine St.WF.grow ?_ _ _ _ | refine St.WF.keep ?_ ?_ | (first | omega | (simp only [RowOk.lo, add_next, set_next, grow_next, leave_next, drop_next]; first | done | omega))))⟩
    rfl
  | false =>
  have hvw := (roomV_spec 12 v 300 (by have := of_decide_eq_false g2; omega)).1
  have n2 := of_decide_eq_false g2
  by_cases h20 : 20 < l.length
  · have b1 : decide ((20 : Int) < (l.length : Int)) = true := by simp; omega
    (simp (disch := first | decide | omega | (simp only [add_next, set_next, grow_next, leave_next, drop_next, List.length_map]; first | done | omega)) only [go_sem, ↓reduceIte, Nat.reduceBEq, Nat.reduceAdd, Nat.reduceLeDiff, Nat.reduceEqDiff, Nat.reduceLT, Nat.reduceMul, b1]; (repeat (with_reducible refine And.intro (by first | omega | assumption | rfl) ?_)))
    refine DCalls.of_pure awake12_d ?_
    (simp (disch := first | decide | omega | (simp only [add_next, set_next, grow_next, leave_next, drop_next, List.length_map]; first | done | omega)) only [go_sem, ↓reduceIte, Nat.reduceBEq, Nat.reduceAdd, Nat.reduceLeDiff, Nat.reduceEqDiff, Nat.reduceLT, Nat.reduceMul]; (repeat (with_reducible refine And.intro (by first | omega | assumption | rfl) ?_)))
    refine ⟨?_, (by (repeat' first | assumption | exact St.Sub.refl _ | exact RowOk.sub (by assumption) (by assumption) | refine St.Sub.trans ?_ (RowOk.sub (by assumption) (by assumption)) | refine St.Sub.add ?_ ?_ _ | refine St.Sub.set ?_ ?_ ?_ _ | refine St.Sub.keep ?_ ?_ | refine St.WF.leave ?_ _ | refine St.WF.add ?_ _ | refine St.WF.set ?_ ?_ _ | refine St.WF.grow ?_ _ _ _ | refine St.WF.keep ?_ ?_ | (first | omega | (simp only [RowOk.lo, add_next, set_next, grow_next, leave_next, drop_next]; first | done | omega))))⟩
    rfl
  have b1 : decide ((20 : Int) < (l.length : Int)) = false := by simp; omega
  have hd1 := DVal.depth_weight v.depth v (Nat.le_refl _)
  have hd2 := DSch.depth_weight s.depth s (Nat.le_refl _)
  (simp (disch := first | decide | omega | (simp only [add_next, set_next, grow_next, leave_next, drop_next, List.length_map]; first | done | omega)) only [go_sem, ↓reduceIte, Nat.reduceBEq, Nat.reduceAdd, Nat.reduceLeDiff, Nat.reduceEqDiff, Nat.reduceLT, Nat.reduceMul, b1]; (repeat (with_reducible refine And.intro (by first | omega | assumption | rfl) ?_)))
  refine DCalls.of_pure (refFitsTop_d v s hok hs (by omega) (by omega)) ?_
  cases hf : fitsTop v s with
  | false =>
    (simp (disch := first | decide | omega | (simp only [add_next, set_next, grow_next, leave_next, drop_next, List.length_map]; first | done | omega)) only [go_sem, ↓reduceIte, Nat.reduceBEq, Nat.reduceAdd, Nat.reduceLeDiff, Nat.reduceEqDiff, Nat.reduceLT, Nat.reduceMul]; (repeat (with_reducible refine And.intro (by first | omega | assumption | rfl) ?_)))
    refine DCalls.of_pure awake12_d ?_
    (simp (disch := first | decide | omega | (simp only [add_next, set_next, grow_next, leave_next, drop_next, List.length_map]; first | done | omega)) only [go_sem, ↓reduceIte, Nat.reduceBEq, Nat.reduceAdd, Nat.reduceLeDiff, Nat.reduceEqDiff, Nat.reduceLT, Nat.reduceMul]; (repeat (with_reducible refine And.intro (by first | omega | assumption | rfl) ?_)))
    refine ⟨?_, (by (repeat' first | assumption | exact St.Sub.refl _ | exact RowOk.sub (by assumption) (by assumption) | refine St.Sub.trans ?_ (RowOk.sub (by assumption) (by assumption)) | refine St.Sub.add ?_ ?_ _ | refine St.Sub.set ?_ ?_ ?_ _ | refine St.Sub.keep ?_ ?_ | refine St.WF.leave ?_ _ | refine St.WF.add ?_ _ | refine St.WF.set ?_ ?_ _ | refine St.WF.grow ?_ _ _ _ | refine St.WF.keep ?_ ?_ | (first | omega | (simp only [RowOk.lo, add_next, set_next, grow_next, leave_next, drop_next]; first | done | omega))))⟩
    rfl
  | true =>
  (simp (disch := first | decide | omega | (simp only [add_next, set_next, grow_next, leave_next, drop_next, List.length_map]; first | done | omega)) only [go_sem, ↓reduceIte, Nat.reduceBEq, Nat.reduceAdd, Nat.reduceLeDiff, Nat.reduceEqDiff, Nat.reduceLT, Nat.reduceMul]; (repeat (with_reducible refine And.intro (by first | omega | assumption | rfl) ?_)))
  have hrs := (fitsTop_iff.1 hf).1
  refine dloop_up (fun t => List.contains [6, 7, 26, 27, 28, 29, 30, 31, 32, 33, 34, 35, 36, 37, 38, 39, 40, 41, 42, 43, 44, 45, 46, 47, 48, 49, 50, 51, 52, 53, 54, 55] t) (by kernel_rfl) (by exact (by (repeat' first | assumption | refine St.WF.leave ?_ _ | refine St.WF.add ?_ _ | refine St.WF.set ?_ ?_ _ | refine St.WF.grow ?_ _ _ _ | refine St.WF.keep ?_ ?_ | (first | omega | (simp only [RowOk.lo, add_next, set_next, grow_next, leave_next, drop_next]; first | done | omega))))) l.length (fun i g T => i ≤ l.length ∧ g 7 = .v (.int .i64 (i : Nat)) ∧ fitsTop (fitF s v l i) s = true ∧ okV (fitF s v l i) ∧ T.ob S.next = some (.box 47 (encS s).cells) ∧ T.ob (S.next + 1) = some (.box 28 (encV (fitF s v l i)).cells) ∧ S.next + 1 < T.next ∧ S.Sub T)
    ⟨by omega, by (first | (simp (disch := first | decide | omega | (simp only [add_next, set_next, grow_next, leave_next, drop_next, List.length_map]; first | done | omega)) only [go_sem, ↓reduceIte, Nat.reduceBEq, Nat.reduceAdd, Nat.reduceLeDiff, Nat.reduceEqDiff, Nat.reduceLT, Nat.reduceMul]; first | done | rfl) | rfl), hf, hok, by (first | (simp (disch := first | decide | omega | (simp only [add_next, set_next, grow_next, leave_next, drop_next, List.length_map]; first | done | omega)) only [go_sem, ↓reduceIte, Nat.reduceBEq, Nat.reduceAdd, Nat.reduceLeDiff, Nat.reduceEqDiff, Nat.reduceLT, Nat.reduceMul]; first | done | rfl) | rfl), by (first | (simp (disch := first | decide | omega | (simp only [add_next, set_next, grow_next, leave_next, drop_next, List.length_map]; first | done | omega)) only [go_sem, ↓reduceIte, Nat.reduceBEq, Nat.reduceAdd, Nat.reduceLeDiff, Nat.reduceEqDiff, Nat.reduceLT, Nat.reduceMul]; first | done | rfl) | rfl), by simp only [add_next]; omega, by exact (by (repeat' first | assumption | exact St.Sub.refl _ | exact RowOk.sub (by assumption) (by assumption) | refine St.Sub.trans ?_ (RowOk.sub (by assumption) (by assumption)) | refine St.Sub.add ?_ ?_ _ | refine St.Sub.set ?_ ?_ ?_ _ | refine St.Sub.keep ?_ ?_ | refine St.WF.leave ?_ _ | refine St.WF.add ?_ _ | refine St.WF.set ?_ ?_ _ | refine St.WF.grow ?_ _ _ _ | refine St.WF.keep ?_ ?_ | (first | omega | (simp only [RowOk.lo, add_next, set_next, grow_next, leave_next, drop_next]; first | done | omega))))⟩ ?_
  rintro i g T hT hg ⟨le, q7, hfi, hoi, t3, t4, hn, hsub⟩
  (have q2 := hg 2 rfl; have q3 := hg 3 rfl; have q4 := hg 4 rfl; simp (disch := first | decide | omega | (simp only [add_next, set_next, grow_next, leave_next, drop_next, List.length_map]; first | done | omega)) only [go_sem, ↓reduceIte, Nat.reduceBEq, Nat.reduceAdd, Nat.reduceLeDiff, Nat.reduceEqDiff, Nat.reduceLT, Nat.reduceMul] at q2 q3 q4; clear hg)
  have hnx := fun h => fitF_succ (s := s) (v := v) (l := l) (i := i) h
  by_cases hlt : i < l.length
  · have b2 : decide ((i : Int) < (l.length : Int)) = true := by simp; omega
    have w1 : IntKind.i64.wrap ((i : Int) + 1) = ((i + 1 : Nat) : Int) := IntWalk.i64_in _ ⟨by omega, by omega⟩
    have hin := hi _ (List.getElem_mem hlt)
    have hgd := getD_map encO l i hlt
    have hsucc := hnx hlt
    (simp (disch := first | decide | omega | (simp only [add_next, set_next, grow_next, leave_next, drop_next, List.length_map]; first | done | omega)) only [go_sem, ↓reduceIte, Nat.reduceBEq, Nat.reduceAdd, Nat.reduceLeDiff, Nat.reduceEqDiff, Nat.reduceLT, Nat.reduceMul, q2, q7, b2, hgd]; (repeat (with_reducible refine And.intro (by first | omega | assumption | rfl) ?_)))
    refine DCalls.of_pure (greatO_d l[i] hin) ?_
    cases g3 : greatO l[i] with
    | true =>
      (simp (disch := first | decide | omega | (simp only [add_next, set_next, grow_next, leave_next, drop_next, List.length_map]; first | done | omega)) only [go_sem, ↓reduceIte, Nat.reduceBEq, Nat.reduceAdd, Nat.reduceLeDiff, Nat.reduceEqDiff, Nat.reduceLT, Nat.reduceMul]; (repeat (with_reducible refine And.intro (by first | omega | assumption | rfl) ?_)))
      refine DCalls.of_pure awake12_d ?_
      (simp (disch := first | decide | omega | (simp only [add_next, set_next, grow_next, leave_next, drop_next, List.length_map]; first | done | omega)) only [go_sem, ↓reduceIte, Nat.reduceBEq, Nat.reduceAdd, Nat.reduceLeDiff, Nat.reduceEqDiff, Nat.reduceLT, Nat.reduceMul]; (repeat (with_reducible refine And.intro (by first | omega | assumption | rfl) ?_)))
      refine ⟨rfl, hsub⟩
    | false =>
      have hoo := hin.ok g3
      have hwt := (fitsTop_iff.1 hfi).2.wt hrs
      (simp (disch := first | decide | omega | (simp only [add_next, set_next, grow_next, leave_next, drop_next, List.length_map]; first | done | omega)) only [go_sem, ↓reduceIte, Nat.reduceBEq, Nat.reduceAdd, Nat.reduceLeDiff, Nat.reduceEqDiff, Nat.reduceLT, Nat.reduceMul, q2, q3, q4, q7]; (repeat (with_reducible refine And.intro (by first | omega | assumption | rfl) ?_)))
      refine ddraw_mk 8 (by kernel_rfl) ?_
      (simp (disch := first | decide | omega | (simp only [add_next, set_next, grow_next, leave_next, drop_next, List.length_map]; first | done | omega)) only [go_sem, ↓reduceIte, Nat.reduceBEq, Nat.reduceAdd, Nat.reduceLeDiff, Nat.reduceEqDiff, Nat.reduceLT, Nat.reduceMul, q2, q3, q4, q7, t3, t4, hgd]; (repeat (with_reducible refine And.intro (by first | omega | assumption | rfl) ?_)))
      have hone : ∀ o ∈ [l[i]], OkO o := fun o h => by rw [List.mem_singleton] at h; subst h; exact hoo
      refine dqgo_mk (DPure.weak (applyAll_d s (fitF s v l i) [l[i]] .no hs (by omega) hoi hwt (by simp) hone) (by simp only [frzL, D.frz, frz_encS, frz_encV, frz_encO, List.map_cons, List.map_nil])) ?_
      rw [← hsucc]
      have hf2 : fitsTop (fitF s v l (i + 1)) s = true := by rw [hsucc]; exact applyV_fits _ hfi hoi hone
      have ho2 : okV (fitF s v l (i + 1)) := by rw [hsucc]; exact applyV_ok hoi hone
      have hwt2 := (fitsTop_iff.1 hf2).2.wt hrs
      have hd3 := DVal.depth_weight (fitF s v l (i + 1)).depth (fitF s v l (i + 1)) (Nat.le_refl _)
      (simp (disch := first | decide | omega | (simp only [add_next, set_next, grow_next, leave_next, drop_next, List.length_map]; first | done | omega)) only [go_sem, ↓reduceIte, Nat.reduceBEq, Nat.reduceAdd, Nat.reduceLeDiff, Nat.reduceEqDiff, Nat.reduceLT, Nat.reduceMul, q2, q3, q4, q7, t3, t4]; (repeat (with_reducible refine And.intro (by first | omega | assumption | rfl) ?_)))
      refine DCalls.of_pure (fitsTop_d (fitF s v l (i + 1)) s ho2 hs) ?_
      rw [hf2]
      (simp (disch := first | decide | omega | (simp only [add_next, set_next, grow_next, leave_next, drop_next, List.length_map]; first | done | omega)) only [go_sem, ↓reduceIte, Nat.reduceBEq, Nat.reduceAdd, Nat.reduceLeDiff, Nat.reduceEqDiff, Nat.reduceLT, Nat.reduceMul, q2, q3, q4, q7, t3, t4]; (repeat (with_reducible refine And.intro (by first | omega | assumption | rfl) ?_)))
      refine DCalls.of_pure (refFitsTop_d (fitF s v l (i + 1)) s ho2 hs (by omega) (by omega)) ?_
      rw [hf2]
      (simp (disch := first | decide | omega | (simp only [add_next, set_next, grow_next, leave_next, drop_next, List.length_map]; first | done | omega)) only [go_sem, ↓reduceIte, Nat.reduceBEq, Nat.reduceAdd, Nat.reduceLeDiff, Nat.reduceEqDiff, Nat.reduceLT, Nat.reduceMul, q2, q3, q4, q7, t3, t4, w1]; (repeat (with_reducible refine And.intro (by first | omega | assumption | rfl) ?_)))
      exact ⟨hlt, _, fun _ _ h => h, by omega, by (first | (simp (disch := first | decide | omega | (simp only [add_next, set_next, grow_next, leave_next, drop_next, List.length_map]; first | done | omega)) only [go_sem, ↓reduceIte, Nat.reduceBEq, Nat.reduceAdd, Nat.reduceLeDiff, Nat.reduceEqDiff, Nat.reduceLT, Nat.reduceMul, w1]; first | done | rfl) | rfl), hf2, ho2, by (first | (simp (disch := first | decide | omega | (simp only [add_next, set_next, grow_next, leave_next, drop_next, List.length_map]; first | done | omega)) only [go_sem, ↓reduceIte, Nat.reduceBEq, Nat.reduceAdd, Nat.reduceLeDiff, Nat.reduceEqDiff, Nat.reduceLT, Nat.reduceMul, t3]; first | done | rfl) | rfl), by (first | (simp (disch := first | decide | omega | (simp only [add_next, set_next, grow_next, leave_next, drop_next, List.length_map]; first | done | omega)) only [go_sem, ↓reduceIte, Nat.reduceBEq, Nat.reduceAdd, Nat.reduceLeDiff, Nat.reduceEqDiff, Nat.reduceLT, Nat.reduceMul]; first | done | rfl) | rfl), hn, hsub.set hS (by omega) _⟩
  · have b2 : decide ((i : Int) < (l.length : Int)) = false := by simp; omega
    (simp (disch := first | decide | omega | (simp only [add_next, set_next, grow_next, leave_next, drop_next, List.length_map]; first | done | omega)) only [go_sem, ↓reduceIte, Nat.reduceBEq, Nat.reduceAdd, Nat.reduceLeDiff, Nat.reduceEqDiff, Nat.reduceLT, Nat.reduceMul, q2, q7, b2]; (repeat (with_reducible refine And.intro (by first | omega | assumption | rfl) ?_)))
    refine DCalls.of_pure awake12_d ?_
    (simp (disch := first | decide | omega | (simp only [add_next, set_next, grow_next, leave_next, drop_next, List.length_map]; first | done | omega)) only [go_sem, ↓reduceIte, Nat.reduceBEq, Nat.reduceAdd, Nat.reduceLeDiff, Nat.reduceEqDiff, Nat.reduceLT, Nat.reduceMul]; (repeat (with_reducible refine And.intro (by first | omega | assumption | rfl) ?_)))
    refine ⟨rfl, hsub⟩
end Go.Proofs.Ytjjhjhjphhpeiaa

namespace Go.Proofs.Ytjjhjhjphhpeiaa
open Go.ChangeShapes Go.WideShapes Go.ChangeAt Go.RowKit
theorem opFits_own : ownKnob Try.prog.godebug = none := by kernel_rfl
theorem opFits_laidOut : laidOutB Try.prog = true := by kernel_rfl
set_option maxRecDepth 100000 in
theorem opFits_lifted (os : Os) (started : os.Started) (H : Type) (enc : TypeId × Value → H) :
    ReturnsInHanded {} Try.checked os 6 .any (Rows.opFitsSpec.pre6 enc Try.prog Try.f6 Rows.opFitsRow.domain false) (Rows.opFitsSpec.post enc Try.prog Try.f6 false true false false) := by
  refine returnsInHanded_of_change_sized (C := Try.checked) opFits_own started (by kernel_rfl) Try.func6
    (ChangeSpec.witness6 (enc := enc) (C := Try.checked) false ⟨#[], #[.agg #[.int .i64 0, .slice none 0 0, .slice none 0 0], .agg #[.int .i64 0, .int .i64 0, .string "".toUTF8, .slice none 0 0, .slice none 0 0, .slice none 0 0], .slice none 0 0], []⟩ 8 (by kernel_rfl) (by kernel_rfl) (by kernel_rfl) (by kernel_rfl)) ?_
  intro W base args ds gs before hval0 hW hcnd hsz0 _
  have hval : ∀ (j : Nat) t v, Try.f6.params[j]? = some t → args[j]? = some v → Value.okWide Try.prog W .any base t v := hval0
  have hsz : (DataW.weightsEach Try.prog (Try.f6.params.toList ++ Rows.opFitsSpec.plain.varTypes Try.prog) (ds ++ gs)).all (· ≤ reachBytes) = true := hsz0
  have hW' := hW
  obtain ⟨p, q, hA0, hV, rfl, hfz, hnd⟩ := hW
  have hA : DataW.TrodAll enc Try.prog W 0 (fun _ => true) true Try.f6.params.toList args.toList ds p := hA0
  obtain ⟨rfl, rfl⟩ := trodVars_none hV
  rw [Try.params6] at hA hval hsz
  have hA1 := hA
  obtain ⟨v0, vs0, d0, ds0, p0, q0, hargs, rfl, rfl, h0, r0⟩ := trodAll_cons hA
  obtain ⟨v1, vs1, d1, ds1, p1, q1, rfl, rfl, rfl, h1, r1⟩ := trodAll_cons r0
  obtain ⟨v2, vs2, d2, ds2, p2, q2, rfl, rfl, rfl, h2, r2⟩ := trodAll_cons r1
  obtain ⟨rfl, rfl, rfl⟩ := trodAll_nil r2
  obtain rfl : args = #[v0, v1, v2] := by cases args; simp_all
  have z0 : Sized Try.prog 47 d0 := sized_of_each (j := 0) hsz rfl rfl
  have k0 : Value.okWide Try.prog W .any base 47 v0 := hval 0 _ _ rfl rfl
  have z1 : Sized Try.prog 28 d1 := sized_of_each (j := 1) hsz rfl rfl
  have k1 : Value.okWide Try.prog W .any base 28 v1 := hval 1 _ _ rfl rfl
  have z2 : Sized Try.prog 48 d2 := sized_of_each (j := 2) hsz rfl rfl
  have k2 : Value.okWide Try.prog W .any base 48 v2 := hval 2 _ _ rfl rfl
  clear hA0 hval0 hsz hsz0 hval
  have key : Calls Try.prog 6 #[v0, v1, v2] W (Gives (.bool true) W) := by
    obtain ⟨s, cs, rfl, hs⟩ := open_schema h0 z0 k0
    obtain ⟨t, ds, rfl, ht⟩ := open_value h1 z1 k1
    obtain ⟨l, hl, _, hr⟩ := open_ops h2 z2 k2
    exact gives_of_dpure (vs := [.agg cs.toArray, .agg ds.toArray, v2]) (opFits_d s t l .no hs.ok ht.ok hl) (by simp only [RepL]; exact ⟨_, _, rfl, rep_sch (fun b i _ => fix_nil b i) hs, _, _, rfl, rep_val (fun b i _ => fix_nil b i) ht, _, _, rfl, hr _ _ fix_nil, rfl⟩)
  refine key.mono fun e W' ⟨he, bel⟩ => ?_
  subst he
  exact ⟨_, rfl, _, _, _, [], _, [], hW', trodAll_mk1 (shut_bool Try.underlying4 _), trodAll_below opFits_laidOut bel (by kernel_rfl) hA1, rfl, bel.frame _, fun h => by cases h⟩

theorem opFits_holds : Rows.OpFitsSaid :=
  OpenClaim.holds_of_wide 6 Try.f6 rfl rfl rfl rfl rfl rfl rfl ⟨rfl, rfl, rfl, rfl, rfl⟩ rfl rfl rfl rfl rfl (by kernel_rfl) Try.func6 (by kernel_rfl)
    (of_decide_eq_true (by kernel_rfl)) (by unfold Func.isWrapper; first | (rw [if_pos (by decide +kernel)]; kernel_rfl) | (rw [if_neg (by decide +kernel)]; exact ⟨rfl, rfl⟩))
    (fun os started H enc _ => opFits_lifted os started H enc)
#print axioms opFits_holds
end Go.Proofs.Ytjjhjhjphhpeiaa
