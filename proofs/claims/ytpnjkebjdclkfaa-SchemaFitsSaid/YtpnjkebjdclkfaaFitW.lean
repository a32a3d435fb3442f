/- SchemaFits, walked. Conditions: none. -/
import Derived.Test.YtpnjkebjdclkfaaFitP
namespace Go.Proofs.Ytpnjkebjdclkfaa
open Go.RowKit
set_option linter.unusedSimpArgs false
theorem bin_beql {x y : Operand} (a b : Bool) : dbin Try.prog .eql 4 x y (.v (.bool a)) (.v (.bool b)) = some (True, .v (.bool (a == b))) := by
  cases a <;> cases b <;> kernel_rfl
attribute [go_sem] bin_beql
theorem greatS_d (v : DSch) (hok : okS v) : DPure Try.prog 11 [encS v] (.v (.bool (decide (roomS 12 v 300 < 0)))) := dpure_sch hok (fun _ _ => by kernel_rfl) fun w cs h => greatS_calls v cs w h
theorem schRight_d (v : DSch) (hok : okS v) : DPure Try.prog 15 [encS v] (.v (.bool (rightS 5 v))) := dpure_sch hok (fun _ _ => by kernel_rfl) fun w cs h => schRightP_calls v cs w h
theorem refSchRight_d (v : DSch) (hok : okS v) (hd : v.depth ≤ 1000000) : DPure Try.prog 13 [encS v] (.v (.bool (rightS 5 v))) := dpure_sch hok (fun _ _ => by kernel_rfl) fun w cs h => refRight_calls 1000000 v cs w hd (Nat.le_refl _) h
theorem schDefault_d (s : DSch) (hok : okS s) (hw : s.weight ≤ 1000000) : DPure Try.prog 22 [encS s] (encV (theDef s)) :=
  dpure_of_new (fun _ _ => by kernel_rfl) fun w η X vs hr => by
    obtain ⟨cs, rfl, hv⟩ := arg_sch hok hr
    exact schDefault_calls s.depth s cs w (Nat.le_refl _) hw (fun h => defOk_sound _ _ (RS.of_right h)) hv
theorem awake09_d : DPure Try.prog 12 [] (.v (.bool true)) :=
  dpure_of_gives (fun _ _ => by kernel_rfl) fun w η X vs hr => by
    simp only [RepL] at hr
    subst hr
    exact awake09_calls w
set_option maxRecDepth 200000 in
set_option maxHeartbeats 4000000 in
theorem fitsTop_d (v : DVal) (s : DSch) (hov : okV v) (hos : okS s) : DPure Try.prog 31 [encV v, encS s] (.v (.bool (fitsTop v s))) := by
  refine dpure_of_dwp mixed Try.func31 rfl (fun _ _ => by kernel_rfl) (rs := [.tmp 4]) rfl (by kernel_rfl) trivial (fun S hS => ?_)
  have hsub := fun o o2 => ((St.Sub.refl S).add hS o).add hS o2
  simp only [go_sem, ↓reduceIte, Nat.reduceBEq, Nat.reduceAdd, Nat.reduceLeDiff, Nat.reduceEqDiff, Nat.reduceLT]
  refine DCalls.of_pure (valRight_d v hov) ?_
  cases h1 : rightV 5 v with
  | false =>
    simp only [go_sem, ↓reduceIte, Nat.reduceBEq, Nat.reduceAdd, Nat.reduceLeDiff, Nat.reduceEqDiff, Nat.reduceLT]
    exact ⟨by rw [fitsTop, h1]; rfl, hsub _ _⟩
  | true =>
    simp only [go_sem, ↓reduceIte, Nat.reduceBEq, Nat.reduceAdd, Nat.reduceLeDiff, Nat.reduceEqDiff, Nat.reduceLT]
    refine DCalls.of_pure (schRight_d s hos) ?_
    cases h2 : rightS 5 s with
    | false =>
      simp only [go_sem, ↓reduceIte, Nat.reduceBEq, Nat.reduceAdd, Nat.reduceLeDiff, Nat.reduceEqDiff, Nat.reduceLT]
      exact ⟨by rw [fitsTop, h1, h2]; rfl, hsub _ _⟩
    | true =>
      simp only [go_sem, ↓reduceIte, Nat.reduceBEq, Nat.reduceAdd, Nat.reduceLeDiff, Nat.reduceEqDiff, Nat.reduceLT]
      refine DCalls.of_pure (fits_d v.depth v s (Nat.le_refl _) hov hos (RV.of_right h1) ⟨_, Nat.le_refl _, RS.of_right h2⟩) ?_
      simp only [go_sem, ↓reduceIte, Nat.reduceBEq, Nat.reduceAdd, Nat.reduceLeDiff, Nat.reduceEqDiff, Nat.reduceLT]
      exact ⟨by rw [fitsTop, h1, h2]; rfl, hsub _ _⟩
set_option maxRecDepth 200000 in
set_option maxHeartbeats 4000000 in
theorem refFitsTop_d (v : DVal) (s : DSch) (hov : okV v) (hos : okS s) (hd : v.depth ≤ 1000000) (hd2 : s.depth ≤ 1000000) : DPure Try.prog 32 [encV v, encS s] (.v (.bool (fitsTop v s))) := by
  refine dpure_of_dwp mixed Try.func32 rfl (fun _ _ => by kernel_rfl) (rs := [.tmp 4]) rfl (by kernel_rfl) trivial (fun S hS => ?_)
  have hsub := fun o o2 => ((St.Sub.refl S).add hS o).add hS o2
  simp only [go_sem, ↓reduceIte, Nat.reduceBEq, Nat.reduceAdd, Nat.reduceLeDiff, Nat.reduceEqDiff, Nat.reduceLT]
  refine DCalls.of_pure (refValRight_d v hov hd) ?_
  cases h1 : rightV 5 v with
  | false =>
    simp only [go_sem, ↓reduceIte, Nat.reduceBEq, Nat.reduceAdd, Nat.reduceLeDiff, Nat.reduceEqDiff, Nat.reduceLT]
    exact ⟨by rw [fitsTop, h1]; rfl, hsub _ _⟩
  | true =>
    simp only [go_sem, ↓reduceIte, Nat.reduceBEq, Nat.reduceAdd, Nat.reduceLeDiff, Nat.reduceEqDiff, Nat.reduceLT]
    refine DCalls.of_pure (refSchRight_d s hos hd2) ?_
    cases h2 : rightS 5 s with
    | false =>
      simp only [go_sem, ↓reduceIte, Nat.reduceBEq, Nat.reduceAdd, Nat.reduceLeDiff, Nat.reduceEqDiff, Nat.reduceLT]
      exact ⟨by rw [fitsTop, h1, h2]; rfl, hsub _ _⟩
    | true =>
      simp only [go_sem, ↓reduceIte, Nat.reduceBEq, Nat.reduceAdd, Nat.reduceLeDiff, Nat.reduceEqDiff, Nat.reduceLT]
      refine DCalls.of_pure (refFits_d v.depth v s (Nat.le_refl _) hov hos (RV.of_right h1) ⟨_, Nat.le_refl _, RS.of_right h2⟩) ?_
      simp only [go_sem, ↓reduceIte, Nat.reduceBEq, Nat.reduceAdd, Nat.reduceLeDiff, Nat.reduceEqDiff, Nat.reduceLT]
      exact ⟨by rw [fitsTop, h1, h2]; rfl, hsub _ _⟩
set_option maxRecDepth 200000 in
set_option maxHeartbeats 4000000 in
theorem schemaFits_d (v : DVal) (s : DSch) (hov : okV v) (hos : okS s) : DPure Try.prog 5 [encV v, encS s] (.v (.bool true)) := by
  refine dpure_of_dwp mixed Try.func5 rfl (fun _ _ => by kernel_rfl) (rs := [.tmp 4]) rfl (by kernel_rfl) trivial (fun S hS => ?_)
  have hsub := fun o o2 => ((St.Sub.refl S).add hS o).add hS o2
  simp only [go_sem, ↓reduceIte, Nat.reduceBEq, Nat.reduceAdd, Nat.reduceLeDiff, Nat.reduceEqDiff, Nat.reduceLT]
  refine DCalls.of_pure (greatS_d s hos) ?_
  cases g1 : decide (roomS 12 s 300 < 0) with
  | true =>
    simp only [go_sem, ↓reduceIte, Nat.reduceBEq, Nat.reduceAdd, Nat.reduceLeDiff, Nat.reduceEqDiff, Nat.reduceLT]
    refine DCalls.of_pure awake09_d ?_
    simp only [go_sem, ↓reduceIte, Nat.reduceBEq, Nat.reduceAdd, Nat.reduceLeDiff, Nat.reduceEqDiff, Nat.reduceLT]
    exact ⟨rfl, hsub _ _⟩
  | false =>
    simp only [go_sem, ↓reduceIte, Nat.reduceBEq, Nat.reduceAdd, Nat.reduceLeDiff, Nat.reduceEqDiff, Nat.reduceLT]
    refine DCalls.of_pure (greatV_d v hov) ?_
    cases g2 : decide (roomV 12 v 300 < 0) with
    | true =>
      simp only [go_sem, ↓reduceIte, Nat.reduceBEq, Nat.reduceAdd, Nat.reduceLeDiff, Nat.reduceEqDiff, Nat.reduceLT]
      refine DCalls.of_pure awake09_d ?_
      simp only [go_sem, ↓reduceIte, Nat.reduceBEq, Nat.reduceAdd, Nat.reduceLeDiff, Nat.reduceEqDiff, Nat.reduceLT]
      exact ⟨rfl, hsub _ _⟩
    | false =>
      have hw1 := (room_spec 12 s 300 (by have := of_decide_eq_false g1; omega)).1
      have hw2 := (roomV_spec 12 v 300 (by have := of_decide_eq_false g2; omega)).1
      have n1 := of_decide_eq_false g1
      have n2 := of_decide_eq_false g2
      have hd1 := DSch.depth_weight s.depth s (Nat.le_refl _)
      have hd2 := DVal.depth_weight v.depth v (Nat.le_refl _)
      simp only [go_sem, ↓reduceIte, Nat.reduceBEq, Nat.reduceAdd, Nat.reduceLeDiff, Nat.reduceEqDiff, Nat.reduceLT]
      refine ddraw_mk 20 (by kernel_rfl) ?_
      simp only [go_sem, ↓reduceIte, Nat.reduceBEq, Nat.reduceAdd, Nat.reduceLeDiff, Nat.reduceEqDiff, Nat.reduceLT]
      refine dqgo_mk (fitsTop_d v s hov hos) ?_
      simp only [go_sem, ↓reduceIte, Nat.reduceBEq, Nat.reduceAdd, Nat.reduceLeDiff, Nat.reduceEqDiff, Nat.reduceLT]
      refine dqgo_mk (refFitsTop_d v s hov hos (by omega) (by omega)) ?_
      simp only [go_sem, ↓reduceIte, Nat.reduceBEq, Nat.reduceAdd, Nat.reduceLeDiff, Nat.reduceEqDiff, Nat.reduceLT, beq_self_eq_true]
      refine dqgo_mk (schDefault_d s hos (by omega)) ?_
      simp only [go_sem, ↓reduceIte, Nat.reduceBEq, Nat.reduceAdd, Nat.reduceLeDiff, Nat.reduceEqDiff, Nat.reduceLT]
      refine dqgo_mk (fitsTop_d (theDef s) s (theDef_ok hos) hos) ?_
      simp only [go_sem, ↓reduceIte, Nat.reduceBEq, Nat.reduceAdd, Nat.reduceLeDiff, Nat.reduceEqDiff, Nat.reduceLT, theDef_fits]
      refine dqgo_mk (refSchRight_d s hos (by omega)) ?_
      simp only [go_sem, ↓reduceIte, Nat.reduceBEq, Nat.reduceAdd, Nat.reduceLeDiff, Nat.reduceEqDiff, Nat.reduceLT, theDef_fits, beq_self_eq_true]
      refine dqgo_mk awake09_d ?_
      simp only [go_sem, ↓reduceIte, Nat.reduceBEq, Nat.reduceAdd, Nat.reduceLeDiff, Nat.reduceEqDiff, Nat.reduceLT]
      exact ⟨rfl, hsub _ _⟩
theorem schemaFits_calls (v : DVal) (s : DSch) (cs ds : List Value) (w : World) (hv : IsVal w (· < w.heap.size) v cs) (hs : IsSch w (· < w.heap.size) s ds) :
    Calls Try.prog 5 #[.agg cs.toArray, .agg ds.toArray] w (Gives (.bool true) w) :=
  gives_of_dpure (vs := [.agg cs.toArray, .agg ds.toArray]) (schemaFits_d v s hv.ok hs.ok) (by
    simp only [RepL]
    exact ⟨_, _, rfl, rep_val (fun b i _ => fix_nil b i) hv, _, _, rfl, rep_sch (fun b i _ => fix_nil b i) hs, rfl⟩)
end Go.Proofs.Ytpnjkebjdclkfaa
