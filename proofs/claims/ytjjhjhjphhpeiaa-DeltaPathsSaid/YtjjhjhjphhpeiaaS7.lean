/- DeltaPaths answers true for any two values, and leaves its arguments as they were. Conditions: none but the statement's own. -/
import Derived.Test.YtjjhjhjphhpeiaaS6
import Derived.Test.YtjjhjhjphhpeiaaRows
set_option linter.unusedVariables false
set_option linter.unusedSimpArgs false
namespace Go.Proofs.Ytjjhjhjphhpeiaa
open Go.RowKit
set_option linter.unusedSimpArgs false
set_option linter.unusedVariables false
def kU (a b : DVal) (p : List DStp) : Bool := (getV p b).isSome && decide ((gA a p).kind ≠ (gA b p).kind)
noncomputable def rpV (a b : DVal) : List (List DStp) := (pathsV a.depth a).filter (dC a b)
def rpU (a b : DVal) : Bool := (pathsV a.depth a).any (kU a b)
noncomputable def rpR (a b : DVal) : D := .tup [encPss (if rpU a b = true then [] else rpV a b), .v (.bool (!rpU a b))]
theorem closed_rpR (a b : DVal) : (rpR a b).closed := by
  simp only [rpR, D.closed, D.all, allL, and_true]; exact closed_encPss _
theorem len00 (m n : Nat) : (((m : Int) + (n : Int)) == 0) = (decide (m = 0) && decide (n = 0)) := by rw [Bool.eq_iff_iff]; simp; omega
theorem bne_dec (m n : Int) : (m != n) = decide (m ≠ n) := by rw [Bool.eq_iff_iff]; simp
set_option maxRecDepth 200000 in
set_option maxHeartbeats 8000000 in
theorem refPaths_d (a b : DVal) (ha : okV a) (hb : okV b) (hra : RV a) (wa : a.weight ≤ 100000) (wb : b.weight ≤ 100000) : DPure Try.prog 21 [encV a, encV b] (rpR a b) := by
  refine dpure_of_dwp mixed Try.func21 rfl (fun _ _ => by kernel_rfl) (rs := [.tmp 4, .tmp 5]) rfl (by kernel_rfl) (closed_rpR _ _) (fun S hS => ?_)
  (simp (disch := first | decide | omega | (simp only [nx]; first | done | omega)) only [go_sem, Nat.reduceMul]; (repeat (with_reducible refine And.intro (by first | omega | assumption | rfl) ?_)))
  refine DCalls.of_pure (refAll_d a.depth a (Nat.le_refl _) ha hra (by omega)) ?_
  have hll := (pathsV_len a.depth a (Nat.le_refl _)).1
  have hpl := pathsV_bound a.depth a (Nat.le_refl _)
  have hda := DVal.depth_weight a.depth a (Nat.le_refl _)
  have hrp : rpV a b = (pathsV a.depth a).filter (dC a b) := rfl
  have hru : rpU a b = (pathsV a.depth a).any (kU a b) := rfl
  rw [rpR, hrp, hru]
  generalize pathsV a.depth a = l at *
  (simp (disch := first | decide | omega | (simp only [nx]; first | done | omega)) only [go_sem, Nat.reduceMul, encPss]; (repeat (with_reducible refine And.intro (by first | omega | assumption | rfl) ?_)))
  refine dloop_up (fun t => List.contains [4, 5, 6, 8, 9, 10, 11, 12, 15, 16, 17, 18, 19, 20, 21, 22, 23, 24, 25, 26, 27, 28, 29, 30, 31, 32, 33, 34, 35, 36, 37, 38, 39, 40, 41, 42, 43, 44, 45, 46, 47, 48, 49, 50, 51, 52, 53, 54, 55, 56, 57, 58, 59, 60, 61, 62, 63, 64, 65, 66, 67, 68, 69, 70] t) (by kernel_rfl) (by exact (by (repeat' first | assumption | refine St.WF.leave ?_ _ | refine St.WF.add ?_ _ | refine St.WF.set ?_ ?_ _ | refine St.WF.grow ?_ _ _ _ | refine St.WF.keep ?_ ?_ | (first | omega | (simp only [RowOk.lo, nx]; first | done | omega))))) l.length (fun i g T => i ≤ l.length ∧ g 8 = .v (.int .i64 ((i : Nat) : Int)) ∧ PRow S T ((l.take i).filter (dC a b)) (g 6) ∧ T.ob S.next = some (.box 28 (encV a).cells) ∧ T.ob (S.next + 1) = some (.box 28 (encV b).cells) ∧ S.next + 1 < T.next ∧ S.Sub T ∧ (l.take i).any (kU a b) = false)
    ⟨by omega, by (first | (simp (disch := first | decide | omega | (simp only [nx]; first | done | omega)) only [go_sem, Nat.reduceMul]; first | done | rfl) | rfl), ⟨.full, by (first | (simp (disch := first | decide | omega | (simp only [nx]; first | done | omega)) only [go_sem, Nat.reduceMul]; first | done | rfl) | rfl), .inl rfl⟩, by (first | (simp (disch := first | decide | omega | (simp only [nx]; first | done | omega)) only [go_sem, Nat.reduceMul]; first | done | rfl) | rfl), by (first | (simp (disch := first | decide | omega | (simp only [nx]; first | done | omega)) only [go_sem, Nat.reduceMul]; first | done | rfl) | rfl), by simp only [nx]; omega, by exact (by (repeat' first | assumption | exact St.Sub.refl _ | exact RowOk.sub (by assumption) (by assumption) | refine St.Sub.trans ?_ (RowOk.sub (by assumption) (by assumption)) | refine St.Sub.add ?_ ?_ _ | refine St.Sub.set ?_ ?_ ?_ _ | refine St.Sub.keep ?_ ?_ | refine St.WF.leave ?_ _ | refine St.WF.add ?_ _ | refine St.WF.set ?_ ?_ _ | refine St.WF.grow ?_ _ _ _ | refine St.WF.keep ?_ ?_ | (first | omega | (simp only [RowOk.lo, nx]; first | done | omega)))), rfl⟩ ?_
  rintro i g T hT hg ⟨le, q8, hP, t2, t3, hn, hsub, hno0⟩
  (have q2 := hg 2 rfl; have q3 := hg 3 rfl; have q7 := hg 7 rfl; simp (disch := first | decide | omega | (simp only [nx]; first | done | omega)) only [go_sem, Nat.reduceMul] at q2 q3 q7; clear hg)
  by_cases hlt : i < l.length
  · have b1 : decide ((i : Int) < (l.length : Int)) = true := by simp; omega
    have w1 : IntKind.i64.wrap ((i : Int) + 1) = ((i + 1 : Nat) : Int) := IntWalk.i64_in _ ⟨by omega, by omega⟩
    have hpi := hpl _ (List.getElem_mem hlt)
    (simp (disch := first | decide | omega | (simp only [nx]; first | done | omega)) only [go_sem, Nat.reduceMul, q7, q8, b1]; (repeat (with_reducible refine And.intro (by first | omega | assumption | rfl) ?_)))
    (refine ddraw_any (fun S' => S'.ob S.next = some (.box 28 (encV a).cells)) 12 (by (first | (simp (disch := first | decide | omega | (simp only [nx]; first | done | omega)) only [go_sem, Nat.reduceMul, q2, q7, q8, hlt, t2, encPs, getD_]; first | done | rfl) | rfl)) (by kernel_rfl) ?_; refine s_take 0 rfl (by kernel_rfl) (by kernel_rfl) (v := ?v1) (fun S' hz => dquietR_of ?h1) <| s_take 1 rfl (by kernel_rfl) (by kernel_rfl) (v := ?v2) (fun S' hz => dquietR_of ?h2) <| s_take 2 rfl (by kernel_rfl) (by kernel_rfl) (v := ?v3) (fun S' hz => dquietR_of ?h3) <| s_take 3 rfl (by kernel_rfl) (by kernel_rfl) (v := ?v4) (fun S' hz => dquietR_of ?h4) <| s_take 4 rfl (by kernel_rfl) (by kernel_rfl) (v := ?v5) (fun S' hz => dquietR_of ?h5) <| ?k5; (case h1 | h2 | h3 | h4 | h5 => ((simp (disch := first | decide | omega | (simp only [nx]; first | done | omega)) only [go_sem, Nat.reduceMul, q2, q7, q8, hlt, t2, encPs, getD_, hz]; (repeat (with_reducible refine And.intro (by first | omega | assumption | rfl) ?_))); first | done | exact rfl | omega)); refine s_take 5 rfl (by kernel_rfl) (by kernel_rfl) (v := ?v6) (fun S' hz => dquietR_of ?h6) ?k6; (case h6 => ((simp (disch := first | decide | omega | (simp only [nx]; first | done | omega)) only [go_sem, Nat.reduceMul, q2, q7, q8, hlt, t2, encPs, getD_, hz]; (repeat (with_reducible refine And.intro (by first | omega | assumption | rfl) ?_))); refine dqgo_mk (refGet_d a l[i] .no ha (by omega) (by omega)) ?_; exact rfl)); refine s_take 6 rfl (by kernel_rfl) (by kernel_rfl) (v := ?v7) (fun S' hz => dquietR_of ?h7) <| s_take 7 rfl (by kernel_rfl) (by kernel_rfl) (v := ?v8) (fun S' hz => dquietR_of ?h8) <| s_take 8 rfl (by kernel_rfl) (by kernel_rfl) (v := ?v9) (fun S' hz => dquietR_of ?h9) <| ?k9; (case h7 | h8 | h9 => ((simp (disch := first | decide | omega | (simp only [nx]; first | done | omega)) only [go_sem, Nat.reduceMul, q2, q7, q8, hlt, t2, encPs, getD_, hz]; (repeat (with_reducible refine And.intro (by first | omega | assumption | rfl) ?_))); first | done | exact rfl | omega)); refine s_split [9] (by kernel_rfl) (by simp) ?_; intro j_ hj_; obtain rfl : j_ = 9 := (by simpa using hj_); clear hj_; refine s_op rfl ?_; (simp (disch := first | decide | omega | (simp only [nx]; first | done | omega)) only [go_sem, Nat.reduceMul, q2, q7, q8, hlt, t2, encPs, getD_]; (repeat (with_reducible refine And.intro (by first | omega | assumption | rfl) ?_))); refine s_split [10] (by kernel_rfl) (by simp) ?_; intro j_ hj_; obtain rfl : j_ = 10 := (by simpa using hj_); clear hj_; refine s_op rfl ?_; (simp (disch := first | decide | omega | (simp only [nx]; first | done | omega)) only [go_sem, Nat.reduceMul, q2, q7, q8, hlt, t2, encPs, getD_]; (repeat (with_reducible refine And.intro (by first | omega | assumption | rfl) ?_))); refine s_take 11 rfl (by kernel_rfl) (by kernel_rfl) (v := ?v10) (fun S' hz => dquietR_of ?h10) ?k10; (case h10 => ((simp (disch := first | decide | omega | (simp only [nx]; first | done | omega)) only [go_sem, Nat.reduceMul, q2, q7, q8, hlt, t2, encPs, getD_, hz]; (repeat (with_reducible refine And.intro (by first | omega | assumption | rfl) ?_))); first | done | exact rfl | omega)); refine s_done (by kernel_rfl) ?_; (simp (disch := first | decide | omega | (simp only [nx]; first | done | omega)) only [go_sem, Nat.reduceMul, q2, q7, q8, hlt, t2, encPs, getD_]; (repeat (with_reducible refine And.intro (by first | omega | assumption | rfl) ?_))))
    (refine ddraw_any (fun S' => S'.ob (S.next + 1) = some (.box 28 (encV b).cells)) 12 (by (first | (simp (disch := first | decide | omega | (simp only [nx]; first | done | omega)) only [go_sem, Nat.reduceMul, q3, q7, q8, hlt, t3, encPs, getD_]; first | done | rfl) | rfl)) (by kernel_rfl) ?_; refine s_take 0 rfl (by kernel_rfl) (by kernel_rfl) (v := ?v11) (fun S' hz => dquietR_of ?h11) <| s_take 1 rfl (by kernel_rfl) (by kernel_rfl) (v := ?v12) (fun S' hz => dquietR_of ?h12) <| s_take 2 rfl (by kernel_rfl) (by kernel_rfl) (v := ?v13) (fun S' hz => dquietR_of ?h13) <| s_take 3 rfl (by kernel_rfl) (by kernel_rfl) (v := ?v14) (fun S' hz => dquietR_of ?h14) <| s_take 4 rfl (by kernel_rfl) (by kernel_rfl) (v := ?v15) (fun S' hz => dquietR_of ?h15) <| ?k15; (case h11 | h12 | h13 | h14 | h15 => ((simp (disch := first | decide | omega | (simp only [nx]; first | done | omega)) only [go_sem, Nat.reduceMul, q3, q7, q8, hlt, t3, encPs, getD_, hz]; (repeat (with_reducible refine And.intro (by first | omega | assumption | rfl) ?_))); first | done | exact rfl | omega)); refine s_take 5 rfl (by kernel_rfl) (by kernel_rfl) (v := ?v16) (fun S' hz => dquietR_of ?h16) ?k16; (case h16 => ((simp (disch := first | decide | omega | (simp only [nx]; first | done | omega)) only [go_sem, Nat.reduceMul, q3, q7, q8, hlt, t3, encPs, getD_, hz]; (repeat (with_reducible refine And.intro (by first | omega | assumption | rfl) ?_))); refine dqgo_mk (refGet_d b l[i] .no hb (by omega) (by omega)) ?_; exact rfl)); refine s_take 6 rfl (by kernel_rfl) (by kernel_rfl) (v := ?v17) (fun S' hz => dquietR_of ?h17) <| s_take 7 rfl (by kernel_rfl) (by kernel_rfl) (v := ?v18) (fun S' hz => dquietR_of ?h18) <| s_take 8 rfl (by kernel_rfl) (by kernel_rfl) (v := ?v19) (fun S' hz => dquietR_of ?h19) <| ?k19; (case h17 | h18 | h19 => ((simp (disch := first | decide | omega | (simp only [nx]; first | done | omega)) only [go_sem, Nat.reduceMul, q3, q7, q8, hlt, t3, encPs, getD_, hz]; (repeat (with_reducible refine And.intro (by first | omega | assumption | rfl) ?_))); first | done | exact rfl | omega)); refine s_split [9] (by kernel_rfl) (by simp) ?_; intro j_ hj_; obtain rfl : j_ = 9 := (by simpa using hj_); clear hj_; refine s_op rfl ?_; (simp (disch := first | decide | omega | (simp only [nx]; first | done | omega)) only [go_sem, Nat.reduceMul, q3, q7, q8, hlt, t3, encPs, getD_]; (repeat (with_reducible refine And.intro (by first | omega | assumption | rfl) ?_))); refine s_split [10] (by kernel_rfl) (by simp) ?_; intro j_ hj_; obtain rfl : j_ = 10 := (by simpa using hj_); clear hj_; refine s_op rfl ?_; (simp (disch := first | decide | omega | (simp only [nx]; first | done | omega)) only [go_sem, Nat.reduceMul, q3, q7, q8, hlt, t3, encPs, getD_]; (repeat (with_reducible refine And.intro (by first | omega | assumption | rfl) ?_))); refine s_take 11 rfl (by kernel_rfl) (by kernel_rfl) (v := ?v20) (fun S' hz => dquietR_of ?h20) ?k20; (case h20 => ((simp (disch := first | decide | omega | (simp only [nx]; first | done | omega)) only [go_sem, Nat.reduceMul, q3, q7, q8, hlt, t3, encPs, getD_, hz]; (repeat (with_reducible refine And.intro (by first | omega | assumption | rfl) ?_))); first | done | exact rfl | omega)); refine s_done (by kernel_rfl) ?_; (simp (disch := first | decide | omega | (simp only [nx]; first | done | omega)) only [go_sem, Nat.reduceMul, q3, q7, q8, hlt, t3, encPs, getD_]; (repeat (with_reducible refine And.intro (by first | omega | assumption | rfl) ?_))))
    have hsuc := List.take_succ_eq_append_getElem hlt
    have hx : (getV l[i] a).getD zeroV = gA a l[i] := rfl
    have hy : (getV l[i] b).getD zeroV = gA b l[i] := rfl
    have hxo := gA_ok ha l[i]
    have hyo := gA_ok hb l[i]
    have hdC : dC a b l[i] = ((getV l[i] b).isSome && (decide ((gA a l[i]).parts.length = 0) && (decide ((gA b l[i]).parts.length = 0) && !eqB (gA a l[i]) (gA b l[i])))) := rfl
    have hkU : kU a b l[i] = ((getV l[i] b).isSome && decide ((gA a l[i]).kind ≠ (gA b l[i]).kind)) := rfl
    have hxw := gA_wt (v := a) l[i]
    have hyw := gA_wt (v := b) l[i]
    have hxe := (gA a l[i]).weight_eq
    have hye := (gA b l[i]).weight_eq
    have hxp := partsLen (gA a l[i])
    have hyp := partsLen (gA b l[i])
    have wl : IntKind.i64.wrap (((gA a l[i]).parts.length : Int) + ((gA b l[i]).parts.length : Int)) = ((gA a l[i]).parts.length : Int) + ((gA b l[i]).parts.length : Int) := IntWalk.i64_in _ ⟨by omega, by omega⟩
    have hS1 := refSameV_d (gA a l[i]) (gA b l[i]) hxo hyo
    have hnn : kU a b l[i] = false → (l.take (i + 1)).any (kU a b) = false := fun h => by
      rw [hsuc, List.any_append, hno0, List.any_cons, List.any_nil, h]; rfl
    cases h1 : (getV l[i] b).isSome with
    | false =>
      have hno : dC a b l[i] = false := by rw [hdC, h1]; rfl
      have hn2 := hnn (by rw [hkU, h1]; rfl)
      (simp (disch := first | decide | omega | (simp only [nx]; first | done | omega)) only [go_sem, Nat.reduceMul, hx, hy, h1, q8, w1]; (repeat (with_reducible refine And.intro (by first | omega | assumption | rfl) ?_)))
      
      refine ⟨by omega, _, fun _ _ h => h, by omega, by (first | (simp (disch := first | decide | omega | (simp only [nx]; first | done | omega)) only [go_sem, Nat.reduceMul, w1]; first | done | rfl) | rfl), ?_, by (first | (simp (disch := first | decide | omega | (simp only [nx]; first | done | omega)) only [go_sem, Nat.reduceMul, t2]; first | done | rfl) | rfl), by (first | (simp (disch := first | decide | omega | (simp only [nx]; first | done | omega)) only [go_sem, Nat.reduceMul, t3]; first | done | rfl) | rfl), by simp only [nx]; omega, by exact (by (repeat' first | assumption | exact St.Sub.refl _ | exact RowOk.sub (by assumption) (by assumption) | refine St.Sub.trans ?_ (RowOk.sub (by assumption) (by assumption)) | refine St.Sub.add ?_ ?_ _ | refine St.Sub.set ?_ ?_ ?_ _ | refine St.Sub.keep ?_ ?_ | refine St.WF.leave ?_ _ | refine St.WF.add ?_ _ | refine St.WF.set ?_ ?_ _ | refine St.WF.grow ?_ _ _ _ | refine St.WF.keep ?_ ?_ | (first | omega | (simp only [RowOk.lo, nx]; first | done | omega)))), hn2⟩
      rw [hsuc, List.filter_append, List.filter_cons_of_neg (by rw [hno]; simp), List.filter_nil, List.append_nil]
      refine PRow.keep (T := T) ?_ hT fun j hj => ?_
      · have e5 : g 5 = g 5 := rfl
        simp (disch := first | decide | omega | (simp only [nx]; first | done | omega)) only [go_sem, Nat.reduceMul]
        exact hP
      · have n1 : j ≠ T.next := by omega
        have n2 : j ≠ T.next + 1 := by omega
        simp (disch := first | decide | omega | (simp only [nx]; first | done | omega)) only [go_sem, Nat.reduceMul, n1, n2]

    | true =>
    cases hk : decide ((gA a l[i]).kind ≠ (gA b l[i]).kind) with
    | true =>
      have hyk : l.any (kU a b) = true := List.any_eq_true.2 ⟨_, List.getElem_mem hlt, by rw [hkU, h1, hk]; rfl⟩
      (simp (disch := first | decide | omega | (simp only [nx]; first | done | omega)) only [go_sem, Nat.reduceMul, hx, hy, h1, bne_dec, hk]; (repeat (with_reducible refine And.intro (by first | omega | assumption | rfl) ?_)))
      rw [hyk]
      refine ⟨?_, by exact (by (repeat' first | assumption | exact St.Sub.refl _ | exact RowOk.sub (by assumption) (by assumption) | refine St.Sub.trans ?_ (RowOk.sub (by assumption) (by assumption)) | refine St.Sub.add ?_ ?_ _ | refine St.Sub.set ?_ ?_ ?_ _ | refine St.Sub.keep ?_ ?_ | refine St.WF.leave ?_ _ | refine St.WF.add ?_ _ | refine St.WF.set ?_ ?_ _ | refine St.WF.grow ?_ _ _ _ | refine St.WF.keep ?_ ?_ | (first | omega | (simp only [RowOk.lo, nx]; first | done | omega))))⟩
      simp only [encPss, D.frz, frzL, List.map_nil]
      rfl
    | false =>
    have hn2 := hnn (by rw [hkU, h1, hk]; rfl)
    cases h23 : (decide ((gA a l[i]).parts.length = 0) && decide ((gA b l[i]).parts.length = 0)) with
    | false =>
      have hno : dC a b l[i] = false := by rw [hdC, ← Bool.and_assoc (decide _) (decide _), h23]; simp
      (simp (disch := first | decide | omega | (simp only [nx]; first | done | omega)) only [go_sem, Nat.reduceMul, hx, hy, h1, bne_dec, hk, wl, len00, h23, q8, w1]; (repeat (with_reducible refine And.intro (by first | omega | assumption | rfl) ?_)))
      
      refine ⟨by omega, _, fun _ _ h => h, by omega, by (first | (simp (disch := first | decide | omega | (simp only [nx]; first | done | omega)) only [go_sem, Nat.reduceMul, w1]; first | done | rfl) | rfl), ?_, by (first | (simp (disch := first | decide | omega | (simp only [nx]; first | done | omega)) only [go_sem, Nat.reduceMul, t2]; first | done | rfl) | rfl), by (first | (simp (disch := first | decide | omega | (simp only [nx]; first | done | omega)) only [go_sem, Nat.reduceMul, t3]; first | done | rfl) | rfl), by simp only [nx]; omega, by exact (by (repeat' first | assumption | exact St.Sub.refl _ | exact RowOk.sub (by assumption) (by assumption) | refine St.Sub.trans ?_ (RowOk.sub (by assumption) (by assumption)) | refine St.Sub.add ?_ ?_ _ | refine St.Sub.set ?_ ?_ ?_ _ | refine St.Sub.keep ?_ ?_ | refine St.WF.leave ?_ _ | refine St.WF.add ?_ _ | refine St.WF.set ?_ ?_ _ | refine St.WF.grow ?_ _ _ _ | refine St.WF.keep ?_ ?_ | (first | omega | (simp only [RowOk.lo, nx]; first | done | omega)))), hn2⟩
      rw [hsuc, List.filter_append, List.filter_cons_of_neg (by rw [hno]; simp), List.filter_nil, List.append_nil]
      refine PRow.keep (T := T) ?_ hT fun j hj => ?_
      · have e5 : g 5 = g 5 := rfl
        simp (disch := first | decide | omega | (simp only [nx]; first | done | omega)) only [go_sem, Nat.reduceMul]
        exact hP
      · have n1 : j ≠ T.next := by omega
        have n2 : j ≠ T.next + 1 := by omega
        simp (disch := first | decide | omega | (simp only [nx]; first | done | omega)) only [go_sem, Nat.reduceMul, n1, n2]

    | true =>
    (simp (disch := first | decide | omega | (simp only [nx]; first | done | omega)) only [go_sem, Nat.reduceMul, hx, hy, h1, bne_dec, hk, wl, len00, h23]; (repeat (with_reducible refine And.intro (by first | omega | assumption | rfl) ?_)))
    refine DCalls.of_pure hS1 ?_
    cases h4 : eqB (gA a l[i]) (gA b l[i]) with
    | true =>
      have hno : dC a b l[i] = false := by rw [hdC, h4]; simp
      (simp (disch := first | decide | omega | (simp only [nx]; first | done | omega)) only [go_sem, Nat.reduceMul, q8, w1]; (repeat (with_reducible refine And.intro (by first | omega | assumption | rfl) ?_)))
      
      refine ⟨by omega, _, fun _ _ h => h, by omega, by (first | (simp (disch := first | decide | omega | (simp only [nx]; first | done | omega)) only [go_sem, Nat.reduceMul, w1]; first | done | rfl) | rfl), ?_, by (first | (simp (disch := first | decide | omega | (simp only [nx]; first | done | omega)) only [go_sem, Nat.reduceMul, t2]; first | done | rfl) | rfl), by (first | (simp (disch := first | decide | omega | (simp only [nx]; first | done | omega)) only [go_sem, Nat.reduceMul, t3]; first | done | rfl) | rfl), by simp only [nx]; omega, by exact (by (repeat' first | assumption | exact St.Sub.refl _ | exact RowOk.sub (by assumption) (by assumption) | refine St.Sub.trans ?_ (RowOk.sub (by assumption) (by assumption)) | refine St.Sub.add ?_ ?_ _ | refine St.Sub.set ?_ ?_ ?_ _ | refine St.Sub.keep ?_ ?_ | refine St.WF.leave ?_ _ | refine St.WF.add ?_ _ | refine St.WF.set ?_ ?_ _ | refine St.WF.grow ?_ _ _ _ | refine St.WF.keep ?_ ?_ | (first | omega | (simp only [RowOk.lo, nx]; first | done | omega)))), hn2⟩
      rw [hsuc, List.filter_append, List.filter_cons_of_neg (by rw [hno]; simp), List.filter_nil, List.append_nil]
      refine PRow.keep (T := T) ?_ hT fun j hj => ?_
      · have e5 : g 5 = g 5 := rfl
        simp (disch := first | decide | omega | (simp only [nx]; first | done | omega)) only [go_sem, Nat.reduceMul]
        exact hP
      · have n1 : j ≠ T.next := by omega
        have n2 : j ≠ T.next + 1 := by omega
        simp (disch := first | decide | omega | (simp only [nx]; first | done | omega)) only [go_sem, Nat.reduceMul, n1, n2]

    | false =>
      have hyes : dC a b l[i] = true := by rw [hdC, ← Bool.and_assoc (decide _) (decide _), h1, h23, h4]; rfl
      obtain ⟨own, q6, hrow⟩ := hP.ex
      (simp (disch := first | decide | omega | (simp only [nx]; first | done | omega)) only [go_sem, Nat.reduceMul, q6, q7, q8, hlt, encPs]; (repeat (with_reducible refine And.intro (by first | omega | assumption | rfl) ?_)))
      have heP : elT Try.prog 39 = some 44 := by kernel_rfl
      have hzP : szOf Try.prog 44 = 1 := by kernel_rfl
      have hbP : bytesOf Try.prog 44 = 24 := by kernel_rfl
      have wP : ∀ l : List (List DStp), ∀ d ∈ l.map encPs, d.width = szOf Try.prog 44 := fun l d hd => by obtain ⟨q, _, rfl⟩ := List.mem_map.1 hd; rw [hzP]; rfl
      have hfl := List.length_filter_le (dC a b) (l.take i)
      have htl : (l.take i).length ≤ l.length := by rw [List.length_take]; omega
      generalize hXe : St.set (St.add (St.set (St.add _ _) _ _) _) _ _ = X
      have xo : ∀ j, j < T.next → X.ob j = T.ob j := fun j hj => by
        have n1 : j ≠ T.next := by omega
        have n2 : j ≠ T.next + 1 := by omega
        rw [← hXe]; (first | (simp (disch := first | decide | omega | (simp only [nx]; first | done | omega)) only [go_sem, Nat.reduceMul, n1, n2]; first | done | rfl) | rfl)
      have xn : X.next = T.next + 2 := by rw [← hXe]; simp only [nx]
      have hX : X.WF := by rw [← hXe]; exact (by (repeat' first | assumption | refine St.WF.leave ?_ _ | refine St.WF.add ?_ _ | refine St.WF.set ?_ ?_ _ | refine St.WF.grow ?_ _ _ _ | refine St.WF.keep ?_ ?_ | (first | omega | (simp only [RowOk.lo, nx]; first | done | omega))))
      have xs : S.Sub X := by rw [← hXe]; exact (by (repeat' first | assumption | exact St.Sub.refl _ | exact RowOk.sub (by assumption) (by assumption) | refine St.Sub.trans ?_ (RowOk.sub (by assumption) (by assumption)) | refine St.Sub.add ?_ ?_ _ | refine St.Sub.set ?_ ?_ ?_ _ | refine St.Sub.keep ?_ ?_ | refine St.WF.leave ?_ _ | refine St.WF.add ?_ _ | refine St.WF.set ?_ ?_ _ | refine St.WF.grow ?_ _ _ _ | refine St.WF.keep ?_ ?_ | (first | omega | (simp only [RowOk.lo, nx]; first | done | omega))))
      clear hXe
      have hrowX : own = .full ∨ ∃ r, own = .row r ∧ S.next ≤ r ∧ r < T.next ∧ X.ob r = some (.row 44 ((l.take i).filter (dC a b)).length) := hrow.imp_right fun ⟨r, e1, e2, e3⟩ => ⟨r, e1, e2, hT.lt e3, by rw [xo _ (hT.lt e3)]; exact e3⟩
      have hne : ∀ j, j < T.next → (∃ t cs, X.ob j = some (.box t cs)) → ∀ g, own = .row g → j ≠ g := fun j hj ⟨t, cs, e⟩ g hg => by
        rcases hrowX with h | ⟨r, e1, _, _, e3⟩
        · rw [h] at hg; cases hg
        · rw [e1] at hg; injection hg with hg; subst hg
          rintro rfl; rw [e] at e3; cases e3
      have hlo : ∀ j, j < S.next → ∀ g, own = .row g → j ≠ g := fun j hj g hg => by
        rcases hrowX with h | ⟨r, e1, e2, _, _⟩
        · rw [h] at hg; cases hg
        · rw [e1] at hg; injection hg with hg; omega
      have x2 := (xo _ (by omega)).trans t2
      have x3 := (xo _ (by omega)).trans t3
      refine dapp_more heP (by kernel_rfl) (hrowX.imp_right fun ⟨r, e1, _, _, e3⟩ => ⟨r, e1, by rw [List.length_map]; exact e3⟩) (wP _) (fun d hd => by obtain rfl := List.mem_singleton.1 hd; rw [hzP]; rfl) (by simp only [List.length_map, List.length_cons, List.length_nil]; omega) (by simp only [hbP, List.length_map, List.length_cons, List.length_nil]; omega) ?_
      (simp (disch := first | decide | omega | (simp only [nx]; first | done | omega)) only [go_sem, Nat.reduceMul, q8, w1]; (repeat (with_reducible refine And.intro (by first | omega | assumption | rfl) ?_)))
      refine ⟨by omega, _, fun _ _ h => h, by omega, by (first | (simp (disch := first | decide | omega | (simp only [nx]; first | done | omega)) only [go_sem, Nat.reduceMul, w1]; first | done | rfl) | rfl), ⟨.row X.next, ?_, .inr ⟨X.next, rfl, by have := xs.next; omega, ?_⟩⟩, ?_, ?_, by simp only [nx]; omega, ?_, hn2⟩
      · rw [hsuc, List.filter_append, List.filter_cons_of_pos hyes, List.filter_nil, List.map_append]
        simp (disch := first | decide | omega | (simp only [nx]; first | done | omega)) only [go_sem, Nat.reduceMul]
        rfl
      · rw [hsuc, List.filter_append, List.filter_cons_of_pos hyes, List.filter_nil, List.length_append]
        exact grow_hit
      · exact (grow_skip (by omega) (hne _ (by omega) ⟨_, _, x2⟩)).trans x2
      · exact (grow_skip (by omega) (hne _ (by omega) ⟨_, _, x3⟩)).trans x3
      · refine ⟨by simp only [nx]; have := xs.next; omega, fun j o e => ?_⟩
        have := hS.lt e
        have := xs.next
        show (X.grow own 44 _).ob j = some o
        rw [grow_skip (by omega) (hlo j (by omega))]
        exact xs.ob _ _ e
  · have b1 : decide ((i : Int) < (l.length : Int)) = false := by simp; omega
    have hi : i = l.length := by omega
    obtain ⟨own, q6, hrow⟩ := hP.ex
    (simp (disch := first | decide | omega | (simp only [nx]; first | done | omega)) only [go_sem, Nat.reduceMul, q7, q8, b1, q6]; (repeat (with_reducible refine And.intro (by first | omega | assumption | rfl) ?_)))
    refine ⟨?_, (by (repeat' first | assumption | exact St.Sub.refl _ | exact RowOk.sub (by assumption) (by assumption) | refine St.Sub.trans ?_ (RowOk.sub (by assumption) (by assumption)) | refine St.Sub.add ?_ ?_ _ | refine St.Sub.set ?_ ?_ ?_ _ | refine St.Sub.keep ?_ ?_ | refine St.WF.leave ?_ _ | refine St.WF.add ?_ _ | refine St.WF.set ?_ ?_ _ | refine St.WF.grow ?_ _ _ _ | refine St.WF.keep ?_ ?_ | (first | omega | (simp only [RowOk.lo, nx]; first | done | omega))))⟩
    subst hi
    rw [List.take_length] at hno0
    rw [List.take_length, hno0]
    simp only [encPss, D.frz, frzL, frz_mapPs]
    rfl
end Go.Proofs.Ytjjhjhjphhpeiaa

namespace Go.Proofs.Ytjjhjhjphhpeiaa
open Go.RowKit
set_option linter.unusedSimpArgs false
set_option linter.unusedVariables false
set_option maxRecDepth 200000 in
set_option maxHeartbeats 8000000 in
theorem deltaPaths_d (a b : DVal) (ha : okV a) (hb : okV b) : DPure Try.prog 5 [encV a, encV b] (.v (.bool true)) := by
  refine dpure_of_dwp mixed Try.func5 rfl (fun _ _ => by kernel_rfl) (rs := [.tmp 4]) rfl (by kernel_rfl) trivial (fun S hS => ?_)
  (simp (disch := first | decide | omega | (simp only [nx]; first | done | omega)) only [go_sem, Nat.reduceMul]; (repeat (with_reducible refine And.intro (by first | omega | assumption | rfl) ?_)))
  refine DCalls.of_pure (greatV_d a ha) ?_
  cases g1 : decide (roomV 12 a 300 < 0) with
  | true =>
    (simp (disch := first | decide | omega | (simp only [nx]; first | done | omega)) only [go_sem, Nat.reduceMul]; (repeat (with_reducible refine And.intro (by first | omega | assumption | rfl) ?_)))
    refine DCalls.of_pure awake13_d ?_
    (simp (disch := first | decide | omega | (simp only [nx]; first | done | omega)) only [go_sem, Nat.reduceMul]; (repeat (with_reducible refine And.intro (by first | omega | assumption | rfl) ?_)))
    refine ⟨?_, (by (repeat' first | assumption | exact St.Sub.refl _ | exact RowOk.sub (by assumption) (by assumption) | refine St.Sub.trans ?_ (RowOk.sub (by assumption) (by assumption)) | refine St.Sub.add ?_ ?_ _ | refine St.Sub.set ?_ ?_ ?_ _ | refine St.Sub.keep ?_ ?_ | refine St.WF.leave ?_ _ | refine St.WF.add ?_ _ | refine St.WF.set ?_ ?_ _ | refine St.WF.grow ?_ _ _ _ | refine St.WF.keep ?_ ?_ | (first | omega | (simp only [RowOk.lo, nx]; first | done | omega))))⟩
    rfl
  | false =>
  have haw := (roomV_spec 12 a 300 (by have := of_decide_eq_false g1; omega)).1
  have n1 := of_decide_eq_false g1
  (simp (disch := first | decide | omega | (simp only [nx]; first | done | omega)) only [go_sem, Nat.reduceMul]; (repeat (with_reducible refine And.intro (by first | omega | assumption | rfl) ?_)))
  refine DCalls.of_pure (greatV_d b hb) ?_
  cases g2 : decide (roomV 12 b 300 < 0) with
  | true =>
    (simp (disch := first | decide | omega | (simp only [nx]; first | done | omega)) only [go_sem, Nat.reduceMul]; (repeat (with_reducible refine And.intro (by first | omega | assumption | rfl) ?_)))
    refine DCalls.of_pure awake13_d ?_
    (simp (disch := first | decide | omega | (simp only [nx]; first | done | omega)) only [go_sem, Nat.reduceMul]; (repeat (with_reducible refine And.intro (by first | omega | assumption | rfl) ?_)))
    refine ⟨?_, (by (repeat' first | assumption | exact St.Sub.refl _ | exact RowOk.sub (by assumption) (by assumption) | refine St.Sub.trans ?_ (RowOk.sub (by assumption) (by assumption)) | refine St.Sub.add ?_ ?_ _ | refine St.Sub.set ?_ ?_ ?_ _ | refine St.Sub.keep ?_ ?_ | refine St.WF.leave ?_ _ | refine St.WF.add ?_ _ | refine St.WF.set ?_ ?_ _ | refine St.WF.grow ?_ _ _ _ | refine St.WF.keep ?_ ?_ | (first | omega | (simp only [RowOk.lo, nx]; first | done | omega))))⟩
    rfl
  | false =>
  have hbw := (roomV_spec 12 b 300 (by have := of_decide_eq_false g2; omega)).1
  have n2 := of_decide_eq_false g2
  have hda := DVal.depth_weight a.depth a (Nat.le_refl _)
  have hdb := DVal.depth_weight b.depth b (Nat.le_refl _)
  (simp (disch := first | decide | omega | (simp only [nx]; first | done | omega)) only [go_sem, Nat.reduceMul]; (repeat (with_reducible refine And.intro (by first | omega | assumption | rfl) ?_)))
  refine DCalls.of_pure (paths_d a b ha hb (by omega) (by omega)) ?_
  (simp (disch := first | decide | omega | (simp only [nx]; first | done | omega)) only [go_sem, Nat.reduceMul]; (repeat (with_reducible refine And.intro (by first | omega | assumption | rfl) ?_)))
  refine DCalls.of_pure (refValRight_d a ha (by omega)) ?_
  cases hra : rightV 5 a with
  | false =>
    have hd : dpV a b = [] := by rw [dpV, if_neg (by rw [hra]; simp)]
    rw [hd]
    (simp (disch := first | decide | omega | (simp only [nx]; first | done | omega)) only [go_sem, Nat.reduceMul, encPss]; (repeat (with_reducible refine And.intro (by first | omega | assumption | rfl) ?_)))
    refine DCalls.of_pure awake13_d ?_
    (simp (disch := first | decide | omega | (simp only [nx]; first | done | omega)) only [go_sem, Nat.reduceMul]; (repeat (with_reducible refine And.intro (by first | omega | assumption | rfl) ?_)))
    refine ⟨?_, (by (repeat' first | assumption | exact St.Sub.refl _ | exact RowOk.sub (by assumption) (by assumption) | refine St.Sub.trans ?_ (RowOk.sub (by assumption) (by assumption)) | refine St.Sub.add ?_ ?_ _ | refine St.Sub.set ?_ ?_ ?_ _ | refine St.Sub.keep ?_ ?_ | refine St.WF.leave ?_ _ | refine St.WF.add ?_ _ | refine St.WF.set ?_ ?_ _ | refine St.WF.grow ?_ _ _ _ | refine St.WF.keep ?_ ?_ | (first | omega | (simp only [RowOk.lo, nx]; first | done | omega))))⟩
    rfl
  | true =>
  (simp (disch := first | decide | omega | (simp only [nx]; first | done | omega)) only [go_sem, Nat.reduceMul]; (repeat (with_reducible refine And.intro (by first | omega | assumption | rfl) ?_)))
  refine DCalls.of_pure (refValRight_d b hb (by omega)) ?_
  cases hrb : rightV 5 b with
  | false =>
    have hd : dpV a b = [] := by rw [dpV, if_neg (by rw [hrb]; simp)]
    rw [hd]
    (simp (disch := first | decide | omega | (simp only [nx]; first | done | omega)) only [go_sem, Nat.reduceMul, encPss]; (repeat (with_reducible refine And.intro (by first | omega | assumption | rfl) ?_)))
    refine DCalls.of_pure awake13_d ?_
    (simp (disch := first | decide | omega | (simp only [nx]; first | done | omega)) only [go_sem, Nat.reduceMul]; (repeat (with_reducible refine And.intro (by first | omega | assumption | rfl) ?_)))
    refine ⟨?_, (by (repeat' first | assumption | exact St.Sub.refl _ | exact RowOk.sub (by assumption) (by assumption) | refine St.Sub.trans ?_ (RowOk.sub (by assumption) (by assumption)) | refine St.Sub.add ?_ ?_ _ | refine St.Sub.set ?_ ?_ ?_ _ | refine St.Sub.keep ?_ ?_ | refine St.WF.leave ?_ _ | refine St.WF.add ?_ _ | refine St.WF.set ?_ ?_ _ | refine St.WF.grow ?_ _ _ _ | refine St.WF.keep ?_ ?_ | (first | omega | (simp only [RowOk.lo, nx]; first | done | omega))))⟩
    rfl
  | true =>
  have hd : dpV a b = rpV a b := by rw [dpV, if_pos ⟨hra, hrb⟩, rpV, allTop, if_pos hra]
  rw [hd]
  (simp (disch := first | decide | omega | (simp only [nx]; first | done | omega)) only [go_sem, Nat.reduceMul]; (repeat (with_reducible refine And.intro (by first | omega | assumption | rfl) ?_)))
  refine DCalls.of_pure (refPaths_d a b ha hb (RV.of_right hra) (by omega) (by omega)) ?_
  rw [rpR]
  cases hu : rpU a b with
  | true =>
    (simp (disch := first | decide | omega | (simp only [nx]; first | done | omega)) only [go_sem, Nat.reduceMul]; (repeat (with_reducible refine And.intro (by first | omega | assumption | rfl) ?_)))
    refine DCalls.of_pure awake13_d ?_
    (simp (disch := first | decide | omega | (simp only [nx]; first | done | omega)) only [go_sem, Nat.reduceMul]; (repeat (with_reducible refine And.intro (by first | omega | assumption | rfl) ?_)))
    refine ⟨?_, (by (repeat' first | assumption | exact St.Sub.refl _ | exact RowOk.sub (by assumption) (by assumption) | refine St.Sub.trans ?_ (RowOk.sub (by assumption) (by assumption)) | refine St.Sub.add ?_ ?_ _ | refine St.Sub.set ?_ ?_ ?_ _ | refine St.Sub.keep ?_ ?_ | refine St.WF.leave ?_ _ | refine St.WF.add ?_ _ | refine St.WF.set ?_ ?_ _ | refine St.WF.grow ?_ _ _ _ | refine St.WF.keep ?_ ?_ | (first | omega | (simp only [RowOk.lo, nx]; first | done | omega))))⟩
    rfl
  | false =>
  have hfin : ∀ p ∈ rpV a b, p.length ≤ 1000000 := fun p hp => by
    have := pathsV_bound a.depth a (Nat.le_refl _) p (List.mem_filter.1 hp).1
    omega
  have hif : (if (false : Bool) = true then [] else rpV a b) = rpV a b := rfl
  rw [hif]
  have hll := (pathsV_len a.depth a (Nat.le_refl _)).1
  have hfl : (rpV a b).length ≤ a.weight := Nat.le_trans (List.length_filter_le _ _) hll
  generalize rpV a b = l at *
  have e0 : ((l.length : Int) != (l.length : Int)) = false := by simp
  (simp (disch := first | decide | omega | (simp only [nx]; first | done | omega)) only [go_sem, Nat.reduceMul, encPss, e0]; (repeat (with_reducible refine And.intro (by first | omega | assumption | rfl) ?_)))
  (refine dloop_st (fun t => List.contains [4, 8, 47, 48, 49, 50, 51, 52, 53, 54, 55, 56, 57, 58, 59, 60, 61, 62] t) (by kernel_rfl) ?_ (l.length) (fun i f => i ≤ l.length ∧ f 8 = .v (.int .i64 (i : Nat))) ?_ ?_; (exact (by (repeat' first | assumption | refine St.WF.leave ?_ _ | refine St.WF.add ?_ _ | refine St.WF.set ?_ ?_ _ | refine St.WF.grow ?_ _ _ _ | refine St.WF.keep ?_ ?_ | (first | omega | (simp only [RowOk.lo, nx]; first | done | omega))))); (exact ⟨(by omega), (by (first | (simp (disch := first | decide | omega | (simp only [nx]; first | done | omega)) only [go_sem, Nat.reduceMul]; first | done | rfl) | rfl))⟩); intro i g tn hn hT hg hI; obtain ⟨le, q8⟩ := hI; have q5 := hg 5 rfl; have q6 := hg 6 rfl; simp (disch := first | decide | omega | (simp only [nx]; first | done | omega)) only [go_sem, Nat.reduceMul] at q5 q6; clear hg; have hn' := hn; try simp only [add_next, set_next, grow_next, leave_next, drop_next] at hn')
  by_cases hlt : i < l.length
  · have b1 : decide ((i : Int) < (l.length : Int)) = true := by simp; omega
    have w1 : IntKind.i64.wrap ((i : Int) + 1) = ((i + 1 : Nat) : Int) := IntWalk.i64_in _ ⟨by omega, by omega⟩
    have hp := hfin _ (List.getElem_mem hlt)
    (simp (disch := first | decide | omega | (simp only [nx]; first | done | omega)) only [go_sem, Nat.reduceMul, q5, q6, q8, b1]; (repeat (with_reducible refine And.intro (by first | omega | assumption | rfl) ?_)))
    refine ddraw_mk 10 (by kernel_rfl) ?_
    (simp (disch := first | decide | omega | (simp only [nx]; first | done | omega)) only [go_sem, Nat.reduceMul, q5, q6, q8, hlt, encPs]; (repeat (with_reducible refine And.intro (by first | omega | assumption | rfl) ?_)))
    refine dqgo_mk (refSameP_d .no .no l[i] l[i] hp hp) ?_
    have e1 : decide (l[i] = l[i]) = true := by simp
    (simp (disch := first | decide | omega | (simp only [nx]; first | done | omega)) only [go_sem, Nat.reduceMul, e1, q5, q6, q8, w1]; (repeat (with_reducible refine And.intro (by first | omega | assumption | rfl) ?_)))
    (refine ⟨by omega, (by (repeat' first | assumption | exact St.Sub.refl _ | exact RowOk.sub (by assumption) (by assumption) | refine St.Sub.trans ?_ (RowOk.sub (by assumption) (by assumption)) | refine St.Sub.add ?_ ?_ _ | refine St.Sub.set ?_ ?_ ?_ _ | refine St.Sub.keep ?_ ?_ | refine St.WF.leave ?_ _ | refine St.WF.add ?_ _ | refine St.WF.set ?_ ?_ _ | refine St.WF.grow ?_ _ _ _ | refine St.WF.keep ?_ ?_ | (first | omega | (simp only [RowOk.lo, nx]; first | done | omega)))), ?_⟩; refine ⟨by omega, ?_⟩; all_goals (try (first | (simp (disch := first | decide | omega | (simp only [nx]; first | done | omega)) only [go_sem, Nat.reduceMul, w1]; first | done | rfl) | rfl)))
  · have b1 : decide ((i : Int) < (l.length : Int)) = false := by simp; omega
    (simp (disch := first | decide | omega | (simp only [nx]; first | done | omega)) only [go_sem, Nat.reduceMul, q5, q8, b1]; (repeat (with_reducible refine And.intro (by first | omega | assumption | rfl) ?_)))
    refine DCalls.of_pure awake13_d ?_
    (simp (disch := first | decide | omega | (simp only [nx]; first | done | omega)) only [go_sem, Nat.reduceMul]; (repeat (with_reducible refine And.intro (by first | omega | assumption | rfl) ?_)))
    refine ⟨?_, (by (repeat' first | assumption | exact St.Sub.refl _ | exact RowOk.sub (by assumption) (by assumption) | refine St.Sub.trans ?_ (RowOk.sub (by assumption) (by assumption)) | refine St.Sub.add ?_ ?_ _ | refine St.Sub.set ?_ ?_ ?_ _ | refine St.Sub.keep ?_ ?_ | refine St.WF.leave ?_ _ | refine St.WF.add ?_ _ | refine St.WF.set ?_ ?_ _ | refine St.WF.grow ?_ _ _ _ | refine St.WF.keep ?_ ?_ | (first | omega | (simp only [RowOk.lo, nx]; first | done | omega))))⟩
    rfl
end Go.Proofs.Ytjjhjhjphhpeiaa

namespace Go.Proofs.Ytjjhjhjphhpeiaa
open Go.ChangeShapes Go.WideShapes Go.ChangeAt Go.RowKit
theorem deltaPaths_own : ownKnob Try.prog.godebug = none := by kernel_rfl
theorem deltaPaths_laidOut : laidOutB Try.prog = true := by kernel_rfl
set_option maxRecDepth 100000 in
theorem deltaPaths_lifted (os : Os) (started : os.Started) (H : Type) (enc : TypeId × Value → H) :
    ReturnsInHanded {} Try.checked os 5 .any (Rows.deltaPathsSpec.pre6 enc Try.prog Try.f5 Rows.deltaPathsRow.domain false) (Rows.deltaPathsSpec.post enc Try.prog Try.f5 false true false false) := by
  refine returnsInHanded_of_change_sized (C := Try.checked) deltaPaths_own started (by kernel_rfl) Try.func5
    (ChangeSpec.witness6 (enc := enc) (C := Try.checked) false ⟨#[], #[.agg #[.int .i64 0, .int .i64 0, .string "".toUTF8, .slice none 0 0, .slice none 0 0, .slice none 0 0], .agg #[.int .i64 0, .int .i64 0, .string "".toUTF8, .slice none 0 0, .slice none 0 0, .slice none 0 0]], []⟩ 8 (by kernel_rfl) (by kernel_rfl) (by kernel_rfl) (by kernel_rfl)) ?_
  intro W base args ds gs before hval0 hW hcnd hsz0 _
  have hval : ∀ (j : Nat) t v, Try.f5.params[j]? = some t → args[j]? = some v → Value.okWide Try.prog W .any base t v := hval0
  have hsz : (DataW.weightsEach Try.prog (Try.f5.params.toList ++ Rows.deltaPathsSpec.plain.varTypes Try.prog) (ds ++ gs)).all (· ≤ reachBytes) = true := hsz0
  have hW' := hW
  obtain ⟨p, q, hA0, hV, rfl, hfz, hnd⟩ := hW
  have hA : DataW.TrodAll enc Try.prog W 0 (fun _ => true) true Try.f5.params.toList args.toList ds p := hA0
  obtain ⟨rfl, rfl⟩ := trodVars_none hV
  rw [Try.params5] at hA hval hsz
  have hA1 := hA
  obtain ⟨v0, vs0, d0, ds0, p0, q0, hargs, rfl, rfl, h0, r0⟩ := trodAll_cons hA
  obtain ⟨v1, vs1, d1, ds1, p1, q1, rfl, rfl, rfl, h1, r1⟩ := trodAll_cons r0
  obtain ⟨rfl, rfl, rfl⟩ := trodAll_nil r1
  obtain rfl : args = #[v0, v1] := by cases args; simp_all
  have z0 : Sized Try.prog 28 d0 := sized_of_each (j := 0) hsz rfl rfl
  have k0 : Value.okWide Try.prog W .any base 28 v0 := hval 0 _ _ rfl rfl
  have z1 : Sized Try.prog 28 d1 := sized_of_each (j := 1) hsz rfl rfl
  have k1 : Value.okWide Try.prog W .any base 28 v1 := hval 1 _ _ rfl rfl
  clear hA0 hval0 hsz hsz0 hval
  have key : Calls Try.prog 5 #[v0, v1] W (Gives (.bool true) W) := by
    obtain ⟨t, ds, rfl, ht⟩ := open_value h0 z0 k0
    obtain ⟨u, es, rfl, hu⟩ := open_value h1 z1 k1
    exact gives_of_dpure (vs := [.agg ds.toArray, .agg es.toArray]) (deltaPaths_d t u ht.ok hu.ok) (by simp only [RepL]; exact ⟨_, _, rfl, rep_val (fun b i _ => fix_nil b i) ht, _, _, rfl, rep_val (fun b i _ => fix_nil b i) hu, rfl⟩)
  refine key.mono fun e W' ⟨he, bel⟩ => ?_
  subst he
  exact ⟨_, rfl, _, _, _, [], _, [], hW', trodAll_mk1 (shut_bool Try.underlying4 _), trodAll_below deltaPaths_laidOut bel (by kernel_rfl) hA1, rfl, bel.frame _, fun h => by cases h⟩

theorem deltaPaths_holds : Rows.DeltaPathsSaid :=
  OpenClaim.holds_of_wide 5 Try.f5 rfl rfl rfl rfl rfl rfl rfl ⟨rfl, rfl, rfl, rfl, rfl⟩ rfl rfl rfl rfl rfl (by kernel_rfl) Try.func5 (by kernel_rfl)
    (of_decide_eq_true (by kernel_rfl)) (by unfold Func.isWrapper; first | (rw [if_pos (by decide +kernel)]; kernel_rfl) | (rw [if_neg (by decide +kernel)]; exact ⟨rfl, rfl⟩))
    (fun os started H enc _ => deltaPaths_lifted os started H enc)
#print axioms deltaPaths_holds
end Go.Proofs.Ytjjhjhjphhpeiaa
