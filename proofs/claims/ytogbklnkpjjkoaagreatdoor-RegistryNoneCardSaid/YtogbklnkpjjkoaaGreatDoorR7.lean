/- Texts of a proof, part 7. Conditions: none. -/
import Derived.Test.YtogbklnkpjjkoaaGreatDoorR6
set_option linter.unusedVariables false
set_option linter.unusedSimpArgs false
namespace Go.Proofs.YtogbklnkpjjkoaaGreatDoor
open Go.RowKit
theorem greatSD (v : DSch) (hok : okS v) : DPure Tryz.prog 8 [encS v] (.v (.bool (greatS v))) := greatS_d v hok
theorem greatVD (v : DVal) (hok : okV v) : DPure Tryz.prog 57 [encV v] (.v (.bool (greatV v))) := greatV_d v hok
theorem roomL_no (k : Nat) (l : DLens) (h : (decide ((l.inner.length : Int) > 2) || decide ((l.pairs.length : Int) > 20) || decide ((l.a.length : Int) > 100) || decide ((l.b.length : Int) > 100) || greatS l.typ || greatV l.base || greatV l.back) = true) : roomL (k + 1) l = false := by
  rw [roomL]
  simp only [Bool.or_eq_true, decide_eq_true_eq] at h
  rcases h with (((((h | h) | h) | h) | h) | h) | h
  · rw [decide_eq_false (show ¬ l.inner.length ≤ 2 by omega)]; simp
  · rw [decide_eq_false (show ¬ l.pairs.length ≤ 20 by omega)]; simp
  · rw [decide_eq_false (show ¬ l.a.length ≤ 100 by omega)]; simp
  · rw [decide_eq_false (show ¬ l.b.length ≤ 100 by omega)]; simp
  · rw [h]; simp
  · rw [h]; simp
  · rw [h]; simp
section
set_option maxRecDepth 200000
set_option maxHeartbeats 8000000
theorem room14_d (k : Nat) (hk : k ≤ 1000) : ∀ l, okL l → DPure Tryz.prog 46 [encL l, .v (.int .i64 ((k : Nat) : Int))] (.v (.bool (roomL k l))) := by
  induction k with
  | zero =>
    intro l hok
    refine dpure_of_dwp mixed Tryz.func46 rfl (fun _ _ => by kernel_rfl) (rs := [.tmp 4]) rfl (by kernel_rfl) trivial (fun S hS => ?_)
    have e0 : (((0 : Nat) : Int) == 0) = true := by decide
    (simp (disch := first | decide | omega | (simp only [nx]; first | done | omega)) only [go_sem, encL_eq l, e0]; (repeat with_reducible refine aI ?_))
    refine ⟨?_, (by (repeat' first | assumption | exact St.Sub.refl _ | exact RowOk.sub (by assumption) (by assumption) | refine St.Sub.trans ?_ (RowOk.sub (by assumption) (by assumption)) | refine St.Sub.add ?_ ?_ _ | refine St.Sub.set ?_ ?_ ?_ _ | refine St.Sub.keep ?_ ?_ | refine St.WF.leave ?_ _ | refine St.WF.add ?_ _ | refine St.WF.set ?_ ?_ _ | refine St.WF.grow ?_ _ _ _ | refine St.WF.keep ?_ ?_ | (first | omega | (simp only [RowOk.lo, nx]; first | done | omega))))⟩
    rfl
  | succ k ih =>
    intro l hok
    have ho := (okL_eq l).1 hok
    have e0 : (((k + 1 : Nat) : Int) == 0) = false := by rw [beq_eq_false_iff_ne]; omega
    refine dpure_of_dwp mixed Tryz.func46 rfl (fun _ _ => by kernel_rfl) (rs := [.tmp 4]) rfl (by kernel_rfl) trivial (fun S hS => ?_)
    cases hb1' : decide ((l.inner.length : Int) > 2) with
    | true =>
      (simp (disch := first | decide | omega | (simp only [nx]; first | done | omega)) only [go_sem, encL_eq l, e0, hb1']; (repeat with_reducible refine aI ?_))
      refine ⟨?_, (by (repeat' first | assumption | exact St.Sub.refl _ | exact RowOk.sub (by assumption) (by assumption) | refine St.Sub.trans ?_ (RowOk.sub (by assumption) (by assumption)) | refine St.Sub.add ?_ ?_ _ | refine St.Sub.set ?_ ?_ ?_ _ | refine St.Sub.keep ?_ ?_ | refine St.WF.leave ?_ _ | refine St.WF.add ?_ _ | refine St.WF.set ?_ ?_ _ | refine St.WF.grow ?_ _ _ _ | refine St.WF.keep ?_ ?_ | (first | omega | (simp only [RowOk.lo, nx]; first | done | omega))))⟩
      rw [show roomL (k + 1) l = false from roomL_no _ _ (by simp only [hb1', Bool.true_or, Bool.or_true, Bool.false_or])]; rfl
    | false =>
    cases hb2 : decide ((l.pairs.length : Int) > 20) with
    | true =>
      (simp (disch := first | decide | omega | (simp only [nx]; first | done | omega)) only [go_sem, encL_eq l, e0, hb1', hb2]; (repeat with_reducible refine aI ?_))
      refine ⟨?_, (by (repeat' first | assumption | exact St.Sub.refl _ | exact RowOk.sub (by assumption) (by assumption) | refine St.Sub.trans ?_ (RowOk.sub (by assumption) (by assumption)) | refine St.Sub.add ?_ ?_ _ | refine St.Sub.set ?_ ?_ ?_ _ | refine St.Sub.keep ?_ ?_ | refine St.WF.leave ?_ _ | refine St.WF.add ?_ _ | refine St.WF.set ?_ ?_ _ | refine St.WF.grow ?_ _ _ _ | refine St.WF.keep ?_ ?_ | (first | omega | (simp only [RowOk.lo, nx]; first | done | omega))))⟩
      rw [show roomL (k + 1) l = false from roomL_no _ _ (by simp only [hb1', hb2, Bool.true_or, Bool.or_true, Bool.false_or])]; rfl
    | false =>
    cases hb3 : decide ((l.a.length : Int) > 100) with
    | true =>
      (simp (disch := first | decide | omega | (simp only [nx]; first | done | omega)) only [go_sem, encL_eq l, e0, hb1', hb2, hb3]; (repeat with_reducible refine aI ?_))
      refine ⟨?_, (by (repeat' first | assumption | exact St.Sub.refl _ | exact RowOk.sub (by assumption) (by assumption) | refine St.Sub.trans ?_ (RowOk.sub (by assumption) (by assumption)) | refine St.Sub.add ?_ ?_ _ | refine St.Sub.set ?_ ?_ ?_ _ | refine St.Sub.keep ?_ ?_ | refine St.WF.leave ?_ _ | refine St.WF.add ?_ _ | refine St.WF.set ?_ ?_ _ | refine St.WF.grow ?_ _ _ _ | refine St.WF.keep ?_ ?_ | (first | omega | (simp only [RowOk.lo, nx]; first | done | omega))))⟩
      rw [show roomL (k + 1) l = false from roomL_no _ _ (by simp only [hb1', hb2, hb3, Bool.true_or, Bool.or_true, Bool.false_or])]; rfl
    | false =>
    cases hb4 : decide ((l.b.length : Int) > 100) with
    | true =>
      (simp (disch := first | decide | omega | (simp only [nx]; first | done | omega)) only [go_sem, encL_eq l, e0, hb1', hb2, hb3, hb4]; (repeat with_reducible refine aI ?_))
      refine ⟨?_, (by (repeat' first | assumption | exact St.Sub.refl _ | exact RowOk.sub (by assumption) (by assumption) | refine St.Sub.trans ?_ (RowOk.sub (by assumption) (by assumption)) | refine St.Sub.add ?_ ?_ _ | refine St.Sub.set ?_ ?_ ?_ _ | refine St.Sub.keep ?_ ?_ | refine St.WF.leave ?_ _ | refine St.WF.add ?_ _ | refine St.WF.set ?_ ?_ _ | refine St.WF.grow ?_ _ _ _ | refine St.WF.keep ?_ ?_ | (first | omega | (simp only [RowOk.lo, nx]; first | done | omega))))⟩
      rw [show roomL (k + 1) l = false from roomL_no _ _ (by simp only [hb1', hb2, hb3, hb4, Bool.true_or, Bool.or_true, Bool.false_or])]; rfl
    | false =>
    (simp (disch := first | decide | omega | (simp only [nx]; first | done | omega)) only [go_sem, encL_eq l, e0, hb1', hb2, hb3, hb4]; (repeat with_reducible refine aI ?_))
    rw [aggS_fold]
    refine DCalls.of_pure (greatSD l.typ ho.2.2.2.1) ?_
    cases hb5 : greatS l.typ with
    | true =>
      (simp (disch := first | decide | omega | (simp only [nx]; first | done | omega)) only [go_sem]; (repeat with_reducible refine aI ?_))
      refine ⟨?_, (by (repeat' first | assumption | exact St.Sub.refl _ | exact RowOk.sub (by assumption) (by assumption) | refine St.Sub.trans ?_ (RowOk.sub (by assumption) (by assumption)) | refine St.Sub.add ?_ ?_ _ | refine St.Sub.set ?_ ?_ ?_ _ | refine St.Sub.keep ?_ ?_ | refine St.WF.leave ?_ _ | refine St.WF.add ?_ _ | refine St.WF.set ?_ ?_ _ | refine St.WF.grow ?_ _ _ _ | refine St.WF.keep ?_ ?_ | (first | omega | (simp only [RowOk.lo, nx]; first | done | omega))))⟩
      rw [show roomL (k + 1) l = false from roomL_no _ _ (by simp only [hb1', hb2, hb3, hb4, hb5, Bool.true_or, Bool.or_true, Bool.false_or])]; rfl
    | false =>
    (simp (disch := first | decide | omega | (simp only [nx]; first | done | omega)) only [go_sem, hb1', hb2, hb3, hb4, hb5]; (repeat with_reducible refine aI ?_))
    rw [aggV_fold]
    refine DCalls.of_pure (greatVD l.base ho.2.2.2.2.1) ?_
    cases hb6 : greatV l.base with
    | true =>
      (simp (disch := first | decide | omega | (simp only [nx]; first | done | omega)) only [go_sem]; (repeat with_reducible refine aI ?_))
      refine ⟨?_, (by (repeat' first | assumption | exact St.Sub.refl _ | exact RowOk.sub (by assumption) (by assumption) | refine St.Sub.trans ?_ (RowOk.sub (by assumption) (by assumption)) | refine St.Sub.add ?_ ?_ _ | refine St.Sub.set ?_ ?_ ?_ _ | refine St.Sub.keep ?_ ?_ | refine St.WF.leave ?_ _ | refine St.WF.add ?_ _ | refine St.WF.set ?_ ?_ _ | refine St.WF.grow ?_ _ _ _ | refine St.WF.keep ?_ ?_ | (first | omega | (simp only [RowOk.lo, nx]; first | done | omega))))⟩
      rw [show roomL (k + 1) l = false from roomL_no _ _ (by simp only [hb1', hb2, hb3, hb4, hb5, hb6, Bool.true_or, Bool.or_true, Bool.false_or])]; rfl
    | false =>
    (simp (disch := first | decide | omega | (simp only [nx]; first | done | omega)) only [go_sem, hb1', hb2, hb3, hb4, hb5, hb6]; (repeat with_reducible refine aI ?_))
    rw [aggV_fold]
    refine DCalls.of_pure (greatVD l.back ho.2.2.2.2.2.1) ?_
    cases hb7 : greatV l.back with
    | true =>
      (simp (disch := first | decide | omega | (simp only [nx]; first | done | omega)) only [go_sem]; (repeat with_reducible refine aI ?_))
      refine ⟨?_, (by (repeat' first | assumption | exact St.Sub.refl _ | exact RowOk.sub (by assumption) (by assumption) | refine St.Sub.trans ?_ (RowOk.sub (by assumption) (by assumption)) | refine St.Sub.add ?_ ?_ _ | refine St.Sub.set ?_ ?_ ?_ _ | refine St.Sub.keep ?_ ?_ | refine St.WF.leave ?_ _ | refine St.WF.add ?_ _ | refine St.WF.set ?_ ?_ _ | refine St.WF.grow ?_ _ _ _ | refine St.WF.keep ?_ ?_ | (first | omega | (simp only [RowOk.lo, nx]; first | done | omega))))⟩
      rw [show roomL (k + 1) l = false from roomL_no _ _ (by simp only [hb1', hb2, hb3, hb4, hb5, hb6, hb7, Bool.true_or, Bool.or_true, Bool.false_or])]; rfl
    | false =>
    (simp (disch := first | decide | omega | (simp only [nx]; first | done | omega)) only [go_sem]; (repeat with_reducible refine aI ?_))
    generalize hX : St.add S _ = S1
    have hs1 : S.Sub S1 := by rw [← hX]; exact (St.Sub.refl S).add hS _
    have hW1 : S1.WF := by rw [← hX]; exact hS.add _
    have hb1 : S1.ob S.next = some (.box 47 [.v (.int .i64 l.kind), D.v (sv l.a), D.v (sv l.b), .v (.int .i64 l.typ.kind), .sl .no (l.typ.words.map strD), .sl .no (l.typ.parts.map encS),
    .v (.int .i64 l.base.kind), .v (.int .i64 l.base.n), D.v (sv l.base.s), .sl .no (l.base.names.map strD), .sl .no (l.base.ids.map u64D), .sl .no (l.base.parts.map encV),
    .v (.int .i64 l.back.kind), .v (.int .i64 l.back.n), D.v (sv l.back.s), .sl .no (l.back.names.map strD), .sl .no (l.back.ids.map u64D), .sl .no (l.back.parts.map encV), .sl .no (l.pairs.map encPr), .sl .no (l.inner.map encL)]) := by rw [← hX]; (first | (simp (disch := first | decide | omega | (simp only [nx]; first | done | omega)) only [go_sem]; first | done | rfl) | rfl)
    clear hX
    have hpl : l.pairs.length ≤ 20 := by have := of_decide_eq_false hb2; omega
    have hil : l.inner.length ≤ 2 := by have := of_decide_eq_false hb1'; omega
    have hroom : roomL (k + 1) l = (l.pairs.all (fun p => !greatV p.1 && !greatV p.2) && l.inner.all (roomL k)) := by
      have h3 := of_decide_eq_false hb3
      have h4 := of_decide_eq_false hb4
      rw [roomL, hb5, hb6, hb7, decide_eq_true hil, decide_eq_true hpl, decide_eq_true (show l.a.length ≤ 100 by omega), decide_eq_true (show l.b.length ≤ 100 by omega)]
      simp
    (refine dloop_st (fun t => List.contains [4, 5, 48, 49, 50, 51, 52, 53, 54, 55, 56, 57, 58, 59, 60, 61, 62, 63, 64, 65, 66, 67, 68, 69, 70] t) (by kernel_rfl) ?_ (l.pairs.length) (fun i f => i ≤ l.pairs.length ∧ f 5 = .v (.int .i64 (i : Nat)) ∧ (∀ j (h : j < l.pairs.length), j < i → (!greatV l.pairs[j].1 && !greatV l.pairs[j].2) = true)) ?_ ?_; (exact (by (repeat' first | assumption | refine St.WF.leave ?_ _ | refine St.WF.add ?_ _ | refine St.WF.set ?_ ?_ _ | refine St.WF.grow ?_ _ _ _ | refine St.WF.keep ?_ ?_ | (first | omega | (simp only [RowOk.lo, nx]; first | done | omega))))); (exact ⟨(by omega), (by (first | (simp (disch := first | decide | omega | (simp only [nx]; first | done | omega)) only [go_sem, hb1]; first | done | rfl) | rfl)), (fun j _ h => absurd h (by omega))⟩); intro i g tn hn hT hg hI; obtain ⟨le, q5, hs⟩ := hI; have q1 := hg 1 rfl; have q2 := hg 2 rfl; simp (disch := first | decide | omega | (simp only [nx]; first | done | omega)) only [go_sem, hb1] at q1 q2; clear hg; have hn' := hn; try simp only [add_next, set_next, grow_next, leave_next, drop_next] at hn')
    have hw1 : IntKind.i64.wrap ((i : Int) + 1) = ((i + 1 : Nat) : Int) := IntWalk.i64_in _ ⟨by omega, by omega⟩
    by_cases hlt : i < l.pairs.length
    · have b1 : decide ((i : Int) < (l.pairs.length : Int)) = true := decide_eq_true (by omega)
      have hxp := getD_map encPr l.pairs i hlt
      have hok2 := ho.2.2.2.2.2.2.1 l.pairs[i] (List.getElem_mem hlt)
      (simp (disch := first | decide | omega | (simp only [nx]; first | done | omega)) only [go_sem, q2, q5, hb1, b1, hxp, encPr_eq, hlt]; (repeat with_reducible refine aI ?_))
      rw [aggV_fold]
      refine DCalls.of_pure (greatVD _ hok2.1) ?_
      cases hx1 : greatV l.pairs[i].1 with
      | true =>
        (simp (disch := first | decide | omega | (simp only [nx]; first | done | omega)) only [go_sem, q2, q5, hb1]; (repeat with_reducible refine aI ?_))
        refine ⟨?_, ⟨Nat.le_trans hs1.next hn, fun _ _ h => hs1.ob _ _ h⟩⟩
        rw [hroom, show l.pairs.all (fun p => !greatV p.1 && !greatV p.2) = false from List.all_eq_false.2 ⟨_, List.getElem_mem hlt, by rw [hx1]; simp⟩]
        rfl
      | false =>
        (simp (disch := first | decide | omega | (simp only [nx]; first | done | omega)) only [go_sem, q2, q5, hb1, hxp, encPr_eq, hlt]; (repeat with_reducible refine aI ?_))
        rw [aggV_fold]
        refine DCalls.of_pure (greatVD _ hok2.2) ?_
        cases hx2 : greatV l.pairs[i].2 with
        | true =>
          (simp (disch := first | decide | omega | (simp only [nx]; first | done | omega)) only [go_sem, q2, q5, hb1]; (repeat with_reducible refine aI ?_))
          refine ⟨?_, ⟨Nat.le_trans hs1.next hn, fun _ _ h => hs1.ob _ _ h⟩⟩
          rw [hroom, show l.pairs.all (fun p => !greatV p.1 && !greatV p.2) = false from List.all_eq_false.2 ⟨_, List.getElem_mem hlt, by rw [hx2]; simp⟩]
          rfl
        | false =>
          (simp (disch := first | decide | omega | (simp only [nx]; first | done | omega)) only [go_sem, q2, q5, hb1, hw1]; (repeat with_reducible refine aI ?_))
          refine ⟨by omega, ⟨hn, fun _ _ h => h⟩, by omega, ?_, fun j hj hji => ?_⟩
          · (first | (simp (disch := first | decide | omega | (simp only [nx]; first | done | omega)) only [go_sem, hw1]; first | done | rfl) | rfl)
          · by_cases e : j = i
            · subst e; rw [hx1, hx2]; rfl
            · exact hs j hj (by omega)
    · have b1 : decide ((i : Int) < (l.pairs.length : Int)) = false := decide_eq_false (by omega)
      (simp (disch := first | decide | omega | (simp only [nx]; first | done | omega)) only [go_sem, q2, q5, hb1, b1]; (repeat with_reducible refine aI ?_))
      have hall : l.pairs.all (fun p => !greatV p.1 && !greatV p.2) = true := List.all_eq_true.2 fun p hp => by
        obtain ⟨j, hj, rfl⟩ := List.getElem_of_mem hp
        exact hs j hj (by omega)
      rw [hall, Bool.true_and] at hroom
      clear hs
      generalize hX : St.mk tn S1.ob = S2
      have hs2 : S.Sub S2 := by rw [← hX]; exact ⟨Nat.le_trans hs1.next hn, fun _ _ h => hs1.ob _ _ h⟩
      have hW2 : S2.WF := by rw [← hX]; assumption
      have hb2' := hb1
      have hb2 : S2.ob S.next = S1.ob S.next := by rw [← hX]
      rw [hb1] at hb2
      clear hX
      (refine dloop_st (fun t => List.contains [4, 6, 71, 72, 73, 74, 75, 76, 77, 78, 79, 80, 81, 82, 83, 84, 85, 86] t) (by kernel_rfl) ?_ (l.inner.length) (fun ic f => ic ≤ l.inner.length ∧ f 6 = .v (.int .i64 (ic : Nat)) ∧ (∀ j (h : j < l.inner.length), j < ic → roomL k l.inner[j] = true)) ?_ ?_; (exact (by (repeat' first | assumption | refine St.WF.leave ?_ _ | refine St.WF.add ?_ _ | refine St.WF.set ?_ ?_ _ | refine St.WF.grow ?_ _ _ _ | refine St.WF.keep ?_ ?_ | (first | omega | (simp only [RowOk.lo, nx]; first | done | omega))))); (exact ⟨(by omega), (by (first | (simp (disch := first | decide | omega | (simp only [nx]; first | done | omega)) only [go_sem, hb2, q2, q1]; first | done | rfl) | rfl)), (fun j _ h => absurd h (by omega))⟩); intro ic gc tnc hnc hTc hgc hIc; obtain ⟨lec, q6c, hs⟩ := hIc; have q1c := hgc 1 rfl; have q2c := hgc 2 rfl; simp (disch := first | decide | omega | (simp only [nx]; first | done | omega)) only [go_sem, hb2, q2, q1] at q1c q2c; clear hgc; have hnc' := hnc; try simp only [add_next, set_next, grow_next, leave_next, drop_next] at hnc')
      have hw2 : IntKind.i64.wrap ((ic : Int) + 1) = ((ic + 1 : Nat) : Int) := IntWalk.i64_in _ ⟨by omega, by omega⟩
      have hwk : IntKind.i64.wrap (((k + 1 : Nat) : Int) - 1) = ((k : Nat) : Int) := (IntWalk.i64_in _ ⟨by omega, by omega⟩).trans (by omega)
      by_cases hlt : ic < l.inner.length
      · have b1 : decide ((ic : Int) < (l.inner.length : Int)) = true := decide_eq_true (by omega)
        have hxp := getD_map encL l.inner ic hlt
        have hok2 := ho.2.2.2.2.2.2.2.2.2 l.inner[ic] (List.getElem_mem hlt)
        (simp (disch := first | decide | omega | (simp only [nx]; first | done | omega)) only [go_sem, q2c, q6c, q1c, hb2, b1, hxp, hlt, hwk]; (repeat with_reducible refine aI ?_))
        refine DCalls.of_pure (ih (by omega) _ hok2) ?_
        cases hx1 : roomL k l.inner[ic] with
        | true =>
          (simp (disch := first | decide | omega | (simp only [nx]; first | done | omega)) only [go_sem, q2c, q6c, hb2, hw2]; (repeat with_reducible refine aI ?_))
          refine ⟨by omega, ⟨hnc, fun _ _ h => h⟩, by omega, ?_, fun j hj hji => ?_⟩
          · (first | (simp (disch := first | decide | omega | (simp only [nx]; first | done | omega)) only [go_sem, hw2]; first | done | rfl) | rfl)
          · by_cases e : j = ic
            · subst e; exact hx1
            · exact hs j hj (by omega)
        | false =>
          (simp (disch := first | decide | omega | (simp only [nx]; first | done | omega)) only [go_sem, q2c, q6c, hb2]; (repeat with_reducible refine aI ?_))
          refine ⟨?_, ⟨Nat.le_trans hs2.next hnc, fun _ _ h => hs2.ob _ _ h⟩⟩
          rw [hroom, show l.inner.all (roomL k) = false from List.all_eq_false.2 ⟨_, List.getElem_mem hlt, by rw [hx1]; simp⟩]
          rfl
      · have b1 : decide ((ic : Int) < (l.inner.length : Int)) = false := decide_eq_false (by omega)
        (simp (disch := first | decide | omega | (simp only [nx]; first | done | omega)) only [go_sem, q2c, q6c, hb2, b1]; (repeat with_reducible refine aI ?_))
        refine ⟨?_, ⟨Nat.le_trans hs2.next hnc, fun _ _ h => hs2.ob _ _ h⟩⟩
        rw [hroom, show l.inner.all (roomL k) = true from List.all_eq_true.2 fun p hp => by
          obtain ⟨j, hj, rfl⟩ := List.getElem_of_mem hp
          exact hs j hj (by omega)]
        rfl
theorem great14_d (l : DLens) (hok : okL l) : DPure Tryz.prog 28 [encL l] (.v (.bool (greatL l))) := by
  refine dpure_of_dwp mixed Tryz.func28 rfl (fun _ _ => by kernel_rfl) (rs := [.tmp 2]) rfl (by kernel_rfl) trivial (fun S hS => ?_)
  (simp (disch := first | decide | omega | (simp only [nx]; first | done | omega)) only [go_sem]; (repeat with_reducible refine aI ?_))
  refine DCalls.of_pure (room14_d 8 (by omega) l hok) ?_
  (simp (disch := first | decide | omega | (simp only [nx]; first | done | omega)) only [go_sem]; (repeat with_reducible refine aI ?_))
  refine ⟨?_, (by (repeat' first | assumption | exact St.Sub.refl _ | exact RowOk.sub (by assumption) (by assumption) | refine St.Sub.trans ?_ (RowOk.sub (by assumption) (by assumption)) | refine St.Sub.add ?_ ?_ _ | refine St.Sub.set ?_ ?_ ?_ _ | refine St.Sub.keep ?_ ?_ | refine St.WF.leave ?_ _ | refine St.WF.add ?_ _ | refine St.WF.set ?_ ?_ _ | refine St.WF.grow ?_ _ _ _ | refine St.WF.keep ?_ ?_ | (first | omega | (simp only [RowOk.lo, nx]; first | done | omega))))⟩
  rfl
end
end Go.Proofs.YtogbklnkpjjkoaaGreatDoor

namespace Go.Proofs.YtogbklnkpjjkoaaGreatDoor
open Go.RowKit
theorem cells_sCs (s : DSch) : (encS s).cells = sCs s := by rw [encS_eq]; rfl
theorem cells_vCs (v : DVal) : (encV v).cells = vCs v := by rw [encV_eq]; rfl
theorem smallS {s : DSch} (h : greatS s = false) : s.weight ≤ 300 ∧ FineS 12 s := by
  have h1 : 0 ≤ roomS 12 s 300 := by have := of_decide_eq_false h; omega
  have h2 := room_spec 12 s 300 h1
  exact ⟨by omega, h2.2⟩
theorem smallV {v : DVal} (h : greatV v = false) : v.weight ≤ 300 ∧ FineV 12 v := by
  have h1 : 0 ≤ roomV 12 v 300 := by have := of_decide_eq_false h; omega
  have h2 := roomV_spec 12 v 300 h1
  exact ⟨by omega, h2.2⟩
structure RoomL (k : Nat) (l : DLens) : Prop where
  inner : l.inner.length ≤ 2
  pairs : l.pairs.length ≤ 20
  a : l.a.length ≤ 100
  b : l.b.length ≤ 100
  typ : greatS l.typ = false
  base : greatV l.base = false
  back : greatV l.back = false
  prs : ∀ p ∈ l.pairs, greatV p.1 = false ∧ greatV p.2 = false
  inn : ∀ x ∈ l.inner, roomL k x = true
theorem roomL_of {k : Nat} {l : DLens} (h : roomL (k + 1) l = true) : RoomL k l := by
  rw [roomL] at h
  simp only [Bool.and_eq_true, decide_eq_true_eq, Bool.not_eq_true', List.all_eq_true] at h
  obtain ⟨⟨⟨⟨⟨⟨⟨⟨h1, h2⟩, h3⟩, h4⟩, h5⟩, h6⟩, h7⟩, h8⟩, h9⟩ := h
  exact ⟨h1, h2, h3, h4, h5, h6, h7, h8, h9⟩
theorem dapp_rowG {P : Program} {S : St} {t e ty : TypeId} {own own2 : Own} {es : List D} {o : D} {K : D → St → Prop} (he : elT P t = some e) (hz : zeroT P e = true) (hy : bytesOf P e ≤ 1000) (h : own = .full ∧ es = [] ∨ ∃ g, own = .row g ∧ S.ob g = some (.row e es.length)) (hl : es.length ≤ 1000000) (hw : ∀ d ∈ es, d.width = szOf P e) (ho : o.width = szOf P e)
    (k : K (.sl (.row S.next) (es ++ [o])) (S.grow own e (es.length + 1))) : dapp P S t t ty (.sl own es) (.sl own2 [o]) K := by
  refine dapp_row ?_
  simp only [dappend, he, hz, true_and, Option.isSome_some, List.length_cons, List.length_nil]
  refine ⟨hw, fun d hd => by obtain rfl := List.mem_singleton.1 hd; exact ho, ?_, by omega, ?_, k⟩
  · rcases h with ⟨rfl, rfl⟩ | ⟨g, rfl, h⟩
    · trivial
    · exact h
  · exact Nat.le_trans (Nat.mul_le_mul_left _ hy) (by omega)
theorem elPr : elT Tryz.prog 44 = some 111 := by kernel_rfl
theorem szPr : szOf Tryz.prog 111 = 12 := by kernel_rfl
theorem byPr : bytesOf Tryz.prog 111 ≤ 1000 := by decide +kernel
theorem zePr : zeroT Tryz.prog 111 = true := by kernel_rfl
theorem elLn : elT Tryz.prog 45 = some 47 := by kernel_rfl
theorem szLn : szOf Tryz.prog 47 = 20 := by kernel_rfl
theorem byLn : bytesOf Tryz.prog 47 ≤ 1000 := by decide +kernel
theorem zeLn : zeroT Tryz.prog 47 = true := by kernel_rfl
def lCs (l : DLens) (ps is : D) : List D := [.v (.int .i64 l.kind), D.v (sv l.a), D.v (sv l.b), .v (.int .i64 l.typ.kind), .sl .no (l.typ.words.map strD), .sl .no (l.typ.parts.map encS),
    .v (.int .i64 l.base.kind), .v (.int .i64 l.base.n), D.v (sv l.base.s), .sl .no (l.base.names.map strD), .sl .no (l.base.ids.map u64D), .sl .no (l.base.parts.map encV),
    .v (.int .i64 l.back.kind), .v (.int .i64 l.back.n), D.v (sv l.back.s), .sl .no (l.back.names.map strD), .sl .no (l.back.ids.map u64D), .sl .no (l.back.parts.map encV), ps, is]
theorem encL_lCs (l : DLens) : encL l = .agg (lCs l (.sl .no (l.pairs.map encPr)) (.sl .no (l.inner.map encL))) := encL_eq l
theorem lCs_len (l : DLens) (x y : D) : (lCs l x y).length = 20 := rfl
theorem lCs_get (l : DLens) (x y : D) : (lCs l x y).getD 18 undefD = x ∧ (lCs l x y).getD 19 undefD = y := ⟨rfl, rfl⟩
theorem encPr_okw (p : DVal × DVal) : (encPr p).width = 12 := rfl
theorem lCs_take (l : DLens) (x y : D) : (lCs l x y).take 20 = lCs l x y := rfl
theorem frz_lCs (l : DLens) (o1 o2 : Own) : (D.agg (lCs l (.sl o1 (l.pairs.map encPr)) (.sl o2 (l.inner.map encL)))).frz = encL l := by
  have h := frz_encL l
  rw [encL_lCs] at h ⊢
  simp only [lCs, D.frz, frzL, frz_mapPr, frz_mapL] at h ⊢
  exact h
theorem lCs_set18 (l : DLens) (x y z : D) : (lCs l x y).take 18 ++ [z] ++ (lCs l x y).drop 19 = lCs l z y := rfl
theorem lCs_set19 (l : DLens) (x y z : D) : (lCs l x y).take 19 ++ [z] ++ (lCs l x y).drop 20 = lCs l x z := rfl
section
set_option maxRecDepth 200000
set_option maxHeartbeats 8000000
theorem copyL_d (k : Nat) : ∀ l, roomL k l = true → okL l → DPure Tryz.prog 43 [encL l] (encL l) := by
  induction k with
  | zero => intro l h; cases h
  | succ k ih =>
    intro l hroom hok
    have hr := roomL_of hroom
    have ho := (okL_eq l).1 hok
    refine dpure_of_dwp mixed Tryz.func43 rfl (fun _ _ => by kernel_rfl) (rs := [.cell 2 47]) rfl (by kernel_rfl) (closed_encL l) (fun S hS => ?_)
    (simp (disch := first | decide | omega | (simp only [nx]; first | done | omega)) only [go_sem, encL_eq l]; (repeat with_reducible refine aI ?_))
    refine ddraw_mk 10 (by kernel_rfl) ?_
    (simp (disch := first | decide | omega | (simp only [nx]; first | done | omega)) only [go_sem]; (repeat with_reducible refine aI ?_))
    rw [aggS_fold]
    refine dqgo_mk (schCopy_d l.typ ho.2.2.2.1 (by have := (smallS hr.typ).1; omega)) ?_
    (simp (disch := first | decide | omega | (simp only [nx]; first | done | omega)) only [go_sem]; (repeat with_reducible refine aI ?_))
    rw [aggV_fold]
    refine dqgo_mk (copyV_d l.base.depth l.base (Nat.le_refl _) (by have := (smallV hr.base).1; omega)) ?_
    (simp (disch := first | decide | omega | (simp only [nx]; first | done | omega)) only [go_sem]; (repeat with_reducible refine aI ?_))
    rw [aggV_fold]
    refine dqgo_mk (copyV_d l.back.depth l.back (Nat.le_refl _) (by have := (smallV hr.back).1; omega)) ?_
    (simp (disch := first | decide | omega | (simp only [nx]; first | done | omega)) only [go_sem, cells_sCs, cells_vCs, sCs, vCs]; (repeat with_reducible refine aI ?_))
    generalize hX : St.set (St.set (St.set (St.add (St.add S _) _) _ _) _ _) _ _ = S1
    have hs1 : S.Sub S1 := by rw [← hX]; exact (((((St.Sub.refl S).add hS _).add hS _).set hS (Nat.le_refl _) _).set hS (Nat.le_refl _) _).set hS (Nat.le_refl _) _
    have hW1 : S1.WF := by rw [← hX]; exact (by (repeat' first | assumption | refine St.WF.leave ?_ _ | refine St.WF.add ?_ _ | refine St.WF.set ?_ ?_ _ | refine St.WF.grow ?_ _ _ _ | refine St.WF.keep ?_ ?_ | (first | omega | (simp only [RowOk.lo, nx]; first | done | omega))))
    have hn1 : S1.next = S.next + 2 := by rw [← hX]; rfl
    have hb1 : S1.ob S.next = some (.box 47 (lCs l (.sl .no (l.pairs.map encPr)) (.sl .no (l.inner.map encL)))) := by rw [← hX]; (first | (simp (disch := first | decide | omega | (simp only [nx]; first | done | omega)) only [go_sem, lCs]; first | done | rfl) | rfl)
    obtain ⟨cs2, hb2, hc2⟩ : ∃ cs2, S1.ob (S.next + 1) = some (.box 47 cs2) ∧ cs2.length = 20 := by rw [← hX]; exact ⟨_, by (first | (simp (disch := first | decide | omega | (simp only [nx]; first | done | omega)) only [go_sem]; first | done | rfl) | rfl), rfl⟩
    clear hX
    have hg18 := fun x y => (lCs_get l x y).1
    have hg19 := fun x y => (lCs_get l x y).2
    have hll := fun x y => lCs_len l x y
    refine dloop_up (fun t => List.contains [3, 5, 24, 25, 26, 27, 28, 29, 30, 31, 32, 33, 34, 35, 36, 37, 38] t) (by kernel_rfl) hW1 l.pairs.length (fun i q T => i ≤ l.pairs.length ∧ q 24 = .v (.int .i64 ((i : Nat) : Int)) ∧ S1.Sub T ∧ ∃ own, q 3 = .sl own ((l.pairs.take i).map encPr) ∧ (own = .full ∧ i = 0 ∨ ∃ g, own = .row g ∧ S1.next ≤ g ∧ T.ob g = some (.row 111 i)))
      ⟨Nat.zero_le _, by (first | (simp (disch := first | decide | omega | (simp only [nx]; first | done | omega)) only [go_sem]; first | done | rfl) | rfl), St.Sub.refl _, .full, by (first | (simp (disch := first | decide | omega | (simp only [nx]; first | done | omega)) only [go_sem]; first | done | rfl) | rfl), .inl ⟨rfl, rfl⟩⟩ ?_
    rintro i q T hT hg ⟨le, q24, hsT, own, q3, hrow⟩
    (have q1 := hg 1 rfl; have q2 := hg 2 rfl; have q22 := hg 22 rfl; have q23 := hg 23 rfl; simp (disch := first | decide | omega | (simp only [nx]; first | done | omega)) only [go_sem, hb1, hg18, hll] at q1 q2 q22 q23; clear hg)
    have hbT := hsT.ob _ _ hb1
    have hbT2 := hsT.ob _ _ hb2
    have hnT := hsT.next
    have hpl := hr.pairs
    by_cases hlt : i < l.pairs.length
    · have b1 : decide ((i : Int) < (l.pairs.length : Int)) = true := decide_eq_true (by omega)
      have w1 : IntKind.i64.wrap ((i : Int) + 1) = ((i + 1 : Nat) : Int) := IntWalk.i64_in _ ⟨by omega, by omega⟩
      have hxp := getD_map encPr l.pairs i hlt
      have hpk := hr.prs _ (List.getElem_mem hlt)
      have hx1 := smallV hpk.1
      have hx2 := smallV hpk.2
      (simp (disch := first | decide | omega | (simp only [nx]; first | done | omega)) only [go_sem, q22, q23, q24, b1, hxp, hlt]; (repeat with_reducible refine aI ?_))
      generalize hX : St.set (St.add T _) _ _ = T1
      have hsT1 : T.Sub T1 := by rw [← hX]; exact ((St.Sub.refl T).add hT _).set hT (Nat.le_refl _) _
      have hT1 : T1.WF := by rw [← hX]; exact (by (repeat' first | assumption | refine St.WF.leave ?_ _ | refine St.WF.add ?_ _ | refine St.WF.set ?_ ?_ _ | refine St.WF.grow ?_ _ _ _ | refine St.WF.keep ?_ ?_ | (first | omega | (simp only [RowOk.lo, nx]; first | done | omega))))
      have hnT1 : T1.next = T.next + 1 := by rw [← hX]; rfl
      have hbp : T1.ob T.next = some (.box 111 (vCs l.pairs[i].1 ++ vCs l.pairs[i].2)) := by rw [← hX]; (first | (simp (disch := first | decide | omega | (simp only [nx]; first | done | omega)) only [go_sem, encPr_eq, vCs, List.cons_append, List.nil_append, strD]; first | done | rfl) | rfl)
      clear hX
      refine ddraw_any (fun S' => S'.ob T.next = some (.box 111 (vCs l.pairs[i].1 ++ vCs l.pairs[i].2))) 11 (by (first | (simp (disch := first | decide | omega | (simp only [nx]; first | done | omega)) only [go_sem, hbp]; first | done | rfl) | rfl)) (by kernel_rfl) ?_
      (refine s_take 0 rfl (by kernel_rfl) (by kernel_rfl) (v := ?v1) (fun S' hz => dquietR_of ?h1) <| s_take 1 rfl (by kernel_rfl) (by kernel_rfl) (v := ?v2) (fun S' hz => dquietR_of ?h2) <| s_take 2 rfl (by kernel_rfl) (by kernel_rfl) (v := ?v3) (fun S' hz => dquietR_of ?h3) <| ?k3; (case h1 | h2 | h3 => ((simp (disch := first | decide | omega | (simp only [nx]; first | done | omega)) only [go_sem, q3, hz, vCs, List.cons_append, List.nil_append, aggV_fold, hz]; (repeat with_reducible refine aI ?_)); first | done | exact rfl | omega)))
      (refine s_take 3 rfl (by kernel_rfl) (by kernel_rfl) (v := ?v4) (fun S' hz => dquietR_of ?h4) ?k4; (case h4 => ((simp (disch := first | decide | omega | (simp only [nx]; first | done | omega)) only [go_sem, hz]; (repeat with_reducible refine aI ?_)); refine dqgo_mk (copyV_d _ _ (Nat.le_refl _) (by omega)) ?_; exact rfl)))
      (refine s_take 4 rfl (by kernel_rfl) (by kernel_rfl) (v := ?v5) (fun S' hz => dquietR_of ?h5) <| s_take 5 rfl (by kernel_rfl) (by kernel_rfl) (v := ?v6) (fun S' hz => dquietR_of ?h6) <| ?k6; (case h5 | h6 => ((simp (disch := first | decide | omega | (simp only [nx]; first | done | omega)) only [go_sem, q3, hz, vCs, List.cons_append, List.nil_append, aggV_fold, hz]; (repeat with_reducible refine aI ?_)); first | done | exact rfl | omega)))
      (refine s_take 6 rfl (by kernel_rfl) (by kernel_rfl) (v := ?v7) (fun S' hz => dquietR_of ?h7) ?k7; (case h7 => ((simp (disch := first | decide | omega | (simp only [nx]; first | done | omega)) only [go_sem, hz]; (repeat with_reducible refine aI ?_)); refine dqgo_mk (copyV_d _ _ (Nat.le_refl _) (by omega)) ?_; exact rfl)))
      (refine s_take 7 rfl (by kernel_rfl) (by kernel_rfl) (v := encPr l.pairs[i]) (fun S' hz => dquietR_of (by (simp (disch := first | decide | omega | (simp only [nx]; first | done | omega)) only [go_sem, cells_vCs, vCs, List.cons_append, List.nil_append]; (repeat with_reducible refine aI ?_)); first | done | rfl | omega)) ?_)
      (refine s_take 8 rfl (by kernel_rfl) (by kernel_rfl) (v := ?v8) (fun S' hz => dquietR_of ?h8) ?k8; (case h8 => ((simp (disch := first | decide | omega | (simp only [nx]; first | done | omega)) only [go_sem, q3, encPr_okw, hz]; (repeat with_reducible refine aI ?_)); first | done | exact rfl | omega)))
      (refine s_split [9] (by kernel_rfl) (by simp) ?_; intro j_ hj_; obtain rfl : j_ = 9 := (by simpa using hj_); clear hj_; refine s_op rfl ?_; (simp (disch := first | decide | omega | (simp only [nx]; first | done | omega)) only [go_sem]; (repeat with_reducible refine aI ?_)))
      have hti : ((l.pairs.take i).map encPr).length = i := by rw [List.length_map, List.length_take]; omega
      have hrow1 : own = .full ∧ (l.pairs.take i).map encPr = [] ∨ ∃ g, own = .row g ∧ T1.ob g = some (.row 111 ((l.pairs.take i).map encPr).length) := by
        rw [hti]
        rcases hrow with ⟨e1, e2⟩ | ⟨g, e1, e2, e3⟩
        · exact .inl ⟨e1, by rw [e2]; rfl⟩
        · exact .inr ⟨g, e1, hsT1.ob _ _ e3⟩
      refine dapp_rowG elPr zePr byPr hrow1 (by rw [hti]; omega) (fun d hd => by obtain ⟨x, _, rfl⟩ := List.mem_map.1 hd; rw [szPr]; rfl) (by rw [szPr]; rfl) ?_
      rw [hti]
      have hown : ∀ g, own = .row g → S1.next ≤ g ∧ T1.ob g = some (.row 111 i) := fun g e => by
        rcases hrow with ⟨e1, _⟩ | ⟨g', e1, e2, e3⟩
        · rw [e1] at e; cases e
        · rw [e1] at e; injection e with e; subst e; exact ⟨e2, hsT1.ob _ _ e3⟩
      have z1 : (T1.grow own 111 (i + 1)).ob T.next = some (.box 111 (vCs l.pairs[i].1 ++ vCs l.pairs[i].2)) := growR_keep hT1 hbp fun g e e2 => by
        have := (hown g e).2
        rw [← e2, hbp] at this
        cases this
      refine ⟨z1, ?_⟩
      (refine s_take 10 rfl (by kernel_rfl) (by kernel_rfl) (v := ?v9) (fun S' hz => dquietR_of ?h9) ?k9; (case h9 => ((simp (disch := first | decide | omega | (simp only [nx]; first | done | omega)) only [go_sem, q3, hz]; (repeat with_reducible refine aI ?_)); first | done | exact rfl | omega)))
      (refine s_done (by kernel_rfl) ?_; (simp (disch := first | decide | omega | (simp only [nx]; first | done | omega)) only [go_sem, z1]; (repeat with_reducible refine aI ?_)))
      have hsG : S1.Sub (T1.grow own 111 (i + 1)) := ⟨by rw [grow_next]; have := hsT1.next; omega, fun j' o' e => growR_keep hT1 (hsT1.ob _ _ (hsT.ob _ _ e)) fun g eg ej => by
        have := (hown g eg).1
        have := hW1.lt e
        omega⟩
      have hnew : (T1.grow own 111 (i + 1)).ob T1.next = some (.row 111 (i + 1)) := growR_new
      (simp (disch := first | decide | omega | (simp only [nx]; first | done | omega)) only [go_sem, q24, w1]; (repeat with_reducible refine aI ?_))
      refine ⟨by omega, _, fun _ _ h => h, by omega, by (first | (simp (disch := first | decide | omega | (simp only [nx]; first | done | omega)) only [go_sem, w1]; first | done | rfl) | rfl), hsG, .row T1.next, ?_, .inr ⟨T1.next, rfl, by have := hsT1.next; omega, hnew⟩⟩
      rw [List.take_succ_eq_append_getElem hlt, List.map_append]
      rfl
    · have b1 : decide ((i : Int) < (l.pairs.length : Int)) = false := decide_eq_false (by omega)
      (simp (disch := first | decide | omega | (simp only [nx]; first | done | omega)) only [go_sem, q1, q3, q22, q23, q24, b1, hbT, hg19, hll]; (repeat with_reducible refine aI ?_))
      have hie : i = l.pairs.length := by omega
      rw [hie, List.take_length] at q3
      clear hrow hlt b1
      have hil := hr.inner
      have hnS := hn1
      refine dloop_up (fun t => List.contains [6, 8, 42, 43, 44, 45, 46, 47, 48, 49, 50, 51] t) (by kernel_rfl) hT l.inner.length (fun ic qc U => ic ≤ l.inner.length ∧ qc 42 = .v (.int .i64 ((ic : Nat) : Int)) ∧ S1.Sub U ∧ T.next ≤ U.next ∧ ∃ own2, qc 6 = .sl own2 ((l.inner.take ic).map encL) ∧ (own2 = .full ∧ ic = 0 ∨ ∃ g, own2 = .row g ∧ T.next ≤ g ∧ U.ob g = some (.row 47 ic)))
        ⟨Nat.zero_le _, by (first | (simp (disch := first | decide | omega | (simp only [nx]; first | done | omega)) only [go_sem]; first | done | rfl) | rfl), hsT, Nat.le_refl _, .full, by (first | (simp (disch := first | decide | omega | (simp only [nx]; first | done | omega)) only [go_sem]; first | done | rfl) | rfl), .inl ⟨rfl, rfl⟩⟩ ?_
      rintro ic qc U hU hgc ⟨lec, q42, hsU, hTU, own2, q6, hrow2⟩
      (have q1c := hgc 1 rfl; have q2c := hgc 2 rfl; have q3c := hgc 3 rfl; have q40c := hgc 40 rfl; have q41c := hgc 41 rfl; simp (disch := first | decide | omega | (simp only [nx]; first | done | omega)) only [go_sem, hbT, hg19, hll, q1, q2, q3] at q1c q2c q3c q40c q41c; clear hgc)
      have hbU := hsU.ob _ _ hb1
      have hbU2 := hsU.ob _ _ hb2
      have hnU := hsU.next
      by_cases hlt : ic < l.inner.length
      · have b1 : decide ((ic : Int) < (l.inner.length : Int)) = true := decide_eq_true (by omega)
        have w1 : IntKind.i64.wrap ((ic : Int) + 1) = ((ic + 1 : Nat) : Int) := IntWalk.i64_in _ ⟨by omega, by omega⟩
        have hxp := getD_map encL l.inner ic hlt
        (simp (disch := first | decide | omega | (simp only [nx]; first | done | omega)) only [go_sem, q40c, q41c, q42, q6, b1, hxp, hlt]; (repeat with_reducible refine aI ?_))
        refine DCalls.of_pure (ih _ (hr.inn _ (List.getElem_mem hlt)) (ho.2.2.2.2.2.2.2.2.2 _ (List.getElem_mem hlt))) ?_
        (simp (disch := first | decide | omega | (simp only [nx]; first | done | omega)) only [go_sem, q40c, q41c, q42, q6]; (repeat with_reducible refine aI ?_))
        generalize hX : St.set (St.add U _) _ _ = U1
        have hsU1 : U.Sub U1 := by rw [← hX]; exact ((St.Sub.refl U).add hU _).set hU (Nat.le_refl _) _
        have hU1 : U1.WF := by rw [← hX]; exact (by (repeat' first | assumption | refine St.WF.leave ?_ _ | refine St.WF.add ?_ _ | refine St.WF.set ?_ ?_ _ | refine St.WF.grow ?_ _ _ _ | refine St.WF.keep ?_ ?_ | (first | omega | (simp only [RowOk.lo, nx]; first | done | omega))))
        clear hX
        have hti : ((l.inner.take ic).map encL).length = ic := by rw [List.length_map, List.length_take]; omega
        have hrow1 : own2 = .full ∧ (l.inner.take ic).map encL = [] ∨ ∃ g, own2 = .row g ∧ U1.ob g = some (.row 47 ((l.inner.take ic).map encL).length) := by
          rw [hti]
          rcases hrow2 with ⟨e1, e2⟩ | ⟨g, e1, e2, e3⟩
          · exact .inl ⟨e1, by rw [e2]; rfl⟩
          · exact .inr ⟨g, e1, hsU1.ob _ _ e3⟩
        refine dapp_rowG elLn zeLn byLn hrow1 (by rw [hti]; omega) (fun d hd => by obtain ⟨x, _, rfl⟩ := List.mem_map.1 hd; rw [szLn]; exact width_encL x) (by rw [szLn]; exact width_encL _) ?_
        rw [hti]
        have hown : ∀ g, own2 = .row g → T.next ≤ g := fun g e => by
          rcases hrow2 with ⟨e1, _⟩ | ⟨g', e1, e2, e3⟩
          · rw [e1] at e; cases e
          · rw [e1] at e; injection e with e; subst e; exact e2
        have hsG : S1.Sub (U1.grow own2 47 (ic + 1)) := ⟨by rw [grow_next]; have := hsU1.next; omega, fun j' o' e => growR_keep hU1 (hsU1.ob _ _ (hsU.ob _ _ e)) fun g eg ej => by
          have := hown g eg
          have := hW1.lt e
          have := hsT.next
          omega⟩
        have hnew : (U1.grow own2 47 (ic + 1)).ob U1.next = some (.row 47 (ic + 1)) := growR_new
        have hnU1 := hsU1.next
        (simp (disch := first | decide | omega | (simp only [nx]; first | done | omega)) only [go_sem, q40c, q41c, q42, q6, w1]; (repeat with_reducible refine aI ?_))
        refine ⟨by omega, _, fun _ _ h => h, by omega, by (first | (simp (disch := first | decide | omega | (simp only [nx]; first | done | omega)) only [go_sem, w1]; first | done | rfl) | rfl), hsG, ?_, .row U1.next, ?_, .inr ⟨U1.next, rfl, by omega, hnew⟩⟩
        · show T.next ≤ (U1.grow own2 47 (ic + 1)).next
          rw [grow_next]; omega
        · simp (disch := first | decide | omega | (simp only [nx]; first | done | omega)) only [go_sem]
          rw [List.take_succ_eq_append_getElem hlt, List.map_append]
          rfl
      · have b1 : decide ((ic : Int) < (l.inner.length : Int)) = false := decide_eq_false (by omega)
        have hie2 : ic = l.inner.length := by omega
        rw [hie2, List.take_length] at q6
        have hs18 := lCs_set18 l
        have hs19 := lCs_set19 l
        have htk := lCs_take l
        have hdr : cs2.drop 20 = [] := List.drop_of_length_le (by omega)
        (simp (disch := first | decide | omega | (simp only [nx]; first | done | omega)) only [go_sem, q40c, q41c, q42, q6, b1, q1c, q2c, q3c, hbU, hbU2, hs18, hs19, hll, hc2, htk, hdr, List.append_nil]; (repeat with_reducible refine aI ?_))
        refine ⟨?_, ((hs1.trans hsU).set hS (Nat.le_refl _) _ |>.set hS (Nat.le_refl _) _).set hS (Nat.le_succ _) _⟩
        exact (frz_lCs l _ _).trans (encL_eq l)
end
end Go.Proofs.YtogbklnkpjjkoaaGreatDoor

namespace Go.Proofs.YtogbklnkpjjkoaaGreatDoor
open Go.RowKit
set_option maxHeartbeats 4000000 in
set_option maxRecDepth 20000 in
theorem ins_str {S : St} {k c i n : Nat} {es zs : List D} {x : D} {o : Own} {K : D → St → Prop} (hk : S.ob k = some (ownOb 9 es zs c)) (hl : (flat es ++ zs).length = c * 1) (hw : ∀ d ∈ es, d.width = 1) (hx : x.width = 1) (hi : i ≤ es.length) (hn : es.length ≤ 1073741824) (hkn : k < S.next) (hnn : n = es.length)
    (h : ∀ (c' : Nat) (zs' : List D), es.length + 1 ≤ c' → (flat (es.take i ++ [x] ++ es.drop i) ++ zs').length = c' * 1 → K (.win S.next 0 (n + 1) c') ((S.drop k).add (ownOb 9 (es.take i ++ [x] ++ es.drop i) zs' c'))) :
    DCalls Tryz.prog 115 [.win k 0 n c, .v (.int .i64 i), .sl o [x]] S K := by
  subst hnn
  have hc := ownOb_len hw (by omega) hl
  have heT : elT Tryz.prog 22 = some 9 := by kernel_rfl
  have heS : (elT Tryz.prog 22).isSome = true := by rw [heT]; rfl
  have hsz : szOf Tryz.prog 9 = 1 := by kernel_rfl
  have hby : bytesOf Tryz.prog 9 = 16 := by kernel_rfl
  have hzT : zeroT Tryz.prog 9 = true := by kernel_rfl
  have hzO : zeroOk Tryz.prog 9 = true := by kernel_rfl
  have hiS := (zeroT_pos hzT).2
  refine DCalls.thaw ?_
  refine dcalls_inline mixed Tryz.func115 rfl (fun _ _ => by kernel_rfl) (rs := [.tmp 6]) rfl (by kernel_rfl) (fun hS => ?_)
  have hwr : IntKind.i64.wrap ((es.length : Int) + ((1 : Nat) : Int)) = ((es.length + 1 : Nat) : Int) := by rw [IntKind.wrap_i64]; omega
  have h10 : (((1 : Nat) : Int) == 0) = false := by decide
  by_cases hin : i = es.length
  · subst hin
    have b1 : ((es.length : Int) == (es.length : Int)) = true := by simp
    (simp (disch := first | decide | omega | (simp only [nx]; first | done | omega)) only [go_sem, hwr, h10, b1]; (repeat with_reducible refine aI ?_))
    refine dappend_own heT heS hzT hzO hk (by rw [hsz]; exact hl) (by rw [hsz]; exact hw) (es2 := [x]) (srcOk_one (by rw [hsz]; exact hx)) rfl (by simp; omega) (by rw [hby]; simp; omega) hkn fun c' zs' h1 h2 => ?_
    (simp (disch := first | decide | omega | (simp only [nx]; first | done | omega)) only [go_sem]; (repeat with_reducible refine aI ?_))
    refine ⟨_, _, Thaw.refl _ _ _, ?_⟩
    have := h c' zs' h1
    rw [List.take_of_length_le (Nat.le_refl _), List.drop_of_length_le (Nat.le_refl _), List.append_nil] at this
    exact this (by rw [hsz] at h2; exact h2)
  · have b1 : ((i : Int) == (es.length : Int)) = false := by simp; omega
    have hcap : 0 < c := by omega
    have hk0 := hk
    rw [ownOb_box hcap] at hk
    by_cases hgr : c < es.length + 1
    · have b2 : decide ((c : Int) < ((es.length + 1 : Nat) : Int)) = true := by simp; omega
      have hwr2 : IntKind.i64.wrap (((es.length + 1 : Nat) : Int) - (i : Int)) = ((es.length + 1 - i : Nat) : Int) := by rw [IntKind.wrap_i64]; omega
      have hwr3 : IntKind.i64.wrap ((i : Int) + ((1 : Nat) : Int)) = ((i + 1 : Nat) : Int) := by rw [IntKind.wrap_i64]; omega
      (simp (disch := first | decide | omega | (simp only [nx]; first | done | omega)) only [go_sem, hwr, h10, b1, b2, hwr2]; (repeat with_reducible refine aI ?_))
      have hso := srcOk_own0 (c' := c) hk0 hc hw hi
      refine dappend_zeros heT (kk := .i64) (by kernel_rfl) hzT hzO hso (by omega) (by omega) (by omega) (by rw [hby]; omega) fun c' zs' h1 h2 => ?_
      have hfx : (flat [x]).length = 1 := by simpa [flat, D.width] using hx
      have hfB : (flat (es.take i)).length = i * 1 := by rw [dflat_length fun d hd => hw d (List.mem_of_mem_take hd), List.length_take]; congr 1; omega
      have hfC : (flat (es.drop i)).length = (es.length - i) * 1 := by rw [dflat_length fun d hd => hw d (List.mem_of_mem_drop hd), List.length_drop]
      rw [hsz] at h2
      (simp (disch := first | decide | omega | (simp only [nx]; first | done | omega)) only [go_sem, winOff_lt]; (repeat with_reducible refine aI ?_))
      have hmin : Nat.min 1 (i + (es.length + 1 - i) - i) = 1 := by show min _ _ = _; omega
      have hzl : 1 ≤ zs'.length := by rw [List.length_append, hfB] at h2; omega
      refine dcopy_win heT hiS (m := 1) (cs := flat (es.take i) ++ zs') (bt := 9) (news := flat [x]) (by (first | (simp (disch := first | decide | omega | (simp only [nx]; first | done | omega)) only [go_sem]; first | done | rfl) | rfl)) (srcOk_one (by rw [hsz]; exact hx)) (by rw [hsz, h2, hmin]; omega) (cs' := flat (es.take i) ++ flat [x] ++ zs'.drop 1) (by rw [hsz, hmin, List.take_of_length_le (l := flat [x]) (by omega), splice_at (by rw [hfB]), hfx]) ?_
      (simp (disch := first | decide | omega | (simp only [nx]; first | done | omega)) only [go_sem, winOff_lt, hwr3]; (repeat with_reducible refine aI ?_))
      refine ddraw_mk 8 (by kernel_rfl) ?_
      (simp (disch := first | decide | omega | (simp only [nx]; first | done | omega)) only [go_sem, winOff_lt, hwr3]; (repeat with_reducible refine aI ?_))
      have hmin2 : Nat.min (es.length - i) (i + (es.length + 1 - i) - (i + 1)) = es.length - i := by show min _ _ = _; omega
      have hso2 := srcOk_own (S := (S.add (.box 9 (flat (es.take i) ++ zs'))).set S.next (.box 9 (flat (es.take i) ++ flat [x] ++ zs'.drop 1))) (l := i) (n := es.length - i) (c' := c - i) (k := k) (c := c) (e := 9) (es := es) (zs := zs) (z := 1) (by (first | (simp (disch := first | decide | omega | (simp only [nx]; first | done | omega)) only [go_sem, hk0]; first | done | rfl) | rfl)) hc hw (by omega)
      rw [List.take_of_length_le (l := es.drop i) (by rw [List.length_drop]; omega)] at hso2
      refine dcopy_win heT hiS (m := es.length - i) (cs := flat (es.take i) ++ flat [x] ++ zs'.drop 1) (bt := 9) (news := flat (es.drop i)) (by (first | (simp (disch := first | decide | omega | (simp only [nx]; first | done | omega)) only [go_sem]; first | done | rfl) | rfl)) (by rw [hsz]; exact hso2) (by rw [hsz, hmin2]; simp only [List.length_append, hfB, hfx, List.length_drop]; rw [List.length_append, hfB] at h2; omega) (cs' := flat (es.take i ++ [x] ++ es.drop i) ++ (zs'.drop 1).drop ((es.length - i) * 1)) (by rw [hsz, hmin2, List.take_of_length_le (l := flat (es.drop i)) (by omega), splice_at (by rw [List.length_append, hfB, hfx]; omega), hfC, flat_append, flat_append]) ?_
      (simp (disch := first | decide | omega | (simp only [nx]; first | done | omega)) only [go_sem]; (repeat with_reducible refine aI ?_))
      refine ⟨_, _, thaw_drop k _, ?_⟩
      rw [St.add_set, St.add_set, St.add_drop _ _ hkn]
      have e1 : i + (es.length + 1 - i) = es.length + 1 := by omega
      rw [e1] at h1 ⊢
      have := h c' (List.drop ((es.length - i) * 1) (List.drop 1 zs')) h1 (by
        simp only [List.length_append, flat_append, hfB, hfC, hfx, List.length_drop]
        rw [List.length_append, hfB] at h2
        omega)
      rw [ownOb_box (by omega)] at this
      exact this
    · have b2 : decide ((c : Int) < ((es.length + 1 : Nat) : Int)) = false := by simp; omega
      have hwr3 : IntKind.i64.wrap ((i : Int) + ((1 : Nat) : Int)) = ((i + 1 : Nat) : Int) := by rw [IntKind.wrap_i64]; omega
      (simp (disch := first | decide | omega | (simp only [nx]; first | done | omega)) only [go_sem, hwr, hwr3, h10, b1, b2, winOff_lt]; (repeat with_reducible refine aI ?_))
      refine doverlaps (tr := 4) Tryz.func146 (by kernel_rfl) (by kernel_rfl) (by kernel_rfl) (by kernel_rfl) heT hiS hk (fun e => by rw [e] at hl; simp at hl; omega) ?_
      (simp (disch := first | decide | omega | (simp only [nx]; first | done | omega)) only [go_sem, winOff_lt]; (repeat with_reducible refine aI ?_))
      refine ddraw_mk 8 (by kernel_rfl) ?_
      (simp (disch := first | decide | omega | (simp only [nx]; first | done | omega)) only [go_sem, winOff_lt, hwr3]; (repeat with_reducible refine aI ?_))
      have hfx : (flat [x]).length = 1 := by simpa [flat, D.width] using hx
      have hfB : (flat (es.take i)).length = i * 1 := by rw [dflat_length fun d hd => hw d (List.mem_of_mem_take hd), List.length_take]; congr 1; omega
      have hfC : (flat (es.drop i)).length = (es.length - i) * 1 := by rw [dflat_length fun d hd => hw d (List.mem_of_mem_drop hd), List.length_drop]
      have hff : flat es = flat (es.take i) ++ flat (es.drop i) := by rw [← flat_append, List.take_append_drop]
      have hzl : 1 ≤ zs.length := by rw [List.length_append, hff, List.length_append, hfB, hfC] at hl; omega
      have hmin : Nat.min (es.length + 1 - i) (es.length + 1 - (i + 1)) = es.length - i := by show min _ _ = _; omega
      obtain ⟨cs1, hcs1⟩ : ∃ cs1, splice (flat es ++ zs) ((i + 1) * 1) (flat (es.drop i)) = cs1 := ⟨_, rfl⟩
      have hcl : cs1.length = c * 1 := by rw [← hcs1, splice_len, hl]; rw [hl, hfC]; omega
      refine dcopy_win heT hiS (m := es.length + 1 - i) hk (srcOk_win hk (by rw [hsz, hl]; omega)) (by rw [hsz, hmin, hl]; omega) (cs' := cs1) (by
        rw [hsz, hmin, ← hcs1, List.take_take, Nat.min_eq_left (by omega), List.drop_append_of_le_length (by rw [hff, List.length_append, hfB]; omega), flat_drop hw, List.take_append_of_le_length (by omega), List.take_of_length_le (by omega)]) ?_
      (simp (disch := first | decide | omega | (simp only [nx]; first | done | omega)) only [go_sem, winOff_lt, hwr3]; (repeat with_reducible refine aI ?_))
      have hmin2 : Nat.min 1 (es.length + 1 - i) = 1 := by show min _ _ = _; omega
      refine dcopy_win heT hiS (m := 1) (cs := cs1) (bt := 9) (news := flat [x]) (by (first | (simp (disch := first | decide | omega | (simp only [nx]; first | done | omega)) only [go_sem]; first | done | rfl) | rfl)) (srcOk_one (by rw [hsz]; exact hx)) (by rw [hsz, hmin2, hcl]; omega) (cs' := flat (es.take i ++ [x] ++ es.drop i) ++ zs.drop 1) (by rw [hsz, hmin2, List.take_of_length_le (l := flat [x]) (by omega), ← hcs1, hff, ins_old (by rw [hfB]) (by rw [hfB, hfx]; omega) (by omega), hfx, flat_append, flat_append]) ?_
      (simp (disch := first | decide | omega | (simp only [nx]; first | done | omega)) only [go_sem]; (repeat with_reducible refine aI ?_))
      rw [St.set_set]
      refine ⟨_, _, thaw_rename (o := .box 9 (flat (es.take i ++ [x] ++ es.drop i) ++ zs.drop 1)) (by simp [St.set]), ?_⟩
      rw [St.set_drop]
      have := h c (zs.drop 1) (by omega) (by
        simp only [List.length_append, flat_append, hfB, hfC, hfx, List.length_drop]
        rw [List.length_append, hff, List.length_append, hfB, hfC] at hl
        omega)
      rw [ownOb_box (by omega)] at this
      exact this

end Go.Proofs.YtogbklnkpjjkoaaGreatDoor

namespace Go.Proofs.YtogbklnkpjjkoaaGreatDoor
open Go.RowKit
theorem wSs (l : List Str) : ∀ d ∈ l.map strD, d.width = 1 := fun d hd => by obtain ⟨p, _, rfl⟩ := List.mem_map.1 hd; rfl
theorem szS : szOf Tryz.prog 9 = 1 := by kernel_rfl
theorem byS : bytesOf Tryz.prog 9 = 16 := by kernel_rfl
end Go.Proofs.YtogbklnkpjjkoaaGreatDoor

namespace Go.Proofs.YtogbklnkpjjkoaaGreatDoor
open Go.RowKit
section
variable {P : Program} {base : Nat} {S : St} {η : Names} {w : World}
theorem flat_vs {α : Type} (g : α → Value) (l : List α) : flat (l.map fun a => D.v (g a)) = l.map fun a => D.v (g a) := by
  induction l with
  | nil => rfl
  | cons a l ih =>
    have : flat ((a :: l).map fun a => D.v (g a)) = D.v (g a) :: flat (l.map fun a => D.v (g a)) := by simp [flat, D.cells]
    rw [this, ih]
    rfl
theorem win_scalars {α : Type} (g : α → Value) (hM : Mem P base S η w) {k c : Nat} {e : TypeId} {l : List α} {zs : List D} {y : Value} (hk : S.ob k = some (ownOb e (l.map fun a => D.v (g a)) zs c)) (hc : l.length ≤ c) (h : Rep P w η (Fix P S η) (.win k 0 l.length c) y) :
    ∃ A, y = .slice A l.length c ∧ RF w (· < w.heap.size) 1 A l.length (l.map g) := by
  obtain ⟨us, ⟨⟨A, c', rfl, _, hA⟩, h2, h3⟩, h4⟩ := srcOk_at hM (z := 1) (m := l.length) (news := flat (l.map fun a => D.v (g a))) (by
    have := srcOk_ownA (z := 1) (c' := c) hk (by rw [List.length_map]; exact hc) (fun d hd => by obtain ⟨a, _, rfl⟩ := List.mem_map.1 hd; rfl)
    rwa [List.length_map] at this) h
  rw [flat_vs] at h4
  have hus : us = l.map g := by
    have : ∀ (l : List α) (us : List Value), RepL P w η (Fix P S η) (l.map fun a => D.v (g a)) us → us = l.map g := by
      intro l
      induction l with
      | nil => intro us h; simp only [List.map_nil, RepL] at h; simp [h]
      | cons a l ih =>
        intro us h
        simp only [List.map_cons, RepL, Rep] at h
        obtain ⟨x, xs, rfl, rfl, h⟩ := h
        rw [ih xs h]; rfl
    exact this l us h4
  subst hus
  obtain ⟨A', e1, _⟩ := h.win_slice
  injection e1 with e1 _ e2
  subst e2
  refine ⟨A, rfl, by simp, fun h0 => ?_⟩
  rcases hA with ⟨_, h0'⟩ | ⟨a, rfl, ha⟩
  · omega
  · have hr := h
    simp only [Rep] at hr
    rcases hr with ⟨b, hb, e, _⟩ | ⟨_, h0', _⟩
    · injection e with e
      injection e with e
      subst e
      refine ⟨b, 0, rfl, (hM.in_ k b hb).2, fun j u hu => ?_⟩
      have := ha j u hu
      rwa [Addr.add_mid] at this
    · omega
end
theorem strIndex_w {S : St} {k c : Nat} {zs : List D} {K : D → St → Prop} (l : List Str) (x : Str) (hn : l.length ≤ 140737488351232) (hk : S.ob k = some (ownOb 9 (l.map strD) zs c)) (hc : l.length ≤ c) (h : K (.v (.int .i64 (ixI l x))) S) :
    DCalls Tryz.prog 105 [.win k 0 l.length c, .v (sv x)] S K := fun base η w vs hM hr => by
  simp only [RepL] at hr
  obtain ⟨y, ys, rfl, h1, z, zs, rfl, h2, rfl⟩ := hr
  obtain ⟨A, rfl, hf⟩ := win_scalars sv hM hk hc h1
  simp only [Rep] at h2
  subst h2
  refine .inl ⟨by kernel_rfl, (strIndex_calls l x A c w hf hn).mono fun e w' ⟨he, hw⟩ => ?_⟩
  subst hw
  exact ⟨_, S, η, _, h, idxP_ix he, by simp only [Rep], Goes.refl hM⟩
end Go.Proofs.YtogbklnkpjjkoaaGreatDoor

namespace Go.Proofs.YtogbklnkpjjkoaaGreatDoor
open Go.RowKit
def gtN (l : List Str) (x : Str) : Nat := l.findIdx fun s => sLt x s
def gtI (l : List Str) (x : Str) : Int := if gtN l x < l.length then (gtN l x : Int) else -1
theorem getD_strs {l : List Str} {zs : List D} {i : Nat} (h : i < l.length) : (flat (l.map strD) ++ zs).getD i undefD = .v (sv l[i]) := by
  have : flat (l.map strD) = l.map strD := flat_vs sv l
  rw [this, List.getD_eq_getElem?_getD, List.getElem?_append_left (by simpa using h), List.getElem?_map, List.getElem?_eq_getElem h]
  rfl
theorem len_strs (l : List Str) (zs : List D) : (flat (l.map strD) ++ zs).length = l.length + zs.length := by
  have : flat (l.map strD) = l.map strD := flat_vs sv l
  rw [this, List.length_append, List.length_map]
theorem gt_sLt (a b : Str) : (!(Op.bytesLess a b || a == b)) = sLt b a := by
  have := leq_not a b
  rw [this]; simp
end Go.Proofs.YtogbklnkpjjkoaaGreatDoor

namespace Go.Proofs.YtogbklnkpjjkoaaGreatDoor
open Go.RowKit
set_option maxHeartbeats 4000000 in
set_option maxRecDepth 20000 in
theorem ins_sch {S : St} {k c i n : Nat} {es zs : List D} {x : D} {o : Own} {K : D → St → Prop} (hk : S.ob k = some (ownOb 25 es zs c)) (hl : (flat es ++ zs).length = c * 3) (hw : ∀ d ∈ es, d.width = 3) (hx : x.width = 3) (hi : i ≤ es.length) (hn : es.length ≤ 1073741824) (hkn : k < S.next) (hnn : n = es.length)
    (h : ∀ (c' : Nat) (zs' : List D), es.length + 1 ≤ c' → (flat (es.take i ++ [x] ++ es.drop i) ++ zs').length = c' * 3 → K (.win S.next 0 (n + 1) c') ((S.drop k).add (ownOb 25 (es.take i ++ [x] ++ es.drop i) zs' c'))) :
    DCalls Tryz.prog 116 [.win k 0 n c, .v (.int .i64 i), .sl o [x]] S K := by
  subst hnn
  have hc := ownOb_len hw (by omega) hl
  have heT : elT Tryz.prog 23 = some 25 := by kernel_rfl
  have heS : (elT Tryz.prog 23).isSome = true := by rw [heT]; rfl
  have hsz : szOf Tryz.prog 25 = 3 := by kernel_rfl
  have hby : bytesOf Tryz.prog 25 = 56 := by kernel_rfl
  have hzT : zeroT Tryz.prog 25 = true := by kernel_rfl
  have hzO : zeroOk Tryz.prog 25 = true := by kernel_rfl
  have hiS := (zeroT_pos hzT).2
  refine DCalls.thaw ?_
  refine dcalls_inline mixed Tryz.func116 rfl (fun _ _ => by kernel_rfl) (rs := [.tmp 6]) rfl (by kernel_rfl) (fun hS => ?_)
  have hwr : IntKind.i64.wrap ((es.length : Int) + ((1 : Nat) : Int)) = ((es.length + 1 : Nat) : Int) := by rw [IntKind.wrap_i64]; omega
  have h10 : (((1 : Nat) : Int) == 0) = false := by decide
  by_cases hin : i = es.length
  · subst hin
    have b1 : ((es.length : Int) == (es.length : Int)) = true := by simp
    (simp (disch := first | decide | omega | (simp only [nx]; first | done | omega)) only [go_sem, hwr, h10, b1]; (repeat with_reducible refine aI ?_))
    refine dappend_own heT heS hzT hzO hk (by rw [hsz]; exact hl) (by rw [hsz]; exact hw) (es2 := [x]) (srcOk_one (by rw [hsz]; exact hx)) rfl (by simp; omega) (by rw [hby]; simp; omega) hkn fun c' zs' h1 h2 => ?_
    (simp (disch := first | decide | omega | (simp only [nx]; first | done | omega)) only [go_sem]; (repeat with_reducible refine aI ?_))
    refine ⟨_, _, Thaw.refl _ _ _, ?_⟩
    have := h c' zs' h1
    rw [List.take_of_length_le (Nat.le_refl _), List.drop_of_length_le (Nat.le_refl _), List.append_nil] at this
    exact this (by rw [hsz] at h2; exact h2)
  · have b1 : ((i : Int) == (es.length : Int)) = false := by simp; omega
    have hcap : 0 < c := by omega
    have hk0 := hk
    rw [ownOb_box hcap] at hk
    by_cases hgr : c < es.length + 1
    · have b2 : decide ((c : Int) < ((es.length + 1 : Nat) : Int)) = true := by simp; omega
      have hwr2 : IntKind.i64.wrap (((es.length + 1 : Nat) : Int) - (i : Int)) = ((es.length + 1 - i : Nat) : Int) := by rw [IntKind.wrap_i64]; omega
      have hwr3 : IntKind.i64.wrap ((i : Int) + ((1 : Nat) : Int)) = ((i + 1 : Nat) : Int) := by rw [IntKind.wrap_i64]; omega
      (simp (disch := first | decide | omega | (simp only [nx]; first | done | omega)) only [go_sem, hwr, h10, b1, b2, hwr2]; (repeat with_reducible refine aI ?_))
      have hso := srcOk_own0 (c' := c) hk0 hc hw hi
      refine dappend_zeros heT (kk := .i64) (by kernel_rfl) hzT hzO hso (by omega) (by omega) (by omega) (by rw [hby]; omega) fun c' zs' h1 h2 => ?_
      have hfx : (flat [x]).length = 3 := by simpa [flat, D.width] using hx
      have hfB : (flat (es.take i)).length = i * 3 := by rw [dflat_length fun d hd => hw d (List.mem_of_mem_take hd), List.length_take]; congr 1; omega
      have hfC : (flat (es.drop i)).length = (es.length - i) * 3 := by rw [dflat_length fun d hd => hw d (List.mem_of_mem_drop hd), List.length_drop]
      rw [hsz] at h2
      (simp (disch := first | decide | omega | (simp only [nx]; first | done | omega)) only [go_sem, winOff_lt]; (repeat with_reducible refine aI ?_))
      have hmin : Nat.min 1 (i + (es.length + 1 - i) - i) = 1 := by show min _ _ = _; omega
      have hzl : 3 ≤ zs'.length := by rw [List.length_append, hfB] at h2; omega
      refine dcopy_win heT hiS (m := 1) (cs := flat (es.take i) ++ zs') (bt := 25) (news := flat [x]) (by (first | (simp (disch := first | decide | omega | (simp only [nx]; first | done | omega)) only [go_sem]; first | done | rfl) | rfl)) (srcOk_one (by rw [hsz]; exact hx)) (by rw [hsz, h2, hmin]; omega) (cs' := flat (es.take i) ++ flat [x] ++ zs'.drop 3) (by rw [hsz, hmin, List.take_of_length_le (l := flat [x]) (by omega), splice_at (by rw [hfB]), hfx]) ?_
      (simp (disch := first | decide | omega | (simp only [nx]; first | done | omega)) only [go_sem, winOff_lt, hwr3]; (repeat with_reducible refine aI ?_))
      refine ddraw_mk 8 (by kernel_rfl) ?_
      (simp (disch := first | decide | omega | (simp only [nx]; first | done | omega)) only [go_sem, winOff_lt, hwr3]; (repeat with_reducible refine aI ?_))
      have hmin2 : Nat.min (es.length - i) (i + (es.length + 1 - i) - (i + 1)) = es.length - i := by show min _ _ = _; omega
      have hso2 := srcOk_own (S := (S.add (.box 25 (flat (es.take i) ++ zs'))).set S.next (.box 25 (flat (es.take i) ++ flat [x] ++ zs'.drop 3))) (l := i) (n := es.length - i) (c' := c - i) (k := k) (c := c) (e := 25) (es := es) (zs := zs) (z := 3) (by (first | (simp (disch := first | decide | omega | (simp only [nx]; first | done | omega)) only [go_sem, hk0]; first | done | rfl) | rfl)) hc hw (by omega)
      rw [List.take_of_length_le (l := es.drop i) (by rw [List.length_drop]; omega)] at hso2
      refine dcopy_win heT hiS (m := es.length - i) (cs := flat (es.take i) ++ flat [x] ++ zs'.drop 3) (bt := 25) (news := flat (es.drop i)) (by (first | (simp (disch := first | decide | omega | (simp only [nx]; first | done | omega)) only [go_sem]; first | done | rfl) | rfl)) (by rw [hsz]; exact hso2) (by rw [hsz, hmin2]; simp only [List.length_append, hfB, hfx, List.length_drop]; rw [List.length_append, hfB] at h2; omega) (cs' := flat (es.take i ++ [x] ++ es.drop i) ++ (zs'.drop 3).drop ((es.length - i) * 3)) (by rw [hsz, hmin2, List.take_of_length_le (l := flat (es.drop i)) (by omega), splice_at (by rw [List.length_append, hfB, hfx]; omega), hfC, flat_append, flat_append]) ?_
      (simp (disch := first | decide | omega | (simp only [nx]; first | done | omega)) only [go_sem]; (repeat with_reducible refine aI ?_))
      refine ⟨_, _, thaw_drop k _, ?_⟩
      rw [St.add_set, St.add_set, St.add_drop _ _ hkn]
      have e1 : i + (es.length + 1 - i) = es.length + 1 := by omega
      rw [e1] at h1 ⊢
      have := h c' (List.drop ((es.length - i) * 3) (List.drop 3 zs')) h1 (by
        simp only [List.length_append, flat_append, hfB, hfC, hfx, List.length_drop]
        rw [List.length_append, hfB] at h2
        omega)
      rw [ownOb_box (by omega)] at this
      exact this
    · have b2 : decide ((c : Int) < ((es.length + 1 : Nat) : Int)) = false := by simp; omega
      have hwr3 : IntKind.i64.wrap ((i : Int) + ((1 : Nat) : Int)) = ((i + 1 : Nat) : Int) := by rw [IntKind.wrap_i64]; omega
      (simp (disch := first | decide | omega | (simp only [nx]; first | done | omega)) only [go_sem, hwr, hwr3, h10, b1, b2, winOff_lt]; (repeat with_reducible refine aI ?_))
      refine doverlaps (tr := 4) Tryz.func148 (by kernel_rfl) (by kernel_rfl) (by kernel_rfl) (by kernel_rfl) heT hiS hk (fun e => by rw [e] at hl; simp at hl; omega) ?_
      (simp (disch := first | decide | omega | (simp only [nx]; first | done | omega)) only [go_sem, winOff_lt]; (repeat with_reducible refine aI ?_))
      refine ddraw_mk 8 (by kernel_rfl) ?_
      (simp (disch := first | decide | omega | (simp only [nx]; first | done | omega)) only [go_sem, winOff_lt, hwr3]; (repeat with_reducible refine aI ?_))
      have hfx : (flat [x]).length = 3 := by simpa [flat, D.width] using hx
      have hfB : (flat (es.take i)).length = i * 3 := by rw [dflat_length fun d hd => hw d (List.mem_of_mem_take hd), List.length_take]; congr 1; omega
      have hfC : (flat (es.drop i)).length = (es.length - i) * 3 := by rw [dflat_length fun d hd => hw d (List.mem_of_mem_drop hd), List.length_drop]
      have hff : flat es = flat (es.take i) ++ flat (es.drop i) := by rw [← flat_append, List.take_append_drop]
      have hzl : 3 ≤ zs.length := by rw [List.length_append, hff, List.length_append, hfB, hfC] at hl; omega
      have hmin : Nat.min (es.length + 1 - i) (es.length + 1 - (i + 1)) = es.length - i := by show min _ _ = _; omega
      obtain ⟨cs1, hcs1⟩ : ∃ cs1, splice (flat es ++ zs) ((i + 1) * 3) (flat (es.drop i)) = cs1 := ⟨_, rfl⟩
      have hcl : cs1.length = c * 3 := by rw [← hcs1, splice_len, hl]; rw [hl, hfC]; omega
      refine dcopy_win heT hiS (m := es.length + 1 - i) hk (srcOk_win hk (by rw [hsz, hl]; omega)) (by rw [hsz, hmin, hl]; omega) (cs' := cs1) (by
        rw [hsz, hmin, ← hcs1, List.take_take, Nat.min_eq_left (by omega), List.drop_append_of_le_length (by rw [hff, List.length_append, hfB]; omega), flat_drop hw, List.take_append_of_le_length (by omega), List.take_of_length_le (by omega)]) ?_
      (simp (disch := first | decide | omega | (simp only [nx]; first | done | omega)) only [go_sem, winOff_lt, hwr3]; (repeat with_reducible refine aI ?_))
      have hmin2 : Nat.min 1 (es.length + 1 - i) = 1 := by show min _ _ = _; omega
      refine dcopy_win heT hiS (m := 1) (cs := cs1) (bt := 25) (news := flat [x]) (by (first | (simp (disch := first | decide | omega | (simp only [nx]; first | done | omega)) only [go_sem]; first | done | rfl) | rfl)) (srcOk_one (by rw [hsz]; exact hx)) (by rw [hsz, hmin2, hcl]; omega) (cs' := flat (es.take i ++ [x] ++ es.drop i) ++ zs.drop 3) (by rw [hsz, hmin2, List.take_of_length_le (l := flat [x]) (by omega), ← hcs1, hff, ins_old (by rw [hfB]) (by rw [hfB, hfx]; omega) (by omega), hfx, flat_append, flat_append]) ?_
      (simp (disch := first | decide | omega | (simp only [nx]; first | done | omega)) only [go_sem]; (repeat with_reducible refine aI ?_))
      rw [St.set_set]
      refine ⟨_, _, thaw_rename (o := .box 25 (flat (es.take i ++ [x] ++ es.drop i) ++ zs.drop 3)) (by simp [St.set]), ?_⟩
      rw [St.set_drop]
      have := h c (zs.drop 3) (by omega) (by
        simp only [List.length_append, flat_append, hfB, hfC, hfx, List.length_drop]
        rw [List.length_append, hff, List.length_append, hfB, hfC] at hl
        omega)
      rw [ownOb_box (by omega)] at this
      exact this

set_option maxHeartbeats 4000000 in
set_option maxRecDepth 20000 in
theorem del_str {S : St} {k c i n : Nat} {es zs : List D} {K : D → St → Prop} (hk : S.ob k = some (ownOb 9 es zs c)) (hl : (flat es ++ zs).length = c * 1) (hw : ∀ d ∈ es, d.width = 1) (hi : i < es.length) (hn : es.length ≤ 1073741824) (hnn : n = es.length)
    (h : ∀ zs' : List D, (flat (es.take i ++ es.drop (i + 1)) ++ zs').length = c * 1 → K (.win k 0 (n - 1) c) (S.set k (ownOb 9 (es.take i ++ es.drop (i + 1)) zs' c))) :
    DCalls Tryz.prog 139 [.win k 0 n c, .v (.int .i64 i), .v (.int .i64 (i + 1 : Nat))] S K := by
  subst hnn
  have hc := ownOb_len hw (by omega) hl
  have heT : elT Tryz.prog 22 = some 9 := by kernel_rfl
  have heS : (elT Tryz.prog 22).isSome = true := by rw [heT]; rfl
  have hsz : szOf Tryz.prog 9 = 1 := by kernel_rfl
  have hby : bytesOf Tryz.prog 9 = 16 := by kernel_rfl
  have hzT : zeroT Tryz.prog 9 = true := by kernel_rfl
  have hzO : zeroOk Tryz.prog 9 = true := by kernel_rfl
  have hiS := (zeroT_pos hzT).2
  have hk0 := hk
  rw [ownOb_box (by omega)] at hk
  refine dcalls_inline mixed Tryz.func139 rfl (fun _ _ => by kernel_rfl) (rs := [.tmp 6]) rfl (by kernel_rfl) (fun hS => ?_)
  have b1 : ((i : Int) == ((i + 1 : Nat) : Int)) = false := by simp; omega
  (simp (disch := first | decide | omega | (simp only [nx]; first | done | omega)) only [go_sem, b1, winOff_zero]; (repeat with_reducible refine aI ?_))
  refine ddraw_mk 6 (by kernel_rfl) ?_
  (simp (disch := first | decide | omega | (simp only [nx]; first | done | omega)) only [go_sem, b1, winOff_zero]; (repeat with_reducible refine aI ?_))
  have hf1 : (flat (es.take i)).length = i * 1 := by rw [dflat_length fun d hd => hw d (List.mem_of_mem_take hd), List.length_take]; congr 1; omega
  have hf2 : (flat (es.drop (i + 1))).length = (es.length - (i + 1)) * 1 := by rw [dflat_length fun d hd => hw d (List.mem_of_mem_drop hd), List.length_drop]
  have hf3 : flat es = flat (es.take i) ++ flat (es.drop i) := by rw [← flat_append, List.take_append_drop]
  have hs : SrcOk S (szOf Tryz.prog 9) (.win k (winOff c (i + 1) 0 1) (es.length - (i + 1)) (c - (i + 1))) (es.length - (i + 1)) (flat (es.drop (i + 1))) := by
    rw [hsz]
    rcases Nat.lt_or_ge (i + 1) c with h1 | h1
    · rw [winOff_lt h1, Nat.zero_add]
      have := srcOk_own (l := i + 1) (n := es.length - (i + 1)) hk0 hc hw (by omega) (c' := c - (i + 1))
      rwa [List.take_of_length_le (by rw [List.length_drop]; omega)] at this
    · have e0 : es.length - (i + 1) = 0 := by omega
      have e1 : es.drop (i + 1) = [] := List.drop_of_length_le (by omega)
      rw [e0, e1]
      exact ⟨rfl, .inl ⟨rfl, rfl⟩⟩
  have e1 : i + (es.length - (i + 1)) = es.length - 1 := by omega
  have hmul : (es.length - 1) * 1 ≤ c * 1 := Nat.mul_le_mul_right _ (by omega)
  have hmul1 : i * 1 + (es.length - (i + 1)) * 1 = (es.length - 1) * 1 := by rw [← Nat.add_mul, e1]
  have hmul2 : (es.length - 1) * 1 + 1 * 1 = es.length * 1 := by rw [← Nat.add_mul]; congr 1; omega
  have hmul3 : es.length * 1 ≤ c * 1 := Nat.mul_le_mul_right _ hc
  obtain ⟨z1, hz1⟩ : ∃ z1, (flat (es.drop i) ++ zs).drop (flat (es.drop (i + 1))).length = z1 := ⟨_, rfl⟩
  have hl1 : (flat (es.take i ++ es.drop (i + 1)) ++ z1).length = c * 1 := by
    rw [hf3] at hl
    rw [← hz1]
    simp only [flat_append, List.length_append, List.length_drop, hf1, hf2] at hl ⊢
    omega
  refine dappend_in heT heS hiS (m := es.length - (i + 1)) hk hs (by omega) (by omega) (by rw [hsz, e1, hl]; omega) (cs' := flat (es.take i ++ es.drop (i + 1)) ++ z1) (by
    rw [hsz, hf3, List.append_assoc, splice_at (by rw [hf1]; omega), flat_append, hz1]) ?_
  rw [e1]
  have wl : winOff c (es.length - 1) 0 1 = (es.length - 1) * 1 := by rw [winOff_lt (by omega), Nat.zero_add]
  (simp (disch := first | decide | omega | (simp only [nx]; first | done | omega)) only [go_sem, wl]; (repeat with_reducible refine aI ?_))
  have e2 : es.length - (es.length - 1) = 1 := by omega
  have hfl : (flat (es.take i ++ es.drop (i + 1))).length = (es.length - 1) * 1 := by rw [flat_append, List.length_append, hf1, hf2]; omega
  rw [e2]
  refine dclear_win heT hzT hzO (bt := 9) (cs := flat (es.take i ++ es.drop (i + 1)) ++ z1) (by (first | (simp (disch := first | decide | omega | (simp only [nx]; first | done | omega)) only [go_sem]; first | done | rfl) | rfl)) (by rw [hsz, hl1]; omega) fun z2 hz2 => ?_
  rw [hsz] at hz2
  rw [splice_at (by rw [hfl])]
  (simp (disch := first | decide | omega | (simp only [nx]; first | done | omega)) only [go_sem]; (repeat with_reducible refine aI ?_))
  rw [St.set_set, List.append_assoc]
  have := h (z2 ++ z1.drop z2.length) (by
    simp only [List.length_append, List.length_drop] at hl1 ⊢
    omega)
  rw [ownOb_box (by omega)] at this
  exact this

set_option maxHeartbeats 4000000 in
set_option maxRecDepth 20000 in
theorem del_sch {S : St} {k c i n : Nat} {es zs : List D} {K : D → St → Prop} (hk : S.ob k = some (ownOb 25 es zs c)) (hl : (flat es ++ zs).length = c * 3) (hw : ∀ d ∈ es, d.width = 3) (hi : i < es.length) (hn : es.length ≤ 1073741824) (hnn : n = es.length)
    (h : ∀ zs' : List D, (flat (es.take i ++ es.drop (i + 1)) ++ zs').length = c * 3 → K (.win k 0 (n - 1) c) (S.set k (ownOb 25 (es.take i ++ es.drop (i + 1)) zs' c))) :
    DCalls Tryz.prog 140 [.win k 0 n c, .v (.int .i64 i), .v (.int .i64 (i + 1 : Nat))] S K := by
  subst hnn
  have hc := ownOb_len hw (by omega) hl
  have heT : elT Tryz.prog 23 = some 25 := by kernel_rfl
  have heS : (elT Tryz.prog 23).isSome = true := by rw [heT]; rfl
  have hsz : szOf Tryz.prog 25 = 3 := by kernel_rfl
  have hby : bytesOf Tryz.prog 25 = 56 := by kernel_rfl
  have hzT : zeroT Tryz.prog 25 = true := by kernel_rfl
  have hzO : zeroOk Tryz.prog 25 = true := by kernel_rfl
  have hiS := (zeroT_pos hzT).2
  have hk0 := hk
  rw [ownOb_box (by omega)] at hk
  refine dcalls_inline mixed Tryz.func140 rfl (fun _ _ => by kernel_rfl) (rs := [.tmp 6]) rfl (by kernel_rfl) (fun hS => ?_)
  have b1 : ((i : Int) == ((i + 1 : Nat) : Int)) = false := by simp; omega
  (simp (disch := first | decide | omega | (simp only [nx]; first | done | omega)) only [go_sem, b1, winOff_zero]; (repeat with_reducible refine aI ?_))
  refine ddraw_mk 6 (by kernel_rfl) ?_
  (simp (disch := first | decide | omega | (simp only [nx]; first | done | omega)) only [go_sem, b1, winOff_zero]; (repeat with_reducible refine aI ?_))
  have hf1 : (flat (es.take i)).length = i * 3 := by rw [dflat_length fun d hd => hw d (List.mem_of_mem_take hd), List.length_take]; congr 1; omega
  have hf2 : (flat (es.drop (i + 1))).length = (es.length - (i + 1)) * 3 := by rw [dflat_length fun d hd => hw d (List.mem_of_mem_drop hd), List.length_drop]
  have hf3 : flat es = flat (es.take i) ++ flat (es.drop i) := by rw [← flat_append, List.take_append_drop]
  have hs : SrcOk S (szOf Tryz.prog 25) (.win k (winOff c (i + 1) 0 3) (es.length - (i + 1)) (c - (i + 1))) (es.length - (i + 1)) (flat (es.drop (i + 1))) := by
    rw [hsz]
    rcases Nat.lt_or_ge (i + 1) c with h1 | h1
    · rw [winOff_lt h1, Nat.zero_add]
      have := srcOk_own (l := i + 1) (n := es.length - (i + 1)) hk0 hc hw (by omega) (c' := c - (i + 1))
      rwa [List.take_of_length_le (by rw [List.length_drop]; omega)] at this
    · have e0 : es.length - (i + 1) = 0 := by omega
      have e1 : es.drop (i + 1) = [] := List.drop_of_length_le (by omega)
      rw [e0, e1]
      exact ⟨rfl, .inl ⟨rfl, rfl⟩⟩
  have e1 : i + (es.length - (i + 1)) = es.length - 1 := by omega
  have hmul : (es.length - 1) * 3 ≤ c * 3 := Nat.mul_le_mul_right _ (by omega)
  have hmul1 : i * 3 + (es.length - (i + 1)) * 3 = (es.length - 1) * 3 := by rw [← Nat.add_mul, e1]
  have hmul2 : (es.length - 1) * 3 + 1 * 3 = es.length * 3 := by rw [← Nat.add_mul]; congr 1; omega
  have hmul3 : es.length * 3 ≤ c * 3 := Nat.mul_le_mul_right _ hc
  obtain ⟨z1, hz1⟩ : ∃ z1, (flat (es.drop i) ++ zs).drop (flat (es.drop (i + 1))).length = z1 := ⟨_, rfl⟩
  have hl1 : (flat (es.take i ++ es.drop (i + 1)) ++ z1).length = c * 3 := by
    rw [hf3] at hl
    rw [← hz1]
    simp only [flat_append, List.length_append, List.length_drop, hf1, hf2] at hl ⊢
    omega
  refine dappend_in heT heS hiS (m := es.length - (i + 1)) hk hs (by omega) (by omega) (by rw [hsz, e1, hl]; omega) (cs' := flat (es.take i ++ es.drop (i + 1)) ++ z1) (by
    rw [hsz, hf3, List.append_assoc, splice_at (by rw [hf1]; omega), flat_append, hz1]) ?_
  rw [e1]
  have wl : winOff c (es.length - 1) 0 3 = (es.length - 1) * 3 := by rw [winOff_lt (by omega), Nat.zero_add]
  (simp (disch := first | decide | omega | (simp only [nx]; first | done | omega)) only [go_sem, wl]; (repeat with_reducible refine aI ?_))
  have e2 : es.length - (es.length - 1) = 1 := by omega
  have hfl : (flat (es.take i ++ es.drop (i + 1))).length = (es.length - 1) * 3 := by rw [flat_append, List.length_append, hf1, hf2]; omega
  rw [e2]
  refine dclear_win heT hzT hzO (bt := 25) (cs := flat (es.take i ++ es.drop (i + 1)) ++ z1) (by (first | (simp (disch := first | decide | omega | (simp only [nx]; first | done | omega)) only [go_sem]; first | done | rfl) | rfl)) (by rw [hsz, hl1]; omega) fun z2 hz2 => ?_
  rw [hsz] at hz2
  rw [splice_at (by rw [hfl])]
  (simp (disch := first | decide | omega | (simp only [nx]; first | done | omega)) only [go_sem]; (repeat with_reducible refine aI ?_))
  rw [St.set_set, List.append_assoc]
  have := h (z2 ++ z1.drop z2.length) (by
    simp only [List.length_append, List.length_drop] at hl1 ⊢
    omega)
  rw [ownOb_box (by omega)] at this
  exact this

end Go.Proofs.YtogbklnkpjjkoaaGreatDoor

namespace Go.Proofs.YtogbklnkpjjkoaaGreatDoor
open Go.RowKit
theorem wScs (l : List DSch) : ∀ d ∈ l.map encS, d.width = 3 := fun d hd => by obtain ⟨p, _, rfl⟩ := List.mem_map.1 hd; exact cells_encS _
theorem szSc : szOf Tryz.prog 25 = 3 := by kernel_rfl
theorem bySc : bytesOf Tryz.prog 25 = 56 := by kernel_rfl
theorem elSt : elT Tryz.prog 22 = some 9 := by kernel_rfl
theorem elSc : elT Tryz.prog 23 = some 25 := by kernel_rfl
def ownS (s : DSch) (a b ca cb : Nat) : D := .agg [.v (.int .i64 s.kind), .win a 0 s.words.length ca, .win b 0 s.parts.length cb]
structure OS (T : St) (s : DSch) (a b ca cb : Nat) (zn zp : List D) : Prop where
  obn : T.ob a = some (ownOb 9 (s.words.map strD) zn ca)
  ln : (flat (s.words.map strD) ++ zn).length = ca * 1
  obp : T.ob b = some (ownOb 25 (s.parts.map encS) zp cb)
  lp : (flat (s.parts.map encS) ++ zp).length = cb * 3
  ab : a ≠ b
theorem sPartsLen (v : DSch) : v.parts.length ≤ v.weight ∧ v.words.length ≤ v.weight := by
  have h := v.weight_eq
  have : ∀ l : List DSch, l.length ≤ DSch.weights l := fun l => by
    induction l with
    | nil => exact Nat.zero_le _
    | cons p l ih => simp only [DSch.weights, List.length_cons]; have := p.weight_eq; omega
  have := this v.parts
  omega
theorem thaw_last {P : Program} {S : St} (e : TypeId) (x y : D) : Thaw P S (.agg [x, y, .sl .full []]) (S.add (.row e 0)) (.agg [x, y, .win S.next 0 0 0]) := fun base η w v hM hr => by
  simp only [Rep, RepL, OwnAt] at hr
  obtain ⟨vs, rfl, ⟨x', _, rfl, hx, y', _, rfl, hy, z', _, rfl, ⟨A, c, rfl, _, _, rfl, _⟩, rfl⟩, h1⟩ := hr
  have G := goes_bare hM e 0
  refine ⟨_, G, ?_⟩
  unfold Rep
  simp only [RepL]
  refine ⟨_, rfl, ⟨x', _, rfl, G.rep hx, y', _, rfl, G.rep hy, _, _, rfl, ?_, rfl⟩, h1⟩
  unfold Rep
  exact .inr ⟨by simp [Names.add], rfl, rfl, A, rfl⟩
section
set_option maxRecDepth 200000
set_option maxHeartbeats 8000000
theorem copy_os (s : DSch) (hok : okS s) (hw : s.weight ≤ 1000000) {S : St} {K : D → St → Prop}
    (hK : ∀ T a b ca cb zn zp, S.Sub T → T.WF → S.next ≤ a → S.next ≤ b → OS T s a b ca cb zn zp → K (ownS s a b ca cb) T) :
    DCalls Tryz.prog 44 [encS s] S K := by
  have hpl := sPartsLen s
  refine DCalls.thaw ?_
  refine dcalls_inline mixed Tryz.func44 rfl (fun _ _ => by kernel_rfl) (rs := [.cell 2 25]) rfl (by kernel_rfl) (fun hS => ?_)
  (simp (disch := first | decide | omega | (simp only [nx]; first | done | omega)) only [go_sem, encS_eq s]; (repeat with_reducible refine aI ?_))
  refine dapp_nil elSt (dappend_fresh elSt (by rw [elSt]; rfl) (by kernel_rfl) (by kernel_rfl) (es2 := s.words.map strD) (srcOk_sl (by rw [szS]; exact wSs _)) rfl (by rw [List.length_map]; omega) (by rw [byS, List.length_map]; omega) fun ca zn _ hln => ?_)
  rw [szS] at hln
  rw [List.length_map]
  (simp (disch := first | decide | omega | (simp only [nx]; first | done | omega)) only [go_sem]; (repeat with_reducible refine aI ?_))
  generalize hX : St.set (St.add (St.add (St.add S _) _) _) _ _ = S1
  have hs1 : S.Sub S1 := by rw [← hX]; exact ((((St.Sub.refl S).add hS _).add hS _).add hS _).set hS (Nat.le_refl _) _
  have hW1 : S1.WF := by rw [← hX]; exact (by (repeat' first | assumption | refine St.WF.leave ?_ _ | refine St.WF.add ?_ _ | refine St.WF.set ?_ ?_ _ | refine St.WF.grow ?_ _ _ _ | refine St.WF.keep ?_ ?_ | (first | omega | (simp only [RowOk.lo, nx]; first | done | omega))))
  have hn1 : S1.next = S.next + 3 := by rw [← hX]; rfl
  have b0 : S1.ob S.next = some (.box 25 [.v (.int .i64 s.kind), .win (S.next + 1 + 1) 0 s.words.length ca, .sl .no (s.parts.map encS)]) := by rw [← hX]; (first | (simp (disch := first | decide | omega | (simp only [nx]; first | done | omega)) only [go_sem]; first | done | rfl) | rfl)
  have b1 : S1.ob (S.next + 1) = some (.box 25 [.v (.int .i64 0), .sl .full [], .sl .full []]) := by rw [← hX]; (first | (simp (disch := first | decide | omega | (simp only [nx]; first | done | omega)) only [go_sem]; first | done | rfl) | rfl)
  have ba : S1.ob (S.next + 1 + 1) = some (ownOb 9 (s.words.map strD) zn ca) := by rw [← hX]; (first | (simp (disch := first | decide | omega | (simp only [nx]; first | done | omega)) only [go_sem]; first | done | rfl) | rfl)
  clear hX
  refine dloop_up (fun t => List.contains [3, 5, 13, 14, 15, 16, 17, 18, 19, 20, 21, 22] t) (by kernel_rfl) hW1 s.parts.length (fun i g T => i ≤ s.parts.length ∧ g 13 = .v (.int .i64 ((i : Nat) : Int)) ∧ S1.Sub T ∧ ∃ d, g 3 = d ∧ OwnD Tryz.prog T 25 ((s.parts.take i).map encS) d ∧ ∀ k o n c, d = .win k o n c → S1.next ≤ k)
    ⟨Nat.zero_le _, by (first | (simp (disch := first | decide | omega | (simp only [nx]; first | done | omega)) only [go_sem]; first | done | rfl) | rfl), St.Sub.refl _, .sl .full [], by (first | (simp (disch := first | decide | omega | (simp only [nx]; first | done | omega)) only [go_sem]; first | done | rfl) | rfl), .inl ⟨rfl, rfl⟩, fun _ _ _ _ e => by cases e⟩ ?_
  rintro i g T hT hg ⟨le, q13, hsT, d, q3, hO, hlo⟩
  (have q1 := hg 1 rfl; have q2 := hg 2 rfl; have q11 := hg 11 rfl; have q12 := hg 12 rfl; simp (disch := first | decide | omega | (simp only [nx]; first | done | omega)) only [go_sem, b0] at q1 q2 q11 q12; clear hg)
  have b0T := hsT.ob _ _ b0
  have b1T := hsT.ob _ _ b1
  have baT := hsT.ob _ _ ba
  have hnT := hsT.next
  have ho := (okS_eq s).1 hok
  by_cases hlt : i < s.parts.length
  · have b1 : decide ((i : Int) < (s.parts.length : Int)) = true := decide_eq_true (by omega)
    have w1 : IntKind.i64.wrap ((i : Int) + 1) = ((i + 1 : Nat) : Int) := IntWalk.i64_in _ ⟨by omega, by omega⟩
    have hxp := getD_map encS s.parts i hlt
    have hwp : s.parts[i].weight ≤ 1000000 := by have := DSch.weight_part (List.getElem_mem hlt); omega
    (simp (disch := first | decide | omega | (simp only [nx]; first | done | omega)) only [go_sem, q11, q12, q13, b1, hxp, hlt]; (repeat with_reducible refine aI ?_))
    refine DCalls.of_pure (schCopy_d s.parts[i] (ho.2.2.2.2 _ (List.getElem_mem hlt)) hwp) ?_
    (simp (disch := first | decide | omega | (simp only [nx]; first | done | omega)) only [go_sem, q3, q11, q12, q13]; (repeat with_reducible refine aI ?_))
    generalize hX : St.set (St.add T _) _ _ = T1
    have hsT1 : T.Sub T1 := by rw [← hX]; exact ((St.Sub.refl T).add hT _).set hT (Nat.le_refl _) _
    have hT1 : T1.WF := by rw [← hX]; exact (by (repeat' first | assumption | refine St.WF.leave ?_ _ | refine St.WF.add ?_ _ | refine St.WF.set ?_ ?_ _ | refine St.WF.grow ?_ _ _ _ | refine St.WF.keep ?_ ?_ | (first | omega | (simp only [RowOk.lo, nx]; first | done | omega))))
    have hnT1 : T1.next = T.next + 1 := by rw [← hX]; rfl
    clear hX
    have hO1 := hO.mono hsT1
    refine dapp_ownD (es := (s.parts.take i).map encS) (es2 := [encS s.parts[i]]) elSc (by rw [elSc]; rfl) (by kernel_rfl) (by kernel_rfl) hO1 (by rw [szSc]; exact wScs _) (by rw [szSc]; exact wScs [s.parts[i]]) (by simp; omega) (by rw [bySc]; simp; omega) fun c' zs' h2 => ?_
    rw [szSc] at h2
    have hsl := OwnD.sub (P := Tryz.prog) hW1 (hsT.trans hsT1) hO1 hlo
    have hli : (s.parts.take i).length = i := by rw [List.length_take]; omega
    have e1 : (s.parts.take i).map encS ++ [encS s.parts[i]] = (s.parts.take (i + 1)).map encS := by rw [List.take_succ_eq_append_getElem hlt, List.map_append]; rfl
    have hl1 : (s.parts.take (i + 1)).length = i + 1 := by rw [List.length_take]; omega
    have hln2 : (T1.left d).next = T1.next := left_next _ _
    (simp (disch := first | decide | omega | (simp only [nx]; first | done | omega)) only [go_sem, q11, q12, q13, w1]; (repeat with_reducible refine aI ?_))
    refine ⟨by omega, _, fun _ _ h => h, by omega, by (first | (simp (disch := first | decide | omega | (simp only [nx]; first | done | omega)) only [go_sem, w1]; first | done | rfl) | rfl), hsl.add hW1 _, _, rfl, .inr ⟨T1.next, c', zs', ?_, ?_, ?_, ?_⟩, ?_⟩
    · simp (disch := first | decide | omega | (simp only [nx]; first | done | omega)) only [go_sem]; rw [hli, hl1]
    · rw [← e1]
      simp only [St.add]
      rw [hln2, if_pos rfl]
    · rw [szSc, ← e1]; exact h2
    · show T1.next < (T1.left d).next + 1
      omega
    · intro k o n c e
      injection e with e _ _ _
      omega
  · have b1 : decide ((i : Int) < (s.parts.length : Int)) = false := decide_eq_false (by omega)
    have hil : i = s.parts.length := by omega
    rw [hil, List.take_of_length_le (Nat.le_refl _)] at hO
    have hsub := hs1.trans hsT
    rcases hO with ⟨e1, rfl⟩ | ⟨k, c, zs, rfl, hk, hz, hkn⟩
    · (simp (disch := first | decide | omega | (simp only [nx]; first | done | omega)) only [go_sem, q1, q2, q3, q11, q12, q13, b1, b0T, b1T]; (repeat with_reducible refine aI ?_))
      have hp0 : s.parts = [] := List.map_eq_nil_iff.1 e1
      refine ⟨_, _, thaw_last 25 _ _, ?_⟩
      have hpl0 : s.parts.length = 0 := by rw [hp0]; rfl
      generalize hX : St.set (St.set T S.next _) _ _ = T2
      have hs2 : S.Sub T2 := by rw [← hX]; exact (hsub.set hS (Nat.le_refl _) _).set hS (Nat.le_succ _) _
      have hT2 : T2.WF := by rw [← hX]; exact (hT.set (by omega) _).set (by show S.next + 1 < T.next; omega) _
      have ba2 : T2.ob (S.next + 1 + 1) = some (ownOb 9 (s.words.map strD) zn ca) := by rw [← hX]; (first | (simp (disch := first | decide | omega | (simp only [nx]; first | done | omega)) only [go_sem, baT]; first | done | rfl) | rfl)
      have hn2 : S.next + 3 ≤ T2.next := by rw [← hX]; show S.next + 3 ≤ T.next; omega
      clear hX
      have e0 : (D.agg [.v (.int .i64 s.kind), .win (S.next + 1 + 1) 0 s.words.length ca, .win T2.next 0 0 0]) = ownS s (S.next + 1 + 1) T2.next ca 0 := by rw [ownS, hpl0]
      rw [e0]
      refine hK _ _ _ _ _ zn [] (hs2.add hS _) (hT2.add _) (by omega) hs2.next ⟨?_, hln, ?_, ?_, by omega⟩
      · simp only [St.add]; rw [if_neg (by omega)]; exact ba2
      · simp only [St.add, if_true, hp0]; rfl
      · rw [hp0]; rfl
    · have hk0 := hlo _ _ _ _ rfl
      (simp (disch := first | decide | omega | (simp only [nx]; first | done | omega)) only [go_sem, q1, q2, q3, q11, q12, q13, b1, b0T, b1T]; (repeat with_reducible refine aI ?_))
      refine ⟨_, _, Thaw.refl _ _ _, ?_⟩
      refine hK _ (S.next + 1 + 1) k ca c zn zs ((hsub.set hS (Nat.le_refl _) _).set hS (Nat.le_succ _) _) ((hT.set (by omega) _).set (by show S.next + 1 < T.next; omega) _) (by omega) (by omega) ⟨?_, hln, ?_, by rw [← szSc]; exact hz, by omega⟩
      · (first | (simp (disch := first | decide | omega | (simp only [nx]; first | done | omega)) only [go_sem, baT]; first | done | rfl) | rfl)
      · (first | (simp (disch := first | decide | omega | (simp only [nx]; first | done | omega)) only [go_sem, hk]; first | done | rfl) | rfl)
end
end Go.Proofs.YtogbklnkpjjkoaaGreatDoor

namespace Go.Proofs.YtogbklnkpjjkoaaGreatDoor
open Go.RowKit
def DSch.ofFields (v : DSch) (ns : List Str) (ps : List DSch) : DSch := .mk v.kind ns ps
def atN (l : List Str) (x : Str) : Nat := gtN l x
def withS (v : DSch) (x : Str) (p : DSch) : DSch :=
  if wholeS v = false then v
  else if x ∈ v.words then v.ofFields v.words (v.parts.set (ixN v.words x) p)
  else v.ofFields (v.words.take (atN v.words x) ++ [x] ++ v.words.drop (atN v.words x)) (v.parts.take (atN v.words x) ++ [p] ++ v.parts.drop (atN v.words x))
theorem thawOS {T : St} {v : DSch} {a c ca cc : Nat} {zn zp : List D} (h : OS T v a c ca cc zn zp) : Thaw Tryz.prog T (ownS v a c ca cc) ((T.drop a).drop c) (encS v) := by
  have hca : c ≠ a := fun e => h.ab e.symm
  have n1 := ownOb_len (wSs v.words) (by omega) h.ln
  have n3 := ownOb_len (wScs v.parts) (by omega) h.lp
  have bne : ∀ {x y : Nat}, x ≠ y → Nat.beq x y = false := fun {x y} hne => by
    cases hb : Nat.beq x y with
    | false => rfl
    | true => exact absurd (Nat.eq_of_beq_eq_true hb) hne
  refine Thaw.trans (thaw_own (zs := zn) h.obn n1 (by rw [szS]; omega) (by rw [szS]; exact wSs _) rfl) ?_
  refine thaw_own (k := c) (zs := zp) (c := cc) (e := 25) (es := v.parts.map encS) (by simp only [St.drop, if_neg hca]; exact h.obp) n3 (by rw [szSc]; omega) (by rw [szSc]; exact wScs _) ?_
  simp only [ownS, D.thaw, thawL, List.length_map, Nat.beq_refl, Bool.and_self, Bool.and_true, cond_true, bne h.ab, bne hca, Bool.false_and, cond_false]
  rw [encS_eq]
theorem fin_owns {S T : St} {v : DSch} {a c ca cc : Nat} {zn zp : List D} (hS : S.WF) (hs : S.Sub T) (ha : S.next ≤ a) (hc : S.next ≤ c) (h : OS T v a c ca cc zn zp) :
    DFinT Tryz.prog S T (ownS v a c ca cc) (fun d' T' => d' = encS v ∧ T' = S) :=
  ⟨_, _, thawOS h, fin_pure hS (closed_encS v) ⟨hs.next, fun j o hj => by
    have := hS.lt hj
    simp only [St.drop]
    rw [if_neg (by omega), if_neg (by omega)]
    exact hs.ob j o hj⟩⟩
set_option maxRecDepth 200000 in
set_option maxHeartbeats 4000000 in
theorem whole_ws (v : DSch) (a c ca cc : Nat) : DPure Tryz.prog 106 [ownS v a c ca cc] (.v (.bool (wholeS v))) := by
  refine dpure_of_dwp mixed Tryz.func106 rfl (fun _ _ => by kernel_rfl) (rs := [.tmp 2]) rfl (by kernel_rfl) trivial (fun S hS => ?_)
  by_cases h5 : v.kind = 5
  · have b5 : (v.kind == 5) = true := by simp [h5]
    simp only [go_sem, add_ob, set_ob, ownS, b5]
    refine ⟨?_, (St.Sub.refl S).add hS _⟩
    simp only [D.frz, wholeS, decide_eq_true h5, Bool.true_and]
    congr 3
    exact propext ⟨fun h => by omega, fun h => by omega⟩
  · have b5 : (v.kind == 5) = false := by simp [h5]
    simp only [go_sem, add_ob, set_ob, ownS, b5]
    exact ⟨by simp only [D.frz, wholeS, decide_eq_false h5, Bool.false_and], (St.Sub.refl S).add hS _⟩
set_option maxRecDepth 200000 in
set_option maxHeartbeats 4000000 in
theorem idxGtS_w {S : St} {k c t : Nat} {zs : List D} {K : D → St → Prop} (l : List Str) (x : Str) (hn : l.length ≤ 1000000) (hk : S.ob k = some (ownOb 9 (l.map strD) zs c)) (hc : l.length ≤ c) (ht : S.ob t = some (.box 9 [.v (sv x)])) (h : K (.v (.int .i64 (gtI l x))) S) :
    DCalls Tryz.prog 113 [.win k 0 l.length c, .fn (.func 114) [] [.loc t 0]] S K := by
  refine dcalls_inline mixed Tryz.func113 rfl (fun _ _ => by kernel_rfl) (rs := [.tmp 4]) rfl (by kernel_rfl) (fun hS => ?_)
  (simp (disch := first | decide | omega | (simp only [nx]; first | done | omega)) only [go_sem]; (repeat with_reducible refine aI ?_))
  refine dloop_up (fun t => List.contains [4, 5, 8, 9, 10, 11, 12, 13, 14, 15, 16, 17, 18] t) (by kernel_rfl) hS l.length (fun i g T => i ≤ l.length ∧ g 8 = .v (.int .i64 ((i : Nat) : Int)) ∧ (∀ (r : Nat) (hr : r < l.length), r < i → sLt x l[r] = false) ∧ T = S) ⟨by omega, by (first | (simp (disch := first | decide | omega | (simp only [nx]; first | done | omega)) only [go_sem]; first | done | rfl) | rfl), fun r _ h => by omega, rfl⟩ ?_
  rintro i g T hT hg ⟨le, q8, hno, rfl⟩
  have q0 := hg 0 rfl
  have q1 := hg 1 rfl
  have q7 := hg 7 rfl
  simp (disch := first | decide | omega | (simp only [nx]; first | done | omega)) only [go_sem] at q0 q1 q7
  clear hg
  by_cases hlt : i < l.length
  · have b1 : decide ((i : Int) < (l.length : Int)) = true := by simp; omega
    have w1 : IntKind.i64.wrap ((i : Int) + 1) = ((i + 1 : Nat) : Int) := IntWalk.i64_in _ ⟨by omega, by omega⟩
    have hk' := hk
    rw [ownOb_box (by omega)] at hk'
    have hg1 := getD_strs (zs := zs) hlt
    have hl1 := len_strs l zs
    (simp (disch := first | decide | omega | (simp only [nx]; first | done | omega)) only [go_sem, q0, q1, q7, q8, b1, hk', Nat.mul_one, hg1, hl1]; (repeat with_reducible refine aI ?_))
    refine dcalls_inline mixed Tryz.func114 rfl (fun _ _ => by kernel_rfl) (rs := [.tmp 3]) rfl (by kernel_rfl) (fun hS => ?_)
    (simp (disch := first | decide | omega | (simp only [nx]; first | done | omega)) only [go_sem, ht]; (repeat with_reducible refine aI ?_))
    cases hx : sLt x l[i]
    · have b2 : (!(Op.bytesLess l[i] x || l[i] == x)) = false := by rw [gt_sLt, hx]
      (simp (disch := first | decide | omega | (simp only [nx]; first | done | omega)) only [go_sem, b2, q8, w1]; (repeat with_reducible refine aI ?_))
      refine ⟨hlt, T.ob, fun _ _ h => h, by omega, by (first | (simp (disch := first | decide | omega | (simp only [nx]; first | done | omega)) only [go_sem]; first | done | rfl) | rfl), fun r hr hri => ?_, rfl⟩
      by_cases e : r = i
      · subst e; exact hx
      · exact hno r hr (by omega)
    · have b2 : (!(Op.bytesLess l[i] x || l[i] == x)) = true := by rw [gt_sLt, hx]
      (simp (disch := first | decide | omega | (simp only [nx]; first | done | omega)) only [go_sem, b2]; (repeat with_reducible refine aI ?_))
      have e1 : gtN l x = i := (List.findIdx_eq hlt).2 ⟨hx, fun j hj => hno j (by omega) hj⟩
      rw [gtI, e1, if_pos hlt] at h
      exact h
  · have b1 : decide ((i : Int) < (l.length : Int)) = false := by simp; omega
    (simp (disch := first | decide | omega | (simp only [nx]; first | done | omega)) only [go_sem, q0, q1, q7, q8, b1]; (repeat with_reducible refine aI ?_))
    have e1 : gtN l x = l.length := List.findIdx_eq_length.2 fun y hy => by
      obtain ⟨j, hj, rfl⟩ := List.getElem_of_mem hy
      exact hno j hj (by omega)
    rw [gtI, e1, if_neg (by omega)] at h
    exact h
set_option maxRecDepth 200000 in
set_option maxHeartbeats 8000000 in
theorem withS_d (v p : DSch) (x : Str) (hokv : okS v) (hokp : okS p) (hv : v.weight ≤ 100000) (hp : p.weight ≤ 100000) (hx : x.length ≤ maxLen) : DPure Tryz.prog 80 [encS v, .v (sv x), encS p] (encS (withS v x p)) := fun S => by
  refine dcalls_of_dwp mixed Tryz.func80 rfl (fun _ _ => by kernel_rfl) (rs := [.cell 6 25]) rfl (by kernel_rfl) (fun hS => ?_)
  (simp (disch := first | decide | omega | (simp only [nx]; first | done | omega)) only [go_sem]; (repeat with_reducible refine aI ?_))
  refine copy_os v hokv (by omega) fun T a c ca cc zn zp hs hT ha hc hO => ?_
  have hsn := hs.next
  simp only [add_next] at hsn ha hc
  have hst : S.Sub T := St.Sub.trans (((((St.Sub.refl S).add hS _).add hS _).add hS _).add hS _) hs
  have u3 : T.ob S.next = some (.box 25 (encS v).cells) := hs.ob _ _ (by (first | (simp (disch := first | decide | omega | (simp only [nx]; first | done | omega)) only [go_sem]; first | done | rfl) | rfl))
  have u4 : T.ob (S.next + 1) = some (.box 9 [.v (sv x)]) := hs.ob _ _ (by (first | (simp (disch := first | decide | omega | (simp only [nx]; first | done | omega)) only [go_sem]; first | done | rfl) | rfl))
  have u5 : T.ob (S.next + 1 + 1) = some (.box 25 (encS p).cells) := hs.ob _ _ (by (first | (simp (disch := first | decide | omega | (simp only [nx]; first | done | omega)) only [go_sem]; first | done | rfl) | rfl))
  have u6 : T.ob (S.next + 1 + 1 + 1) = some (.box 25 [.v (.int .i64 0), .sl .full [], .sl .full []]) := hs.ob _ _ (by (first | (simp (disch := first | decide | omega | (simp only [nx]; first | done | omega)) only [go_sem]; first | done | rfl) | rfl))
  have hwe := v.weight_eq
  have hpl := sPartsLen v
  have n1 := ownOb_len (wSs v.words) (by omega) hO.ln
  have n3 := ownOb_len (wScs v.parts) (by omega) hO.lp
  rw [List.length_map] at n1 n3
  have hwh := whole_ws v a c ca cc
  rw [ownS] at hwh
  (simp (disch := first | decide | omega | (simp only [nx]; first | done | omega)) only [go_sem, u3, u4, u5, u6, ownS]; (repeat with_reducible refine aI ?_))
  refine DCalls.of_pure hwh ?_
  have hOn := hO.obn
  have hOp := hO.obp
  cases hwb : wholeS v with
  | false =>
    (simp (disch := first | decide | omega | (simp only [nx]; first | done | omega)) only [go_sem, u3, u4, u5, u6]; (repeat with_reducible refine aI ?_))
    have e0 : withS v x p = v := by rw [withS, if_pos hwb]
    rw [e0]
    refine fin_owns (v := v) (zn := zn) (zp := zp) hS ?_ (by omega) (by omega) ⟨?_, hO.ln, ?_, hO.lp, hO.ab⟩
    · exact (hst.set hS (Nat.le_refl _) _).set hS (by omega) _
    · (first | (simp (disch := first | decide | omega | (simp only [nx]; first | done | omega)) only [go_sem, hOn]; first | done | rfl) | rfl)
    · (first | (simp (disch := first | decide | omega | (simp only [nx]; first | done | omega)) only [go_sem, hOp]; first | done | rfl) | rfl)
  | true =>
    have hlen : v.words.length ≤ v.parts.length := by
      simp only [wholeS, Bool.and_eq_true, decide_eq_true_eq] at hwb
      exact hwb.2
    (simp (disch := first | decide | omega | (simp only [nx]; first | done | omega)) only [go_sem, u3, u4, u5, u6]; (repeat with_reducible refine aI ?_))
    refine strIndex_w v.words x (by omega) (c := ca) (zs := zn) (by (first | (simp (disch := first | decide | omega | (simp only [nx]; first | done | omega)) only [go_sem, hOn]; first | done | rfl) | rfl)) n1 ?_
    by_cases hm : x ∈ v.words
    · have hi := ix_lt hm
      have b1 : decide (0 ≤ ixI v.words x) = true := by rw [ixI, if_pos hm]; simp
      have e1 : ixI v.words x = (ixN v.words x : Int) := by rw [ixI, if_pos hm]
      have hOp' := hOp
      rw [ownOb_box (by omega)] at hOp'
      have hpl1 : (flat (v.parts.map encS) ++ zp).length = cc * 3 := hO.lp
      (simp (disch := first | decide | omega | (simp only [nx]; first | done | omega)) only [go_sem, u3, u4, u5, u6, b1, e1]; (repeat with_reducible refine aI ?_))
      refine ddraw_mk 6 (by kernel_rfl) ?_
      (simp (disch := first | decide | omega | (simp only [nx]; first | done | omega)) only [go_sem, u3, u4, u5, u6, e1]; (repeat with_reducible refine aI ?_))
      refine dqgo_mk (schCopy_d p hokp (by omega)) ?_
      (simp (disch := first | decide | omega | (simp only [nx]; first | done | omega)) only [go_sem, u3, u4, u5, u6, e1, hOp', hpl1]; (repeat with_reducible refine aI ?_))
      have e0 : withS v x p = v.ofFields v.words (v.parts.set (ixN v.words x) p) := by rw [withS, if_neg (by rw [hwb]; simp), if_pos hm]
      have e2 : ownS v a c ca cc = ownS (v.ofFields v.words (v.parts.set (ixN v.words x) p)) a c ca cc := by
        simp only [ownS, DSch.ofFields, DSch.kind, DSch.words, DSch.parts, List.length_set]
      rw [e0]
      show DFinT _ S _ (ownS v a c ca cc) _
      rw [e2]
      have hi2 : ixN v.words x < (v.parts.map encS).length := by rw [List.length_map]; omega
      refine fin_owns (zn := zn) (zp := zp) hS ?_ (by omega) (by omega) ⟨?_, hO.ln, ?_, ?_, hO.ab⟩
      · exact ((hst.set hS (Nat.le_refl _) _).set hS (by omega) _).set hS (by omega) _
      · have := hO.ab
        (first | (simp (disch := first | decide | omega | (simp only [nx]; first | done | omega)) only [go_sem, hOn]; first | done | rfl) | rfl)
      · have := ownOb_box (e := 25) (es := (v.parts.set (ixN v.words x) p).map encS) (zs := zp) (c := cc) (by omega)
        show _ = some (ownOb 25 ((v.parts.set (ixN v.words x) p).map encS) zp cc)
        rw [this, splice_flat' hi2 (wScs _) (cells_encS p), ← List.map_set]
        (first | (simp (disch := first | decide | omega | (simp only [nx]; first | done | omega)) only [go_sem]; first | done | rfl) | rfl)
      · show (flat ((v.parts.set (ixN v.words x) p).map encS) ++ zp).length = _
        rw [← hpl1, List.length_append, List.length_append, dflat_length (wScs _), dflat_length (wScs _)]
        simp
    · have b1 : decide (0 ≤ ixI v.words x) = false := by rw [ixI, if_neg hm]; simp
      have e0 : withS v x p = v.ofFields (v.words.take (atN v.words x) ++ [x] ++ v.words.drop (atN v.words x)) (v.parts.take (atN v.words x) ++ [p] ++ v.parts.drop (atN v.words x)) := by rw [withS, if_neg (by rw [hwb]; simp), if_neg hm]
      have hgl : gtN v.words x ≤ v.words.length := List.findIdx_le_length
      rw [e0]
      clear e0
      (simp (disch := first | decide | omega | (simp only [nx]; first | done | omega)) only [go_sem, u3, u4, u5, u6, b1]; (repeat with_reducible refine aI ?_))
      refine idxGtS_w v.words x (by omega) (c := ca) (zs := zn) (by (first | (simp (disch := first | decide | omega | (simp only [nx]; first | done | omega)) only [go_sem, hOn]; first | done | rfl) | rfl)) n1 (by (first | (simp (disch := first | decide | omega | (simp only [nx]; first | done | omega)) only [go_sem, u4]; first | done | rfl) | rfl)) ?_
      obtain ⟨q, hq⟩ : ∃ q, atN v.words x = q := ⟨_, rfl⟩
      have hq2 : gtN v.words x = q := hq
      rw [hq]
      rw [hq2] at hgl
      have hac := hO.ab
      have hat : a < T.next := hT.lt hOn
      have hct : c < T.next := hT.lt hOp
      by_cases hg : gtN v.words x < v.words.length
      · have b2 : decide ((q : Int) < 0) = false := by simp
        have e3 : gtI v.words x = (q : Int) := by rw [gtI, if_pos hg, hq2]
        (simp (disch := first | decide | omega | (simp only [nx]; first | done | omega)) only [go_sem, u3, u4, u5, u6, b2, e3]; (repeat with_reducible refine aI ?_))
        refine ins_str (es := v.words.map strD) (x := .v (sv x)) (zs := zn) (by (first | (simp (disch := first | decide | omega | (simp only [nx]; first | done | omega)) only [go_sem, hOn]; first | done | rfl) | rfl)) hO.ln (wSs _) rfl (by rw [List.length_map]; omega) (by rw [List.length_map]; omega) (by rw [set_next]; omega) (by rw [List.length_map]) fun ca' zn' hn1 hn2 => ?_
        (simp (disch := first | decide | omega | (simp only [nx]; first | done | omega)) only [go_sem, u3, u4, u5, u6, e3, hac]; (repeat with_reducible refine aI ?_))
        refine ddraw_mk 6 (by kernel_rfl) ?_
        (simp (disch := first | decide | omega | (simp only [nx]; first | done | omega)) only [go_sem, u3, u4, u5, u6, e3, hac]; (repeat with_reducible refine aI ?_))
        refine dqgo_mk (schCopy_d p hokp (by omega)) ?_
        (simp (disch := first | decide | omega | (simp only [nx]; first | done | omega)) only [go_sem, u3, u4, u5, u6, e3, hac]; (repeat with_reducible refine aI ?_))
        refine ins_sch (es := v.parts.map encS) (x := encS p) (zs := zp) (by (first | (simp (disch := first | decide | omega | (simp only [nx]; first | done | omega)) only [go_sem, hOp]; first | done | rfl) | rfl)) hO.lp (wScs _) (cells_encS p) (by rw [List.length_map]; omega) (by rw [List.length_map]; omega) (by simp (disch := first | decide | omega | (simp only [nx]; first | done | omega)) only [go_sem]; first | done | omega) (by rw [List.length_map]) fun cc' zp' hp1 hp2 => ?_
        (simp (disch := first | decide | omega | (simp only [nx]; first | done | omega)) only [go_sem, u3, u4, u5, u6, e3, hac]; (repeat with_reducible refine aI ?_))
        have e2 : ownS (v.ofFields (v.words.take q ++ [x] ++ v.words.drop q) (v.parts.take q ++ [p] ++ v.parts.drop q)) T.next (T.next + 1) ca' cc' = .agg [.v (.int .i64 v.kind), .win T.next 0 (v.words.length + 1) ca', .win (T.next + 1) 0 (v.parts.length + 1) cc'] := by
          have l1 : (v.words.take q ++ [x] ++ v.words.drop q).length = v.words.length + 1 := by simp only [List.length_append, List.length_take, List.length_drop, List.length_cons, List.length_nil]; omega
          have l2 : (v.parts.take q ++ [p] ++ v.parts.drop q).length = v.parts.length + 1 := by simp only [List.length_append, List.length_take, List.length_drop, List.length_cons, List.length_nil]; omega
          simp only [ownS, DSch.ofFields, DSch.kind, DSch.words, DSch.parts] at *
          rw [l1, l2]
        rw [← e2]
        refine fin_owns (zn := zn') (zp := zp') hS ?_ (by omega) (by omega) ⟨?_, ?_, ?_, ?_, by omega⟩
        · exact (((((((hst.set hS (Nat.le_refl _) _).drop hS (by omega)).add hS _).set hS (Nat.le_refl _) _).drop hS (by omega)).add hS _).set hS (Nat.le_refl _) _).set hS (by omega) _
        · have E1 : (v.words.take q ++ [x] ++ v.words.drop q).map strD = (v.words.map strD).take q ++ [.v (sv x)] ++ (v.words.map strD).drop q := by simp only [List.map_append, List.map_take, List.map_drop]; rfl
          show _ = some (ownOb 9 ((v.words.take q ++ [x] ++ v.words.drop q).map strD) zn' ca')
          rw [E1]
          (first | (simp (disch := first | decide | omega | (simp only [nx]; first | done | omega)) only [go_sem]; first | done | rfl) | rfl)
        · have E1 : (v.words.take q ++ [x] ++ v.words.drop q).map strD = (v.words.map strD).take q ++ [.v (sv x)] ++ (v.words.map strD).drop q := by simp only [List.map_append, List.map_take, List.map_drop]; rfl
          show (flat ((v.words.take q ++ [x] ++ v.words.drop q).map strD) ++ zn').length = _
          rw [E1]
          exact hn2
        · have E1 : (v.parts.take q ++ [p] ++ v.parts.drop q).map encS = (v.parts.map encS).take q ++ [encS p] ++ (v.parts.map encS).drop q := by simp only [List.map_append, List.map_take, List.map_drop]; rfl
          show _ = some (ownOb 25 ((v.parts.take q ++ [p] ++ v.parts.drop q).map encS) zp' cc')
          rw [E1]
          (first | (simp (disch := first | decide | omega | (simp only [nx]; first | done | omega)) only [go_sem]; first | done | rfl) | rfl)
        · have E1 : (v.parts.take q ++ [p] ++ v.parts.drop q).map encS = (v.parts.map encS).take q ++ [encS p] ++ (v.parts.map encS).drop q := by simp only [List.map_append, List.map_take, List.map_drop]; rfl
          show (flat ((v.parts.take q ++ [p] ++ v.parts.drop q).map encS) ++ zp').length = _
          rw [E1]
          exact hp2
      · have b2 : decide (gtI v.words x < 0) = true := by rw [gtI, if_neg hg]; decide
        have e3 : (v.words.length : Int) = (q : Int) := by rw [hq2] at hg; omega
        (simp (disch := first | decide | omega | (simp only [nx]; first | done | omega)) only [go_sem, u3, u4, u5, u6, b2]; (repeat with_reducible refine aI ?_))
        rw [e3]
        refine ins_str (es := v.words.map strD) (x := .v (sv x)) (zs := zn) (by (first | (simp (disch := first | decide | omega | (simp only [nx]; first | done | omega)) only [go_sem, hOn]; first | done | rfl) | rfl)) hO.ln (wSs _) rfl (by rw [List.length_map]; omega) (by rw [List.length_map]; omega) (by rw [set_next]; omega) (by rw [List.length_map]) fun ca' zn' hn1 hn2 => ?_
        (simp (disch := first | decide | omega | (simp only [nx]; first | done | omega)) only [go_sem, u3, u4, u5, u6, e3, hac]; (repeat with_reducible refine aI ?_))
        refine ddraw_mk 6 (by kernel_rfl) ?_
        (simp (disch := first | decide | omega | (simp only [nx]; first | done | omega)) only [go_sem, u3, u4, u5, u6, e3, hac]; (repeat with_reducible refine aI ?_))
        refine dqgo_mk (schCopy_d p hokp (by omega)) ?_
        (simp (disch := first | decide | omega | (simp only [nx]; first | done | omega)) only [go_sem, u3, u4, u5, u6, e3, hac]; (repeat with_reducible refine aI ?_))
        refine ins_sch (es := v.parts.map encS) (x := encS p) (zs := zp) (by (first | (simp (disch := first | decide | omega | (simp only [nx]; first | done | omega)) only [go_sem, hOp]; first | done | rfl) | rfl)) hO.lp (wScs _) (cells_encS p) (by rw [List.length_map]; omega) (by rw [List.length_map]; omega) (by simp (disch := first | decide | omega | (simp only [nx]; first | done | omega)) only [go_sem]; first | done | omega) (by rw [List.length_map]) fun cc' zp' hp1 hp2 => ?_
        (simp (disch := first | decide | omega | (simp only [nx]; first | done | omega)) only [go_sem, u3, u4, u5, u6, e3, hac]; (repeat with_reducible refine aI ?_))
        have e2 : ownS (v.ofFields (v.words.take q ++ [x] ++ v.words.drop q) (v.parts.take q ++ [p] ++ v.parts.drop q)) T.next (T.next + 1) ca' cc' = .agg [.v (.int .i64 v.kind), .win T.next 0 (v.words.length + 1) ca', .win (T.next + 1) 0 (v.parts.length + 1) cc'] := by
          have l1 : (v.words.take q ++ [x] ++ v.words.drop q).length = v.words.length + 1 := by simp only [List.length_append, List.length_take, List.length_drop, List.length_cons, List.length_nil]; omega
          have l2 : (v.parts.take q ++ [p] ++ v.parts.drop q).length = v.parts.length + 1 := by simp only [List.length_append, List.length_take, List.length_drop, List.length_cons, List.length_nil]; omega
          simp only [ownS, DSch.ofFields, DSch.kind, DSch.words, DSch.parts] at *
          rw [l1, l2]
        rw [← e2]
        refine fin_owns (zn := zn') (zp := zp') hS ?_ (by omega) (by omega) ⟨?_, ?_, ?_, ?_, by omega⟩
        · exact (((((((hst.set hS (Nat.le_refl _) _).drop hS (by omega)).add hS _).set hS (Nat.le_refl _) _).drop hS (by omega)).add hS _).set hS (Nat.le_refl _) _).set hS (by omega) _
        · have E1 : (v.words.take q ++ [x] ++ v.words.drop q).map strD = (v.words.map strD).take q ++ [.v (sv x)] ++ (v.words.map strD).drop q := by simp only [List.map_append, List.map_take, List.map_drop]; rfl
          show _ = some (ownOb 9 ((v.words.take q ++ [x] ++ v.words.drop q).map strD) zn' ca')
          rw [E1]
          (first | (simp (disch := first | decide | omega | (simp only [nx]; first | done | omega)) only [go_sem]; first | done | rfl) | rfl)
        · have E1 : (v.words.take q ++ [x] ++ v.words.drop q).map strD = (v.words.map strD).take q ++ [.v (sv x)] ++ (v.words.map strD).drop q := by simp only [List.map_append, List.map_take, List.map_drop]; rfl
          show (flat ((v.words.take q ++ [x] ++ v.words.drop q).map strD) ++ zn').length = _
          rw [E1]
          exact hn2
        · have E1 : (v.parts.take q ++ [p] ++ v.parts.drop q).map encS = (v.parts.map encS).take q ++ [encS p] ++ (v.parts.map encS).drop q := by simp only [List.map_append, List.map_take, List.map_drop]; rfl
          show _ = some (ownOb 25 ((v.parts.take q ++ [p] ++ v.parts.drop q).map encS) zp' cc')
          rw [E1]
          (first | (simp (disch := first | decide | omega | (simp only [nx]; first | done | omega)) only [go_sem]; first | done | rfl) | rfl)
        · have E1 : (v.parts.take q ++ [p] ++ v.parts.drop q).map encS = (v.parts.map encS).take q ++ [encS p] ++ (v.parts.map encS).drop q := by simp only [List.map_append, List.map_take, List.map_drop]; rfl
          show (flat ((v.parts.take q ++ [p] ++ v.parts.drop q).map encS) ++ zp').length = _
          rw [E1]
          exact hp2
def withoutS (v : DSch) (x : Str) : DSch :=
  if wholeS v = true ∧ x ∈ v.words then v.ofFields (v.words.take (ixN v.words x) ++ v.words.drop (ixN v.words x + 1)) (v.parts.take (ixN v.words x) ++ v.parts.drop (ixN v.words x + 1)) else v
set_option maxRecDepth 200000 in
set_option maxHeartbeats 8000000 in
theorem withoutS_d (v : DSch) (x : Str) (hokv : okS v) (hv : v.weight ≤ 100000) (hx : x.length ≤ maxLen) : DPure Tryz.prog 107 [encS v, .v (sv x)] (encS (withoutS v x)) := fun S => by
  refine dcalls_of_dwp mixed Tryz.func107 rfl (fun _ _ => by kernel_rfl) (rs := [.cell 4 25]) rfl (by kernel_rfl) (fun hS => ?_)
  (simp (disch := first | decide | omega | (simp only [nx]; first | done | omega)) only [go_sem]; (repeat with_reducible refine aI ?_))
  refine copy_os v hokv (by omega) fun T a c ca cc zn zp hs hT ha hc hO => ?_
  have hsn := hs.next
  simp only [add_next] at hsn ha hc
  have hst : S.Sub T := St.Sub.trans ((((St.Sub.refl S).add hS _).add hS _)) hs
  have u2 : T.ob S.next = some (.box 25 (encS v).cells) := hs.ob _ _ (by (first | (simp (disch := first | decide | omega | (simp only [nx]; first | done | omega)) only [go_sem]; first | done | rfl) | rfl))
  have u4 : T.ob (S.next + 1) = some (.box 25 [.v (.int .i64 0), .sl .full [], .sl .full []]) := hs.ob _ _ (by (first | (simp (disch := first | decide | omega | (simp only [nx]; first | done | omega)) only [go_sem]; first | done | rfl) | rfl))
  have hwe := v.weight_eq
  have hpl := sPartsLen v
  have n1 := ownOb_len (wSs v.words) (by omega) hO.ln
  have n3 := ownOb_len (wScs v.parts) (by omega) hO.lp
  rw [List.length_map] at n1 n3
  have hwh := whole_ws v a c ca cc
  rw [ownS] at hwh
  have hOn := hO.obn
  have hOp := hO.obp
  (simp (disch := first | decide | omega | (simp only [nx]; first | done | omega)) only [go_sem, u2, u4, ownS]; (repeat with_reducible refine aI ?_))
  refine strIndex_w v.words x (by omega) (c := ca) (zs := zn) (by (first | (simp (disch := first | decide | omega | (simp only [nx]; first | done | omega)) only [go_sem, hOn]; first | done | rfl) | rfl)) n1 ?_
  (simp (disch := first | decide | omega | (simp only [nx]; first | done | omega)) only [go_sem, u2, u4]; (repeat with_reducible refine aI ?_))
  refine DCalls.of_pure hwh ?_
  cases hwb : wholeS v with
  | false =>
    (simp (disch := first | decide | omega | (simp only [nx]; first | done | omega)) only [go_sem, u2, u4]; (repeat with_reducible refine aI ?_))
    have e0 : withoutS v x = v := by rw [withoutS, if_neg (fun h => by rw [hwb] at h; cases h.1)]
    rw [e0]
    refine fin_owns (v := v) (zn := zn) (zp := zp) hS ?_ (by omega) (by omega) ⟨?_, hO.ln, ?_, hO.lp, hO.ab⟩
    · exact (hst.set hS (Nat.le_refl _) _).set hS (by omega) _
    · (first | (simp (disch := first | decide | omega | (simp only [nx]; first | done | omega)) only [go_sem, hOn]; first | done | rfl) | rfl)
    · (first | (simp (disch := first | decide | omega | (simp only [nx]; first | done | omega)) only [go_sem, hOp]; first | done | rfl) | rfl)
  | true =>
    have hlen : v.words.length ≤ v.parts.length := by
      simp only [wholeS, Bool.and_eq_true, decide_eq_true_eq] at hwb
      exact hwb.2
    by_cases hm : x ∈ v.words
    · have hi := ix_lt hm
      have e1 : ixI v.words x = (ixN v.words x : Int) := by rw [ixI, if_pos hm]
      rw [e1]
      generalize hq : ixN v.words x = q at *
      have b1 : decide ((0 : Int) ≤ (q : Int)) = true := decide_eq_true (by omega)
      have w1 : IntKind.i64.wrap ((q : Int) + 1) = ((q + 1 : Nat) : Int) := IntWalk.i64_in _ ⟨by omega, by omega⟩
      (simp (disch := first | decide | omega | (simp only [nx]; first | done | omega)) only [go_sem, u2, u4, b1, w1]; (repeat with_reducible refine aI ?_))
      have hac := hO.ab
      have hat : a < T.next := hT.lt hOn
      have hct : c < T.next := hT.lt hOp
      refine del_str (es := v.words.map strD) (zs := zn) (by (first | (simp (disch := first | decide | omega | (simp only [nx]; first | done | omega)) only [go_sem, hOn]; first | done | rfl) | rfl)) hO.ln (wSs _) (by rw [List.length_map]; omega) (by rw [List.length_map]; omega) (by rw [List.length_map]) fun zn' hn2 => ?_
      (simp (disch := first | decide | omega | (simp only [nx]; first | done | omega)) only [go_sem, u2, u4, w1, hac]; (repeat with_reducible refine aI ?_))
      refine del_sch (es := v.parts.map encS) (zs := zp) (by (first | (simp (disch := first | decide | omega | (simp only [nx]; first | done | omega)) only [go_sem, hOp]; first | done | rfl) | rfl)) hO.lp (wScs _) (by rw [List.length_map]; omega) (by rw [List.length_map]; omega) (by rw [List.length_map]) fun zp' hp2 => ?_
      (simp (disch := first | decide | omega | (simp only [nx]; first | done | omega)) only [go_sem, u2, u4, w1, hac]; (repeat with_reducible refine aI ?_))
      have e0 : withoutS v x = v.ofFields (v.words.take q ++ v.words.drop (q + 1)) (v.parts.take q ++ v.parts.drop (q + 1)) := by rw [withoutS, if_pos ⟨hwb, hm⟩, hq]
      rw [e0]
      have e2 : ownS (v.ofFields (v.words.take q ++ v.words.drop (q + 1)) (v.parts.take q ++ v.parts.drop (q + 1))) a c ca cc = .agg [.v (.int .i64 v.kind), .win a 0 (v.words.length - 1) ca, .win c 0 (v.parts.length - 1) cc] := by
        have l1 : (v.words.take q ++ v.words.drop (q + 1)).length = v.words.length - 1 := by simp only [List.length_append, List.length_take, List.length_drop]; omega
        have l2 : (v.parts.take q ++ v.parts.drop (q + 1)).length = v.parts.length - 1 := by simp only [List.length_append, List.length_take, List.length_drop]; omega
        simp only [ownS, DSch.ofFields, DSch.kind, DSch.words, DSch.parts] at *
        rw [l1, l2]
      rw [← e2]
      have E1 : (v.words.take q ++ v.words.drop (q + 1)).map strD = (v.words.map strD).take q ++ (v.words.map strD).drop (q + 1) := by simp only [List.map_append, List.map_take, List.map_drop]
      have E2 : (v.parts.take q ++ v.parts.drop (q + 1)).map encS = (v.parts.map encS).take q ++ (v.parts.map encS).drop (q + 1) := by simp only [List.map_append, List.map_take, List.map_drop]
      refine fin_owns (zn := zn') (zp := zp') hS ?_ (by omega) (by omega) ⟨?_, ?_, ?_, ?_, hO.ab⟩
      · exact (((((hst.set hS (Nat.le_refl _) _).set hS (by omega) _).set hS (Nat.le_refl _) _).set hS (by omega) _).set hS (Nat.le_refl _) _).set hS (by omega) _
      · show _ = some (ownOb 9 ((v.words.take q ++ v.words.drop (q + 1)).map strD) zn' ca)
        rw [E1]
        (first | (simp (disch := first | decide | omega | (simp only [nx]; first | done | omega)) only [go_sem]; first | done | rfl) | rfl)
      · show (flat ((v.words.take q ++ v.words.drop (q + 1)).map strD) ++ zn').length = _
        rw [E1]
        exact hn2
      · show _ = some (ownOb 25 ((v.parts.take q ++ v.parts.drop (q + 1)).map encS) zp' cc)
        rw [E2]
        (first | (simp (disch := first | decide | omega | (simp only [nx]; first | done | omega)) only [go_sem]; first | done | rfl) | rfl)
      · show (flat ((v.parts.take q ++ v.parts.drop (q + 1)).map encS) ++ zp').length = _
        rw [E2]
        exact hp2
    · have b1 : decide (0 ≤ ixI v.words x) = false := by rw [ixI, if_neg hm]; simp
      (simp (disch := first | decide | omega | (simp only [nx]; first | done | omega)) only [go_sem, u2, u4, b1]; (repeat with_reducible refine aI ?_))
      have e0 : withoutS v x = v := by rw [withoutS, if_neg (fun h => hm h.2)]
      rw [e0]
      refine fin_owns (v := v) (zn := zn) (zp := zp) hS ?_ (by omega) (by omega) ⟨?_, hO.ln, ?_, hO.lp, hO.ab⟩
      · exact (hst.set hS (Nat.le_refl _) _).set hS (by omega) _
      · (first | (simp (disch := first | decide | omega | (simp only [nx]; first | done | omega)) only [go_sem, hOn]; first | done | rfl) | rfl)
      · (first | (simp (disch := first | decide | omega | (simp only [nx]; first | done | omega)) only [go_sem, hOp]; first | done | rfl) | rfl)
end Go.Proofs.YtogbklnkpjjkoaaGreatDoor

namespace Go.Proofs.YtogbklnkpjjkoaaGreatDoor
open Go.RowKit
theorem dcalls_argfz {P : Program} {g : FuncId} {args : List D} {S : St} {K : D → St → Prop} (h : DCalls P g (frzL args) S K) : DCalls P g args S K := fun base η w vs hM hr => h base η w vs hM hr.frz
def uOk (k : Int) : Bool := decide (1 ≤ k) && decide (k ≤ 10)
def uB (k : Int) : Bool := k == 1 || k == 4 || k == 5
def uT (k : Int) : Bool := k == 2 || k == 3 || k == 8
def uK (k : Int) : Bool := k == 8
def uI (k : Int) : Bool := k == 9 || k == 10
def encU (a b c d : Bool) : D := .agg [.v (.bool a), .v (.bool b), .v (.bool c), .v (.bool d)]
def tupU (k : Int) : D := .tup [encU (uB k) (uT k) (uK k) (uI k), .v (.bool (uOk k))]
section
set_option maxRecDepth 200000
set_option maxHeartbeats 8000000
theorem uses_d (k : Int) : DPure Tryz.prog 100 [.v (.int .i64 k)] (tupU k) := by
  refine dpure_of_dwp mixed Tryz.func100 rfl (fun _ _ => by kernel_rfl) (rs := [.cell 2 173, .tmp 3]) rfl (by kernel_rfl) (by simp [tupU, encU, D.closed, D.all, allL]) (fun S hS => ?_)
  by_cases h : uOk k = true
  · have h1 : 1 ≤ k ∧ k ≤ 10 := by simpa [uOk] using h
    obtain rfl | rfl | rfl | rfl | rfl | rfl | rfl | rfl | rfl | rfl : k = 1 ∨ k = 2 ∨ k = 3 ∨ k = 4 ∨ k = 5 ∨ k = 6 ∨ k = 7 ∨ k = 8 ∨ k = 9 ∨ k = 10 := by omega
    all_goals
      (simp (disch := first | decide | omega | (simp only [nx]; first | done | omega)) only [go_sem, Int.reduceBEq]; (repeat with_reducible refine aI ?_))
      refine ⟨?_, (by (repeat' first | assumption | exact St.Sub.refl _ | exact RowOk.sub (by assumption) (by assumption) | refine St.Sub.trans ?_ (RowOk.sub (by assumption) (by assumption)) | refine St.Sub.add ?_ ?_ _ | refine St.Sub.set ?_ ?_ ?_ _ | refine St.Sub.keep ?_ ?_ | refine St.WF.leave ?_ _ | refine St.WF.add ?_ _ | refine St.WF.set ?_ ?_ _ | refine St.WF.grow ?_ _ _ _ | refine St.WF.keep ?_ ?_ | (first | omega | (simp only [RowOk.lo, nx]; first | done | omega))))⟩
      rfl
  · have h1 : k < 1 ∨ 10 < k := by
      rcases Int.lt_or_le k 1 with h2 | h2
      · exact .inl h2
      · rcases Int.lt_or_le 10 k with h3 | h3
        · exact .inr h3
        · exact absurd (by simp [uOk, h2, h3]) h
    have b (j : Int) (h : 1 ≤ j ∧ j ≤ 10) : (k == j) = false := by rw [beq_eq_false_iff_ne]; omega
    have b1 := b 1 (by omega)
    have b2 := b 2 (by omega)
    have b3 := b 3 (by omega)
    have b4 := b 4 (by omega)
    have b5 := b 5 (by omega)
    have b6 := b 6 (by omega)
    have b7 := b 7 (by omega)
    have b8 := b 8 (by omega)
    have b9 := b 9 (by omega)
    have b10 := b 10 (by omega)
    (simp (disch := first | decide | omega | (simp only [nx]; first | done | omega)) only [go_sem, b1, b2, b3, b4, b5, b6, b7, b8, b9, b10]; (repeat with_reducible refine aI ?_))
    refine ⟨?_, (by (repeat' first | assumption | exact St.Sub.refl _ | exact RowOk.sub (by assumption) (by assumption) | refine St.Sub.trans ?_ (RowOk.sub (by assumption) (by assumption)) | refine St.Sub.add ?_ ?_ _ | refine St.Sub.set ?_ ?_ ?_ _ | refine St.Sub.keep ?_ ?_ | refine St.WF.leave ?_ _ | refine St.WF.add ?_ _ | refine St.WF.set ?_ ?_ _ | refine St.WF.grow ?_ _ _ _ | refine St.WF.keep ?_ ?_ | (first | omega | (simp only [RowOk.lo, nx]; first | done | omega))))⟩
    rw [tupU, Bool.eq_false_iff.2 h]
    simp only [uB, uT, uK, uI, b1, b2, b3, b4, b5, b8, b9, b10]
    rfl
def scalarV (v : DVal) : Bool := rightV 5 v && decide (v.kind ≤ 4)
theorem scalarV_d (v : DVal) (hok : okV v) : DPure Tryz.prog 137 [encV v] (.v (.bool (scalarV v))) := by
  refine dpure_of_dwp mixed Tryz.func137 rfl (fun _ _ => by kernel_rfl) (rs := [.tmp 2]) rfl (by kernel_rfl) trivial (fun S hS => ?_)
  (simp (disch := first | decide | omega | (simp only [nx]; first | done | omega)) only [go_sem]; (repeat with_reducible refine aI ?_))
  refine DCalls.of_pure (valRight_d v hok) ?_
  cases h : rightV 5 v with
  | false =>
    (simp (disch := first | decide | omega | (simp only [nx]; first | done | omega)) only [go_sem]; (repeat with_reducible refine aI ?_))
    refine ⟨?_, (by (repeat' first | assumption | exact St.Sub.refl _ | exact RowOk.sub (by assumption) (by assumption) | refine St.Sub.trans ?_ (RowOk.sub (by assumption) (by assumption)) | refine St.Sub.add ?_ ?_ _ | refine St.Sub.set ?_ ?_ ?_ _ | refine St.Sub.keep ?_ ?_ | refine St.WF.leave ?_ _ | refine St.WF.add ?_ _ | refine St.WF.set ?_ ?_ _ | refine St.WF.grow ?_ _ _ _ | refine St.WF.keep ?_ ?_ | (first | omega | (simp only [RowOk.lo, nx]; first | done | omega))))⟩
    rw [scalarV, h]; rfl
  | true =>
    (simp (disch := first | decide | omega | (simp only [nx]; first | done | omega)) only [go_sem, encV_eq v]; (repeat with_reducible refine aI ?_))
    refine ⟨?_, (by (repeat' first | assumption | exact St.Sub.refl _ | exact RowOk.sub (by assumption) (by assumption) | refine St.Sub.trans ?_ (RowOk.sub (by assumption) (by assumption)) | refine St.Sub.add ?_ ?_ _ | refine St.Sub.set ?_ ?_ ?_ _ | refine St.Sub.keep ?_ ?_ | refine St.WF.leave ?_ _ | refine St.WF.add ?_ _ | refine St.WF.set ?_ ?_ _ | refine St.WF.grow ?_ _ _ _ | refine St.WF.keep ?_ ?_ | (first | omega | (simp only [RowOk.lo, nx]; first | done | omega))))⟩
    rw [scalarV, h]; rfl
def scaS (s : DSch) : Bool := decide (1 ≤ s.kind) && decide (s.kind ≤ 4)
theorem scalarS_d (s : DSch) : DPure Tryz.prog 109 [encS s] (.v (.bool (scaS s))) := by
  refine dpure_of_dwp mixed Tryz.func109 rfl (fun _ _ => by kernel_rfl) (rs := [.tmp 2]) rfl (by kernel_rfl) trivial (fun S hS => ?_)
  cases h : decide (1 ≤ s.kind) with
  | false =>
    have b1 : decide (s.kind ≥ 1) = false := h
    (simp (disch := first | decide | omega | (simp only [nx]; first | done | omega)) only [go_sem, encS_eq s, b1]; (repeat with_reducible refine aI ?_))
    refine ⟨?_, (by (repeat' first | assumption | exact St.Sub.refl _ | exact RowOk.sub (by assumption) (by assumption) | refine St.Sub.trans ?_ (RowOk.sub (by assumption) (by assumption)) | refine St.Sub.add ?_ ?_ _ | refine St.Sub.set ?_ ?_ ?_ _ | refine St.Sub.keep ?_ ?_ | refine St.WF.leave ?_ _ | refine St.WF.add ?_ _ | refine St.WF.set ?_ ?_ _ | refine St.WF.grow ?_ _ _ _ | refine St.WF.keep ?_ ?_ | (first | omega | (simp only [RowOk.lo, nx]; first | done | omega))))⟩
    rw [scaS, h]; rfl
  | true =>
    have b1 : decide (s.kind ≥ 1) = true := h
    (simp (disch := first | decide | omega | (simp only [nx]; first | done | omega)) only [go_sem, encS_eq s, b1]; (repeat with_reducible refine aI ?_))
    refine ⟨?_, (by (repeat' first | assumption | exact St.Sub.refl _ | exact RowOk.sub (by assumption) (by assumption) | refine St.Sub.trans ?_ (RowOk.sub (by assumption) (by assumption)) | refine St.Sub.add ?_ ?_ _ | refine St.Sub.set ?_ ?_ ?_ _ | refine St.Sub.keep ?_ ?_ | refine St.WF.leave ?_ _ | refine St.WF.add ?_ _ | refine St.WF.set ?_ ?_ _ | refine St.WF.grow ?_ _ _ _ | refine St.WF.keep ?_ ?_ | (first | omega | (simp only [RowOk.lo, nx]; first | done | omega))))⟩
    rw [scaS, h]; rfl
theorem zeroS_ok : okS zeroS := (okS_eq zeroS).2 ⟨(by simp [zeroS, DSch.kind, I64]; decide), by simp [zeroS, DSch.words], by simp [zeroS, DSch.words], by simp [zeroS, DSch.parts], by simp [zeroS, DSch.parts]⟩
theorem schSame_d (a b : DSch) (ha : okS a) (hb : okS b) : DPure Tryz.prog 108 [encS a, encS b] (.v (.bool (eqB a b))) :=
  dpure_of_gives (fun _ _ => by kernel_rfl) fun w η X vs hr => by
    simp only [RepL] at hr
    obtain ⟨x, xs, rfl, h1, y, ys, rfl, h2, rfl⟩ := hr
    obtain ⟨cs, rfl, hv⟩ := sch_of_rep a.depth a (Nat.le_refl _) ha h1
    obtain ⟨ds, rfl, hv2⟩ := sch_of_rep b.depth b (Nat.le_refl _) hb h2
    exact schSame_calls a.depth a b cs ds w (Nat.le_refl _) hv hv2
def zeroV0 : DVal := .mk 0 0 [] [] [] []
theorem schSameZ_d (a : DSch) (ha : okS a) : DPure Tryz.prog 108 [encS a, .agg [.v (.int .i64 0), .sl .full [], .sl .full []]] (.v (.bool (eqB a zeroS))) := fun S =>
  dcalls_argfz (by
    have h := schSame_d a zeroS ha zeroS_ok S
    rw [encS_eq zeroS] at h
    simp only [frzL, D.frz, frz_encS]
    exact h)
theorem valSameZ_d (a : DVal) (hw : a.weight ≤ 1000000) : DPure Tryz.prog 136 [encV a, .agg [.v (.int .i64 0), .v (.int .i64 0), .v (sv []), .sl .full [], .sl .full [], .sl .full []]] (.v (.bool (eqB a zeroV0))) := fun S =>
  dcalls_argfz (by
    have h := valSame_d a.depth a zeroV0 (Nat.le_refl _) hw (by decide) S
    rw [encV_eq zeroV0] at h
    simp only [frzL, D.frz, frz_encV]
    exact h)
noncomputable def zeroB (u1 u2 u3 u4 : Bool) (l : DLens) : Bool :=
  (u1 || (l.b == [])) && (u2 || (eqB l.typ zeroS && eqB l.base zeroV0)) && (u3 || (eqB l.back zeroV0 && decide (l.pairs.length = 0))) && (u4 || decide (l.inner.length = 0))
theorem way3 (u x : Bool) : (u = true ∧ u = true) ∨ (u = false ∧ x = true) ∨ (u = false ∧ x = false) := by cases u <;> cases x <;> simp
theorem way4 (u x y : Bool) : (u = true ∧ u = true ∧ u = true) ∨ (u = false ∧ x = true ∧ y = true) ∨ (u = false ∧ x = false ∧ x = false) ∨ (u = false ∧ x = true ∧ y = false) := by cases u <;> cases x <;> cases y <;> simp
theorem zero_d (u1 u2 u3 u4 : Bool) (l : DLens) (hok : okL l) (hw : l.base.weight ≤ 1000000) (hw2 : l.back.weight ≤ 1000000) :
    DPure Tryz.prog 102 [encL l, encU u1 u2 u3 u4] (.v (.bool (zeroB u1 u2 u3 u4 l))) := by
  have ho := (okL_eq l).1 hok
  have c1 := schSameZ_d l.typ ho.2.2.2.1
  have c2 := valSameZ_d l.base hw
  have c3 := valSameZ_d l.back hw2
  have p1 : (((l.pairs.length : Nat) : Int) == 0) = decide (l.pairs.length = 0) := by rw [Bool.eq_iff_iff, beq_iff_eq, decide_eq_true_eq]; omega
  have p2 : (((l.inner.length : Nat) : Int) == 0) = decide (l.inner.length = 0) := by rw [Bool.eq_iff_iff, beq_iff_eq, decide_eq_true_eq]; omega
  refine dpure_of_dwp mixed Tryz.func102 rfl (fun _ _ => by kernel_rfl) (rs := [.tmp 4]) rfl (by kernel_rfl) trivial (fun S hS => ?_)
  have fin : ∀ {v w : Bool}, v = w → (D.v (.bool v)).frz = .v (.bool w) := fun h => by rw [h]; rfl
  rcases way3 u1 (l.b == []) with ⟨h1, g1⟩ | ⟨h1, g1⟩ | ⟨h1, g1⟩
  all_goals ((simp (disch := first | decide | omega | (simp only [nx]; first | done | omega)) only [go_sem, encL_eq l, encU, h1, g1]; (repeat with_reducible refine aI ?_)))
  case inr.inr =>
    refine ⟨?_, (by (repeat' first | assumption | exact St.Sub.refl _ | exact RowOk.sub (by assumption) (by assumption) | refine St.Sub.trans ?_ (RowOk.sub (by assumption) (by assumption)) | refine St.Sub.add ?_ ?_ _ | refine St.Sub.set ?_ ?_ ?_ _ | refine St.Sub.keep ?_ ?_ | refine St.WF.leave ?_ _ | refine St.WF.add ?_ _ | refine St.WF.set ?_ ?_ _ | refine St.WF.grow ?_ _ _ _ | refine St.WF.keep ?_ ?_ | (first | omega | (simp only [RowOk.lo, nx]; first | done | omega))))⟩
    refine fin ?_
    simp [zeroB, h1, g1]
  all_goals (rcases way4 u2 (eqB l.typ zeroS) (eqB l.base zeroV0) with ⟨h2, g2, g2'⟩ | ⟨h2, g2, g2'⟩ | ⟨h2, g2, g2'⟩ | ⟨h2, g2, g2'⟩)
  all_goals ((simp (disch := first | decide | omega | (simp only [nx]; first | done | omega)) only [go_sem, h2]; (repeat with_reducible refine aI ?_)))
  all_goals (try (rw [aggS_fold]; refine DCalls.of_pure c1 ?_; (simp (disch := first | decide | omega | (simp only [nx]; first | done | omega)) only [go_sem, g2]; (repeat with_reducible refine aI ?_))))
  all_goals (try (rw [aggV_fold]; refine DCalls.of_pure c2 ?_; (simp (disch := first | decide | omega | (simp only [nx]; first | done | omega)) only [go_sem, g2']; (repeat with_reducible refine aI ?_))))
  all_goals (try (refine ⟨?_, (by (repeat' first | assumption | exact St.Sub.refl _ | exact RowOk.sub (by assumption) (by assumption) | refine St.Sub.trans ?_ (RowOk.sub (by assumption) (by assumption)) | refine St.Sub.add ?_ ?_ _ | refine St.Sub.set ?_ ?_ ?_ _ | refine St.Sub.keep ?_ ?_ | refine St.WF.leave ?_ _ | refine St.WF.add ?_ _ | refine St.WF.set ?_ ?_ _ | refine St.WF.grow ?_ _ _ _ | refine St.WF.keep ?_ ?_ | (first | omega | (simp only [RowOk.lo, nx]; first | done | omega))))⟩; refine fin ?_; simp [zeroB, h1, g1, h2, g2, g2']))
  all_goals (rcases way4 u3 (eqB l.back zeroV0) (decide (l.pairs.length = 0)) with ⟨h3, g3, g3'⟩ | ⟨h3, g3, g3'⟩ | ⟨h3, g3, g3'⟩ | ⟨h3, g3, g3'⟩)
  all_goals ((simp (disch := first | decide | omega | (simp only [nx]; first | done | omega)) only [go_sem, h3]; (repeat with_reducible refine aI ?_)))
  all_goals (try (rw [aggV_fold]; refine DCalls.of_pure c3 ?_; (simp (disch := first | decide | omega | (simp only [nx]; first | done | omega)) only [go_sem, g3, p1, g3']; (repeat with_reducible refine aI ?_))))
  all_goals (try (refine ⟨?_, (by (repeat' first | assumption | exact St.Sub.refl _ | exact RowOk.sub (by assumption) (by assumption) | refine St.Sub.trans ?_ (RowOk.sub (by assumption) (by assumption)) | refine St.Sub.add ?_ ?_ _ | refine St.Sub.set ?_ ?_ ?_ _ | refine St.Sub.keep ?_ ?_ | refine St.WF.leave ?_ _ | refine St.WF.add ?_ _ | refine St.WF.set ?_ ?_ _ | refine St.WF.grow ?_ _ _ _ | refine St.WF.keep ?_ ?_ | (first | omega | (simp only [RowOk.lo, nx]; first | done | omega))))⟩; refine fin ?_; simp only [zeroB, h1, g1, h2, g2, g2', h3, g3, g3', Bool.true_or, Bool.false_or, Bool.and_true, Bool.true_and, Bool.false_and, Bool.and_false]))
  all_goals (rcases way3 u4 (decide (l.inner.length = 0)) with ⟨h4, g4⟩ | ⟨h4, g4⟩ | ⟨h4, g4⟩)
  all_goals ((simp (disch := first | decide | omega | (simp only [nx]; first | done | omega)) only [go_sem, h4, p2, g4]; (repeat with_reducible refine aI ?_)))
  all_goals (refine ⟨?_, (by (repeat' first | assumption | exact St.Sub.refl _ | exact RowOk.sub (by assumption) (by assumption) | refine St.Sub.trans ?_ (RowOk.sub (by assumption) (by assumption)) | refine St.Sub.add ?_ ?_ _ | refine St.Sub.set ?_ ?_ ?_ _ | refine St.Sub.keep ?_ ?_ | refine St.WF.leave ?_ _ | refine St.WF.add ?_ _ | refine St.WF.set ?_ ?_ _ | refine St.WF.grow ?_ _ _ _ | refine St.WF.keep ?_ ?_ | (first | omega | (simp only [RowOk.lo, nx]; first | done | omega))))⟩; refine fin ?_; simp only [zeroB, h1, g1, h2, g2, g2', h3, g3, g3', h4, g4, Bool.true_or, Bool.false_or, Bool.and_true, Bool.true_and, Bool.false_and, Bool.and_false])
def typedB (l : DLens) : Bool := fitsTop l.base l.typ && (!(l.kind == 8) || scaS l.typ)
theorem typed_d (l : DLens) (hok : okL l) : DPure Tryz.prog 103 [encL l] (.v (.bool (typedB l))) := by
  have ho := (okL_eq l).1 hok
  refine dpure_of_dwp mixed Tryz.func103 rfl (fun _ _ => by kernel_rfl) (rs := [.tmp 2]) rfl (by kernel_rfl) trivial (fun S hS => ?_)
  (simp (disch := first | decide | omega | (simp only [nx]; first | done | omega)) only [go_sem, encL_eq l]; (repeat with_reducible refine aI ?_))
  rw [aggS_fold, aggV_fold]
  refine DCalls.of_pure (fitsTop_d l.base l.typ ho.2.2.2.2.1 ho.2.2.2.1) ?_
  cases h1 : fitsTop l.base l.typ with
  | false =>
    (simp (disch := first | decide | omega | (simp only [nx]; first | done | omega)) only [go_sem]; (repeat with_reducible refine aI ?_))
    refine ⟨?_, (by (repeat' first | assumption | exact St.Sub.refl _ | exact RowOk.sub (by assumption) (by assumption) | refine St.Sub.trans ?_ (RowOk.sub (by assumption) (by assumption)) | refine St.Sub.add ?_ ?_ _ | refine St.Sub.set ?_ ?_ ?_ _ | refine St.Sub.keep ?_ ?_ | refine St.WF.leave ?_ _ | refine St.WF.add ?_ _ | refine St.WF.set ?_ ?_ _ | refine St.WF.grow ?_ _ _ _ | refine St.WF.keep ?_ ?_ | (first | omega | (simp only [RowOk.lo, nx]; first | done | omega))))⟩
    rw [typedB, h1]; rfl
  | true =>
    cases h2 : l.kind == 8 with
    | false =>
      have h3 : (l.kind != 8) = true := by rw [bne, h2]; rfl
      (simp (disch := first | decide | omega | (simp only [nx]; first | done | omega)) only [go_sem, h3]; (repeat with_reducible refine aI ?_))
      refine ⟨?_, (by (repeat' first | assumption | exact St.Sub.refl _ | exact RowOk.sub (by assumption) (by assumption) | refine St.Sub.trans ?_ (RowOk.sub (by assumption) (by assumption)) | refine St.Sub.add ?_ ?_ _ | refine St.Sub.set ?_ ?_ ?_ _ | refine St.Sub.keep ?_ ?_ | refine St.WF.leave ?_ _ | refine St.WF.add ?_ _ | refine St.WF.set ?_ ?_ _ | refine St.WF.grow ?_ _ _ _ | refine St.WF.keep ?_ ?_ | (first | omega | (simp only [RowOk.lo, nx]; first | done | omega))))⟩
      rw [typedB, h1, h2]; rfl
    | true =>
      have h3 : (l.kind != 8) = false := by rw [bne, h2]; rfl
      (simp (disch := first | decide | omega | (simp only [nx]; first | done | omega)) only [go_sem, h3]; (repeat with_reducible refine aI ?_))
      rw [aggS_fold]
      refine DCalls.of_pure (scalarS_d l.typ) ?_
      (simp (disch := first | decide | omega | (simp only [nx]; first | done | omega)) only [go_sem]; (repeat with_reducible refine aI ?_))
      refine ⟨?_, (by (repeat' first | assumption | exact St.Sub.refl _ | exact RowOk.sub (by assumption) (by assumption) | refine St.Sub.trans ?_ (RowOk.sub (by assumption) (by assumption)) | refine St.Sub.add ?_ ?_ _ | refine St.Sub.set ?_ ?_ ?_ _ | refine St.Sub.keep ?_ ?_ | refine St.WF.leave ?_ _ | refine St.WF.add ?_ _ | refine St.WF.set ?_ ?_ _ | refine St.WF.grow ?_ _ _ _ | refine St.WF.keep ?_ ?_ | (first | omega | (simp only [RowOk.lo, nx]; first | done | omega))))⟩
      rw [typedB, h1, h2]; rfl
end
end Go.Proofs.YtogbklnkpjjkoaaGreatDoor

namespace Go.Proofs.YtogbklnkpjjkoaaGreatDoor
open Go.RowKit
def cur (l : List DMk) (q : Nat) : List DMk := packM (l.take q) ++ l.drop (packM (l.take q)).length
section
set_option maxRecDepth 200000
set_option maxHeartbeats 4000000
end
end Go.Proofs.YtogbklnkpjjkoaaGreatDoor

namespace Go.Proofs.YtogbklnkpjjkoaaGreatDoor
open Go.RowKit Go.Sort Go.Shelf
instance : Inhabited DMk := ⟨(0, ⟨List.replicate 32 0, rfl⟩)⟩
section
set_option maxRecDepth 200000
set_option maxHeartbeats 4000000
variable {S : St}
end
end Go.Proofs.YtogbklnkpjjkoaaGreatDoor

namespace Go.Proofs.YtogbklnkpjjkoaaGreatDoor
open Go.RowKit
theorem frz_encH (h : H32) : (encH h).frz = encH h := by simp [encH, D.frz, frzL_map, bD, Function.comp_def]
theorem closed_encH (h : H32) : (encH h).closed := by
  simp only [encH, D.closed, D.all]
  refine allL_iff.2 fun d hd => ?_
  obtain ⟨b, _, rfl⟩ := List.mem_map.1 hd
  simp [bD, D.all]
section
set_option maxRecDepth 200000
set_option maxHeartbeats 4000000
theorem hashes_d (own own2 : Own) (a b : List H32) (ha : a.length ≤ 1000000) : DPure Tryz.prog 13 [.sl own (a.map encH), .sl own2 (b.map encH)] (.v (.bool (decide (a = b)))) := by
  refine dpure_of_dwp mixed Tryz.func13 rfl (fun _ _ => by kernel_rfl) (rs := [.tmp 4]) rfl (by kernel_rfl) trivial (fun S hS => ?_)
  by_cases hl : a.length = b.length
  · have b0 : ((a.length : Int) != (b.length : Int)) = false := by simp [hl]
    (simp (disch := first | decide | omega | (simp only [nx]; first | done | omega)) only [go_sem, b0]; (repeat with_reducible refine aI ?_))
    (refine dloop_st (fun t => List.contains [4, 5, 11, 12, 13, 14, 15, 16, 17, 18, 19, 20, 21, 22, 23, 24, 25] t) (by kernel_rfl) ?_ (a.length) (fun i f => i ≤ a.length ∧ f 5 = .v (.int .i64 (i : Nat)) ∧ (∀ j, j < i → a[j]? = b[j]?)) ?_ ?_; (exact (by (repeat' first | assumption | refine St.WF.leave ?_ _ | refine St.WF.add ?_ _ | refine St.WF.set ?_ ?_ _ | refine St.WF.grow ?_ _ _ _ | refine St.WF.keep ?_ ?_ | (first | omega | (simp only [RowOk.lo, nx]; first | done | omega))))); (exact ⟨(by omega), (by (first | (simp (disch := first | decide | omega | (simp only [nx]; first | done | omega)) only [go_sem]; first | done | rfl) | rfl)), (fun j h => by omega)⟩); intro i g tn hn hT hg hI; obtain ⟨le, q5, hs⟩ := hI; have q0 := hg 0 rfl; have q1 := hg 1 rfl; simp (disch := first | decide | omega | (simp only [nx]; first | done | omega)) only [go_sem] at q0 q1; clear hg; have hn' := hn; try simp only [add_next, set_next, grow_next, leave_next, drop_next] at hn')
    by_cases hlt : i < a.length
    · have b1 : decide ((i : Int) < (a.length : Int)) = true := by simp; omega
      have w1 : IntKind.i64.wrap ((i : Int) + 1) = ((i + 1 : Nat) : Int) := IntWalk.i64_in _ ⟨by omega, by omega⟩
      have hlt' : i < b.length := by omega
      have la := a[i].2
      have lb := b[i].2
      (simp (disch := first | decide | omega | (simp only [nx]; first | done | omega)) only [go_sem, q0, q1, q5, b1]; (repeat with_reducible refine aI ?_))
      refine ddraw_mk 9 (by kernel_rfl) ?_
      (simp (disch := first | decide | omega | (simp only [nx]; first | done | omega)) only [go_sem, q0, q1, q5, hlt, hlt', la, lb]; (repeat with_reducible refine aI ?_))
      by_cases he : a[i] = b[i]
      · have b2 : (!decide (a[i] = b[i])) = false := by simp [he]
        (simp (disch := first | decide | omega | (simp only [nx]; first | done | omega)) only [go_sem, b2, q5, w1]; (repeat with_reducible refine aI ?_))
        (refine ⟨by omega, (by (repeat' first | assumption | exact St.Sub.refl _ | exact RowOk.sub (by assumption) (by assumption) | refine St.Sub.trans ?_ (RowOk.sub (by assumption) (by assumption)) | refine St.Sub.add ?_ ?_ _ | refine St.Sub.set ?_ ?_ ?_ _ | refine St.Sub.keep ?_ ?_ | refine St.WF.leave ?_ _ | refine St.WF.add ?_ _ | refine St.WF.set ?_ ?_ _ | refine St.WF.grow ?_ _ _ _ | refine St.WF.keep ?_ ?_ | (first | omega | (simp only [RowOk.lo, nx]; first | done | omega)))), ?_⟩; refine ⟨by omega, ?_, ?_⟩; all_goals (try (first | (simp (disch := first | decide | omega | (simp only [nx]; first | done | omega)) only [go_sem, w1]; first | done | rfl) | rfl)))
        intro j hj
        by_cases e : j = i
        · subst e; rw [List.getElem?_eq_getElem hlt, List.getElem?_eq_getElem hlt', he]
        · exact hs j (by omega)
      · have b2 : (!decide (a[i] = b[i])) = true := by simp [he]
        (simp (disch := first | decide | omega | (simp only [nx]; first | done | omega)) only [go_sem, b2]; (repeat with_reducible refine aI ?_))
        refine ⟨?_, (by (repeat' first | assumption | exact St.Sub.refl _ | exact RowOk.sub (by assumption) (by assumption) | refine St.Sub.trans ?_ (RowOk.sub (by assumption) (by assumption)) | refine St.Sub.add ?_ ?_ _ | refine St.Sub.set ?_ ?_ ?_ _ | refine St.Sub.keep ?_ ?_ | refine St.WF.leave ?_ _ | refine St.WF.add ?_ _ | refine St.WF.set ?_ ?_ _ | refine St.WF.grow ?_ _ _ _ | refine St.WF.keep ?_ ?_ | (first | omega | (simp only [RowOk.lo, nx]; first | done | omega))))⟩
        have : a ≠ b := fun h => he (by subst h; rfl)
        simp [D.frz, this]
    · have b1 : decide ((i : Int) < (a.length : Int)) = false := by simp; omega
      (simp (disch := first | decide | omega | (simp only [nx]; first | done | omega)) only [go_sem, q0, q5, b1]; (repeat with_reducible refine aI ?_))
      refine ⟨?_, (by (repeat' first | assumption | exact St.Sub.refl _ | exact RowOk.sub (by assumption) (by assumption) | refine St.Sub.trans ?_ (RowOk.sub (by assumption) (by assumption)) | refine St.Sub.add ?_ ?_ _ | refine St.Sub.set ?_ ?_ ?_ _ | refine St.Sub.keep ?_ ?_ | refine St.WF.leave ?_ _ | refine St.WF.add ?_ _ | refine St.WF.set ?_ ?_ _ | refine St.WF.grow ?_ _ _ _ | refine St.WF.keep ?_ ?_ | (first | omega | (simp only [RowOk.lo, nx]; first | done | omega))))⟩
      have : a = b := List.ext_getElem? fun j => by
        by_cases hj : j < i
        · exact hs j hj
        · rw [List.getElem?_eq_none (by omega), List.getElem?_eq_none (by omega)]
      simp [D.frz, this]
  · have b0 : ((a.length : Int) != (b.length : Int)) = true := by simp; omega
    (simp (disch := first | decide | omega | (simp only [nx]; first | done | omega)) only [go_sem, b0]; (repeat with_reducible refine aI ?_))
    refine ⟨?_, (by (repeat' first | assumption | exact St.Sub.refl _ | exact RowOk.sub (by assumption) (by assumption) | refine St.Sub.trans ?_ (RowOk.sub (by assumption) (by assumption)) | refine St.Sub.add ?_ ?_ _ | refine St.Sub.set ?_ ?_ ?_ _ | refine St.Sub.keep ?_ ?_ | refine St.WF.leave ?_ _ | refine St.WF.add ?_ _ | refine St.WF.set ?_ ?_ _ | refine St.WF.grow ?_ _ _ _ | refine St.WF.keep ?_ ?_ | (first | omega | (simp only [RowOk.lo, nx]; first | done | omega))))⟩
    have : a ≠ b := fun h => hl (by rw [h])
    simp [D.frz, this]
end
end Go.Proofs.YtogbklnkpjjkoaaGreatDoor

namespace Go.Proofs.YtogbklnkpjjkoaaGreatDoor
open Go.RowKit
def hk (h : H32) : Int := ((valH h : Nat) : Int)
end Go.Proofs.YtogbklnkpjjkoaaGreatDoor

namespace Go.Proofs.YtogbklnkpjjkoaaGreatDoor
open Go.RowKit
theorem elHs : elT Tryz.prog 35 = some 39 := by kernel_rfl
theorem szHs : szOf Tryz.prog 39 = 32 := by kernel_rfl
theorem byHs : bytesOf Tryz.prog 39 = 32 := by kernel_rfl
theorem zeHs : zeroT Tryz.prog 39 = true := by kernel_rfl
section
set_option maxRecDepth 200000
set_option maxHeartbeats 4000000
end
end Go.Proofs.YtogbklnkpjjkoaaGreatDoor

namespace Go.Proofs.YtogbklnkpjjkoaaGreatDoor
open Go.RowKit Go.Sort Go.Shelf
instance : Inhabited H32 := ⟨⟨List.replicate 32 0, rfl⟩⟩
section
set_option maxRecDepth 200000
set_option maxHeartbeats 4000000
variable {S : St}
end
end Go.Proofs.YtogbklnkpjjkoaaGreatDoor

namespace Go.Proofs.YtogbklnkpjjkoaaGreatDoor
open Go.RowKit
def ixOf {α : Type} (p : α → Bool) (l : List α) : Int := if l.any p then ((l.findIdx p : Nat) : Int) else -1
theorem ixOf_at {α : Type} {p : α → Bool} {l : List α} {i : Nat} (h : i < l.length) (hp : p l[i] = true) (hs : ∀ j (h : j < l.length), j < i → p l[j] = false) : ixOf p l = (i : Int) := by
  have h1 : l.any p = true := List.any_eq_true.2 ⟨l[i], List.getElem_mem _, hp⟩
  have h2 : l.findIdx p = i := by
    rw [List.findIdx_eq h]
    exact ⟨hp, fun j hj => hs j (by omega) hj⟩
  rw [ixOf, if_pos h1, h2]
theorem ixOf_none {α : Type} {p : α → Bool} {l : List α} (hs : ∀ j (h : j < l.length), p l[j] = false) : ixOf p l = -1 := by
  have h1 : l.any p = false := List.any_eq_false.2 fun x hx => by
    obtain ⟨i, hi, rfl⟩ := List.getElem_of_mem hx
    rw [hs i hi]; simp
  rw [ixOf, if_neg (by rw [h1]; simp)]
theorem ixOf_any {α : Type} (p : α → Bool) (l : List α) : decide (ixOf p l ≥ 0) = l.any p := by
  unfold ixOf
  cases l.any p <;> simp
section
set_option maxRecDepth 200000
set_option maxHeartbeats 4000000
end
end Go.Proofs.YtogbklnkpjjkoaaGreatDoor
