/- PackReads answers true, whatever comes. Conditions: none but the statement's own. -/
import Derived.Test.YtbcabejdchkpmaaDoorR5
import Derived.Test.YtbcabejdchkpmaaDoorCards
import Derived.Test.YtbcabejdchkpmaaDoorTie
import Derived.SevenTiedAt
import Derived.RowKit
import Derived.RowKitTokens
set_option linter.unusedVariables false
set_option linter.unusedSimpArgs false
namespace Go.Proofs.YtbcabejdchkpmaaDoor
open Go.RowKit
set_option maxRecDepth 200000 in
set_option maxHeartbeats 32000000 in
theorem packReads_d (own own2 : Own) (l : List UInt8) (fs : List DFd) (hok : ∀ f ∈ fs, FdOk f) (hlb : l.length ≤ 140737488355328) (hlf : fs.length ≤ 140737488355328) : DPure Tryd.prog 4 [.sl own (l.map bD), .sl own2 (fs.map encFd)] (.v (.bool true)) := by
  refine dpure_of_dwp mixed Tryd.func4 rfl (fun _ _ => by kernel_rfl) (rs := [.tmp 4]) rfl (by kernel_rfl) trivial (fun S hS => ?_)
  by_cases hl4' : 400 < l.length
  · have b1 : decide ((400 : Int) < (l.length : Int)) = true := decide_eq_true (by omega)
    (simp (disch := first | decide | omega | (simp only [nx]; first | done | omega)) only [go_sem, b1]; (repeat with_reducible refine aI ?_))
    refine DCalls.of_pure awake02_d ?_
    (simp (disch := first | decide | omega | (simp only [nx]; first | done | omega)) only [go_sem]; (repeat with_reducible refine aI ?_))
    refine ⟨?_, (by (repeat' first | assumption | exact St.Sub.refl _ | exact RowOk.sub (by assumption) (by assumption) | refine St.Sub.trans ?_ (RowOk.sub (by assumption) (by assumption)) | refine St.Sub.add ?_ ?_ _ | refine St.Sub.set ?_ ?_ ?_ _ | refine St.Sub.keep ?_ ?_ | refine St.WF.leave ?_ _ | refine St.WF.add ?_ _ | refine St.WF.set ?_ ?_ _ | refine St.WF.grow ?_ _ _ _ | refine St.WF.keep ?_ ?_ | (first | omega | (simp only [RowOk.lo, nx]; first | done | omega))))⟩
    rfl
  have hl4 : l.length ≤ 400 := by omega
  have b1 : decide ((400 : Int) < (l.length : Int)) = false := decide_eq_false (by omega)
  (simp (disch := first | decide | omega | (simp only [nx]; first | done | omega)) only [go_sem, b1]; (repeat with_reducible refine aI ?_))
  refine DCalls.of_pure (great02_d own2 fs hok hlf) ?_
  by_cases hg : 400 < tot fs fs.length
  · rw [decide_eq_true hg]
    (simp (disch := first | decide | omega | (simp only [nx]; first | done | omega)) only [go_sem]; (repeat with_reducible refine aI ?_))
    refine DCalls.of_pure awake02_d ?_
    (simp (disch := first | decide | omega | (simp only [nx]; first | done | omega)) only [go_sem]; (repeat with_reducible refine aI ?_))
    refine ⟨?_, (by (repeat' first | assumption | exact St.Sub.refl _ | exact RowOk.sub (by assumption) (by assumption) | refine St.Sub.trans ?_ (RowOk.sub (by assumption) (by assumption)) | refine St.Sub.add ?_ ?_ _ | refine St.Sub.set ?_ ?_ ?_ _ | refine St.Sub.keep ?_ ?_ | refine St.WF.leave ?_ _ | refine St.WF.add ?_ _ | refine St.WF.set ?_ ?_ _ | refine St.WF.grow ?_ _ _ _ | refine St.WF.keep ?_ ?_ | (first | omega | (simp only [RowOk.lo, nx]; first | done | omega))))⟩
    rfl
  rw [decide_eq_false hg]
  (simp (disch := first | decide | omega | (simp only [nx]; first | done | omega)) only [go_sem]; (repeat with_reducible refine aI ?_))
  refine (new_r (l := l) (by omega)).wf.mono ?_
  rintro _ T1 ⟨⟨k, rfl, hk1, hk2, hR, hob⟩, hT1⟩
  (simp (disch := first | decide | omega | (simp only [nx]; first | done | omega)) only [go_sem]; (repeat with_reducible refine aI ?_))
  obtain ⟨q, hqe⟩ : ∃ q, q = T1.next := ⟨_, rfl⟩
  obtain ⟨T0, hT0⟩ : ∃ T0 : St, T0 = T1.add (.box 43 [.sl own (l.map bD), .v (.int .i64 0), .v (.int .i64 0), .v (.int .i64 0)]) := ⟨_, rfl⟩
  have hn0 : T0.next = q + 1 := by rw [hT0, hqe]; rfl
  have hW0 : T0.WF := by rw [hT0]; exact hT1.add _
  have hF : ∀ j o, S.ob j = some o → T0.ob j = some o := fun j o e => by
    have := hT1.lt (hob j o e)
    rw [hT0, add_ne this]; exact hob j o e
  have r0 : EAt k l (0, 0, 0) T0 := by
    obtain ⟨o, hR⟩ := hR
    exact ⟨o, _, by rw [hT0, add_ne hk2]; exact hR, .inl ⟨rfl, rfl⟩⟩
  have q0_ : T0.ob q = some (qB own l (0, 0, 0)) := by rw [hT0, hqe]; exact add_eq
  have hkq : k ≠ q := by omega
  rw [← hT0, ← hqe]
  clear hR hob hT0
  refine dloop_up (fun t => List.contains [4, 7, 23, 24, 25, 26, 27, 28, 29, 30, 31, 32, 33, 34, 35, 36, 37, 38, 39, 40, 41, 42, 43, 44, 45, 46, 47, 48, 49, 50, 51, 52, 53, 54, 55, 56, 57, 58, 59, 60, 61, 62, 63, 64, 65, 66, 67, 68, 69, 70, 71, 72, 73, 74, 75, 76, 77, 78, 79, 80, 81] t) (by kernel_rfl) (by exact hW0) fs.length (fun j g T => j ≤ fs.length ∧ g 7 = .v (.int .i64 ((j : Nat) : Int)) ∧ ∃ x : Rst, x.1 ≤ l.length ∧ EAt k l x T ∧ T.ob q = some (qB own l x) ∧ T0.next ≤ T.next ∧ ∀ j o, S.ob j = some o → T.ob j = some o)
    ⟨by omega, by (first | (simp (disch := first | decide | omega | (simp only [nx]; first | done | omega)) only [go_sem]; first | done | rfl) | rfl), (0, 0, 0), Nat.zero_le _, r0, q0_, Nat.le_refl _, hF⟩ ?_
  rintro j g T hT hg ⟨le, qj, x, hx, rj, qx, hnx, hF1⟩
  (have q1 := hg 1 rfl; have q5 := hg 5 rfl; have q6 := hg 6 rfl; simp (disch := first | decide | omega | (simp only [nx]; first | done | omega)) only [go_sem] at q1 q5 q6; clear hg)
  by_cases hj : j < fs.length
  · have b2 : decide ((j : Int) < (fs.length : Int)) = true := decide_eq_true (by omega)
    have w1 : IntKind.i64.wrap ((j : Int) + 1) = ((j + 1 : Nat) : Int) := IntWalk.i64_in _ ⟨by omega, by omega⟩
    have hgd := getD_map encFd fs j hj
    have hg2 : (encFd fs[j]).cells = cellsFd fs[j] := rfl
    have hjl : ((j : Nat) : Int) < (fs.length : Int) := by omega
    have hcc : ∀ f : DFd, cellsFd f = [.v (.int .i64 f.kind), .v (.int .u64 (f.n : Int)), .sl .no (f.b.map bD), .v (.int .i64 f.most)] := fun _ => rfl
    by_cases h6 : fs[j].kind = 6
    · have c6 : (fs[j].kind == 6) = true := by simpa using h6
      by_cases hm1 : fs[j].most < 0
      · have c7 : decide (fs[j].most < 0) = true := decide_eq_true hm1
        (simp (disch := first | decide | omega | (simp only [nx]; first | done | omega)) only [go_sem, qj, q1, q5, q6, b2, hgd, hjl, hg2, hcc, c6, c7, w1]; (repeat with_reducible refine aI ?_))
        refine ⟨by omega, _, fun _ _ h => h, by omega, by (first | (simp (disch := first | decide | omega | (simp only [nx]; first | done | omega)) only [go_sem]; first | done | rfl) | rfl), x, hx, rj, qx, by omega, hF1⟩
      have c7 : decide (fs[j].most < 0) = false := decide_eq_false hm1
      by_cases hm2 : 15 < fs[j].most
      · have c8 : decide (15 < fs[j].most) = true := decide_eq_true hm2
        (simp (disch := first | decide | omega | (simp only [nx]; first | done | omega)) only [go_sem, qj, q1, q5, q6, b2, hgd, hjl, hg2, hcc, c6, c7, c8, w1]; (repeat with_reducible refine aI ?_))
        refine ⟨by omega, _, fun _ _ h => h, by omega, by (first | (simp (disch := first | decide | omega | (simp only [nx]; first | done | omega)) only [go_sem]; first | done | rfl) | rfl), x, hx, rj, qx, by omega, hF1⟩
      have c8 : decide (15 < fs[j].most) = false := decide_eq_false hm2
      (simp (disch := first | decide | omega | (simp only [nx]; first | done | omega)) only [go_sem, qj, q1, q5, q6, b2, hgd, hjl, hg2, hcc, c6, c7, c8]; (repeat with_reducible refine aI ?_))
      refine ddraw_any (fun _ => True) 31 (by (first | (simp (disch := first | decide | omega | (simp only [nx]; first | done | omega)) only [go_sem]; first | done | rfl) | rfl)) (by kernel_rfl) ?_
      (refine s_take 0 rfl (by kernel_rfl) (by kernel_rfl) (v := ?v85) (fun S' hz => dquietR_of ?h85) <| s_take 1 rfl (by kernel_rfl) (by kernel_rfl) (v := ?v86) (fun S' hz => dquietR_of ?h86) <| s_take 2 rfl (by kernel_rfl) (by kernel_rfl) (v := ?v87) (fun S' hz => dquietR_of ?h87) <| s_take 3 rfl (by kernel_rfl) (by kernel_rfl) (v := ?v88) (fun S' hz => dquietR_of ?h88) <| s_take 4 rfl (by kernel_rfl) (by kernel_rfl) (v := ?v89) (fun S' hz => dquietR_of ?h89) <| s_take 5 rfl (by kernel_rfl) (by kernel_rfl) (v := ?v90) (fun S' hz => dquietR_of ?h90) <| ?k90; (case h85 | h86 | h87 | h88 | h89 | h90 => ((simp (disch := first | decide | omega | (simp only [nx]; first | done | omega)) only [go_sem, qj, q1, q5, q6, hgd, hjl, hg2, hcc, hz]; (repeat with_reducible refine aI ?_)); first | done | exact rfl | omega)))
      (refine s_split [6] (by kernel_rfl) (by simp) ?_; intro j_ hj_; obtain rfl : j_ = 6 := (by simpa using hj_); clear hj_; refine s_op rfl ?_; (simp (disch := first | decide | omega | (simp only [nx]; first | done | omega)) only [go_sem]; (repeat with_reducible refine aI ?_)))
      refine (reads_x fs[j] hkq (by omega) rj qx hx hl4 (hok _ (List.getElem_mem hj))).wf.mono ?_
      rintro _ T2 ⟨⟨rfl, y, hy1, r2, q2, hn2, hF2⟩, hT2⟩
      have q2b : T2.ob q = some (.box 43 [.sl own (l.map bD), .v (.int .i64 (y.1 : Int)), .v (.int .i64 y.2.1), .v (.int .i64 y.2.2)]) := q2
      (refine s_take 7 rfl (by kernel_rfl) (by kernel_rfl) (v := ?v1) (fun S' hz => dquietR_of ?h1) <| s_take 8 rfl (by kernel_rfl) (by kernel_rfl) (v := ?v2) (fun S' hz => dquietR_of ?h2) <| ?k2; (case h1 | h2 => ((simp (disch := first | decide | omega | (simp only [nx]; first | done | omega)) only [go_sem, hz]; (repeat with_reducible refine aI ?_)); first | done | exact rfl | omega)))
      (refine s_takeG 9 rfl rfl rfl (by (first | (simp (disch := first | decide | omega | (simp only [nx]; first | done | omega)) only [go_sem, q1, q5, q6]; first | done | rfl) | rfl)) (by kernel_rfl) (by kernel_rfl) (v := ?v91) (fun S' hz => dquietR_of ?h91) ?k91; (case h91 => ((simp (disch := first | decide | omega | (simp only [nx]; first | done | omega)) only [go_sem, q1, q5, q6, hz]; (repeat with_reducible refine aI ?_)); first | done | exact rfl | omega)))
      (refine s_takeG 11 rfl rfl rfl (by (first | (simp (disch := first | decide | omega | (simp only [nx]; first | done | omega)) only [go_sem, q1, q5, q6]; first | done | rfl) | rfl)) (by kernel_rfl) (by kernel_rfl) (v := ?v92) (fun S' hz => dquietR_of ?h92) ?k92; (case h92 => ((simp (disch := first | decide | omega | (simp only [nx]; first | done | omega)) only [go_sem, q1, q5, q6, hz]; (repeat with_reducible refine aI ?_)); first | done | exact rfl | omega)))
      (refine s_takeG 12 rfl rfl rfl (by (first | (simp (disch := first | decide | omega | (simp only [nx]; first | done | omega)) only [go_sem]; first | done | rfl) | rfl)) (by kernel_rfl) (by kernel_rfl) (v := ?v3) (fun S' hz => dquietR_of ?h3) ?k3; (case h3 => ((simp (disch := first | decide | omega | (simp only [nx]; first | done | omega)) only [go_sem, hz]; (repeat with_reducible refine aI ?_)); first | done | exact rfl | omega)))
      (refine s_takeG 13 rfl rfl rfl (by (first | (simp (disch := first | decide | omega | (simp only [nx]; first | done | omega)) only [go_sem]; first | done | rfl) | rfl)) (by kernel_rfl) (by kernel_rfl) (v := ?v4) (fun S' hz => dquietR_of ?h4) ?k4; (case h4 => ((simp (disch := first | decide | omega | (simp only [nx]; first | done | omega)) only [go_sem, hz]; (repeat with_reducible refine aI ?_)); first | done | exact rfl | omega)))
      refine s_split [10, 14] (by kernel_rfl) (by simp) ?_
      intro j_ hj_
      simp only [List.mem_cons, List.not_mem_nil, or_false] at hj_
      rcases hj_ with rfl | rfl
      · refine s_opG rfl rfl rfl (by (first | (simp (disch := first | decide | omega | (simp only [nx]; first | done | omega)) only [go_sem]; first | done | rfl) | rfl)) ?_
        (simp (disch := first | decide | omega | (simp only [nx]; first | done | omega)) only [go_sem, q1, q5, q6]; (repeat with_reducible refine aI ?_))
        refine (at_x r2).mono ?_
        rintro _ _ ⟨rfl, rfl⟩
        refine s_split [14] (by kernel_rfl) (by simp) ?_
        intro j_ hj_
        obtain rfl : j_ = 14 := (by simpa using hj_)
        clear hj_
        refine s_opG rfl rfl rfl (by (first | (simp (disch := first | decide | omega | (simp only [nx]; first | done | omega)) only [go_sem]; first | done | rfl) | rfl)) ?_
        (simp (disch := first | decide | omega | (simp only [nx]; first | done | omega)) only [go_sem, q2b]; (repeat with_reducible refine aI ?_))
        (refine s_takeG 15 rfl rfl rfl (by (first | (simp (disch := first | decide | omega | (simp only [nx]; first | done | omega)) only [go_sem, bne_self_eq_false]; first | done | rfl) | rfl)) (by kernel_rfl) (by kernel_rfl) (v := ?v5) (fun S' hz => dquietR_of ?h5) ?k5; (case h5 => ((simp (disch := first | decide | omega | (simp only [nx]; first | done | omega)) only [go_sem, bne_self_eq_false, hz]; (repeat with_reducible refine aI ?_)); first | done | exact rfl | omega)))
        (refine s_take 16 rfl (by kernel_rfl) (by kernel_rfl) (v := ?v6) (fun S' hz => dquietR_of ?h6) <| s_take 17 rfl (by kernel_rfl) (by kernel_rfl) (v := ?v7) (fun S' hz => dquietR_of ?h7) <| ?k7; (case h6 | h7 => ((simp (disch := first | decide | omega | (simp only [nx]; first | done | omega)) only [go_sem, hz]; (repeat with_reducible refine aI ?_)); first | done | exact rfl | omega)))
        (refine s_takeG 18 rfl rfl rfl (by (first | (simp (disch := first | decide | omega | (simp only [nx]; first | done | omega)) only [go_sem, q1, q5, q6]; first | done | rfl) | rfl)) (by kernel_rfl) (by kernel_rfl) (v := ?v93) (fun S' hz => dquietR_of ?h93) ?k93; (case h93 => ((simp (disch := first | decide | omega | (simp only [nx]; first | done | omega)) only [go_sem, q1, q5, q6, hz]; (repeat with_reducible refine aI ?_)); first | done | exact rfl | omega)))
        (refine s_takeG 20 rfl rfl rfl (by (first | (simp (disch := first | decide | omega | (simp only [nx]; first | done | omega)) only [go_sem, q1, q5, q6]; first | done | rfl) | rfl)) (by kernel_rfl) (by kernel_rfl) (v := ?v94) (fun S' hz => dquietR_of ?h94) ?k94; (case h94 => ((simp (disch := first | decide | omega | (simp only [nx]; first | done | omega)) only [go_sem, q1, q5, q6, hz]; (repeat with_reducible refine aI ?_)); first | done | exact rfl | omega)))
        (refine s_takeG 21 rfl rfl rfl (by (first | (simp (disch := first | decide | omega | (simp only [nx]; first | done | omega)) only [go_sem]; first | done | rfl) | rfl)) (by kernel_rfl) (by kernel_rfl) (v := ?v8) (fun S' hz => dquietR_of ?h8) ?k8; (case h8 => ((simp (disch := first | decide | omega | (simp only [nx]; first | done | omega)) only [go_sem, hz]; (repeat with_reducible refine aI ?_)); first | done | exact rfl | omega)))
        (refine s_takeG 22 rfl rfl rfl (by (first | (simp (disch := first | decide | omega | (simp only [nx]; first | done | omega)) only [go_sem]; first | done | rfl) | rfl)) (by kernel_rfl) (by kernel_rfl) (v := ?v9) (fun S' hz => dquietR_of ?h9) ?k9; (case h9 => ((simp (disch := first | decide | omega | (simp only [nx]; first | done | omega)) only [go_sem, hz]; (repeat with_reducible refine aI ?_)); first | done | exact rfl | omega)))
        (refine s_takeG 24 rfl rfl rfl (by (first | (simp (disch := first | decide | omega | (simp only [nx]; first | done | omega)) only [go_sem, q1, q5, q6]; first | done | rfl) | rfl)) (by kernel_rfl) (by kernel_rfl) (v := ?v95) (fun S' hz => dquietR_of ?h95) ?k95; (case h95 => ((simp (disch := first | decide | omega | (simp only [nx]; first | done | omega)) only [go_sem, q1, q5, q6, hz]; (repeat with_reducible refine aI ?_)); first | done | exact rfl | omega)))
        (refine s_takeG 25 rfl rfl rfl (by (first | (simp (disch := first | decide | omega | (simp only [nx]; first | done | omega)) only [go_sem]; first | done | rfl) | rfl)) (by kernel_rfl) (by kernel_rfl) (v := ?v10) (fun S' hz => dquietR_of ?h10) ?k10; (case h10 => ((simp (disch := first | decide | omega | (simp only [nx]; first | done | omega)) only [go_sem, hz]; (repeat with_reducible refine aI ?_)); first | done | exact rfl | omega)))
        (refine s_takeG 26 rfl rfl rfl (by (first | (simp (disch := first | decide | omega | (simp only [nx]; first | done | omega)) only [go_sem]; first | done | rfl) | rfl)) (by kernel_rfl) (by kernel_rfl) (v := ?v11) (fun S' hz => dquietR_of ?h11) ?k11; (case h11 => ((simp (disch := first | decide | omega | (simp only [nx]; first | done | omega)) only [go_sem, hz]; (repeat with_reducible refine aI ?_)); first | done | exact rfl | omega)))
        refine s_split [19, 23, 27] (by kernel_rfl) (by simp) ?_
        intro j_ hj_
        simp only [List.mem_cons, List.not_mem_nil, or_false] at hj_
        rcases hj_ with rfl | rfl | rfl
        · refine s_opG rfl rfl rfl (by (first | (simp (disch := first | decide | omega | (simp only [nx]; first | done | omega)) only [go_sem]; first | done | rfl) | rfl)) ?_
          (simp (disch := first | decide | omega | (simp only [nx]; first | done | omega)) only [go_sem, q1, q5, q6]; (repeat with_reducible refine aI ?_))
          refine (err_x r2).mono ?_
          rintro er _ ⟨her, rfl⟩
          refine s_split [23, 27] (by kernel_rfl) (by simp) ?_
          intro j_ hj_
          simp only [List.mem_cons, List.not_mem_nil, or_false] at hj_
          rcases hj_ with rfl | rfl
          · refine s_opG rfl rfl rfl (by (first | (simp (disch := first | decide | omega | (simp only [nx]; first | done | omega)) only [go_sem]; first | done | rfl) | rfl)) ?_
            (simp (disch := first | decide | omega | (simp only [nx]; first | done | omega)) only [go_sem, q2b]; (repeat with_reducible refine aI ?_))
            refine s_split [27] (by kernel_rfl) (by simp) ?_
            intro j_ hj_
            obtain rfl : j_ = 27 := (by simpa using hj_)
            clear hj_
            refine s_opG rfl rfl rfl (by (first | (simp (disch := first | decide | omega | (simp only [nx]; first | done | omega)) only [go_sem]; first | done | rfl) | rfl)) ?_
            (simp (disch := first | decide | omega | (simp only [nx]; first | done | omega)) only [go_sem, q2b]; (repeat with_reducible refine aI ?_))
            refine s_split [28] (by kernel_rfl) (by simp) ?_
            intro j_ hj_
            obtain rfl : j_ = 28 := (by simpa using hj_)
            clear hj_
            refine s_opG rfl rfl rfl (by (first | (simp (disch := first | decide | omega | (simp only [nx]; first | done | omega)) only [go_sem]; first | done | rfl) | rfl)) ?_
            (simp (disch := first | decide | omega | (simp only [nx]; first | done | omega)) only [go_sem]; (repeat with_reducible refine aI ?_))
            refine (told_x her).go ?_
            (refine s_takeG 29 rfl rfl rfl (by (first | (simp (disch := first | decide | omega | (simp only [nx]; first | done | omega)) only [go_sem]; first | done | rfl) | rfl)) (by kernel_rfl) (by kernel_rfl) (v := ?v12) (fun S' hz => dquietR_of ?h12) ?k12; (case h12 => ((simp (disch := first | decide | omega | (simp only [nx]; first | done | omega)) only [go_sem, hz]; (repeat with_reducible refine aI ?_)); first | done | exact rfl | omega)))
            (refine s_take 30 rfl (by kernel_rfl) (by kernel_rfl) (v := ?v13) (fun S' hz => dquietR_of ?h13) ?k13; (case h13 => ((simp (disch := first | decide | omega | (simp only [nx]; first | done | omega)) only [go_sem, hz]; (repeat with_reducible refine aI ?_)); first | done | exact rfl | omega)))
            (refine s_done (by kernel_rfl) ?_; (simp (disch := first | decide | omega | (simp only [nx]; first | done | omega)) only [go_sem, qj, q1, q5, q6, w1]; (repeat with_reducible refine aI ?_)))
            refine ⟨by omega, _, fun _ _ h => h, by omega, by (first | (simp (disch := first | decide | omega | (simp only [nx]; first | done | omega)) only [go_sem]; first | done | rfl) | rfl), y, hy1, r2, q2, ?_, ?_⟩
            · exact Nat.le_trans hnx hn2
            · intro j o e; have := hS.lt e; exact hF2 j o (by omega) (by omega) (hF1 j o e)
          · refine s_opG rfl rfl rfl (by (first | (simp (disch := first | decide | omega | (simp only [nx]; first | done | omega)) only [go_sem]; first | done | rfl) | rfl)) ?_
            (simp (disch := first | decide | omega | (simp only [nx]; first | done | omega)) only [go_sem, q2b]; (repeat with_reducible refine aI ?_))
            refine s_split [23] (by kernel_rfl) (by simp) ?_
            intro j_ hj_
            obtain rfl : j_ = 23 := (by simpa using hj_)
            clear hj_
            refine s_opG rfl rfl rfl (by (first | (simp (disch := first | decide | omega | (simp only [nx]; first | done | omega)) only [go_sem]; first | done | rfl) | rfl)) ?_
            (simp (disch := first | decide | omega | (simp only [nx]; first | done | omega)) only [go_sem, q2b]; (repeat with_reducible refine aI ?_))
            refine s_split [28] (by kernel_rfl) (by simp) ?_
            intro j_ hj_
            obtain rfl : j_ = 28 := (by simpa using hj_)
            clear hj_
            refine s_opG rfl rfl rfl (by (first | (simp (disch := first | decide | omega | (simp only [nx]; first | done | omega)) only [go_sem]; first | done | rfl) | rfl)) ?_
            (simp (disch := first | decide | omega | (simp only [nx]; first | done | omega)) only [go_sem]; (repeat with_reducible refine aI ?_))
            refine (told_x her).go ?_
            (refine s_takeG 29 rfl rfl rfl (by (first | (simp (disch := first | decide | omega | (simp only [nx]; first | done | omega)) only [go_sem]; first | done | rfl) | rfl)) (by kernel_rfl) (by kernel_rfl) (v := ?v14) (fun S' hz => dquietR_of ?h14) ?k14; (case h14 => ((simp (disch := first | decide | omega | (simp only [nx]; first | done | omega)) only [go_sem, hz]; (repeat with_reducible refine aI ?_)); first | done | exact rfl | omega)))
            (refine s_take 30 rfl (by kernel_rfl) (by kernel_rfl) (v := ?v15) (fun S' hz => dquietR_of ?h15) ?k15; (case h15 => ((simp (disch := first | decide | omega | (simp only [nx]; first | done | omega)) only [go_sem, hz]; (repeat with_reducible refine aI ?_)); first | done | exact rfl | omega)))
            (refine s_done (by kernel_rfl) ?_; (simp (disch := first | decide | omega | (simp only [nx]; first | done | omega)) only [go_sem, qj, q1, q5, q6, w1]; (repeat with_reducible refine aI ?_)))
            refine ⟨by omega, _, fun _ _ h => h, by omega, by (first | (simp (disch := first | decide | omega | (simp only [nx]; first | done | omega)) only [go_sem]; first | done | rfl) | rfl), y, hy1, r2, q2, ?_, ?_⟩
            · exact Nat.le_trans hnx hn2
            · intro j o e; have := hS.lt e; exact hF2 j o (by omega) (by omega) (hF1 j o e)
        · refine s_opG rfl rfl rfl (by (first | (simp (disch := first | decide | omega | (simp only [nx]; first | done | omega)) only [go_sem]; first | done | rfl) | rfl)) ?_
          (simp (disch := first | decide | omega | (simp only [nx]; first | done | omega)) only [go_sem, q2b]; (repeat with_reducible refine aI ?_))
          refine s_split [19, 27] (by kernel_rfl) (by simp) ?_
          intro j_ hj_
          simp only [List.mem_cons, List.not_mem_nil, or_false] at hj_
          rcases hj_ with rfl | rfl
          · refine s_opG rfl rfl rfl (by (first | (simp (disch := first | decide | omega | (simp only [nx]; first | done | omega)) only [go_sem]; first | done | rfl) | rfl)) ?_
            (simp (disch := first | decide | omega | (simp only [nx]; first | done | omega)) only [go_sem, q1, q5, q6]; (repeat with_reducible refine aI ?_))
            refine (err_x r2).mono ?_
            rintro er _ ⟨her, rfl⟩
            refine s_split [27] (by kernel_rfl) (by simp) ?_
            intro j_ hj_
            obtain rfl : j_ = 27 := (by simpa using hj_)
            clear hj_
            refine s_opG rfl rfl rfl (by (first | (simp (disch := first | decide | omega | (simp only [nx]; first | done | omega)) only [go_sem]; first | done | rfl) | rfl)) ?_
            (simp (disch := first | decide | omega | (simp only [nx]; first | done | omega)) only [go_sem, q2b]; (repeat with_reducible refine aI ?_))
            refine s_split [28] (by kernel_rfl) (by simp) ?_
            intro j_ hj_
            obtain rfl : j_ = 28 := (by simpa using hj_)
            clear hj_
            refine s_opG rfl rfl rfl (by (first | (simp (disch := first | decide | omega | (simp only [nx]; first | done | omega)) only [go_sem]; first | done | rfl) | rfl)) ?_
            (simp (disch := first | decide | omega | (simp only [nx]; first | done | omega)) only [go_sem]; (repeat with_reducible refine aI ?_))
            refine (told_x her).go ?_
            (refine s_takeG 29 rfl rfl rfl (by (first | (simp (disch := first | decide | omega | (simp only [nx]; first | done | omega)) only [go_sem]; first | done | rfl) | rfl)) (by kernel_rfl) (by kernel_rfl) (v := ?v16) (fun S' hz => dquietR_of ?h16) ?k16; (case h16 => ((simp (disch := first | decide | omega | (simp only [nx]; first | done | omega)) only [go_sem, hz]; (repeat with_reducible refine aI ?_)); first | done | exact rfl | omega)))
            (refine s_take 30 rfl (by kernel_rfl) (by kernel_rfl) (v := ?v17) (fun S' hz => dquietR_of ?h17) ?k17; (case h17 => ((simp (disch := first | decide | omega | (simp only [nx]; first | done | omega)) only [go_sem, hz]; (repeat with_reducible refine aI ?_)); first | done | exact rfl | omega)))
            (refine s_done (by kernel_rfl) ?_; (simp (disch := first | decide | omega | (simp only [nx]; first | done | omega)) only [go_sem, qj, q1, q5, q6, w1]; (repeat with_reducible refine aI ?_)))
            refine ⟨by omega, _, fun _ _ h => h, by omega, by (first | (simp (disch := first | decide | omega | (simp only [nx]; first | done | omega)) only [go_sem]; first | done | rfl) | rfl), y, hy1, r2, q2, ?_, ?_⟩
            · exact Nat.le_trans hnx hn2
            · intro j o e; have := hS.lt e; exact hF2 j o (by omega) (by omega) (hF1 j o e)
          · refine s_opG rfl rfl rfl (by (first | (simp (disch := first | decide | omega | (simp only [nx]; first | done | omega)) only [go_sem]; first | done | rfl) | rfl)) ?_
            (simp (disch := first | decide | omega | (simp only [nx]; first | done | omega)) only [go_sem, q2b]; (repeat with_reducible refine aI ?_))
            refine s_split [19] (by kernel_rfl) (by simp) ?_
            intro j_ hj_
            obtain rfl : j_ = 19 := (by simpa using hj_)
            clear hj_
            refine s_opG rfl rfl rfl (by (first | (simp (disch := first | decide | omega | (simp only [nx]; first | done | omega)) only [go_sem]; first | done | rfl) | rfl)) ?_
            (simp (disch := first | decide | omega | (simp only [nx]; first | done | omega)) only [go_sem, q1, q5, q6]; (repeat with_reducible refine aI ?_))
            refine (err_x r2).mono ?_
            rintro er _ ⟨her, rfl⟩
            refine s_split [28] (by kernel_rfl) (by simp) ?_
            intro j_ hj_
            obtain rfl : j_ = 28 := (by simpa using hj_)
            clear hj_
            refine s_opG rfl rfl rfl (by (first | (simp (disch := first | decide | omega | (simp only [nx]; first | done | omega)) only [go_sem]; first | done | rfl) | rfl)) ?_
            (simp (disch := first | decide | omega | (simp only [nx]; first | done | omega)) only [go_sem]; (repeat with_reducible refine aI ?_))
            refine (told_x her).go ?_
            (refine s_takeG 29 rfl rfl rfl (by (first | (simp (disch := first | decide | omega | (simp only [nx]; first | done | omega)) only [go_sem]; first | done | rfl) | rfl)) (by kernel_rfl) (by kernel_rfl) (v := ?v18) (fun S' hz => dquietR_of ?h18) ?k18; (case h18 => ((simp (disch := first | decide | omega | (simp only [nx]; first | done | omega)) only [go_sem, hz]; (repeat with_reducible refine aI ?_)); first | done | exact rfl | omega)))
            (refine s_take 30 rfl (by kernel_rfl) (by kernel_rfl) (v := ?v19) (fun S' hz => dquietR_of ?h19) ?k19; (case h19 => ((simp (disch := first | decide | omega | (simp only [nx]; first | done | omega)) only [go_sem, hz]; (repeat with_reducible refine aI ?_)); first | done | exact rfl | omega)))
            (refine s_done (by kernel_rfl) ?_; (simp (disch := first | decide | omega | (simp only [nx]; first | done | omega)) only [go_sem, qj, q1, q5, q6, w1]; (repeat with_reducible refine aI ?_)))
            refine ⟨by omega, _, fun _ _ h => h, by omega, by (first | (simp (disch := first | decide | omega | (simp only [nx]; first | done | omega)) only [go_sem]; first | done | rfl) | rfl), y, hy1, r2, q2, ?_, ?_⟩
            · exact Nat.le_trans hnx hn2
            · intro j o e; have := hS.lt e; exact hF2 j o (by omega) (by omega) (hF1 j o e)
        · refine s_opG rfl rfl rfl (by (first | (simp (disch := first | decide | omega | (simp only [nx]; first | done | omega)) only [go_sem]; first | done | rfl) | rfl)) ?_
          (simp (disch := first | decide | omega | (simp only [nx]; first | done | omega)) only [go_sem, q2b]; (repeat with_reducible refine aI ?_))
          refine s_split [19, 23] (by kernel_rfl) (by simp) ?_
          intro j_ hj_
          simp only [List.mem_cons, List.not_mem_nil, or_false] at hj_
          rcases hj_ with rfl | rfl
          · refine s_opG rfl rfl rfl (by (first | (simp (disch := first | decide | omega | (simp only [nx]; first | done | omega)) only [go_sem]; first | done | rfl) | rfl)) ?_
            (simp (disch := first | decide | omega | (simp only [nx]; first | done | omega)) only [go_sem, q1, q5, q6]; (repeat with_reducible refine aI ?_))
            refine (err_x r2).mono ?_
            rintro er _ ⟨her, rfl⟩
            refine s_split [23] (by kernel_rfl) (by simp) ?_
            intro j_ hj_
            obtain rfl : j_ = 23 := (by simpa using hj_)
            clear hj_
            refine s_opG rfl rfl rfl (by (first | (simp (disch := first | decide | omega | (simp only [nx]; first | done | omega)) only [go_sem]; first | done | rfl) | rfl)) ?_
            (simp (disch := first | decide | omega | (simp only [nx]; first | done | omega)) only [go_sem, q2b]; (repeat with_reducible refine aI ?_))
            refine s_split [28] (by kernel_rfl) (by simp) ?_
            intro j_ hj_
            obtain rfl : j_ = 28 := (by simpa using hj_)
            clear hj_
            refine s_opG rfl rfl rfl (by (first | (simp (disch := first | decide | omega | (simp only [nx]; first | done | omega)) only [go_sem]; first | done | rfl) | rfl)) ?_
            (simp (disch := first | decide | omega | (simp only [nx]; first | done | omega)) only [go_sem]; (repeat with_reducible refine aI ?_))
            refine (told_x her).go ?_
            (refine s_takeG 29 rfl rfl rfl (by (first | (simp (disch := first | decide | omega | (simp only [nx]; first | done | omega)) only [go_sem]; first | done | rfl) | rfl)) (by kernel_rfl) (by kernel_rfl) (v := ?v20) (fun S' hz => dquietR_of ?h20) ?k20; (case h20 => ((simp (disch := first | decide | omega | (simp only [nx]; first | done | omega)) only [go_sem, hz]; (repeat with_reducible refine aI ?_)); first | done | exact rfl | omega)))
            (refine s_take 30 rfl (by kernel_rfl) (by kernel_rfl) (v := ?v21) (fun S' hz => dquietR_of ?h21) ?k21; (case h21 => ((simp (disch := first | decide | omega | (simp only [nx]; first | done | omega)) only [go_sem, hz]; (repeat with_reducible refine aI ?_)); first | done | exact rfl | omega)))
            (refine s_done (by kernel_rfl) ?_; (simp (disch := first | decide | omega | (simp only [nx]; first | done | omega)) only [go_sem, qj, q1, q5, q6, w1]; (repeat with_reducible refine aI ?_)))
            refine ⟨by omega, _, fun _ _ h => h, by omega, by (first | (simp (disch := first | decide | omega | (simp only [nx]; first | done | omega)) only [go_sem]; first | done | rfl) | rfl), y, hy1, r2, q2, ?_, ?_⟩
            · exact Nat.le_trans hnx hn2
            · intro j o e; have := hS.lt e; exact hF2 j o (by omega) (by omega) (hF1 j o e)
          · refine s_opG rfl rfl rfl (by (first | (simp (disch := first | decide | omega | (simp only [nx]; first | done | omega)) only [go_sem]; first | done | rfl) | rfl)) ?_
            (simp (disch := first | decide | omega | (simp only [nx]; first | done | omega)) only [go_sem, q2b]; (repeat with_reducible refine aI ?_))
            refine s_split [19] (by kernel_rfl) (by simp) ?_
            intro j_ hj_
            obtain rfl : j_ = 19 := (by simpa using hj_)
            clear hj_
            refine s_opG rfl rfl rfl (by (first | (simp (disch := first | decide | omega | (simp only [nx]; first | done | omega)) only [go_sem]; first | done | rfl) | rfl)) ?_
            (simp (disch := first | decide | omega | (simp only [nx]; first | done | omega)) only [go_sem, q1, q5, q6]; (repeat with_reducible refine aI ?_))
            refine (err_x r2).mono ?_
            rintro er _ ⟨her, rfl⟩
            refine s_split [28] (by kernel_rfl) (by simp) ?_
            intro j_ hj_
            obtain rfl : j_ = 28 := (by simpa using hj_)
            clear hj_
            refine s_opG rfl rfl rfl (by (first | (simp (disch := first | decide | omega | (simp only [nx]; first | done | omega)) only [go_sem]; first | done | rfl) | rfl)) ?_
            (simp (disch := first | decide | omega | (simp only [nx]; first | done | omega)) only [go_sem]; (repeat with_reducible refine aI ?_))
            refine (told_x her).go ?_
            (refine s_takeG 29 rfl rfl rfl (by (first | (simp (disch := first | decide | omega | (simp only [nx]; first | done | omega)) only [go_sem]; first | done | rfl) | rfl)) (by kernel_rfl) (by kernel_rfl) (v := ?v22) (fun S' hz => dquietR_of ?h22) ?k22; (case h22 => ((simp (disch := first | decide | omega | (simp only [nx]; first | done | omega)) only [go_sem, hz]; (repeat with_reducible refine aI ?_)); first | done | exact rfl | omega)))
            (refine s_take 30 rfl (by kernel_rfl) (by kernel_rfl) (v := ?v23) (fun S' hz => dquietR_of ?h23) ?k23; (case h23 => ((simp (disch := first | decide | omega | (simp only [nx]; first | done | omega)) only [go_sem, hz]; (repeat with_reducible refine aI ?_)); first | done | exact rfl | omega)))
            (refine s_done (by kernel_rfl) ?_; (simp (disch := first | decide | omega | (simp only [nx]; first | done | omega)) only [go_sem, qj, q1, q5, q6, w1]; (repeat with_reducible refine aI ?_)))
            refine ⟨by omega, _, fun _ _ h => h, by omega, by (first | (simp (disch := first | decide | omega | (simp only [nx]; first | done | omega)) only [go_sem]; first | done | rfl) | rfl), y, hy1, r2, q2, ?_, ?_⟩
            · exact Nat.le_trans hnx hn2
            · intro j o e; have := hS.lt e; exact hF2 j o (by omega) (by omega) (hF1 j o e)
      · refine s_opG rfl rfl rfl (by (first | (simp (disch := first | decide | omega | (simp only [nx]; first | done | omega)) only [go_sem]; first | done | rfl) | rfl)) ?_
        (simp (disch := first | decide | omega | (simp only [nx]; first | done | omega)) only [go_sem, q2b]; (repeat with_reducible refine aI ?_))
        refine s_split [10] (by kernel_rfl) (by simp) ?_
        intro j_ hj_
        obtain rfl : j_ = 10 := (by simpa using hj_)
        clear hj_
        refine s_opG rfl rfl rfl (by (first | (simp (disch := first | decide | omega | (simp only [nx]; first | done | omega)) only [go_sem]; first | done | rfl) | rfl)) ?_
        (simp (disch := first | decide | omega | (simp only [nx]; first | done | omega)) only [go_sem, q1, q5, q6]; (repeat with_reducible refine aI ?_))
        refine (at_x r2).mono ?_
        rintro _ _ ⟨rfl, rfl⟩
        (refine s_takeG 15 rfl rfl rfl (by (first | (simp (disch := first | decide | omega | (simp only [nx]; first | done | omega)) only [go_sem, bne_self_eq_false]; first | done | rfl) | rfl)) (by kernel_rfl) (by kernel_rfl) (v := ?v24) (fun S' hz => dquietR_of ?h24) ?k24; (case h24 => ((simp (disch := first | decide | omega | (simp only [nx]; first | done | omega)) only [go_sem, bne_self_eq_false, hz]; (repeat with_reducible refine aI ?_)); first | done | exact rfl | omega)))
        (refine s_take 16 rfl (by kernel_rfl) (by kernel_rfl) (v := ?v25) (fun S' hz => dquietR_of ?h25) <| s_take 17 rfl (by kernel_rfl) (by kernel_rfl) (v := ?v26) (fun S' hz => dquietR_of ?h26) <| ?k26; (case h25 | h26 => ((simp (disch := first | decide | omega | (simp only [nx]; first | done | omega)) only [go_sem, hz]; (repeat with_reducible refine aI ?_)); first | done | exact rfl | omega)))
        (refine s_takeG 18 rfl rfl rfl (by (first | (simp (disch := first | decide | omega | (simp only [nx]; first | done | omega)) only [go_sem, q1, q5, q6]; first | done | rfl) | rfl)) (by kernel_rfl) (by kernel_rfl) (v := ?v96) (fun S' hz => dquietR_of ?h96) ?k96; (case h96 => ((simp (disch := first | decide | omega | (simp only [nx]; first | done | omega)) only [go_sem, q1, q5, q6, hz]; (repeat with_reducible refine aI ?_)); first | done | exact rfl | omega)))
        (refine s_takeG 20 rfl rfl rfl (by (first | (simp (disch := first | decide | omega | (simp only [nx]; first | done | omega)) only [go_sem, q1, q5, q6]; first | done | rfl) | rfl)) (by kernel_rfl) (by kernel_rfl) (v := ?v97) (fun S' hz => dquietR_of ?h97) ?k97; (case h97 => ((simp (disch := first | decide | omega | (simp only [nx]; first | done | omega)) only [go_sem, q1, q5, q6, hz]; (repeat with_reducible refine aI ?_)); first | done | exact rfl | omega)))
        (refine s_takeG 21 rfl rfl rfl (by (first | (simp (disch := first | decide | omega | (simp only [nx]; first | done | omega)) only [go_sem]; first | done | rfl) | rfl)) (by kernel_rfl) (by kernel_rfl) (v := ?v27) (fun S' hz => dquietR_of ?h27) ?k27; (case h27 => ((simp (disch := first | decide | omega | (simp only [nx]; first | done | omega)) only [go_sem, hz]; (repeat with_reducible refine aI ?_)); first | done | exact rfl | omega)))
        (refine s_takeG 22 rfl rfl rfl (by (first | (simp (disch := first | decide | omega | (simp only [nx]; first | done | omega)) only [go_sem]; first | done | rfl) | rfl)) (by kernel_rfl) (by kernel_rfl) (v := ?v28) (fun S' hz => dquietR_of ?h28) ?k28; (case h28 => ((simp (disch := first | decide | omega | (simp only [nx]; first | done | omega)) only [go_sem, hz]; (repeat with_reducible refine aI ?_)); first | done | exact rfl | omega)))
        (refine s_takeG 24 rfl rfl rfl (by (first | (simp (disch := first | decide | omega | (simp only [nx]; first | done | omega)) only [go_sem, q1, q5, q6]; first | done | rfl) | rfl)) (by kernel_rfl) (by kernel_rfl) (v := ?v98) (fun S' hz => dquietR_of ?h98) ?k98; (case h98 => ((simp (disch := first | decide | omega | (simp only [nx]; first | done | omega)) only [go_sem, q1, q5, q6, hz]; (repeat with_reducible refine aI ?_)); first | done | exact rfl | omega)))
        (refine s_takeG 25 rfl rfl rfl (by (first | (simp (disch := first | decide | omega | (simp only [nx]; first | done | omega)) only [go_sem]; first | done | rfl) | rfl)) (by kernel_rfl) (by kernel_rfl) (v := ?v29) (fun S' hz => dquietR_of ?h29) ?k29; (case h29 => ((simp (disch := first | decide | omega | (simp only [nx]; first | done | omega)) only [go_sem, hz]; (repeat with_reducible refine aI ?_)); first | done | exact rfl | omega)))
        (refine s_takeG 26 rfl rfl rfl (by (first | (simp (disch := first | decide | omega | (simp only [nx]; first | done | omega)) only [go_sem]; first | done | rfl) | rfl)) (by kernel_rfl) (by kernel_rfl) (v := ?v30) (fun S' hz => dquietR_of ?h30) ?k30; (case h30 => ((simp (disch := first | decide | omega | (simp only [nx]; first | done | omega)) only [go_sem, hz]; (repeat with_reducible refine aI ?_)); first | done | exact rfl | omega)))
        refine s_split [19, 23, 27] (by kernel_rfl) (by simp) ?_
        intro j_ hj_
        simp only [List.mem_cons, List.not_mem_nil, or_false] at hj_
        rcases hj_ with rfl | rfl | rfl
        · refine s_opG rfl rfl rfl (by (first | (simp (disch := first | decide | omega | (simp only [nx]; first | done | omega)) only [go_sem]; first | done | rfl) | rfl)) ?_
          (simp (disch := first | decide | omega | (simp only [nx]; first | done | omega)) only [go_sem, q1, q5, q6]; (repeat with_reducible refine aI ?_))
          refine (err_x r2).mono ?_
          rintro er _ ⟨her, rfl⟩
          refine s_split [23, 27] (by kernel_rfl) (by simp) ?_
          intro j_ hj_
          simp only [List.mem_cons, List.not_mem_nil, or_false] at hj_
          rcases hj_ with rfl | rfl
          · refine s_opG rfl rfl rfl (by (first | (simp (disch := first | decide | omega | (simp only [nx]; first | done | omega)) only [go_sem]; first | done | rfl) | rfl)) ?_
            (simp (disch := first | decide | omega | (simp only [nx]; first | done | omega)) only [go_sem, q2b]; (repeat with_reducible refine aI ?_))
            refine s_split [27] (by kernel_rfl) (by simp) ?_
            intro j_ hj_
            obtain rfl : j_ = 27 := (by simpa using hj_)
            clear hj_
            refine s_opG rfl rfl rfl (by (first | (simp (disch := first | decide | omega | (simp only [nx]; first | done | omega)) only [go_sem]; first | done | rfl) | rfl)) ?_
            (simp (disch := first | decide | omega | (simp only [nx]; first | done | omega)) only [go_sem, q2b]; (repeat with_reducible refine aI ?_))
            refine s_split [28] (by kernel_rfl) (by simp) ?_
            intro j_ hj_
            obtain rfl : j_ = 28 := (by simpa using hj_)
            clear hj_
            refine s_opG rfl rfl rfl (by (first | (simp (disch := first | decide | omega | (simp only [nx]; first | done | omega)) only [go_sem]; first | done | rfl) | rfl)) ?_
            (simp (disch := first | decide | omega | (simp only [nx]; first | done | omega)) only [go_sem]; (repeat with_reducible refine aI ?_))
            refine (told_x her).go ?_
            (refine s_takeG 29 rfl rfl rfl (by (first | (simp (disch := first | decide | omega | (simp only [nx]; first | done | omega)) only [go_sem]; first | done | rfl) | rfl)) (by kernel_rfl) (by kernel_rfl) (v := ?v31) (fun S' hz => dquietR_of ?h31) ?k31; (case h31 => ((simp (disch := first | decide | omega | (simp only [nx]; first | done | omega)) only [go_sem, hz]; (repeat with_reducible refine aI ?_)); first | done | exact rfl | omega)))
            (refine s_take 30 rfl (by kernel_rfl) (by kernel_rfl) (v := ?v32) (fun S' hz => dquietR_of ?h32) ?k32; (case h32 => ((simp (disch := first | decide | omega | (simp only [nx]; first | done | omega)) only [go_sem, hz]; (repeat with_reducible refine aI ?_)); first | done | exact rfl | omega)))
            (refine s_done (by kernel_rfl) ?_; (simp (disch := first | decide | omega | (simp only [nx]; first | done | omega)) only [go_sem, qj, q1, q5, q6, w1]; (repeat with_reducible refine aI ?_)))
            refine ⟨by omega, _, fun _ _ h => h, by omega, by (first | (simp (disch := first | decide | omega | (simp only [nx]; first | done | omega)) only [go_sem]; first | done | rfl) | rfl), y, hy1, r2, q2, ?_, ?_⟩
            · exact Nat.le_trans hnx hn2
            · intro j o e; have := hS.lt e; exact hF2 j o (by omega) (by omega) (hF1 j o e)
          · refine s_opG rfl rfl rfl (by (first | (simp (disch := first | decide | omega | (simp only [nx]; first | done | omega)) only [go_sem]; first | done | rfl) | rfl)) ?_
            (simp (disch := first | decide | omega | (simp only [nx]; first | done | omega)) only [go_sem, q2b]; (repeat with_reducible refine aI ?_))
            refine s_split [23] (by kernel_rfl) (by simp) ?_
            intro j_ hj_
            obtain rfl : j_ = 23 := (by simpa using hj_)
            clear hj_
            refine s_opG rfl rfl rfl (by (first | (simp (disch := first | decide | omega | (simp only [nx]; first | done | omega)) only [go_sem]; first | done | rfl) | rfl)) ?_
            (simp (disch := first | decide | omega | (simp only [nx]; first | done | omega)) only [go_sem, q2b]; (repeat with_reducible refine aI ?_))
            refine s_split [28] (by kernel_rfl) (by simp) ?_
            intro j_ hj_
            obtain rfl : j_ = 28 := (by simpa using hj_)
            clear hj_
            refine s_opG rfl rfl rfl (by (first | (simp (disch := first | decide | omega | (simp only [nx]; first | done | omega)) only [go_sem]; first | done | rfl) | rfl)) ?_
            (simp (disch := first | decide | omega | (simp only [nx]; first | done | omega)) only [go_sem]; (repeat with_reducible refine aI ?_))
            refine (told_x her).go ?_
            (refine s_takeG 29 rfl rfl rfl (by (first | (simp (disch := first | decide | omega | (simp only [nx]; first | done | omega)) only [go_sem]; first | done | rfl) | rfl)) (by kernel_rfl) (by kernel_rfl) (v := ?v33) (fun S' hz => dquietR_of ?h33) ?k33; (case h33 => ((simp (disch := first | decide | omega | (simp only [nx]; first | done | omega)) only [go_sem, hz]; (repeat with_reducible refine aI ?_)); first | done | exact rfl | omega)))
            (refine s_take 30 rfl (by kernel_rfl) (by kernel_rfl) (v := ?v34) (fun S' hz => dquietR_of ?h34) ?k34; (case h34 => ((simp (disch := first | decide | omega | (simp only [nx]; first | done | omega)) only [go_sem, hz]; (repeat with_reducible refine aI ?_)); first | done | exact rfl | omega)))
            (refine s_done (by kernel_rfl) ?_; (simp (disch := first | decide | omega | (simp only [nx]; first | done | omega)) only [go_sem, qj, q1, q5, q6, w1]; (repeat with_reducible refine aI ?_)))
            refine ⟨by omega, _, fun _ _ h => h, by omega, by (first | (simp (disch := first | decide | omega | (simp only [nx]; first | done | omega)) only [go_sem]; first | done | rfl) | rfl), y, hy1, r2, q2, ?_, ?_⟩
            · exact Nat.le_trans hnx hn2
            · intro j o e; have := hS.lt e; exact hF2 j o (by omega) (by omega) (hF1 j o e)
        · refine s_opG rfl rfl rfl (by (first | (simp (disch := first | decide | omega | (simp only [nx]; first | done | omega)) only [go_sem]; first | done | rfl) | rfl)) ?_
          (simp (disch := first | decide | omega | (simp only [nx]; first | done | omega)) only [go_sem, q2b]; (repeat with_reducible refine aI ?_))
          refine s_split [19, 27] (by kernel_rfl) (by simp) ?_
          intro j_ hj_
          simp only [List.mem_cons, List.not_mem_nil, or_false] at hj_
          rcases hj_ with rfl | rfl
          · refine s_opG rfl rfl rfl (by (first | (simp (disch := first | decide | omega | (simp only [nx]; first | done | omega)) only [go_sem]; first | done | rfl) | rfl)) ?_
            (simp (disch := first | decide | omega | (simp only [nx]; first | done | omega)) only [go_sem, q1, q5, q6]; (repeat with_reducible refine aI ?_))
            refine (err_x r2).mono ?_
            rintro er _ ⟨her, rfl⟩
            refine s_split [27] (by kernel_rfl) (by simp) ?_
            intro j_ hj_
            obtain rfl : j_ = 27 := (by simpa using hj_)
            clear hj_
            refine s_opG rfl rfl rfl (by (first | (simp (disch := first | decide | omega | (simp only [nx]; first | done | omega)) only [go_sem]; first | done | rfl) | rfl)) ?_
            (simp (disch := first | decide | omega | (simp only [nx]; first | done | omega)) only [go_sem, q2b]; (repeat with_reducible refine aI ?_))
            refine s_split [28] (by kernel_rfl) (by simp) ?_
            intro j_ hj_
            obtain rfl : j_ = 28 := (by simpa using hj_)
            clear hj_
            refine s_opG rfl rfl rfl (by (first | (simp (disch := first | decide | omega | (simp only [nx]; first | done | omega)) only [go_sem]; first | done | rfl) | rfl)) ?_
            (simp (disch := first | decide | omega | (simp only [nx]; first | done | omega)) only [go_sem]; (repeat with_reducible refine aI ?_))
            refine (told_x her).go ?_
            (refine s_takeG 29 rfl rfl rfl (by (first | (simp (disch := first | decide | omega | (simp only [nx]; first | done | omega)) only [go_sem]; first | done | rfl) | rfl)) (by kernel_rfl) (by kernel_rfl) (v := ?v35) (fun S' hz => dquietR_of ?h35) ?k35; (case h35 => ((simp (disch := first | decide | omega | (simp only [nx]; first | done | omega)) only [go_sem, hz]; (repeat with_reducible refine aI ?_)); first | done | exact rfl | omega)))
            (refine s_take 30 rfl (by kernel_rfl) (by kernel_rfl) (v := ?v36) (fun S' hz => dquietR_of ?h36) ?k36; (case h36 => ((simp (disch := first | decide | omega | (simp only [nx]; first | done | omega)) only [go_sem, hz]; (repeat with_reducible refine aI ?_)); first | done | exact rfl | omega)))
            (refine s_done (by kernel_rfl) ?_; (simp (disch := first | decide | omega | (simp only [nx]; first | done | omega)) only [go_sem, qj, q1, q5, q6, w1]; (repeat with_reducible refine aI ?_)))
            refine ⟨by omega, _, fun _ _ h => h, by omega, by (first | (simp (disch := first | decide | omega | (simp only [nx]; first | done | omega)) only [go_sem]; first | done | rfl) | rfl), y, hy1, r2, q2, ?_, ?_⟩
            · exact Nat.le_trans hnx hn2
            · intro j o e; have := hS.lt e; exact hF2 j o (by omega) (by omega) (hF1 j o e)
          · refine s_opG rfl rfl rfl (by (first | (simp (disch := first | decide | omega | (simp only [nx]; first | done | omega)) only [go_sem]; first | done | rfl) | rfl)) ?_
            (simp (disch := first | decide | omega | (simp only [nx]; first | done | omega)) only [go_sem, q2b]; (repeat with_reducible refine aI ?_))
            refine s_split [19] (by kernel_rfl) (by simp) ?_
            intro j_ hj_
            obtain rfl : j_ = 19 := (by simpa using hj_)
            clear hj_
            refine s_opG rfl rfl rfl (by (first | (simp (disch := first | decide | omega | (simp only [nx]; first | done | omega)) only [go_sem]; first | done | rfl) | rfl)) ?_
            (simp (disch := first | decide | omega | (simp only [nx]; first | done | omega)) only [go_sem, q1, q5, q6]; (repeat with_reducible refine aI ?_))
            refine (err_x r2).mono ?_
            rintro er _ ⟨her, rfl⟩
            refine s_split [28] (by kernel_rfl) (by simp) ?_
            intro j_ hj_
            obtain rfl : j_ = 28 := (by simpa using hj_)
            clear hj_
            refine s_opG rfl rfl rfl (by (first | (simp (disch := first | decide | omega | (simp only [nx]; first | done | omega)) only [go_sem]; first | done | rfl) | rfl)) ?_
            (simp (disch := first | decide | omega | (simp only [nx]; first | done | omega)) only [go_sem]; (repeat with_reducible refine aI ?_))
            refine (told_x her).go ?_
            (refine s_takeG 29 rfl rfl rfl (by (first | (simp (disch := first | decide | omega | (simp only [nx]; first | done | omega)) only [go_sem]; first | done | rfl) | rfl)) (by kernel_rfl) (by kernel_rfl) (v := ?v37) (fun S' hz => dquietR_of ?h37) ?k37; (case h37 => ((simp (disch := first | decide | omega | (simp only [nx]; first | done | omega)) only [go_sem, hz]; (repeat with_reducible refine aI ?_)); first | done | exact rfl | omega)))
            (refine s_take 30 rfl (by kernel_rfl) (by kernel_rfl) (v := ?v38) (fun S' hz => dquietR_of ?h38) ?k38; (case h38 => ((simp (disch := first | decide | omega | (simp only [nx]; first | done | omega)) only [go_sem, hz]; (repeat with_reducible refine aI ?_)); first | done | exact rfl | omega)))
            (refine s_done (by kernel_rfl) ?_; (simp (disch := first | decide | omega | (simp only [nx]; first | done | omega)) only [go_sem, qj, q1, q5, q6, w1]; (repeat with_reducible refine aI ?_)))
            refine ⟨by omega, _, fun _ _ h => h, by omega, by (first | (simp (disch := first | decide | omega | (simp only [nx]; first | done | omega)) only [go_sem]; first | done | rfl) | rfl), y, hy1, r2, q2, ?_, ?_⟩
            · exact Nat.le_trans hnx hn2
            · intro j o e; have := hS.lt e; exact hF2 j o (by omega) (by omega) (hF1 j o e)
        · refine s_opG rfl rfl rfl (by (first | (simp (disch := first | decide | omega | (simp only [nx]; first | done | omega)) only [go_sem]; first | done | rfl) | rfl)) ?_
          (simp (disch := first | decide | omega | (simp only [nx]; first | done | omega)) only [go_sem, q2b]; (repeat with_reducible refine aI ?_))
          refine s_split [19, 23] (by kernel_rfl) (by simp) ?_
          intro j_ hj_
          simp only [List.mem_cons, List.not_mem_nil, or_false] at hj_
          rcases hj_ with rfl | rfl
          · refine s_opG rfl rfl rfl (by (first | (simp (disch := first | decide | omega | (simp only [nx]; first | done | omega)) only [go_sem]; first | done | rfl) | rfl)) ?_
            (simp (disch := first | decide | omega | (simp only [nx]; first | done | omega)) only [go_sem, q1, q5, q6]; (repeat with_reducible refine aI ?_))
            refine (err_x r2).mono ?_
            rintro er _ ⟨her, rfl⟩
            refine s_split [23] (by kernel_rfl) (by simp) ?_
            intro j_ hj_
            obtain rfl : j_ = 23 := (by simpa using hj_)
            clear hj_
            refine s_opG rfl rfl rfl (by (first | (simp (disch := first | decide | omega | (simp only [nx]; first | done | omega)) only [go_sem]; first | done | rfl) | rfl)) ?_
            (simp (disch := first | decide | omega | (simp only [nx]; first | done | omega)) only [go_sem, q2b]; (repeat with_reducible refine aI ?_))
            refine s_split [28] (by kernel_rfl) (by simp) ?_
            intro j_ hj_
            obtain rfl : j_ = 28 := (by simpa using hj_)
            clear hj_
            refine s_opG rfl rfl rfl (by (first | (simp (disch := first | decide | omega | (simp only [nx]; first | done | omega)) only [go_sem]; first | done | rfl) | rfl)) ?_
            (simp (disch := first | decide | omega | (simp only [nx]; first | done | omega)) only [go_sem]; (repeat with_reducible refine aI ?_))
            refine (told_x her).go ?_
            (refine s_takeG 29 rfl rfl rfl (by (first | (simp (disch := first | decide | omega | (simp only [nx]; first | done | omega)) only [go_sem]; first | done | rfl) | rfl)) (by kernel_rfl) (by kernel_rfl) (v := ?v39) (fun S' hz => dquietR_of ?h39) ?k39; (case h39 => ((simp (disch := first | decide | omega | (simp only [nx]; first | done | omega)) only [go_sem, hz]; (repeat with_reducible refine aI ?_)); first | done | exact rfl | omega)))
            (refine s_take 30 rfl (by kernel_rfl) (by kernel_rfl) (v := ?v40) (fun S' hz => dquietR_of ?h40) ?k40; (case h40 => ((simp (disch := first | decide | omega | (simp only [nx]; first | done | omega)) only [go_sem, hz]; (repeat with_reducible refine aI ?_)); first | done | exact rfl | omega)))
            (refine s_done (by kernel_rfl) ?_; (simp (disch := first | decide | omega | (simp only [nx]; first | done | omega)) only [go_sem, qj, q1, q5, q6, w1]; (repeat with_reducible refine aI ?_)))
            refine ⟨by omega, _, fun _ _ h => h, by omega, by (first | (simp (disch := first | decide | omega | (simp only [nx]; first | done | omega)) only [go_sem]; first | done | rfl) | rfl), y, hy1, r2, q2, ?_, ?_⟩
            · exact Nat.le_trans hnx hn2
            · intro j o e; have := hS.lt e; exact hF2 j o (by omega) (by omega) (hF1 j o e)
          · refine s_opG rfl rfl rfl (by (first | (simp (disch := first | decide | omega | (simp only [nx]; first | done | omega)) only [go_sem]; first | done | rfl) | rfl)) ?_
            (simp (disch := first | decide | omega | (simp only [nx]; first | done | omega)) only [go_sem, q2b]; (repeat with_reducible refine aI ?_))
            refine s_split [19] (by kernel_rfl) (by simp) ?_
            intro j_ hj_
            obtain rfl : j_ = 19 := (by simpa using hj_)
            clear hj_
            refine s_opG rfl rfl rfl (by (first | (simp (disch := first | decide | omega | (simp only [nx]; first | done | omega)) only [go_sem]; first | done | rfl) | rfl)) ?_
            (simp (disch := first | decide | omega | (simp only [nx]; first | done | omega)) only [go_sem, q1, q5, q6]; (repeat with_reducible refine aI ?_))
            refine (err_x r2).mono ?_
            rintro er _ ⟨her, rfl⟩
            refine s_split [28] (by kernel_rfl) (by simp) ?_
            intro j_ hj_
            obtain rfl : j_ = 28 := (by simpa using hj_)
            clear hj_
            refine s_opG rfl rfl rfl (by (first | (simp (disch := first | decide | omega | (simp only [nx]; first | done | omega)) only [go_sem]; first | done | rfl) | rfl)) ?_
            (simp (disch := first | decide | omega | (simp only [nx]; first | done | omega)) only [go_sem]; (repeat with_reducible refine aI ?_))
            refine (told_x her).go ?_
            (refine s_takeG 29 rfl rfl rfl (by (first | (simp (disch := first | decide | omega | (simp only [nx]; first | done | omega)) only [go_sem]; first | done | rfl) | rfl)) (by kernel_rfl) (by kernel_rfl) (v := ?v41) (fun S' hz => dquietR_of ?h41) ?k41; (case h41 => ((simp (disch := first | decide | omega | (simp only [nx]; first | done | omega)) only [go_sem, hz]; (repeat with_reducible refine aI ?_)); first | done | exact rfl | omega)))
            (refine s_take 30 rfl (by kernel_rfl) (by kernel_rfl) (v := ?v42) (fun S' hz => dquietR_of ?h42) ?k42; (case h42 => ((simp (disch := first | decide | omega | (simp only [nx]; first | done | omega)) only [go_sem, hz]; (repeat with_reducible refine aI ?_)); first | done | exact rfl | omega)))
            (refine s_done (by kernel_rfl) ?_; (simp (disch := first | decide | omega | (simp only [nx]; first | done | omega)) only [go_sem, qj, q1, q5, q6, w1]; (repeat with_reducible refine aI ?_)))
            refine ⟨by omega, _, fun _ _ h => h, by omega, by (first | (simp (disch := first | decide | omega | (simp only [nx]; first | done | omega)) only [go_sem]; first | done | rfl) | rfl), y, hy1, r2, q2, ?_, ?_⟩
            · exact Nat.le_trans hnx hn2
            · intro j o e; have := hS.lt e; exact hF2 j o (by omega) (by omega) (hF1 j o e)
    · have c6 : (fs[j].kind == 6) = false := by simpa using h6
      (simp (disch := first | decide | omega | (simp only [nx]; first | done | omega)) only [go_sem, qj, q1, q5, q6, b2, hgd, hjl, hg2, hcc, c6]; (repeat with_reducible refine aI ?_))
      refine ddraw_any (fun _ => True) 31 (by (first | (simp (disch := first | decide | omega | (simp only [nx]; first | done | omega)) only [go_sem]; first | done | rfl) | rfl)) (by kernel_rfl) ?_
      (refine s_take 0 rfl (by kernel_rfl) (by kernel_rfl) (v := ?v99) (fun S' hz => dquietR_of ?h99) <| s_take 1 rfl (by kernel_rfl) (by kernel_rfl) (v := ?v100) (fun S' hz => dquietR_of ?h100) <| s_take 2 rfl (by kernel_rfl) (by kernel_rfl) (v := ?v101) (fun S' hz => dquietR_of ?h101) <| s_take 3 rfl (by kernel_rfl) (by kernel_rfl) (v := ?v102) (fun S' hz => dquietR_of ?h102) <| s_take 4 rfl (by kernel_rfl) (by kernel_rfl) (v := ?v103) (fun S' hz => dquietR_of ?h103) <| s_take 5 rfl (by kernel_rfl) (by kernel_rfl) (v := ?v104) (fun S' hz => dquietR_of ?h104) <| ?k104; (case h99 | h100 | h101 | h102 | h103 | h104 => ((simp (disch := first | decide | omega | (simp only [nx]; first | done | omega)) only [go_sem, qj, q1, q5, q6, hgd, hjl, hg2, hcc, hz]; (repeat with_reducible refine aI ?_)); first | done | exact rfl | omega)))
      (refine s_split [6] (by kernel_rfl) (by simp) ?_; intro j_ hj_; obtain rfl : j_ = 6 := (by simpa using hj_); clear hj_; refine s_op rfl ?_; (simp (disch := first | decide | omega | (simp only [nx]; first | done | omega)) only [go_sem]; (repeat with_reducible refine aI ?_)))
      refine (reads_x fs[j] hkq (by omega) rj qx hx hl4 (hok _ (List.getElem_mem hj))).wf.mono ?_
      rintro _ T2 ⟨⟨rfl, y, hy1, r2, q2, hn2, hF2⟩, hT2⟩
      have q2b : T2.ob q = some (.box 43 [.sl own (l.map bD), .v (.int .i64 (y.1 : Int)), .v (.int .i64 y.2.1), .v (.int .i64 y.2.2)]) := q2
      (refine s_take 7 rfl (by kernel_rfl) (by kernel_rfl) (v := ?v43) (fun S' hz => dquietR_of ?h43) <| s_take 8 rfl (by kernel_rfl) (by kernel_rfl) (v := ?v44) (fun S' hz => dquietR_of ?h44) <| ?k44; (case h43 | h44 => ((simp (disch := first | decide | omega | (simp only [nx]; first | done | omega)) only [go_sem, hz]; (repeat with_reducible refine aI ?_)); first | done | exact rfl | omega)))
      (refine s_takeG 9 rfl rfl rfl (by (first | (simp (disch := first | decide | omega | (simp only [nx]; first | done | omega)) only [go_sem, q1, q5, q6]; first | done | rfl) | rfl)) (by kernel_rfl) (by kernel_rfl) (v := ?v105) (fun S' hz => dquietR_of ?h105) ?k105; (case h105 => ((simp (disch := first | decide | omega | (simp only [nx]; first | done | omega)) only [go_sem, q1, q5, q6, hz]; (repeat with_reducible refine aI ?_)); first | done | exact rfl | omega)))
      (refine s_takeG 11 rfl rfl rfl (by (first | (simp (disch := first | decide | omega | (simp only [nx]; first | done | omega)) only [go_sem, q1, q5, q6]; first | done | rfl) | rfl)) (by kernel_rfl) (by kernel_rfl) (v := ?v106) (fun S' hz => dquietR_of ?h106) ?k106; (case h106 => ((simp (disch := first | decide | omega | (simp only [nx]; first | done | omega)) only [go_sem, q1, q5, q6, hz]; (repeat with_reducible refine aI ?_)); first | done | exact rfl | omega)))
      (refine s_takeG 12 rfl rfl rfl (by (first | (simp (disch := first | decide | omega | (simp only [nx]; first | done | omega)) only [go_sem]; first | done | rfl) | rfl)) (by kernel_rfl) (by kernel_rfl) (v := ?v45) (fun S' hz => dquietR_of ?h45) ?k45; (case h45 => ((simp (disch := first | decide | omega | (simp only [nx]; first | done | omega)) only [go_sem, hz]; (repeat with_reducible refine aI ?_)); first | done | exact rfl | omega)))
      (refine s_takeG 13 rfl rfl rfl (by (first | (simp (disch := first | decide | omega | (simp only [nx]; first | done | omega)) only [go_sem]; first | done | rfl) | rfl)) (by kernel_rfl) (by kernel_rfl) (v := ?v46) (fun S' hz => dquietR_of ?h46) ?k46; (case h46 => ((simp (disch := first | decide | omega | (simp only [nx]; first | done | omega)) only [go_sem, hz]; (repeat with_reducible refine aI ?_)); first | done | exact rfl | omega)))
      refine s_split [10, 14] (by kernel_rfl) (by simp) ?_
      intro j_ hj_
      simp only [List.mem_cons, List.not_mem_nil, or_false] at hj_
      rcases hj_ with rfl | rfl
      · refine s_opG rfl rfl rfl (by (first | (simp (disch := first | decide | omega | (simp only [nx]; first | done | omega)) only [go_sem]; first | done | rfl) | rfl)) ?_
        (simp (disch := first | decide | omega | (simp only [nx]; first | done | omega)) only [go_sem, q1, q5, q6]; (repeat with_reducible refine aI ?_))
        refine (at_x r2).mono ?_
        rintro _ _ ⟨rfl, rfl⟩
        refine s_split [14] (by kernel_rfl) (by simp) ?_
        intro j_ hj_
        obtain rfl : j_ = 14 := (by simpa using hj_)
        clear hj_
        refine s_opG rfl rfl rfl (by (first | (simp (disch := first | decide | omega | (simp only [nx]; first | done | omega)) only [go_sem]; first | done | rfl) | rfl)) ?_
        (simp (disch := first | decide | omega | (simp only [nx]; first | done | omega)) only [go_sem, q2b]; (repeat with_reducible refine aI ?_))
        (refine s_takeG 15 rfl rfl rfl (by (first | (simp (disch := first | decide | omega | (simp only [nx]; first | done | omega)) only [go_sem, bne_self_eq_false]; first | done | rfl) | rfl)) (by kernel_rfl) (by kernel_rfl) (v := ?v47) (fun S' hz => dquietR_of ?h47) ?k47; (case h47 => ((simp (disch := first | decide | omega | (simp only [nx]; first | done | omega)) only [go_sem, bne_self_eq_false, hz]; (repeat with_reducible refine aI ?_)); first | done | exact rfl | omega)))
        (refine s_take 16 rfl (by kernel_rfl) (by kernel_rfl) (v := ?v48) (fun S' hz => dquietR_of ?h48) <| s_take 17 rfl (by kernel_rfl) (by kernel_rfl) (v := ?v49) (fun S' hz => dquietR_of ?h49) <| ?k49; (case h48 | h49 => ((simp (disch := first | decide | omega | (simp only [nx]; first | done | omega)) only [go_sem, hz]; (repeat with_reducible refine aI ?_)); first | done | exact rfl | omega)))
        (refine s_takeG 18 rfl rfl rfl (by (first | (simp (disch := first | decide | omega | (simp only [nx]; first | done | omega)) only [go_sem, q1, q5, q6]; first | done | rfl) | rfl)) (by kernel_rfl) (by kernel_rfl) (v := ?v107) (fun S' hz => dquietR_of ?h107) ?k107; (case h107 => ((simp (disch := first | decide | omega | (simp only [nx]; first | done | omega)) only [go_sem, q1, q5, q6, hz]; (repeat with_reducible refine aI ?_)); first | done | exact rfl | omega)))
        (refine s_takeG 20 rfl rfl rfl (by (first | (simp (disch := first | decide | omega | (simp only [nx]; first | done | omega)) only [go_sem, q1, q5, q6]; first | done | rfl) | rfl)) (by kernel_rfl) (by kernel_rfl) (v := ?v108) (fun S' hz => dquietR_of ?h108) ?k108; (case h108 => ((simp (disch := first | decide | omega | (simp only [nx]; first | done | omega)) only [go_sem, q1, q5, q6, hz]; (repeat with_reducible refine aI ?_)); first | done | exact rfl | omega)))
        (refine s_takeG 21 rfl rfl rfl (by (first | (simp (disch := first | decide | omega | (simp only [nx]; first | done | omega)) only [go_sem]; first | done | rfl) | rfl)) (by kernel_rfl) (by kernel_rfl) (v := ?v50) (fun S' hz => dquietR_of ?h50) ?k50; (case h50 => ((simp (disch := first | decide | omega | (simp only [nx]; first | done | omega)) only [go_sem, hz]; (repeat with_reducible refine aI ?_)); first | done | exact rfl | omega)))
        (refine s_takeG 22 rfl rfl rfl (by (first | (simp (disch := first | decide | omega | (simp only [nx]; first | done | omega)) only [go_sem]; first | done | rfl) | rfl)) (by kernel_rfl) (by kernel_rfl) (v := ?v51) (fun S' hz => dquietR_of ?h51) ?k51; (case h51 => ((simp (disch := first | decide | omega | (simp only [nx]; first | done | omega)) only [go_sem, hz]; (repeat with_reducible refine aI ?_)); first | done | exact rfl | omega)))
        (refine s_takeG 24 rfl rfl rfl (by (first | (simp (disch := first | decide | omega | (simp only [nx]; first | done | omega)) only [go_sem, q1, q5, q6]; first | done | rfl) | rfl)) (by kernel_rfl) (by kernel_rfl) (v := ?v109) (fun S' hz => dquietR_of ?h109) ?k109; (case h109 => ((simp (disch := first | decide | omega | (simp only [nx]; first | done | omega)) only [go_sem, q1, q5, q6, hz]; (repeat with_reducible refine aI ?_)); first | done | exact rfl | omega)))
        (refine s_takeG 25 rfl rfl rfl (by (first | (simp (disch := first | decide | omega | (simp only [nx]; first | done | omega)) only [go_sem]; first | done | rfl) | rfl)) (by kernel_rfl) (by kernel_rfl) (v := ?v52) (fun S' hz => dquietR_of ?h52) ?k52; (case h52 => ((simp (disch := first | decide | omega | (simp only [nx]; first | done | omega)) only [go_sem, hz]; (repeat with_reducible refine aI ?_)); first | done | exact rfl | omega)))
        (refine s_takeG 26 rfl rfl rfl (by (first | (simp (disch := first | decide | omega | (simp only [nx]; first | done | omega)) only [go_sem]; first | done | rfl) | rfl)) (by kernel_rfl) (by kernel_rfl) (v := ?v53) (fun S' hz => dquietR_of ?h53) ?k53; (case h53 => ((simp (disch := first | decide | omega | (simp only [nx]; first | done | omega)) only [go_sem, hz]; (repeat with_reducible refine aI ?_)); first | done | exact rfl | omega)))
        refine s_split [19, 23, 27] (by kernel_rfl) (by simp) ?_
        intro j_ hj_
        simp only [List.mem_cons, List.not_mem_nil, or_false] at hj_
        rcases hj_ with rfl | rfl | rfl
        · refine s_opG rfl rfl rfl (by (first | (simp (disch := first | decide | omega | (simp only [nx]; first | done | omega)) only [go_sem]; first | done | rfl) | rfl)) ?_
          (simp (disch := first | decide | omega | (simp only [nx]; first | done | omega)) only [go_sem, q1, q5, q6]; (repeat with_reducible refine aI ?_))
          refine (err_x r2).mono ?_
          rintro er _ ⟨her, rfl⟩
          refine s_split [23, 27] (by kernel_rfl) (by simp) ?_
          intro j_ hj_
          simp only [List.mem_cons, List.not_mem_nil, or_false] at hj_
          rcases hj_ with rfl | rfl
          · refine s_opG rfl rfl rfl (by (first | (simp (disch := first | decide | omega | (simp only [nx]; first | done | omega)) only [go_sem]; first | done | rfl) | rfl)) ?_
            (simp (disch := first | decide | omega | (simp only [nx]; first | done | omega)) only [go_sem, q2b]; (repeat with_reducible refine aI ?_))
            refine s_split [27] (by kernel_rfl) (by simp) ?_
            intro j_ hj_
            obtain rfl : j_ = 27 := (by simpa using hj_)
            clear hj_
            refine s_opG rfl rfl rfl (by (first | (simp (disch := first | decide | omega | (simp only [nx]; first | done | omega)) only [go_sem]; first | done | rfl) | rfl)) ?_
            (simp (disch := first | decide | omega | (simp only [nx]; first | done | omega)) only [go_sem, q2b]; (repeat with_reducible refine aI ?_))
            refine s_split [28] (by kernel_rfl) (by simp) ?_
            intro j_ hj_
            obtain rfl : j_ = 28 := (by simpa using hj_)
            clear hj_
            refine s_opG rfl rfl rfl (by (first | (simp (disch := first | decide | omega | (simp only [nx]; first | done | omega)) only [go_sem]; first | done | rfl) | rfl)) ?_
            (simp (disch := first | decide | omega | (simp only [nx]; first | done | omega)) only [go_sem]; (repeat with_reducible refine aI ?_))
            refine (told_x her).go ?_
            (refine s_takeG 29 rfl rfl rfl (by (first | (simp (disch := first | decide | omega | (simp only [nx]; first | done | omega)) only [go_sem]; first | done | rfl) | rfl)) (by kernel_rfl) (by kernel_rfl) (v := ?v54) (fun S' hz => dquietR_of ?h54) ?k54; (case h54 => ((simp (disch := first | decide | omega | (simp only [nx]; first | done | omega)) only [go_sem, hz]; (repeat with_reducible refine aI ?_)); first | done | exact rfl | omega)))
            (refine s_take 30 rfl (by kernel_rfl) (by kernel_rfl) (v := ?v55) (fun S' hz => dquietR_of ?h55) ?k55; (case h55 => ((simp (disch := first | decide | omega | (simp only [nx]; first | done | omega)) only [go_sem, hz]; (repeat with_reducible refine aI ?_)); first | done | exact rfl | omega)))
            (refine s_done (by kernel_rfl) ?_; (simp (disch := first | decide | omega | (simp only [nx]; first | done | omega)) only [go_sem, qj, q1, q5, q6, w1]; (repeat with_reducible refine aI ?_)))
            refine ⟨by omega, _, fun _ _ h => h, by omega, by (first | (simp (disch := first | decide | omega | (simp only [nx]; first | done | omega)) only [go_sem]; first | done | rfl) | rfl), y, hy1, r2, q2, ?_, ?_⟩
            · exact Nat.le_trans hnx hn2
            · intro j o e; have := hS.lt e; exact hF2 j o (by omega) (by omega) (hF1 j o e)
          · refine s_opG rfl rfl rfl (by (first | (simp (disch := first | decide | omega | (simp only [nx]; first | done | omega)) only [go_sem]; first | done | rfl) | rfl)) ?_
            (simp (disch := first | decide | omega | (simp only [nx]; first | done | omega)) only [go_sem, q2b]; (repeat with_reducible refine aI ?_))
            refine s_split [23] (by kernel_rfl) (by simp) ?_
            intro j_ hj_
            obtain rfl : j_ = 23 := (by simpa using hj_)
            clear hj_
            refine s_opG rfl rfl rfl (by (first | (simp (disch := first | decide | omega | (simp only [nx]; first | done | omega)) only [go_sem]; first | done | rfl) | rfl)) ?_
            (simp (disch := first | decide | omega | (simp only [nx]; first | done | omega)) only [go_sem, q2b]; (repeat with_reducible refine aI ?_))
            refine s_split [28] (by kernel_rfl) (by simp) ?_
            intro j_ hj_
            obtain rfl : j_ = 28 := (by simpa using hj_)
            clear hj_
            refine s_opG rfl rfl rfl (by (first | (simp (disch := first | decide | omega | (simp only [nx]; first | done | omega)) only [go_sem]; first | done | rfl) | rfl)) ?_
            (simp (disch := first | decide | omega | (simp only [nx]; first | done | omega)) only [go_sem]; (repeat with_reducible refine aI ?_))
            refine (told_x her).go ?_
            (refine s_takeG 29 rfl rfl rfl (by (first | (simp (disch := first | decide | omega | (simp only [nx]; first | done | omega)) only [go_sem]; first | done | rfl) | rfl)) (by kernel_rfl) (by kernel_rfl) (v := ?v56) (fun S' hz => dquietR_of ?h56) ?k56; (case h56 => ((simp (disch := first | decide | omega | (simp only [nx]; first | done | omega)) only [go_sem, hz]; (repeat with_reducible refine aI ?_)); first | done | exact rfl | omega)))
            (refine s_take 30 rfl (by kernel_rfl) (by kernel_rfl) (v := ?v57) (fun S' hz => dquietR_of ?h57) ?k57; (case h57 => ((simp (disch := first | decide | omega | (simp only [nx]; first | done | omega)) only [go_sem, hz]; (repeat with_reducible refine aI ?_)); first | done | exact rfl | omega)))
            (refine s_done (by kernel_rfl) ?_; (simp (disch := first | decide | omega | (simp only [nx]; first | done | omega)) only [go_sem, qj, q1, q5, q6, w1]; (repeat with_reducible refine aI ?_)))
            refine ⟨by omega, _, fun _ _ h => h, by omega, by (first | (simp (disch := first | decide | omega | (simp only [nx]; first | done | omega)) only [go_sem]; first | done | rfl) | rfl), y, hy1, r2, q2, ?_, ?_⟩
            · exact Nat.le_trans hnx hn2
            · intro j o e; have := hS.lt e; exact hF2 j o (by omega) (by omega) (hF1 j o e)
        · refine s_opG rfl rfl rfl (by (first | (simp (disch := first | decide | omega | (simp only [nx]; first | done | omega)) only [go_sem]; first | done | rfl) | rfl)) ?_
          (simp (disch := first | decide | omega | (simp only [nx]; first | done | omega)) only [go_sem, q2b]; (repeat with_reducible refine aI ?_))
          refine s_split [19, 27] (by kernel_rfl) (by simp) ?_
          intro j_ hj_
          simp only [List.mem_cons, List.not_mem_nil, or_false] at hj_
          rcases hj_ with rfl | rfl
          · refine s_opG rfl rfl rfl (by (first | (simp (disch := first | decide | omega | (simp only [nx]; first | done | omega)) only [go_sem]; first | done | rfl) | rfl)) ?_
            (simp (disch := first | decide | omega | (simp only [nx]; first | done | omega)) only [go_sem, q1, q5, q6]; (repeat with_reducible refine aI ?_))
            refine (err_x r2).mono ?_
            rintro er _ ⟨her, rfl⟩
            refine s_split [27] (by kernel_rfl) (by simp) ?_
            intro j_ hj_
            obtain rfl : j_ = 27 := (by simpa using hj_)
            clear hj_
            refine s_opG rfl rfl rfl (by (first | (simp (disch := first | decide | omega | (simp only [nx]; first | done | omega)) only [go_sem]; first | done | rfl) | rfl)) ?_
            (simp (disch := first | decide | omega | (simp only [nx]; first | done | omega)) only [go_sem, q2b]; (repeat with_reducible refine aI ?_))
            refine s_split [28] (by kernel_rfl) (by simp) ?_
            intro j_ hj_
            obtain rfl : j_ = 28 := (by simpa using hj_)
            clear hj_
            refine s_opG rfl rfl rfl (by (first | (simp (disch := first | decide | omega | (simp only [nx]; first | done | omega)) only [go_sem]; first | done | rfl) | rfl)) ?_
            (simp (disch := first | decide | omega | (simp only [nx]; first | done | omega)) only [go_sem]; (repeat with_reducible refine aI ?_))
            refine (told_x her).go ?_
            (refine s_takeG 29 rfl rfl rfl (by (first | (simp (disch := first | decide | omega | (simp only [nx]; first | done | omega)) only [go_sem]; first | done | rfl) | rfl)) (by kernel_rfl) (by kernel_rfl) (v := ?v58) (fun S' hz => dquietR_of ?h58) ?k58; (case h58 => ((simp (disch := first | decide | omega | (simp only [nx]; first | done | omega)) only [go_sem, hz]; (repeat with_reducible refine aI ?_)); first | done | exact rfl | omega)))
            (refine s_take 30 rfl (by kernel_rfl) (by kernel_rfl) (v := ?v59) (fun S' hz => dquietR_of ?h59) ?k59; (case h59 => ((simp (disch := first | decide | omega | (simp only [nx]; first | done | omega)) only [go_sem, hz]; (repeat with_reducible refine aI ?_)); first | done | exact rfl | omega)))
            (refine s_done (by kernel_rfl) ?_; (simp (disch := first | decide | omega | (simp only [nx]; first | done | omega)) only [go_sem, qj, q1, q5, q6, w1]; (repeat with_reducible refine aI ?_)))
            refine ⟨by omega, _, fun _ _ h => h, by omega, by (first | (simp (disch := first | decide | omega | (simp only [nx]; first | done | omega)) only [go_sem]; first | done | rfl) | rfl), y, hy1, r2, q2, ?_, ?_⟩
            · exact Nat.le_trans hnx hn2
            · intro j o e; have := hS.lt e; exact hF2 j o (by omega) (by omega) (hF1 j o e)
          · refine s_opG rfl rfl rfl (by (first | (simp (disch := first | decide | omega | (simp only [nx]; first | done | omega)) only [go_sem]; first | done | rfl) | rfl)) ?_
            (simp (disch := first | decide | omega | (simp only [nx]; first | done | omega)) only [go_sem, q2b]; (repeat with_reducible refine aI ?_))
            refine s_split [19] (by kernel_rfl) (by simp) ?_
            intro j_ hj_
            obtain rfl : j_ = 19 := (by simpa using hj_)
            clear hj_
            refine s_opG rfl rfl rfl (by (first | (simp (disch := first | decide | omega | (simp only [nx]; first | done | omega)) only [go_sem]; first | done | rfl) | rfl)) ?_
            (simp (disch := first | decide | omega | (simp only [nx]; first | done | omega)) only [go_sem, q1, q5, q6]; (repeat with_reducible refine aI ?_))
            refine (err_x r2).mono ?_
            rintro er _ ⟨her, rfl⟩
            refine s_split [28] (by kernel_rfl) (by simp) ?_
            intro j_ hj_
            obtain rfl : j_ = 28 := (by simpa using hj_)
            clear hj_
            refine s_opG rfl rfl rfl (by (first | (simp (disch := first | decide | omega | (simp only [nx]; first | done | omega)) only [go_sem]; first | done | rfl) | rfl)) ?_
            (simp (disch := first | decide | omega | (simp only [nx]; first | done | omega)) only [go_sem]; (repeat with_reducible refine aI ?_))
            refine (told_x her).go ?_
            (refine s_takeG 29 rfl rfl rfl (by (first | (simp (disch := first | decide | omega | (simp only [nx]; first | done | omega)) only [go_sem]; first | done | rfl) | rfl)) (by kernel_rfl) (by kernel_rfl) (v := ?v60) (fun S' hz => dquietR_of ?h60) ?k60; (case h60 => ((simp (disch := first | decide | omega | (simp only [nx]; first | done | omega)) only [go_sem, hz]; (repeat with_reducible refine aI ?_)); first | done | exact rfl | omega)))
            (refine s_take 30 rfl (by kernel_rfl) (by kernel_rfl) (v := ?v61) (fun S' hz => dquietR_of ?h61) ?k61; (case h61 => ((simp (disch := first | decide | omega | (simp only [nx]; first | done | omega)) only [go_sem, hz]; (repeat with_reducible refine aI ?_)); first | done | exact rfl | omega)))
            (refine s_done (by kernel_rfl) ?_; (simp (disch := first | decide | omega | (simp only [nx]; first | done | omega)) only [go_sem, qj, q1, q5, q6, w1]; (repeat with_reducible refine aI ?_)))
            refine ⟨by omega, _, fun _ _ h => h, by omega, by (first | (simp (disch := first | decide | omega | (simp only [nx]; first | done | omega)) only [go_sem]; first | done | rfl) | rfl), y, hy1, r2, q2, ?_, ?_⟩
            · exact Nat.le_trans hnx hn2
            · intro j o e; have := hS.lt e; exact hF2 j o (by omega) (by omega) (hF1 j o e)
        · refine s_opG rfl rfl rfl (by (first | (simp (disch := first | decide | omega | (simp only [nx]; first | done | omega)) only [go_sem]; first | done | rfl) | rfl)) ?_
          (simp (disch := first | decide | omega | (simp only [nx]; first | done | omega)) only [go_sem, q2b]; (repeat with_reducible refine aI ?_))
          refine s_split [19, 23] (by kernel_rfl) (by simp) ?_
          intro j_ hj_
          simp only [List.mem_cons, List.not_mem_nil, or_false] at hj_
          rcases hj_ with rfl | rfl
          · refine s_opG rfl rfl rfl (by (first | (simp (disch := first | decide | omega | (simp only [nx]; first | done | omega)) only [go_sem]; first | done | rfl) | rfl)) ?_
            (simp (disch := first | decide | omega | (simp only [nx]; first | done | omega)) only [go_sem, q1, q5, q6]; (repeat with_reducible refine aI ?_))
            refine (err_x r2).mono ?_
            rintro er _ ⟨her, rfl⟩
            refine s_split [23] (by kernel_rfl) (by simp) ?_
            intro j_ hj_
            obtain rfl : j_ = 23 := (by simpa using hj_)
            clear hj_
            refine s_opG rfl rfl rfl (by (first | (simp (disch := first | decide | omega | (simp only [nx]; first | done | omega)) only [go_sem]; first | done | rfl) | rfl)) ?_
            (simp (disch := first | decide | omega | (simp only [nx]; first | done | omega)) only [go_sem, q2b]; (repeat with_reducible refine aI ?_))
            refine s_split [28] (by kernel_rfl) (by simp) ?_
            intro j_ hj_
            obtain rfl : j_ = 28 := (by simpa using hj_)
            clear hj_
            refine s_opG rfl rfl rfl (by (first | (simp (disch := first | decide | omega | (simp only [nx]; first | done | omega)) only [go_sem]; first | done | rfl) | rfl)) ?_
            (simp (disch := first | decide | omega | (simp only [nx]; first | done | omega)) only [go_sem]; (repeat with_reducible refine aI ?_))
            refine (told_x her).go ?_
            (refine s_takeG 29 rfl rfl rfl (by (first | (simp (disch := first | decide | omega | (simp only [nx]; first | done | omega)) only [go_sem]; first | done | rfl) | rfl)) (by kernel_rfl) (by kernel_rfl) (v := ?v62) (fun S' hz => dquietR_of ?h62) ?k62; (case h62 => ((simp (disch := first | decide | omega | (simp only [nx]; first | done | omega)) only [go_sem, hz]; (repeat with_reducible refine aI ?_)); first | done | exact rfl | omega)))
            (refine s_take 30 rfl (by kernel_rfl) (by kernel_rfl) (v := ?v63) (fun S' hz => dquietR_of ?h63) ?k63; (case h63 => ((simp (disch := first | decide | omega | (simp only [nx]; first | done | omega)) only [go_sem, hz]; (repeat with_reducible refine aI ?_)); first | done | exact rfl | omega)))
            (refine s_done (by kernel_rfl) ?_; (simp (disch := first | decide | omega | (simp only [nx]; first | done | omega)) only [go_sem, qj, q1, q5, q6, w1]; (repeat with_reducible refine aI ?_)))
            refine ⟨by omega, _, fun _ _ h => h, by omega, by (first | (simp (disch := first | decide | omega | (simp only [nx]; first | done | omega)) only [go_sem]; first | done | rfl) | rfl), y, hy1, r2, q2, ?_, ?_⟩
            · exact Nat.le_trans hnx hn2
            · intro j o e; have := hS.lt e; exact hF2 j o (by omega) (by omega) (hF1 j o e)
          · refine s_opG rfl rfl rfl (by (first | (simp (disch := first | decide | omega | (simp only [nx]; first | done | omega)) only [go_sem]; first | done | rfl) | rfl)) ?_
            (simp (disch := first | decide | omega | (simp only [nx]; first | done | omega)) only [go_sem, q2b]; (repeat with_reducible refine aI ?_))
            refine s_split [19] (by kernel_rfl) (by simp) ?_
            intro j_ hj_
            obtain rfl : j_ = 19 := (by simpa using hj_)
            clear hj_
            refine s_opG rfl rfl rfl (by (first | (simp (disch := first | decide | omega | (simp only [nx]; first | done | omega)) only [go_sem]; first | done | rfl) | rfl)) ?_
            (simp (disch := first | decide | omega | (simp only [nx]; first | done | omega)) only [go_sem, q1, q5, q6]; (repeat with_reducible refine aI ?_))
            refine (err_x r2).mono ?_
            rintro er _ ⟨her, rfl⟩
            refine s_split [28] (by kernel_rfl) (by simp) ?_
            intro j_ hj_
            obtain rfl : j_ = 28 := (by simpa using hj_)
            clear hj_
            refine s_opG rfl rfl rfl (by (first | (simp (disch := first | decide | omega | (simp only [nx]; first | done | omega)) only [go_sem]; first | done | rfl) | rfl)) ?_
            (simp (disch := first | decide | omega | (simp only [nx]; first | done | omega)) only [go_sem]; (repeat with_reducible refine aI ?_))
            refine (told_x her).go ?_
            (refine s_takeG 29 rfl rfl rfl (by (first | (simp (disch := first | decide | omega | (simp only [nx]; first | done | omega)) only [go_sem]; first | done | rfl) | rfl)) (by kernel_rfl) (by kernel_rfl) (v := ?v64) (fun S' hz => dquietR_of ?h64) ?k64; (case h64 => ((simp (disch := first | decide | omega | (simp only [nx]; first | done | omega)) only [go_sem, hz]; (repeat with_reducible refine aI ?_)); first | done | exact rfl | omega)))
            (refine s_take 30 rfl (by kernel_rfl) (by kernel_rfl) (v := ?v65) (fun S' hz => dquietR_of ?h65) ?k65; (case h65 => ((simp (disch := first | decide | omega | (simp only [nx]; first | done | omega)) only [go_sem, hz]; (repeat with_reducible refine aI ?_)); first | done | exact rfl | omega)))
            (refine s_done (by kernel_rfl) ?_; (simp (disch := first | decide | omega | (simp only [nx]; first | done | omega)) only [go_sem, qj, q1, q5, q6, w1]; (repeat with_reducible refine aI ?_)))
            refine ⟨by omega, _, fun _ _ h => h, by omega, by (first | (simp (disch := first | decide | omega | (simp only [nx]; first | done | omega)) only [go_sem]; first | done | rfl) | rfl), y, hy1, r2, q2, ?_, ?_⟩
            · exact Nat.le_trans hnx hn2
            · intro j o e; have := hS.lt e; exact hF2 j o (by omega) (by omega) (hF1 j o e)
      · refine s_opG rfl rfl rfl (by (first | (simp (disch := first | decide | omega | (simp only [nx]; first | done | omega)) only [go_sem]; first | done | rfl) | rfl)) ?_
        (simp (disch := first | decide | omega | (simp only [nx]; first | done | omega)) only [go_sem, q2b]; (repeat with_reducible refine aI ?_))
        refine s_split [10] (by kernel_rfl) (by simp) ?_
        intro j_ hj_
        obtain rfl : j_ = 10 := (by simpa using hj_)
        clear hj_
        refine s_opG rfl rfl rfl (by (first | (simp (disch := first | decide | omega | (simp only [nx]; first | done | omega)) only [go_sem]; first | done | rfl) | rfl)) ?_
        (simp (disch := first | decide | omega | (simp only [nx]; first | done | omega)) only [go_sem, q1, q5, q6]; (repeat with_reducible refine aI ?_))
        refine (at_x r2).mono ?_
        rintro _ _ ⟨rfl, rfl⟩
        (refine s_takeG 15 rfl rfl rfl (by (first | (simp (disch := first | decide | omega | (simp only [nx]; first | done | omega)) only [go_sem, bne_self_eq_false]; first | done | rfl) | rfl)) (by kernel_rfl) (by kernel_rfl) (v := ?v66) (fun S' hz => dquietR_of ?h66) ?k66; (case h66 => ((simp (disch := first | decide | omega | (simp only [nx]; first | done | omega)) only [go_sem, bne_self_eq_false, hz]; (repeat with_reducible refine aI ?_)); first | done | exact rfl | omega)))
        (refine s_take 16 rfl (by kernel_rfl) (by kernel_rfl) (v := ?v67) (fun S' hz => dquietR_of ?h67) <| s_take 17 rfl (by kernel_rfl) (by kernel_rfl) (v := ?v68) (fun S' hz => dquietR_of ?h68) <| ?k68; (case h67 | h68 => ((simp (disch := first | decide | omega | (simp only [nx]; first | done | omega)) only [go_sem, hz]; (repeat with_reducible refine aI ?_)); first | done | exact rfl | omega)))
        (refine s_takeG 18 rfl rfl rfl (by (first | (simp (disch := first | decide | omega | (simp only [nx]; first | done | omega)) only [go_sem, q1, q5, q6]; first | done | rfl) | rfl)) (by kernel_rfl) (by kernel_rfl) (v := ?v110) (fun S' hz => dquietR_of ?h110) ?k110; (case h110 => ((simp (disch := first | decide | omega | (simp only [nx]; first | done | omega)) only [go_sem, q1, q5, q6, hz]; (repeat with_reducible refine aI ?_)); first | done | exact rfl | omega)))
        (refine s_takeG 20 rfl rfl rfl (by (first | (simp (disch := first | decide | omega | (simp only [nx]; first | done | omega)) only [go_sem, q1, q5, q6]; first | done | rfl) | rfl)) (by kernel_rfl) (by kernel_rfl) (v := ?v111) (fun S' hz => dquietR_of ?h111) ?k111; (case h111 => ((simp (disch := first | decide | omega | (simp only [nx]; first | done | omega)) only [go_sem, q1, q5, q6, hz]; (repeat with_reducible refine aI ?_)); first | done | exact rfl | omega)))
        (refine s_takeG 21 rfl rfl rfl (by (first | (simp (disch := first | decide | omega | (simp only [nx]; first | done | omega)) only [go_sem]; first | done | rfl) | rfl)) (by kernel_rfl) (by kernel_rfl) (v := ?v69) (fun S' hz => dquietR_of ?h69) ?k69; (case h69 => ((simp (disch := first | decide | omega | (simp only [nx]; first | done | omega)) only [go_sem, hz]; (repeat with_reducible refine aI ?_)); first | done | exact rfl | omega)))
        (refine s_takeG 22 rfl rfl rfl (by (first | (simp (disch := first | decide | omega | (simp only [nx]; first | done | omega)) only [go_sem]; first | done | rfl) | rfl)) (by kernel_rfl) (by kernel_rfl) (v := ?v70) (fun S' hz => dquietR_of ?h70) ?k70; (case h70 => ((simp (disch := first | decide | omega | (simp only [nx]; first | done | omega)) only [go_sem, hz]; (repeat with_reducible refine aI ?_)); first | done | exact rfl | omega)))
        (refine s_takeG 24 rfl rfl rfl (by (first | (simp (disch := first | decide | omega | (simp only [nx]; first | done | omega)) only [go_sem, q1, q5, q6]; first | done | rfl) | rfl)) (by kernel_rfl) (by kernel_rfl) (v := ?v112) (fun S' hz => dquietR_of ?h112) ?k112; (case h112 => ((simp (disch := first | decide | omega | (simp only [nx]; first | done | omega)) only [go_sem, q1, q5, q6, hz]; (repeat with_reducible refine aI ?_)); first | done | exact rfl | omega)))
        (refine s_takeG 25 rfl rfl rfl (by (first | (simp (disch := first | decide | omega | (simp only [nx]; first | done | omega)) only [go_sem]; first | done | rfl) | rfl)) (by kernel_rfl) (by kernel_rfl) (v := ?v71) (fun S' hz => dquietR_of ?h71) ?k71; (case h71 => ((simp (disch := first | decide | omega | (simp only [nx]; first | done | omega)) only [go_sem, hz]; (repeat with_reducible refine aI ?_)); first | done | exact rfl | omega)))
        (refine s_takeG 26 rfl rfl rfl (by (first | (simp (disch := first | decide | omega | (simp only [nx]; first | done | omega)) only [go_sem]; first | done | rfl) | rfl)) (by kernel_rfl) (by kernel_rfl) (v := ?v72) (fun S' hz => dquietR_of ?h72) ?k72; (case h72 => ((simp (disch := first | decide | omega | (simp only [nx]; first | done | omega)) only [go_sem, hz]; (repeat with_reducible refine aI ?_)); first | done | exact rfl | omega)))
        refine s_split [19, 23, 27] (by kernel_rfl) (by simp) ?_
        intro j_ hj_
        simp only [List.mem_cons, List.not_mem_nil, or_false] at hj_
        rcases hj_ with rfl | rfl | rfl
        · refine s_opG rfl rfl rfl (by (first | (simp (disch := first | decide | omega | (simp only [nx]; first | done | omega)) only [go_sem]; first | done | rfl) | rfl)) ?_
          (simp (disch := first | decide | omega | (simp only [nx]; first | done | omega)) only [go_sem, q1, q5, q6]; (repeat with_reducible refine aI ?_))
          refine (err_x r2).mono ?_
          rintro er _ ⟨her, rfl⟩
          refine s_split [23, 27] (by kernel_rfl) (by simp) ?_
          intro j_ hj_
          simp only [List.mem_cons, List.not_mem_nil, or_false] at hj_
          rcases hj_ with rfl | rfl
          · refine s_opG rfl rfl rfl (by (first | (simp (disch := first | decide | omega | (simp only [nx]; first | done | omega)) only [go_sem]; first | done | rfl) | rfl)) ?_
            (simp (disch := first | decide | omega | (simp only [nx]; first | done | omega)) only [go_sem, q2b]; (repeat with_reducible refine aI ?_))
            refine s_split [27] (by kernel_rfl) (by simp) ?_
            intro j_ hj_
            obtain rfl : j_ = 27 := (by simpa using hj_)
            clear hj_
            refine s_opG rfl rfl rfl (by (first | (simp (disch := first | decide | omega | (simp only [nx]; first | done | omega)) only [go_sem]; first | done | rfl) | rfl)) ?_
            (simp (disch := first | decide | omega | (simp only [nx]; first | done | omega)) only [go_sem, q2b]; (repeat with_reducible refine aI ?_))
            refine s_split [28] (by kernel_rfl) (by simp) ?_
            intro j_ hj_
            obtain rfl : j_ = 28 := (by simpa using hj_)
            clear hj_
            refine s_opG rfl rfl rfl (by (first | (simp (disch := first | decide | omega | (simp only [nx]; first | done | omega)) only [go_sem]; first | done | rfl) | rfl)) ?_
            (simp (disch := first | decide | omega | (simp only [nx]; first | done | omega)) only [go_sem]; (repeat with_reducible refine aI ?_))
            refine (told_x her).go ?_
            (refine s_takeG 29 rfl rfl rfl (by (first | (simp (disch := first | decide | omega | (simp only [nx]; first | done | omega)) only [go_sem]; first | done | rfl) | rfl)) (by kernel_rfl) (by kernel_rfl) (v := ?v73) (fun S' hz => dquietR_of ?h73) ?k73; (case h73 => ((simp (disch := first | decide | omega | (simp only [nx]; first | done | omega)) only [go_sem, hz]; (repeat with_reducible refine aI ?_)); first | done | exact rfl | omega)))
            (refine s_take 30 rfl (by kernel_rfl) (by kernel_rfl) (v := ?v74) (fun S' hz => dquietR_of ?h74) ?k74; (case h74 => ((simp (disch := first | decide | omega | (simp only [nx]; first | done | omega)) only [go_sem, hz]; (repeat with_reducible refine aI ?_)); first | done | exact rfl | omega)))
            (refine s_done (by kernel_rfl) ?_; (simp (disch := first | decide | omega | (simp only [nx]; first | done | omega)) only [go_sem, qj, q1, q5, q6, w1]; (repeat with_reducible refine aI ?_)))
            refine ⟨by omega, _, fun _ _ h => h, by omega, by (first | (simp (disch := first | decide | omega | (simp only [nx]; first | done | omega)) only [go_sem]; first | done | rfl) | rfl), y, hy1, r2, q2, ?_, ?_⟩
            · exact Nat.le_trans hnx hn2
            · intro j o e; have := hS.lt e; exact hF2 j o (by omega) (by omega) (hF1 j o e)
          · refine s_opG rfl rfl rfl (by (first | (simp (disch := first | decide | omega | (simp only [nx]; first | done | omega)) only [go_sem]; first | done | rfl) | rfl)) ?_
            (simp (disch := first | decide | omega | (simp only [nx]; first | done | omega)) only [go_sem, q2b]; (repeat with_reducible refine aI ?_))
            refine s_split [23] (by kernel_rfl) (by simp) ?_
            intro j_ hj_
            obtain rfl : j_ = 23 := (by simpa using hj_)
            clear hj_
            refine s_opG rfl rfl rfl (by (first | (simp (disch := first | decide | omega | (simp only [nx]; first | done | omega)) only [go_sem]; first | done | rfl) | rfl)) ?_
            (simp (disch := first | decide | omega | (simp only [nx]; first | done | omega)) only [go_sem, q2b]; (repeat with_reducible refine aI ?_))
            refine s_split [28] (by kernel_rfl) (by simp) ?_
            intro j_ hj_
            obtain rfl : j_ = 28 := (by simpa using hj_)
            clear hj_
            refine s_opG rfl rfl rfl (by (first | (simp (disch := first | decide | omega | (simp only [nx]; first | done | omega)) only [go_sem]; first | done | rfl) | rfl)) ?_
            (simp (disch := first | decide | omega | (simp only [nx]; first | done | omega)) only [go_sem]; (repeat with_reducible refine aI ?_))
            refine (told_x her).go ?_
            (refine s_takeG 29 rfl rfl rfl (by (first | (simp (disch := first | decide | omega | (simp only [nx]; first | done | omega)) only [go_sem]; first | done | rfl) | rfl)) (by kernel_rfl) (by kernel_rfl) (v := ?v75) (fun S' hz => dquietR_of ?h75) ?k75; (case h75 => ((simp (disch := first | decide | omega | (simp only [nx]; first | done | omega)) only [go_sem, hz]; (repeat with_reducible refine aI ?_)); first | done | exact rfl | omega)))
            (refine s_take 30 rfl (by kernel_rfl) (by kernel_rfl) (v := ?v76) (fun S' hz => dquietR_of ?h76) ?k76; (case h76 => ((simp (disch := first | decide | omega | (simp only [nx]; first | done | omega)) only [go_sem, hz]; (repeat with_reducible refine aI ?_)); first | done | exact rfl | omega)))
            (refine s_done (by kernel_rfl) ?_; (simp (disch := first | decide | omega | (simp only [nx]; first | done | omega)) only [go_sem, qj, q1, q5, q6, w1]; (repeat with_reducible refine aI ?_)))
            refine ⟨by omega, _, fun _ _ h => h, by omega, by (first | (simp (disch := first | decide | omega | (simp only [nx]; first | done | omega)) only [go_sem]; first | done | rfl) | rfl), y, hy1, r2, q2, ?_, ?_⟩
            · exact Nat.le_trans hnx hn2
            · intro j o e; have := hS.lt e; exact hF2 j o (by omega) (by omega) (hF1 j o e)
        · refine s_opG rfl rfl rfl (by (first | (simp (disch := first | decide | omega | (simp only [nx]; first | done | omega)) only [go_sem]; first | done | rfl) | rfl)) ?_
          (simp (disch := first | decide | omega | (simp only [nx]; first | done | omega)) only [go_sem, q2b]; (repeat with_reducible refine aI ?_))
          refine s_split [19, 27] (by kernel_rfl) (by simp) ?_
          intro j_ hj_
          simp only [List.mem_cons, List.not_mem_nil, or_false] at hj_
          rcases hj_ with rfl | rfl
          · refine s_opG rfl rfl rfl (by (first | (simp (disch := first | decide | omega | (simp only [nx]; first | done | omega)) only [go_sem]; first | done | rfl) | rfl)) ?_
            (simp (disch := first | decide | omega | (simp only [nx]; first | done | omega)) only [go_sem, q1, q5, q6]; (repeat with_reducible refine aI ?_))
            refine (err_x r2).mono ?_
            rintro er _ ⟨her, rfl⟩
            refine s_split [27] (by kernel_rfl) (by simp) ?_
            intro j_ hj_
            obtain rfl : j_ = 27 := (by simpa using hj_)
            clear hj_
            refine s_opG rfl rfl rfl (by (first | (simp (disch := first | decide | omega | (simp only [nx]; first | done | omega)) only [go_sem]; first | done | rfl) | rfl)) ?_
            (simp (disch := first | decide | omega | (simp only [nx]; first | done | omega)) only [go_sem, q2b]; (repeat with_reducible refine aI ?_))
            refine s_split [28] (by kernel_rfl) (by simp) ?_
            intro j_ hj_
            obtain rfl : j_ = 28 := (by simpa using hj_)
            clear hj_
            refine s_opG rfl rfl rfl (by (first | (simp (disch := first | decide | omega | (simp only [nx]; first | done | omega)) only [go_sem]; first | done | rfl) | rfl)) ?_
            (simp (disch := first | decide | omega | (simp only [nx]; first | done | omega)) only [go_sem]; (repeat with_reducible refine aI ?_))
            refine (told_x her).go ?_
            (refine s_takeG 29 rfl rfl rfl (by (first | (simp (disch := first | decide | omega | (simp only [nx]; first | done | omega)) only [go_sem]; first | done | rfl) | rfl)) (by kernel_rfl) (by kernel_rfl) (v := ?v77) (fun S' hz => dquietR_of ?h77) ?k77; (case h77 => ((simp (disch := first | decide | omega | (simp only [nx]; first | done | omega)) only [go_sem, hz]; (repeat with_reducible refine aI ?_)); first | done | exact rfl | omega)))
            (refine s_take 30 rfl (by kernel_rfl) (by kernel_rfl) (v := ?v78) (fun S' hz => dquietR_of ?h78) ?k78; (case h78 => ((simp (disch := first | decide | omega | (simp only [nx]; first | done | omega)) only [go_sem, hz]; (repeat with_reducible refine aI ?_)); first | done | exact rfl | omega)))
            (refine s_done (by kernel_rfl) ?_; (simp (disch := first | decide | omega | (simp only [nx]; first | done | omega)) only [go_sem, qj, q1, q5, q6, w1]; (repeat with_reducible refine aI ?_)))
            refine ⟨by omega, _, fun _ _ h => h, by omega, by (first | (simp (disch := first | decide | omega | (simp only [nx]; first | done | omega)) only [go_sem]; first | done | rfl) | rfl), y, hy1, r2, q2, ?_, ?_⟩
            · exact Nat.le_trans hnx hn2
            · intro j o e; have := hS.lt e; exact hF2 j o (by omega) (by omega) (hF1 j o e)
          · refine s_opG rfl rfl rfl (by (first | (simp (disch := first | decide | omega | (simp only [nx]; first | done | omega)) only [go_sem]; first | done | rfl) | rfl)) ?_
            (simp (disch := first | decide | omega | (simp only [nx]; first | done | omega)) only [go_sem, q2b]; (repeat with_reducible refine aI ?_))
            refine s_split [19] (by kernel_rfl) (by simp) ?_
            intro j_ hj_
            obtain rfl : j_ = 19 := (by simpa using hj_)
            clear hj_
            refine s_opG rfl rfl rfl (by (first | (simp (disch := first | decide | omega | (simp only [nx]; first | done | omega)) only [go_sem]; first | done | rfl) | rfl)) ?_
            (simp (disch := first | decide | omega | (simp only [nx]; first | done | omega)) only [go_sem, q1, q5, q6]; (repeat with_reducible refine aI ?_))
            refine (err_x r2).mono ?_
            rintro er _ ⟨her, rfl⟩
            refine s_split [28] (by kernel_rfl) (by simp) ?_
            intro j_ hj_
            obtain rfl : j_ = 28 := (by simpa using hj_)
            clear hj_
            refine s_opG rfl rfl rfl (by (first | (simp (disch := first | decide | omega | (simp only [nx]; first | done | omega)) only [go_sem]; first | done | rfl) | rfl)) ?_
            (simp (disch := first | decide | omega | (simp only [nx]; first | done | omega)) only [go_sem]; (repeat with_reducible refine aI ?_))
            refine (told_x her).go ?_
            (refine s_takeG 29 rfl rfl rfl (by (first | (simp (disch := first | decide | omega | (simp only [nx]; first | done | omega)) only [go_sem]; first | done | rfl) | rfl)) (by kernel_rfl) (by kernel_rfl) (v := ?v79) (fun S' hz => dquietR_of ?h79) ?k79; (case h79 => ((simp (disch := first | decide | omega | (simp only [nx]; first | done | omega)) only [go_sem, hz]; (repeat with_reducible refine aI ?_)); first | done | exact rfl | omega)))
            (refine s_take 30 rfl (by kernel_rfl) (by kernel_rfl) (v := ?v80) (fun S' hz => dquietR_of ?h80) ?k80; (case h80 => ((simp (disch := first | decide | omega | (simp only [nx]; first | done | omega)) only [go_sem, hz]; (repeat with_reducible refine aI ?_)); first | done | exact rfl | omega)))
            (refine s_done (by kernel_rfl) ?_; (simp (disch := first | decide | omega | (simp only [nx]; first | done | omega)) only [go_sem, qj, q1, q5, q6, w1]; (repeat with_reducible refine aI ?_)))
            refine ⟨by omega, _, fun _ _ h => h, by omega, by (first | (simp (disch := first | decide | omega | (simp only [nx]; first | done | omega)) only [go_sem]; first | done | rfl) | rfl), y, hy1, r2, q2, ?_, ?_⟩
            · exact Nat.le_trans hnx hn2
            · intro j o e; have := hS.lt e; exact hF2 j o (by omega) (by omega) (hF1 j o e)
        · refine s_opG rfl rfl rfl (by (first | (simp (disch := first | decide | omega | (simp only [nx]; first | done | omega)) only [go_sem]; first | done | rfl) | rfl)) ?_
          (simp (disch := first | decide | omega | (simp only [nx]; first | done | omega)) only [go_sem, q2b]; (repeat with_reducible refine aI ?_))
          refine s_split [19, 23] (by kernel_rfl) (by simp) ?_
          intro j_ hj_
          simp only [List.mem_cons, List.not_mem_nil, or_false] at hj_
          rcases hj_ with rfl | rfl
          · refine s_opG rfl rfl rfl (by (first | (simp (disch := first | decide | omega | (simp only [nx]; first | done | omega)) only [go_sem]; first | done | rfl) | rfl)) ?_
            (simp (disch := first | decide | omega | (simp only [nx]; first | done | omega)) only [go_sem, q1, q5, q6]; (repeat with_reducible refine aI ?_))
            refine (err_x r2).mono ?_
            rintro er _ ⟨her, rfl⟩
            refine s_split [23] (by kernel_rfl) (by simp) ?_
            intro j_ hj_
            obtain rfl : j_ = 23 := (by simpa using hj_)
            clear hj_
            refine s_opG rfl rfl rfl (by (first | (simp (disch := first | decide | omega | (simp only [nx]; first | done | omega)) only [go_sem]; first | done | rfl) | rfl)) ?_
            (simp (disch := first | decide | omega | (simp only [nx]; first | done | omega)) only [go_sem, q2b]; (repeat with_reducible refine aI ?_))
            refine s_split [28] (by kernel_rfl) (by simp) ?_
            intro j_ hj_
            obtain rfl : j_ = 28 := (by simpa using hj_)
            clear hj_
            refine s_opG rfl rfl rfl (by (first | (simp (disch := first | decide | omega | (simp only [nx]; first | done | omega)) only [go_sem]; first | done | rfl) | rfl)) ?_
            (simp (disch := first | decide | omega | (simp only [nx]; first | done | omega)) only [go_sem]; (repeat with_reducible refine aI ?_))
            refine (told_x her).go ?_
            (refine s_takeG 29 rfl rfl rfl (by (first | (simp (disch := first | decide | omega | (simp only [nx]; first | done | omega)) only [go_sem]; first | done | rfl) | rfl)) (by kernel_rfl) (by kernel_rfl) (v := ?v81) (fun S' hz => dquietR_of ?h81) ?k81; (case h81 => ((simp (disch := first | decide | omega | (simp only [nx]; first | done | omega)) only [go_sem, hz]; (repeat with_reducible refine aI ?_)); first | done | exact rfl | omega)))
            (refine s_take 30 rfl (by kernel_rfl) (by kernel_rfl) (v := ?v82) (fun S' hz => dquietR_of ?h82) ?k82; (case h82 => ((simp (disch := first | decide | omega | (simp only [nx]; first | done | omega)) only [go_sem, hz]; (repeat with_reducible refine aI ?_)); first | done | exact rfl | omega)))
            (refine s_done (by kernel_rfl) ?_; (simp (disch := first | decide | omega | (simp only [nx]; first | done | omega)) only [go_sem, qj, q1, q5, q6, w1]; (repeat with_reducible refine aI ?_)))
            refine ⟨by omega, _, fun _ _ h => h, by omega, by (first | (simp (disch := first | decide | omega | (simp only [nx]; first | done | omega)) only [go_sem]; first | done | rfl) | rfl), y, hy1, r2, q2, ?_, ?_⟩
            · exact Nat.le_trans hnx hn2
            · intro j o e; have := hS.lt e; exact hF2 j o (by omega) (by omega) (hF1 j o e)
          · refine s_opG rfl rfl rfl (by (first | (simp (disch := first | decide | omega | (simp only [nx]; first | done | omega)) only [go_sem]; first | done | rfl) | rfl)) ?_
            (simp (disch := first | decide | omega | (simp only [nx]; first | done | omega)) only [go_sem, q2b]; (repeat with_reducible refine aI ?_))
            refine s_split [19] (by kernel_rfl) (by simp) ?_
            intro j_ hj_
            obtain rfl : j_ = 19 := (by simpa using hj_)
            clear hj_
            refine s_opG rfl rfl rfl (by (first | (simp (disch := first | decide | omega | (simp only [nx]; first | done | omega)) only [go_sem]; first | done | rfl) | rfl)) ?_
            (simp (disch := first | decide | omega | (simp only [nx]; first | done | omega)) only [go_sem, q1, q5, q6]; (repeat with_reducible refine aI ?_))
            refine (err_x r2).mono ?_
            rintro er _ ⟨her, rfl⟩
            refine s_split [28] (by kernel_rfl) (by simp) ?_
            intro j_ hj_
            obtain rfl : j_ = 28 := (by simpa using hj_)
            clear hj_
            refine s_opG rfl rfl rfl (by (first | (simp (disch := first | decide | omega | (simp only [nx]; first | done | omega)) only [go_sem]; first | done | rfl) | rfl)) ?_
            (simp (disch := first | decide | omega | (simp only [nx]; first | done | omega)) only [go_sem]; (repeat with_reducible refine aI ?_))
            refine (told_x her).go ?_
            (refine s_takeG 29 rfl rfl rfl (by (first | (simp (disch := first | decide | omega | (simp only [nx]; first | done | omega)) only [go_sem]; first | done | rfl) | rfl)) (by kernel_rfl) (by kernel_rfl) (v := ?v83) (fun S' hz => dquietR_of ?h83) ?k83; (case h83 => ((simp (disch := first | decide | omega | (simp only [nx]; first | done | omega)) only [go_sem, hz]; (repeat with_reducible refine aI ?_)); first | done | exact rfl | omega)))
            (refine s_take 30 rfl (by kernel_rfl) (by kernel_rfl) (v := ?v84) (fun S' hz => dquietR_of ?h84) ?k84; (case h84 => ((simp (disch := first | decide | omega | (simp only [nx]; first | done | omega)) only [go_sem, hz]; (repeat with_reducible refine aI ?_)); first | done | exact rfl | omega)))
            (refine s_done (by kernel_rfl) ?_; (simp (disch := first | decide | omega | (simp only [nx]; first | done | omega)) only [go_sem, qj, q1, q5, q6, w1]; (repeat with_reducible refine aI ?_)))
            refine ⟨by omega, _, fun _ _ h => h, by omega, by (first | (simp (disch := first | decide | omega | (simp only [nx]; first | done | omega)) only [go_sem]; first | done | rfl) | rfl), y, hy1, r2, q2, ?_, ?_⟩
            · exact Nat.le_trans hnx hn2
            · intro j o e; have := hS.lt e; exact hF2 j o (by omega) (by omega) (hF1 j o e)
  · have hje : j = fs.length := by omega
    subst hje
    have b2 : decide ((fs.length : Int) < (fs.length : Int)) = false := by simp
    (simp (disch := first | decide | omega | (simp only [nx]; first | done | omega)) only [go_sem, qj, q1, q5, q6, b2]; (repeat with_reducible refine aI ?_))
    refine (end_q qx hx).mono ?_
    rintro _ _ ⟨rfl, rfl⟩
    (simp (disch := first | decide | omega | (simp only [nx]; first | done | omega)) only [go_sem, q1, q5, q6]; (repeat with_reducible refine aI ?_))
    refine (end_x rj hx).mono ?_
    rintro er T3 ⟨her, hF3⟩
    have e1 : (if x.2.1 = 0 ∧ x.1 < l.length then 2 else x.2.1) = (endX l x).2.1 := by unfold endX; split <;> rfl
    have e2 : (if x.2.1 = 0 ∧ x.1 < l.length then (x.1 : Int) else x.2.2) = (endX l x).2.2 := by unfold endX; split <;> rfl
    rw [e1, e2]
    (simp (disch := first | decide | omega | (simp only [nx]; first | done | omega)) only [go_sem]; (repeat with_reducible refine aI ?_))
    refine (told_x her).go ?_
    (simp (disch := first | decide | omega | (simp only [nx]; first | done | omega)) only [go_sem]; (repeat with_reducible refine aI ?_))
    refine DCalls.of_pure awake02_d ?_
    (simp (disch := first | decide | omega | (simp only [nx]; first | done | omega)) only [go_sem]; (repeat with_reducible refine aI ?_))
    refine ⟨rfl, ⟨by have := hF3.next; omega, fun j o e => ?_⟩⟩
    have := hS.lt e
    exact hF3.ob j o (by omega) (hF1 j o e)
end Go.Proofs.YtbcabejdchkpmaaDoor

namespace Go.Proofs.YtbcabejdchkpmaaDoor
open Go.ChangeShapes Go.WideShapes Go.RowKit
set_option maxRecDepth 100000 in
theorem packReads_lifted (os : Os) (started : os.Started) (H : Type) (enc : TypeId × Value → H) :
    ReturnsInHanded {} Tryd.checked os 4 .any (fun w args => (Rows.packReadsSpec.pre enc Tryd.prog Tryd.f4 [] false w args ∧ laidMetH Tryd.prog doorLaid w) ∧ sizedMet enc Tryd.prog Tryd.f4 (OpenSpec.ofChange Rows.packReadsSpec) false w args)
      (Rows.packReadsSpec.post enc Tryd.prog Tryd.f4 false true false false) := by
  refine returnsInHanded_of_change_and (C := Tryd.checked) (X := fun w _ => laidMetH Tryd.prog doorLaid w) (fun _ _ _ hh h => h.of_heap hh) door_own started (by kernel_rfl) Tryd.func4
    (ChangeSpec.witness_at (enc := enc) (C := Tryd.checked) (os := os) (X := fun w _ => laidMetH Tryd.prog doorLaid w) false (laidWorld os) #[.slice none 0 0, .slice none 0 0] 8 rfl (by kernel_rfl) (by kernel_rfl) (by kernel_rfl) (by kernel_rfl) (by kernel_rfl) (laidWorld_met os _)) ?_
  intro W base args ds gs before hval0 hW hcnd hsz0 hL _
  have hG := glob_of_laid hL
  have hval : ∀ (j : Nat) t v, Tryd.f4.params[j]? = some t → args[j]? = some v → Value.okWide Tryd.prog W .any base t v := hval0
  have hsz : (DataW.weightsEach Tryd.prog (Tryd.f4.params.toList ++ Rows.packReadsSpec.plain.varTypes Tryd.prog) (ds ++ gs)).all (· ≤ reachBytes) = true := hsz0
  have hW' := hW
  obtain ⟨p, q, hA0, hV, rfl, hfz, hnd⟩ := hW
  have hA : DataW.TrodAll enc Tryd.prog W 0 (fun _ => true) true Tryd.f4.params.toList args.toList ds p := hA0
  obtain ⟨rfl, rfl⟩ := trodVars_none hV
  rw [Tryd.params4] at hA hval hsz
  have hA1 := hA
  obtain ⟨v0, vs0, d0, ds0, p0, q0, hargs, rfl, rfl, h0, r0⟩ := trodAll_cons hA
  obtain ⟨v1, vs1, d1, ds1, p1, q1, rfl, rfl, rfl, h1, r1⟩ := trodAll_cons r0
  obtain ⟨rfl, rfl, rfl⟩ := trodAll_nil r1
  obtain rfl : args = #[v0, v1] := by cases args; simp_all
  have z0 : Sized Tryd.prog 30 d0 := sized_of_each (j := 0) hsz rfl rfl
  have k0 : Value.okWide Tryd.prog W .any base 30 v0 := hval 0 _ _ rfl rfl
  have z1 : Sized Tryd.prog 38 d1 := sized_of_each (j := 1) hsz rfl rfl
  have k1 : Value.okWide Tryd.prog W .any base 38 v1 := hval 1 _ _ rfl rfl
  clear hA0 hval0 hsz hsz0 hval
  have key : Calls Tryd.prog 4 #[v0, v1] W (Gives (.bool true) W) := by
    obtain ⟨c, hlc, hc⟩ := open_u8s h0 z0 k0
    obtain ⟨l, hl, hll, hr⟩ := open_fds h1 z1 k1
    exact door_gives (vs := [v0, v1]) (packReads_d .no .no c l hl hlc (by omega)) (by simp only [RepL]; exact ⟨_, _, rfl, hc _ _ (door_fix _), _, _, rfl, hr _ _ (door_fix _), rfl⟩) (by intro _ _; kernel_rfl) hG
  refine key.mono fun e W' ⟨he, bel⟩ => ?_
  subst he
  exact ⟨_, rfl, _, _, _, [], _, [], hW', trodAll_mk1 (shut_bool Tryd.underlying4 _), trodAll_below door_laidOut bel (by kernel_rfl) hA1, rfl, bel.frame _, fun h => by cases h⟩

theorem packReads_row : Rows.PackReadsSaid :=
  OpenClaim.holds_of_wide 4 Tryd.f4 rfl rfl rfl rfl rfl rfl rfl ⟨rfl, rfl, rfl, rfl, rfl⟩ rfl rfl rfl rfl rfl (by kernel_rfl) Tryd.func4 (by kernel_rfl)
    (of_decide_eq_true (by kernel_rfl)) (by unfold Func.isWrapper; first | (rw [if_pos (by decide +kernel)]; kernel_rfl) | (rw [if_neg (by decide +kernel)]; exact ⟨rfl, rfl⟩))
    (fun os started H enc _ => packReads_lifted os started H enc)
theorem packReads_holds : Rows.PackReadsCardSaid :=
  Claim7.holds_tied_plain_at .later [] [.handle] true Rows.packReadsCard.stood.harness true
    packReads_row (fun _ h => by cases h) (by kernel_rfl) (fun _ h => by cases h) packReads_row_tie rfl ⟨rfl, rfl⟩ (by kernel_rfl) rfl
    (fun f fn hf hfn => by
      obtain rfl : f = 4 := Option.some.inj ((show Tryd.prog.funcNamed "dioptre/dioptrelaw02.PackReads" = some 4 by kernel_rfl).symm.trans hf) |>.symm
      obtain rfl : fn = Tryd.f4 := (Option.some.inj (Tryd.func4.symm.trans hfn)).symm
      exact ⟨by kernel_rfl, fun j t ht => by
        rw [Tryd.params4] at ht
        have ht' := List.mem_of_getElem? (Array.getElem?_toList ▸ ht)
        simp only [List.mem_cons, List.not_mem_nil, or_false] at ht'
        rcases ht' with rfl | rfl <;> exact (show Tryd.prog.wantsStandIn _ = false by kernel_rfl)⟩)
    (by kernel_rfl)
#print axioms packReads_holds
end Go.Proofs.YtbcabejdchkpmaaDoor
