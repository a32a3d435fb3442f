/- ValueParts answers true for any names, any parts and any number, and leaves its arguments as they were. Conditions: none but the statement's own. -/
import Derived.Test.YtjjhjhjphhpeiaaS6
import Derived.Test.YtjjhjhjphhpeiaaRows
set_option linter.unusedVariables false
set_option linter.unusedSimpArgs false
namespace Go.Proofs.Ytjjhjhjphhpeiaa
open Go.RowKit
set_option linter.unusedSimpArgs false
set_option linter.unusedVariables false
theorem bin_bneq_ {x y : Operand} (a b : Bool) : dbin Try.prog .neq 4 x y (.v (.bool a)) (.v (.bool b)) = some (True, .v (.bool (a != b))) := by cases a <;> cases b <;> kernel_rfl
def wc (o : Own) (v : DVal) : List D := [.v (.int .i64 v.kind), .v (.int .i64 v.n), .v (sv v.s), .sl o (v.names.map strD), .sl o (v.ids.map u64D), .sl o (v.parts.map encV)]
theorem wc_frz (o : Own) (v : DVal) : (D.agg (wc o v)).frz = encV v := by
  rw [encV_eq]; simp only [wc, D.frz, frzL, frz_strs, frz_u64s, frz_mapV]; rfl
theorem wc_enc (v : DVal) : (encV v).cells = wc .no v := by rw [encV_eq]; rfl
theorem elemV_elemI (v : DVal) (x : Nat) : elemV v x = .tup [.v (.int .i64 (if 0 < elemI v x then elemI v x else 0)), .v (.bool (decide (0 ≤ elemI v x)))] := by
  unfold elemV elemI ixI
  by_cases h6 : v.kind = 6
  · by_cases hm : x ∈ v.ids
    · rw [if_pos ⟨h6, hm⟩, if_pos h6, if_pos hm]
      have h1 : (if (0 : Int) < (ixN v.ids x : Int) then (ixN v.ids x : Int) else 0) = (ixN v.ids x : Int) := by split <;> omega
      have h2 : decide ((0 : Int) ≤ (ixN v.ids x : Int)) = true := by simp
      rw [h1, h2]
    · rw [if_neg (fun h => hm h.2), if_pos h6, if_neg hm]; rfl
  · rw [if_neg (fun h => h6 h.1), if_neg h6]; rfl
theorem okV_ofFields {v : DVal} (h : okV v) {ns : List Str} {ps : List DVal} (h1 : ∀ x ∈ ns, x.length ≤ maxLen) (h2 : ns.length ≤ 140737488351232) (h3 : ps.length ≤ 140737488351232) (h4 : ∀ p ∈ ps, okV p) : okV (v.ofFields ns ps) := by
  obtain ⟨o1, o2, o3, o4, o5, o6, o7, o8, o9⟩ := (okV_eq v).1 h
  exact (okV_eq _).2 ⟨o1, o2, o3, h1, h2, o6, o7, h3, h4⟩
theorem okV_with {v p : DVal} {x : Str} (h : okV v) (hp : okV p) (hx : x.length ≤ maxLen) (hw : v.weight ≤ 1000000) : okV (withV v x p) := by
  obtain ⟨o1, o2, o3, o4, o5, o6, o7, o8, o9⟩ := (okV_eq v).1 h
  have hwe := v.weight_eq
  have hpl := partsLen v
  unfold withV
  split
  · exact h
  · split
    · exact okV_ofFields h o4 o5 (by rw [List.length_set]; exact o8) fun q hq => by
        rcases List.mem_or_eq_of_mem_set hq with hq | rfl
        · exact o9 q hq
        · exact hp
    · refine okV_ofFields h (fun y hy => ?_) (by simp only [List.length_append, List.length_take, List.length_drop, List.length_cons, List.length_nil]; omega) (by simp only [List.length_append, List.length_take, List.length_drop, List.length_cons, List.length_nil]; omega) fun q hq => ?_
      · rcases List.mem_append.1 hy with hy | hy
        · rcases List.mem_append.1 hy with hy | hy
          · exact o4 y (List.mem_of_mem_take hy)
          · rw [List.mem_singleton] at hy; subst hy; exact hx
        · exact o4 y (List.mem_of_mem_drop hy)
      · rcases List.mem_append.1 hq with hq | hq
        · rcases List.mem_append.1 hq with hq | hq
          · exact o9 q (List.mem_of_mem_take hq)
          · rw [List.mem_singleton] at hq; subst hq; exact hp
        · exact o9 q (List.mem_of_mem_drop hq)
theorem recV_fine {l : List Str} {ps : List DVal} (hl : ∀ x ∈ l, x.length ≤ maxLen) (hp : ∀ p ∈ ps, okV p) : ∀ i, i ≤ 20 → i ≤ l.length → i ≤ ps.length → (∀ j (hj : j < ps.length), j < i → ps[j].weight ≤ 300) → okV (recV l ps i) ∧ (recV l ps i).weight ≤ 1 + i * 301
  | 0, _, _, _, _ => by
    refine ⟨(okV_eq _).2 ⟨i64_5, i64_0, by simp [recV, recV0, DVal.s], by simp [recV, recV0, DVal.names], by simp [recV, recV0, DVal.names], by simp [recV, recV0, DVal.ids], by simp [recV, recV0, DVal.ids], by simp [recV, recV0, DVal.parts], by simp [recV, recV0, DVal.parts]⟩, ?_⟩
    rw [DVal.weight_eq]; simp [recV, recV0, DVal.names, DVal.ids, DVal.parts, DVal.weights]
  | i + 1, h20, h1, h2, hw => by
    obtain ⟨ih1, ih2⟩ := recV_fine hl hp i (by omega) (by omega) (by omega) fun j hj hji => hw j hj (by omega)
    have hi1 : i < l.length := by omega
    have hi2 : i < ps.length := by omega
    have hwi := hw i hi2 (by omega)
    rw [recV, getD_at hi1, getD_at hi2]
    have hx := withV_weight (recV l ps i) ps[i] l[i]
    exact ⟨okV_with ih1 (hp _ (List.getElem_mem hi2)) (hl _ (List.getElem_mem hi1)) (by omega), by omega⟩
set_option maxRecDepth 200000 in
set_option maxHeartbeats 8000000 in
theorem valueParts_d (own own2 : Own) (l : List Str) (ps : List DVal) (id : Nat) (hl : ∀ x ∈ l, x.length ≤ maxLen) (hp : ∀ p ∈ ps, okV p) : DPure Try.prog 3 [.sl own (l.map strD), .sl own2 (ps.map encV), .v (uv id)] (.v (.bool true)) := by
  refine dpure_of_dwp mixed Try.func3 rfl (fun _ _ => by kernel_rfl) (rs := [.tmp 6]) rfl (by kernel_rfl) trivial (fun S hS => ?_)
  by_cases c1 : 20 < l.length
  · have b1 : decide ((20 : Int) < (l.length : Int)) = true := by simp; omega
    (simp (disch := first | decide | omega | (simp only [nx]; first | done | omega)) only [go_sem, Nat.reduceMul, b1]; (repeat (with_reducible refine And.intro (by first | omega | assumption | rfl) ?_)))
    refine DCalls.of_pure awake08_d ?_
    (simp (disch := first | decide | omega | (simp only [nx]; first | done | omega)) only [go_sem, Nat.reduceMul]; (repeat (with_reducible refine And.intro (by first | omega | assumption | rfl) ?_)))
    refine ⟨?_, (by (repeat' first | assumption | exact St.Sub.refl _ | exact RowOk.sub (by assumption) (by assumption) | refine St.Sub.trans ?_ (RowOk.sub (by assumption) (by assumption)) | refine St.Sub.add ?_ ?_ _ | refine St.Sub.set ?_ ?_ ?_ _ | refine St.Sub.keep ?_ ?_ | refine St.WF.leave ?_ _ | refine St.WF.add ?_ _ | refine St.WF.set ?_ ?_ _ | refine St.WF.grow ?_ _ _ _ | refine St.WF.keep ?_ ?_ | (first | omega | (simp only [RowOk.lo, nx]; first | done | omega))))⟩
    rfl
  have b1 : decide ((20 : Int) < (l.length : Int)) = false := by simp; omega
  by_cases c2 : 20 < ps.length
  · have b2 : decide ((20 : Int) < (ps.length : Int)) = true := by simp; omega
    (simp (disch := first | decide | omega | (simp only [nx]; first | done | omega)) only [go_sem, Nat.reduceMul, b1, b2]; (repeat (with_reducible refine And.intro (by first | omega | assumption | rfl) ?_)))
    refine DCalls.of_pure awake08_d ?_
    (simp (disch := first | decide | omega | (simp only [nx]; first | done | omega)) only [go_sem, Nat.reduceMul]; (repeat (with_reducible refine And.intro (by first | omega | assumption | rfl) ?_)))
    refine ⟨?_, (by (repeat' first | assumption | exact St.Sub.refl _ | exact RowOk.sub (by assumption) (by assumption) | refine St.Sub.trans ?_ (RowOk.sub (by assumption) (by assumption)) | refine St.Sub.add ?_ ?_ _ | refine St.Sub.set ?_ ?_ ?_ _ | refine St.Sub.keep ?_ ?_ | refine St.WF.leave ?_ _ | refine St.WF.add ?_ _ | refine St.WF.set ?_ ?_ _ | refine St.WF.grow ?_ _ _ _ | refine St.WF.keep ?_ ?_ | (first | omega | (simp only [RowOk.lo, nx]; first | done | omega))))⟩
    rfl
  have b2 : decide ((20 : Int) < (ps.length : Int)) = false := by simp; omega
  (simp (disch := first | decide | omega | (simp only [nx]; first | done | omega)) only [go_sem, Nat.reduceMul, b1, b2]; (repeat (with_reducible refine And.intro (by first | omega | assumption | rfl) ?_)))
  obtain ⟨n, hn⟩ : ∃ n, n = min l.length ps.length := ⟨_, rfl⟩
  refine dloop_up (fun t => List.contains [6, 8, 23, 24, 25, 26, 27, 28, 29, 30, 31, 32, 33, 34, 35, 36, 37, 38, 39, 40, 41, 42, 43, 44, 45, 46, 47, 48, 49, 50, 51, 52, 53, 54, 55, 56, 57, 58] t) (by kernel_rfl) (by exact (by (repeat' first | assumption | refine St.WF.leave ?_ _ | refine St.WF.add ?_ _ | refine St.WF.set ?_ ?_ _ | refine St.WF.grow ?_ _ _ _ | refine St.WF.keep ?_ ?_ | (first | omega | (simp only [RowOk.lo, nx]; first | done | omega))))) n (fun i g T => i ≤ n ∧ g 8 = .v (.int .i64 ((i : Nat) : Int)) ∧ (∀ j (hj : j < ps.length), j < i → ps[j].weight ≤ 300) ∧ (∃ o, T.ob S.next = some (.box 28 (wc o (recV l ps i)))) ∧ S.next < T.next ∧ S.Sub T)
    ⟨by omega, by (first | (simp (disch := first | decide | omega | (simp only [nx]; first | done | omega)) only [go_sem, Nat.reduceMul]; first | done | rfl) | rfl), fun j _ h => by omega, ⟨.full, by simp (disch := first | decide | omega | (simp only [nx]; first | done | omega)) only [go_sem, Nat.reduceMul]; rfl⟩, by simp only [nx]; omega, by exact (by (repeat' first | assumption | exact St.Sub.refl _ | exact RowOk.sub (by assumption) (by assumption) | refine St.Sub.trans ?_ (RowOk.sub (by assumption) (by assumption)) | refine St.Sub.add ?_ ?_ _ | refine St.Sub.set ?_ ?_ ?_ _ | refine St.Sub.keep ?_ ?_ | refine St.WF.leave ?_ _ | refine St.WF.add ?_ _ | refine St.WF.set ?_ ?_ _ | refine St.WF.grow ?_ _ _ _ | refine St.WF.keep ?_ ?_ | (first | omega | (simp only [RowOk.lo, nx]; first | done | omega))))⟩ ?_
  rintro i g T hT hg ⟨le, q8, hno, ⟨o, t7⟩, hnx, hsub⟩
  (have q0 := hg 0 rfl; have q1 := hg 1 rfl; have q2 := hg 2 rfl; have q7 := hg 7 rfl; simp (disch := first | decide | omega | (simp only [nx]; first | done | omega)) only [go_sem, Nat.reduceMul] at q0 q1 q2 q7; clear hg)
  obtain ⟨hro, hrw⟩ := recV_fine hl hp i (by omega) (by omega) (by omega) hno
  by_cases hi1 : i < l.length
  · have d1 : decide ((i : Int) < (l.length : Int)) = true := by simp; omega
    by_cases hi2 : i < ps.length
    · have d2 : decide ((i : Int) < (ps.length : Int)) = true := by simp; omega
      have w1 : IntKind.i64.wrap ((i : Int) + 1) = ((i + 1 : Nat) : Int) := IntWalk.i64_in _ ⟨by omega, by omega⟩
      by_cases h100 : 100 < l[i].length
      · have d3 : decide ((100 : Int) < (l[i].length : Int)) = true := by simp; omega
        (simp (disch := first | decide | omega | (simp only [nx]; first | done | omega)) only [go_sem, Nat.reduceMul, q0, q1, q8, d1, d2, d3, hi1, hi2]; (repeat (with_reducible refine And.intro (by first | omega | assumption | rfl) ?_)))
        refine DCalls.of_pure awake08_d ?_
        (simp (disch := first | decide | omega | (simp only [nx]; first | done | omega)) only [go_sem, Nat.reduceMul]; (repeat (with_reducible refine And.intro (by first | omega | assumption | rfl) ?_)))
        exact ⟨rfl, hsub⟩
      have d3 : decide ((100 : Int) < (l[i].length : Int)) = false := by simp; omega
      (simp (disch := first | decide | omega | (simp only [nx]; first | done | omega)) only [go_sem, Nat.reduceMul, q0, q1, q8, d1, d2, d3, hi1, hi2]; (repeat (with_reducible refine And.intro (by first | omega | assumption | rfl) ?_)))
      refine DCalls.of_pure (greatV_d ps[i] (hp _ (List.getElem_mem hi2))) ?_
      cases hgr : decide (roomV 12 ps[i] 300 < 0) with
      | true =>
        (simp (disch := first | decide | omega | (simp only [nx]; first | done | omega)) only [go_sem, Nat.reduceMul, q0, q1, q8, d1, d2, d3, hi1, hi2]; (repeat (with_reducible refine And.intro (by first | omega | assumption | rfl) ?_)))
        refine DCalls.of_pure awake08_d ?_
        (simp (disch := first | decide | omega | (simp only [nx]; first | done | omega)) only [go_sem, Nat.reduceMul]; (repeat (with_reducible refine And.intro (by first | omega | assumption | rfl) ?_)))
        exact ⟨rfl, hsub⟩
      | false =>
        have hwi : ps[i].weight ≤ 300 := by have := of_decide_eq_false hgr; have := (roomV_spec 12 ps[i] 300 (by omega)).1; omega
        (simp (disch := first | decide | omega | (simp only [nx]; first | done | omega)) only [go_sem, Nat.reduceMul, q0, q1, q7, q8, d1, d2, d3, hi1, hi2]; (repeat (with_reducible refine And.intro (by first | omega | assumption | rfl) ?_)))
        refine ddraw_mk 10 (by kernel_rfl) ?_
        have hs1 : recV l ps (i + 1) = refWithV (recV l ps i) l[i] ps[i] := by rw [recV, getD_at hi1, getD_at hi2, refWith_eq]
        (simp (disch := first | decide | omega | (simp only [nx]; first | done | omega)) only [go_sem, Nat.reduceMul, q0, q1, q7, q8, t7, wc, hi1, hi2]; (repeat (with_reducible refine And.intro (by first | omega | assumption | rfl) ?_)))
        refine dqgo_mk (DPure.weak (refWith_d (recV l ps i) ps[i] l[i] (by omega)) (by have := wc_frz o (recV l ps i); simp only [wc] at this; simp only [frzL, this, frz_encV]; rfl)) ?_
        rw [← hs1]
        (simp (disch := first | decide | omega | (simp only [nx]; first | done | omega)) only [go_sem, Nat.reduceMul, q0, q1, q7, q8, t7, wc, w1]; (repeat (with_reducible refine And.intro (by first | omega | assumption | rfl) ?_)))
        refine ⟨by omega, _, fun _ _ h => h, by omega, by (first | (simp (disch := first | decide | omega | (simp only [nx]; first | done | omega)) only [go_sem, Nat.reduceMul, w1]; first | done | rfl) | rfl), fun j hj hji => ?_, ⟨.no, by have hwc := wc_enc (recV l ps (i + 1)); simp only [wc] at hwc ⊢; rw [← hwc]; (first | (simp (disch := first | decide | omega | (simp only [nx]; first | done | omega)) only [go_sem, Nat.reduceMul]; first | done | rfl) | rfl)⟩, hnx, hsub.set hS (Nat.le_refl _) _⟩
        by_cases e : j = i
        · subst e; exact hwi
        · exact hno j hj (by omega)
    · have d2 : decide ((i : Int) < (ps.length : Int)) = false := by simp; omega
      have hin : i = n := by omega
      (simp (disch := first | decide | omega | (simp only [nx]; first | done | omega)) only [go_sem, Nat.reduceMul, q0, q1, q8, d1, d2]; (repeat (with_reducible refine And.intro (by first | omega | assumption | rfl) ?_)))
      
      subst hin
      refine dloop_up (fun t => List.contains [6, 9, 10, 11, 12, 59, 60, 61, 62, 63, 64, 65, 66, 67, 68, 69, 70, 71, 72, 73, 74, 75, 76, 77, 78, 79, 80, 81, 82, 83, 84, 85, 86, 87, 88, 89, 90, 91, 92, 93, 94, 95] t) (by kernel_rfl) hT ps.length (fun k g2 T2 => k ≤ ps.length ∧ g2 9 = .v (.int .i64 ((k : Nat) : Int)) ∧ (∀ j (hj : j < ps.length), j < k → ps[j].weight ≤ 300) ∧ T2.ob S.next = some (.box 28 (wc o (recV l ps i))) ∧ S.Sub T2)
        ⟨by omega, by (first | (simp (disch := first | decide | omega | (simp only [nx]; first | done | omega)) only [go_sem, Nat.reduceMul]; first | done | rfl) | rfl), fun j _ h => by omega, t7, hsub⟩ ?_
      rintro k g2 T2 hT2 hg2 ⟨lek, q9, hno2, t72, hsub2⟩
      (have q02 := hg2 0 rfl; have q12 := hg2 1 rfl; have q22 := hg2 2 rfl; have q72 := hg2 7 rfl; simp (disch := first | decide | omega | (simp only [nx]; first | done | omega)) only [go_sem, Nat.reduceMul, q0, q1, q2, q7] at q02 q12 q22 q72; clear hg2)
      by_cases hk : k < ps.length
      · have e1 : decide ((k : Int) < (ps.length : Int)) = true := by simp; omega
        have w2 : IntKind.i64.wrap ((k : Int) + 1) = ((k + 1 : Nat) : Int) := IntWalk.i64_in _ ⟨by omega, by omega⟩
        (simp (disch := first | decide | omega | (simp only [nx]; first | done | omega)) only [go_sem, Nat.reduceMul, q12, q22, q9, e1, hk]; (repeat (with_reducible refine And.intro (by first | omega | assumption | rfl) ?_)))
        refine DCalls.of_pure (greatV_d ps[k] (hp _ (List.getElem_mem hk))) ?_
        cases hgr : decide (roomV 12 ps[k] 300 < 0) with
        | true =>
          (simp (disch := first | decide | omega | (simp only [nx]; first | done | omega)) only [go_sem, Nat.reduceMul]; (repeat (with_reducible refine And.intro (by first | omega | assumption | rfl) ?_)))
          refine DCalls.of_pure awake08_d ?_
          (simp (disch := first | decide | omega | (simp only [nx]; first | done | omega)) only [go_sem, Nat.reduceMul]; (repeat (with_reducible refine And.intro (by first | omega | assumption | rfl) ?_)))
          exact ⟨rfl, hsub2⟩
        | false =>
          have hwk : ps[k].weight ≤ 300 := by have := of_decide_eq_false hgr; have := (roomV_spec 12 ps[k] 300 (by omega)).1; omega
          have hwe := ps[k].weight_eq
          (simp (disch := first | decide | omega | (simp only [nx]; first | done | omega)) only [go_sem, Nat.reduceMul, q12, q22, q9, hk]; (repeat (with_reducible refine And.intro (by first | omega | assumption | rfl) ?_)))
          refine DCalls.of_pure (elem_d ps[k] id (by omega)) ?_
          rw [elemV_elemI]
          (simp (disch := first | decide | omega | (simp only [nx]; first | done | omega)) only [go_sem, Nat.reduceMul, q12, q22, q9, hk]; (repeat (with_reducible refine And.intro (by first | omega | assumption | rfl) ?_)))
          refine DCalls.of_pure (refElem_d ps[k] id (by omega)) ?_
          have e2 : (decide (0 ≤ elemI ps[k] id) != decide (0 ≤ elemI ps[k] id)) = false := by simp
          have e3 : ((if 0 < elemI ps[k] id then elemI ps[k] id else 0) != (if 0 < elemI ps[k] id then elemI ps[k] id else 0)) = false := by simp
          (simp (disch := first | decide | omega | (simp only [nx]; first | done | omega)) only [go_sem, Nat.reduceMul, q12, q22, q9, hk, bin_bneq_, e2, e3, w2]; (repeat (with_reducible refine And.intro (by first | omega | assumption | rfl) ?_)))
          refine ⟨by omega, T2.ob, fun _ _ h => h, by omega, by (first | (simp (disch := first | decide | omega | (simp only [nx]; first | done | omega)) only [go_sem, Nat.reduceMul, w2]; first | done | rfl) | rfl), fun j hj hjk => ?_, t72, hsub2⟩
          by_cases e : j = k
          · subst e; exact hwk
          · exact hno2 j hj (by omega)
      · have e1 : decide ((k : Int) < (ps.length : Int)) = false := by simp; omega
        have hkl : k = ps.length := by omega
        subst hkl
        (simp (disch := first | decide | omega | (simp only [nx]; first | done | omega)) only [go_sem, Nat.reduceMul, q12, q22, q9, e1]; (repeat (with_reducible refine And.intro (by first | omega | assumption | rfl) ?_)))
        refine ddraw_mk 9 (by kernel_rfl) ?_
        (simp (disch := first | decide | omega | (simp only [nx]; first | done | omega)) only [go_sem, Nat.reduceMul, q02, q12, q72]; (repeat (with_reducible refine And.intro (by first | omega | assumption | rfl) ?_)))
        have hrec := record_d own own2 l ps (by omega) (by omega) (fun p hp' => by obtain ⟨j, hj, rfl⟩ := List.getElem_of_mem hp'; have := hno2 j hj (by omega); omega) hl
        rw [← hn] at hrec
        refine dqgo_mk hrec ?_
        (simp (disch := first | decide | omega | (simp only [nx]; first | done | omega)) only [go_sem, Nat.reduceMul, q02, q12, q72, t72, wc]; (repeat (with_reducible refine And.intro (by first | omega | assumption | rfl) ?_)))
        refine dqgo_mk (DPure.weak (refSameV_d (recV l ps i) (recV l ps i) hro hro) (by have := wc_frz o (recV l ps i); simp only [wc] at this; simp only [frzL, this, frz_encV])) ?_
        rw [eqB_true rfl]
        (simp (disch := first | decide | omega | (simp only [nx]; first | done | omega)) only [go_sem, Nat.reduceMul]; (repeat (with_reducible refine And.intro (by first | omega | assumption | rfl) ?_)))
        refine dqgo_mk awake08_d ?_
        (simp (disch := first | decide | omega | (simp only [nx]; first | done | omega)) only [go_sem, Nat.reduceMul]; (repeat (with_reducible refine And.intro (by first | omega | assumption | rfl) ?_)))
        exact ⟨rfl, hsub2⟩

  · have d1 : decide ((i : Int) < (l.length : Int)) = false := by simp; omega
    have hin : i = n := by omega
    (simp (disch := first | decide | omega | (simp only [nx]; first | done | omega)) only [go_sem, Nat.reduceMul, q0, q1, q8, d1]; (repeat (with_reducible refine And.intro (by first | omega | assumption | rfl) ?_)))
    · skip
      
      subst hin
      refine dloop_up (fun t => List.contains [6, 9, 10, 11, 12, 59, 60, 61, 62, 63, 64, 65, 66, 67, 68, 69, 70, 71, 72, 73, 74, 75, 76, 77, 78, 79, 80, 81, 82, 83, 84, 85, 86, 87, 88, 89, 90, 91, 92, 93, 94, 95] t) (by kernel_rfl) hT ps.length (fun k g2 T2 => k ≤ ps.length ∧ g2 9 = .v (.int .i64 ((k : Nat) : Int)) ∧ (∀ j (hj : j < ps.length), j < k → ps[j].weight ≤ 300) ∧ T2.ob S.next = some (.box 28 (wc o (recV l ps i))) ∧ S.Sub T2)
        ⟨by omega, by (first | (simp (disch := first | decide | omega | (simp only [nx]; first | done | omega)) only [go_sem, Nat.reduceMul]; first | done | rfl) | rfl), fun j _ h => by omega, t7, hsub⟩ ?_
      rintro k g2 T2 hT2 hg2 ⟨lek, q9, hno2, t72, hsub2⟩
      (have q02 := hg2 0 rfl; have q12 := hg2 1 rfl; have q22 := hg2 2 rfl; have q72 := hg2 7 rfl; simp (disch := first | decide | omega | (simp only [nx]; first | done | omega)) only [go_sem, Nat.reduceMul, q0, q1, q2, q7] at q02 q12 q22 q72; clear hg2)
      by_cases hk : k < ps.length
      · have e1 : decide ((k : Int) < (ps.length : Int)) = true := by simp; omega
        have w2 : IntKind.i64.wrap ((k : Int) + 1) = ((k + 1 : Nat) : Int) := IntWalk.i64_in _ ⟨by omega, by omega⟩
        (simp (disch := first | decide | omega | (simp only [nx]; first | done | omega)) only [go_sem, Nat.reduceMul, q12, q22, q9, e1, hk]; (repeat (with_reducible refine And.intro (by first | omega | assumption | rfl) ?_)))
        refine DCalls.of_pure (greatV_d ps[k] (hp _ (List.getElem_mem hk))) ?_
        cases hgr : decide (roomV 12 ps[k] 300 < 0) with
        | true =>
          (simp (disch := first | decide | omega | (simp only [nx]; first | done | omega)) only [go_sem, Nat.reduceMul]; (repeat (with_reducible refine And.intro (by first | omega | assumption | rfl) ?_)))
          refine DCalls.of_pure awake08_d ?_
          (simp (disch := first | decide | omega | (simp only [nx]; first | done | omega)) only [go_sem, Nat.reduceMul]; (repeat (with_reducible refine And.intro (by first | omega | assumption | rfl) ?_)))
          exact ⟨rfl, hsub2⟩
        | false =>
          have hwk : ps[k].weight ≤ 300 := by have := of_decide_eq_false hgr; have := (roomV_spec 12 ps[k] 300 (by omega)).1; omega
          have hwe := ps[k].weight_eq
          (simp (disch := first | decide | omega | (simp only [nx]; first | done | omega)) only [go_sem, Nat.reduceMul, q12, q22, q9, hk]; (repeat (with_reducible refine And.intro (by first | omega | assumption | rfl) ?_)))
          refine DCalls.of_pure (elem_d ps[k] id (by omega)) ?_
          rw [elemV_elemI]
          (simp (disch := first | decide | omega | (simp only [nx]; first | done | omega)) only [go_sem, Nat.reduceMul, q12, q22, q9, hk]; (repeat (with_reducible refine And.intro (by first | omega | assumption | rfl) ?_)))
          refine DCalls.of_pure (refElem_d ps[k] id (by omega)) ?_
          have e2 : (decide (0 ≤ elemI ps[k] id) != decide (0 ≤ elemI ps[k] id)) = false := by simp
          have e3 : ((if 0 < elemI ps[k] id then elemI ps[k] id else 0) != (if 0 < elemI ps[k] id then elemI ps[k] id else 0)) = false := by simp
          (simp (disch := first | decide | omega | (simp only [nx]; first | done | omega)) only [go_sem, Nat.reduceMul, q12, q22, q9, hk, bin_bneq_, e2, e3, w2]; (repeat (with_reducible refine And.intro (by first | omega | assumption | rfl) ?_)))
          refine ⟨by omega, T2.ob, fun _ _ h => h, by omega, by (first | (simp (disch := first | decide | omega | (simp only [nx]; first | done | omega)) only [go_sem, Nat.reduceMul, w2]; first | done | rfl) | rfl), fun j hj hjk => ?_, t72, hsub2⟩
          by_cases e : j = k
          · subst e; exact hwk
          · exact hno2 j hj (by omega)
      · have e1 : decide ((k : Int) < (ps.length : Int)) = false := by simp; omega
        have hkl : k = ps.length := by omega
        subst hkl
        (simp (disch := first | decide | omega | (simp only [nx]; first | done | omega)) only [go_sem, Nat.reduceMul, q12, q22, q9, e1]; (repeat (with_reducible refine And.intro (by first | omega | assumption | rfl) ?_)))
        refine ddraw_mk 9 (by kernel_rfl) ?_
        (simp (disch := first | decide | omega | (simp only [nx]; first | done | omega)) only [go_sem, Nat.reduceMul, q02, q12, q72]; (repeat (with_reducible refine And.intro (by first | omega | assumption | rfl) ?_)))
        have hrec := record_d own own2 l ps (by omega) (by omega) (fun p hp' => by obtain ⟨j, hj, rfl⟩ := List.getElem_of_mem hp'; have := hno2 j hj (by omega); omega) hl
        rw [← hn] at hrec
        refine dqgo_mk hrec ?_
        (simp (disch := first | decide | omega | (simp only [nx]; first | done | omega)) only [go_sem, Nat.reduceMul, q02, q12, q72, t72, wc]; (repeat (with_reducible refine And.intro (by first | omega | assumption | rfl) ?_)))
        refine dqgo_mk (DPure.weak (refSameV_d (recV l ps i) (recV l ps i) hro hro) (by have := wc_frz o (recV l ps i); simp only [wc] at this; simp only [frzL, this, frz_encV])) ?_
        rw [eqB_true rfl]
        (simp (disch := first | decide | omega | (simp only [nx]; first | done | omega)) only [go_sem, Nat.reduceMul]; (repeat (with_reducible refine And.intro (by first | omega | assumption | rfl) ?_)))
        refine dqgo_mk awake08_d ?_
        (simp (disch := first | decide | omega | (simp only [nx]; first | done | omega)) only [go_sem, Nat.reduceMul]; (repeat (with_reducible refine And.intro (by first | omega | assumption | rfl) ?_)))
        exact ⟨rfl, hsub2⟩

end Go.Proofs.Ytjjhjhjphhpeiaa

namespace Go.Proofs.Ytjjhjhjphhpeiaa
open Go.ChangeShapes Go.WideShapes Go.ChangeAt Go.RowKit
theorem open_int {P : Program} {t : TypeId} {k : IntKind} (ht : P.underlying t = some (.int k)) {v : Value} {W : World} {base : Nat} (hk : Value.okWide P W .any base t v) : ∃ n : Int, k.min ≤ n ∧ n ≤ k.max ∧ v = .int k n := by
  simp only [Value.okWide, Cell.okWide, ht] at hk
  unfold Cell.ok at hk
  rw [ht] at hk
  cases v with
  | int k' n =>
    simp only at hk
    obtain ⟨rfl, h⟩ := hk
    exact ⟨n, h.1, h.2, rfl⟩
  | _ => simp at hk
theorem valueParts_own : ownKnob Try.prog.godebug = none := by kernel_rfl
theorem valueParts_laidOut : laidOutB Try.prog = true := by kernel_rfl
set_option maxRecDepth 100000 in
theorem valueParts_lifted (os : Os) (started : os.Started) (H : Type) (enc : TypeId × Value → H) :
    ReturnsInHanded {} Try.checked os 3 .any (Rows.valuePartsSpec.pre6 enc Try.prog Try.f3 Rows.valuePartsRow.domain false) (Rows.valuePartsSpec.post enc Try.prog Try.f3 false true false false) := by
  refine returnsInHanded_of_change_sized (C := Try.checked) valueParts_own started (by kernel_rfl) Try.func3
    (ChangeSpec.witness6 (enc := enc) (C := Try.checked) false ⟨#[], #[.slice none 0 0, .slice none 0 0, .int .u64 0], []⟩ 8 (by kernel_rfl) (by kernel_rfl) (by kernel_rfl) (by kernel_rfl)) ?_
  intro W base args ds gs before hval0 hW hcnd hsz0 _
  have hval : ∀ (j : Nat) t v, Try.f3.params[j]? = some t → args[j]? = some v → Value.okWide Try.prog W .any base t v := hval0
  have hsz : (DataW.weightsEach Try.prog (Try.f3.params.toList ++ Rows.valuePartsSpec.plain.varTypes Try.prog) (ds ++ gs)).all (· ≤ reachBytes) = true := hsz0
  have hW' := hW
  obtain ⟨p, q, hA0, hV, rfl, hfz, hnd⟩ := hW
  have hA : DataW.TrodAll enc Try.prog W 0 (fun _ => true) true Try.f3.params.toList args.toList ds p := hA0
  obtain ⟨rfl, rfl⟩ := trodVars_none hV
  rw [Try.params3] at hA hval hsz
  have hA1 := hA
  obtain ⟨v0, vs0, d0, ds0, p0, q0, hargs, rfl, rfl, h0, r0⟩ := trodAll_cons hA
  obtain ⟨v1, vs1, d1, ds1, p1, q1, rfl, rfl, rfl, h1, r1⟩ := trodAll_cons r0
  obtain ⟨v2, vs2, d2, ds2, p2, q2, rfl, rfl, rfl, h2, r2⟩ := trodAll_cons r1
  obtain ⟨rfl, rfl, rfl⟩ := trodAll_nil r2
  obtain rfl : args = #[v0, v1, v2] := by cases args; simp_all
  have z0 : Sized Try.prog 22 d0 := sized_of_each (j := 0) hsz rfl rfl
  have k0 : Value.okWide Try.prog W .any base 22 v0 := hval 0 _ _ rfl rfl
  have z1 : Sized Try.prog 23 d1 := sized_of_each (j := 1) hsz rfl rfl
  have k1 : Value.okWide Try.prog W .any base 23 v1 := hval 1 _ _ rfl rfl
  have z2 : Sized Try.prog 24 d2 := sized_of_each (j := 2) hsz rfl rfl
  have k2 : Value.okWide Try.prog W .any base 24 v2 := hval 2 _ _ rfl rfl
  clear hA0 hval0 hsz hsz0 hval
  have key : Calls Try.prog 3 #[v0, v1, v2] W (Gives (.bool true) W) := by
    obtain ⟨a, ha, _, ra⟩ := open_strl h0 z0 k0
    obtain ⟨b, hb, _, rb⟩ := open_vals h1 z1 k1
    obtain ⟨n, n1, n2, rfl⟩ := open_int (k := .u64) (by kernel_rfl) k2
    exact gives_of_dpure (vs := [v0, v1, .int .u64 n]) (valueParts_d .no .no a b n.toNat ha hb) (by simp only [RepL]; exact ⟨_, _, rfl, ra _ _ fix_nil, _, _, rfl, rb _ _ fix_nil, _, _, rfl, (by simp only [Rep, uv]; congr 1; have h0 : (0 : Int) ≤ n := n1; omega), rfl⟩)
  refine key.mono fun e W' ⟨he, bel⟩ => ?_
  subst he
  exact ⟨_, rfl, _, _, _, [], _, [], hW', trodAll_mk1 (shut_bool Try.underlying4 _), trodAll_below valueParts_laidOut bel (by kernel_rfl) hA1, rfl, bel.frame _, fun h => by cases h⟩

theorem valueParts_holds : Rows.ValuePartsSaid :=
  OpenClaim.holds_of_wide 3 Try.f3 rfl rfl rfl rfl rfl rfl rfl ⟨rfl, rfl, rfl, rfl, rfl⟩ rfl rfl rfl rfl rfl (by kernel_rfl) Try.func3 (by kernel_rfl)
    (of_decide_eq_true (by kernel_rfl)) (by unfold Func.isWrapper; first | (rw [if_pos (by decide +kernel)]; kernel_rfl) | (rw [if_neg (by decide +kernel)]; exact ⟨rfl, rfl⟩))
    (fun os started H enc _ => valueParts_lifted os started H enc)
#print axioms valueParts_holds
end Go.Proofs.Ytjjhjhjphhpeiaa
