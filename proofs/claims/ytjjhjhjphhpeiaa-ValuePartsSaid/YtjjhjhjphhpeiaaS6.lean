/- Texts of a proof, part 6. Conditions: none. -/
import Derived.Test.YtjjhjhjphhpeiaaS5
set_option linter.unusedVariables false
set_option linter.unusedSimpArgs false
namespace Go.Proofs.Ytjjhjhjphhpeiaa
open Go.RowKit
set_option linter.unusedSimpArgs false
set_option linter.unusedVariables false
theorem Two.old {o lo : Nat} {e1 e2 : TypeId} {f : D → D → List D} {L1 L2 : List D} {o1 o2 : Own} {T X : St} (h : Two o lo e1 e2 f L1 L2 o1 o2 T) (hT : T.WF) (hx : ∀ j, j < T.next → X.ob j = T.ob j) : Two o lo e1 e2 f L1 L2 o1 o2 X :=
  ⟨by rw [hx _ (hT.lt h.box)]; exact h.box, h.r1.keep fun g hg => hx _ (h.r1.lt hT g hg), h.r2.keep fun g hg => hx _ (h.r2.lt hT g hg)⟩
theorem Two.at1b {o lo : Nat} {e1 e2 : TypeId} {f : D → D → List D} {L1 L2 : List D} {o1 o2 : Own} {T : St} (h : Two o lo e1 e2 f L1 L2 o1 o2 T) (hT : T.WF) {j m : Nat} {t : TypeId} {cs : List D} (hj : j < T.next) (e : T.ob j = some (.box t cs)) : (T.grow o1 e1 m).ob j = some (.box t cs) := by
  rw [grow_skip (by omega) (h.r1.ne (.inr ⟨t, cs, e⟩)), e]
theorem Two.at2b {o lo : Nat} {e1 e2 : TypeId} {f : D → D → List D} {L1 L2 : List D} {o1 o2 : Own} {T : St} (h : Two o lo e1 e2 f L1 L2 o1 o2 T) (hT : T.WF) {j m m2 : Nat} {t : TypeId} {cs : List D} (hj : j < T.next) (e : T.ob j = some (.box t cs)) : ((T.grow o1 e1 m).grow o2 e2 m2).ob j = some (.box t cs) := by
  rw [grow_skip (by rw [grow_next]; omega) (h.r2.ne (.inr ⟨t, cs, e⟩)), h.at1b hT hj e]
/-- The record that is being made. -/
def outR (v : DVal) (d1 d2 : D) : List D := [.v (.int .i64 v.kind), .v (.int .i64 v.n), .v (sv v.s), d1, .sl .no (v.ids.map u64D), d2]
def wq (v p : DVal) (k : Int) (i : Nat) : DVal := if (i : Int) = k then p else v.parts.getD i default
def wst (v : DVal) (x : Str) (p : DVal) : Nat → Bool × List Str × List DVal
  | 0 => (decide (0 ≤ ixI v.names x), [], [])
  | i + 1 => if (!(wst v x p i).1 && sLt x (v.names.getD i [])) = true then (true, (wst v x p i).2.1 ++ [x] ++ [v.names.getD i []], (wst v x p i).2.2 ++ [p] ++ [wq v p (ixI v.names x) i])
    else ((wst v x p i).1, (wst v x p i).2.1 ++ [v.names.getD i []], (wst v x p i).2.2 ++ [wq v p (ixI v.names x) i])
theorem wst_len (v : DVal) (x : Str) (p : DVal) : ∀ i, (wst v x p i).2.1.length ≤ 2 * i ∧ (wst v x p i).2.2.length ≤ 2 * i
  | 0 => ⟨Nat.le_refl _, Nat.le_refl _⟩
  | i + 1 => by
    have ih := wst_len v x p i
    rw [wst]
    split <;> simp only [List.length_append, List.length_cons, List.length_nil] <;> omega
def refWithV (v : DVal) (x : Str) (p : DVal) : DVal :=
  if wholeB v = false then v else
  v.ofFields (if (wst v x p v.names.length).1 = true then (wst v x p v.names.length).2.1 else (wst v x p v.names.length).2.1 ++ [x])
    ((if (wst v x p v.names.length).1 = true then (wst v x p v.names.length).2.2 else (wst v x p v.names.length).2.2 ++ [p]) ++ v.parts.drop v.names.length)
set_option maxRecDepth 200000 in
set_option maxHeartbeats 8000000 in
theorem refWith_d (v p : DVal) (x : Str) (hw : v.weight ≤ 100000) : DPure Try.prog 11 [encV v, .v (sv x), encV p] (encV (refWithV v x p)) := by
  have hwt := v.weight_eq
  have hpn := partsLen v
  refine dpure_of_dwp mixed Try.func11 rfl (fun _ _ => by kernel_rfl) (rs := [.cell 6 28]) rfl (by kernel_rfl) (closed_encV _) (fun S hS => ?_)
  (simp (disch := first | decide | omega | (simp only [nx]; first | done | omega)) only [go_sem, Nat.reduceMul]; (repeat (with_reducible refine And.intro (by first | omega | assumption | rfl) ?_)))
  refine DCalls.of_pure (refWholeV_d v) ?_
  cases hwh : wholeB v with
  | false =>
    (simp (disch := first | decide | omega | (simp only [nx]; first | done | omega)) only [go_sem, Nat.reduceMul]; (repeat (with_reducible refine And.intro (by first | omega | assumption | rfl) ?_)))
    refine ⟨?_, (by (repeat' first | assumption | exact St.Sub.refl _ | exact RowOk.sub (by assumption) (by assumption) | refine St.Sub.trans ?_ (RowOk.sub (by assumption) (by assumption)) | refine St.Sub.add ?_ ?_ _ | refine St.Sub.set ?_ ?_ ?_ _ | refine St.Sub.keep ?_ ?_ | refine St.WF.leave ?_ _ | refine St.WF.add ?_ _ | refine St.WF.set ?_ ?_ _ | refine St.WF.grow ?_ _ _ _ | refine St.WF.keep ?_ ?_ | (first | omega | (simp only [RowOk.lo, nx]; first | done | omega))))⟩
    rw [refWithV, if_pos hwh, frz_encV]
  | true =>
  have hwl : v.kind = 5 ∧ v.names.length ≤ v.parts.length := by simpa [wholeB] using hwh
  (simp (disch := first | decide | omega | (simp only [nx]; first | done | omega)) only [go_sem, Nat.reduceMul]; (repeat (with_reducible refine And.intro (by first | omega | assumption | rfl) ?_)))
  have cv : (encV v).cells = [.v (.int .i64 v.kind), .v (.int .i64 v.n), strD v.s, .sl .no (v.names.map strD), .sl .no (v.ids.map u64D), .sl .no (v.parts.map encV)] := by rw [encV_eq]; rfl
  refine ⟨by rw [cv]; simp, ?_⟩
  generalize hTe : St.set (St.set (St.set _ _ _) _ _) _ _ = T0
  have u3 : T0.ob S.next = some (.box 28 (encV v).cells) := by rw [← hTe]; (first | (simp (disch := first | decide | omega | (simp only [nx]; first | done | omega)) only [go_sem, Nat.reduceMul]; first | done | rfl) | rfl)
  have u5 : T0.ob (S.next + 1) = some (.box 28 (encV p).cells) := by rw [← hTe]; (first | (simp (disch := first | decide | omega | (simp only [nx]; first | done | omega)) only [go_sem, Nat.reduceMul]; first | done | rfl) | rfl)
  have u6 : T0.ob (S.next + 1 + 1) = some (.box 28 [.v (.int .i64 0), .v (.int .i64 0), .v (.string ⟨#[]⟩), .sl .full [], .sl .full [], .sl .full []]) := by rw [← hTe]; (first | (simp (disch := first | decide | omega | (simp only [nx]; first | done | omega)) only [go_sem, Nat.reduceMul]; first | done | rfl) | rfl)
  have u7 : T0.ob (S.next + 1 + 1 + 1) = some (.box 28 (outR v (.sl .full []) (.sl .full []))) := by
    rw [← hTe, cv]
    simp (disch := first | decide | omega | (simp only [nx]; first | done | omega)) only [go_sem, Nat.reduceMul]
    rfl
  have hT0 : T0.WF := by rw [← hTe]; exact (by (repeat' first | assumption | refine St.WF.leave ?_ _ | refine St.WF.add ?_ _ | refine St.WF.set ?_ ?_ _ | refine St.WF.grow ?_ _ _ _ | refine St.WF.keep ?_ ?_ | (first | omega | (simp only [RowOk.lo, nx]; first | done | omega))))
  have hn0 : T0.next = S.next + 1 + 1 + 1 + 1 := by rw [← hTe]; simp only [add_next, set_next]
  have hF0 : S.Sub T0 := by rw [← hTe]; exact (by (repeat' first | assumption | exact St.Sub.refl _ | exact RowOk.sub (by assumption) (by assumption) | refine St.Sub.trans ?_ (RowOk.sub (by assumption) (by assumption)) | refine St.Sub.add ?_ ?_ _ | refine St.Sub.set ?_ ?_ ?_ _ | refine St.Sub.keep ?_ ?_ | refine St.WF.leave ?_ _ | refine St.WF.add ?_ _ | refine St.WF.set ?_ ?_ _ | refine St.WF.grow ?_ _ _ _ | refine St.WF.keep ?_ ?_ | (first | omega | (simp only [RowOk.lo, nx]; first | done | omega))))
  clear hTe
  refine DCalls.of_pure (refFieldI_d v x (by omega)) ?_
  (simp (disch := first | decide | omega | (simp only [nx]; first | done | omega)) only [go_sem, Nat.reduceMul, u3]; (repeat (with_reducible refine And.intro (by first | omega | assumption | rfl) ?_)))
  refine DCalls.of_pure (refFieldI_d v x (by omega)) ?_
  (simp (disch := first | decide | omega | (simp only [nx]; first | done | omega)) only [go_sem, Nat.reduceMul, u3]; (repeat (with_reducible refine And.intro (by first | omega | assumption | rfl) ?_)))
  obtain ⟨lo, hlo⟩ : ∃ lo, lo = S.next + 1 + 1 + 1 + 1 := ⟨_, rfl⟩
  have heU : elT Try.prog 22 = some 9 := by kernel_rfl
  have heV : elT Try.prog 23 = some 28 := by kernel_rfl
  have hzU : szOf Try.prog 9 = 1 := by kernel_rfl
  have hzV : szOf Try.prog 28 = 6 := by kernel_rfl
  have hbV : bytesOf Try.prog 28 = 104 := by kernel_rfl
  have wU : ∀ l : List Str, ∀ d ∈ l.map strD, d.width = szOf Try.prog 9 := fun l d hd => by rw [hzU]; exact wSs l d hd
  have wV : ∀ l : List DVal, ∀ d ∈ l.map encV, d.width = szOf Try.prog 28 := fun l d hd => by rw [hzV]; exact wVs l d hd
  have xU : ∀ n : Str, (strD n).width = szOf Try.prog 9 := fun n => by rw [hzU]; rfl
  have xV : ∀ p : DVal, (encV p).width = szOf Try.prog 28 := fun p => by rw [hzV]; exact cells_encV p
  obtain ⟨k, hk⟩ : ∃ k, k = ixI v.names x := ⟨_, rfl⟩
  refine dloop_up (fun t => List.contains [8, 10, 11, 26, 27, 28, 29, 30, 31, 32, 33, 34, 35, 36, 37, 38, 39, 40, 41, 42, 43, 44, 45, 46, 47, 48, 49, 50, 51, 52, 53, 54, 55, 56, 57, 58, 59, 60, 61, 62, 63, 64, 65, 66, 67, 68, 69, 70, 71, 72, 73, 74, 75, 76, 77, 78, 79, 80] t) (by kernel_rfl) hT0 v.names.length (fun i g T => i ≤ v.names.length ∧ g 8 = .v (.bool (wst v x p i).1) ∧ g 10 = .v (.int .i64 ((i : Nat) : Int)) ∧ (∃ o1 o2, Two (S.next + 1 + 1 + 1) lo 9 28 (outR v) ((wst v x p i).2.1.map strD) ((wst v x p i).2.2.map encV) o1 o2 T) ∧ Fz (fun j => j ≠ S.next + 1 + 1 + 1 ∧ j < lo) T0 T ∧ lo ≤ T.next)
    ⟨by omega, by (first | (simp (disch := first | decide | omega | (simp only [nx]; first | done | omega)) only [go_sem, Nat.reduceMul]; first | done | rfl) | rfl), by (first | (simp (disch := first | decide | omega | (simp only [nx]; first | done | omega)) only [go_sem, Nat.reduceMul]; first | done | rfl) | rfl), ⟨.full, .full, ⟨u7, .inl ⟨rfl, rfl⟩, .inl ⟨rfl, rfl⟩⟩⟩, Fz.refl _ _, by omega⟩ ?_
  rintro i g2 T hT hgb ⟨le2, q8, q10, ⟨o1, o2, h2⟩, hF, hln⟩
  (have q1b := hgb 1 rfl; have q3b := hgb 3 rfl; have q5b := hgb 5 rfl; have q6b := hgb 6 rfl; have q7b := hgb 7 rfl; have q9b := hgb 9 rfl; simp (disch := first | decide | omega | (simp only [nx]; first | done | omega)) only [go_sem, Nat.reduceMul] at q1b q3b q5b q6b q7b q9b; clear hgb)
  have t3 := hF.ob _ _ ⟨by omega, by omega⟩ u3
  have t5 := hF.ob _ _ ⟨by omega, by omega⟩ u5
  have t6 := hF.ob _ _ ⟨by omega, by omega⟩ u6
  have t7 := h2.box
  have il := wst_len v x p i
  by_cases hlt : i < v.names.length
  · have b1 : decide ((i : Int) < (v.names.length : Int)) = true := by simp; omega
    have w5 : IntKind.i64.wrap ((i : Int) + 1) = ((i + 1 : Nat) : Int) := IntWalk.i64_in _ ⟨by omega, by omega⟩
    have hlp : i < v.parts.length := by omega
    have hgn : v.names.getD i [] = v.names[i] := getD_at hlt
    cases hd : (wst v x p i).1 with
    | true =>
      rw [hd] at q8
      have a0 : wst v x p (i + 1) = ((wst v x p i).1, (wst v x p i).2.1 ++ [v.names.getD i []], (wst v x p i).2.2 ++ [wq v p (ixI v.names x) i]) := by rw [wst, if_neg (by rw [hd]; simp)]
      have a1 : (wst v x p (i + 1)).1 = true := by rw [a0]; exact hd
      have a2 : (wst v x p (i + 1)).2.1 = (wst v x p i).2.1 ++ [v.names[i]] := by rw [a0, hgn]
      have a3 : (wst v x p (i + 1)).2.2 = (wst v x p i).2.2 ++ [wq v p (ixI v.names x) i] := by rw [a0]
      clear a0
      (simp (disch := first | decide | omega | (simp only [nx]; first | done | omega)) only [go_sem, Nat.reduceMul, q3b, q8, q10, b1, t3]; (repeat (with_reducible refine And.intro (by first | omega | assumption | rfl) ?_)))
      generalize (wst v x p i).2.1 = l1 at *
      generalize (wst v x p i).2.2 = l2 at *
      · skip
        · skip
          
          have t3' := hF.ob _ _ ⟨by omega, by omega⟩ u3
          have t5' := hF.ob _ _ ⟨by omega, by omega⟩ u5
          have hqd : ∃ q, q = wq v p (ixI v.names x) i := ⟨_, rfl⟩
          obtain ⟨q, hq⟩ := hqd
          rw [← hq] at a3
          by_cases hik : (i : Int) = ixI v.names x
          · have b8 : ((i : Int) == ixI v.names x) = true := by simp [hik]
            have hqp : q = p := by rw [hq, wq, if_pos hik]
            subst hqp
            (simp (disch := first | decide | omega | (simp only [nx]; first | done | omega)) only [go_sem, Nat.reduceMul, q8, q3b, q5b, q9b, q10, t3', t5', hlt, hlp, b8]; (repeat (with_reducible refine And.intro (by first | omega | assumption | rfl) ?_)))
            generalize hXe : St.set (St.set (St.add _ _) _ _) _ _ = X
            
            have xo : ∀ j, j < T.next → X.ob j = T.ob j := fun j hj => by
              have hj1 : j ≠ T.next := by omega
              rw [← hXe]; (first | (simp (disch := first | decide | omega | (simp only [nx]; first | done | omega)) only [go_sem, Nat.reduceMul, hj1]; first | done | rfl) | rfl)
            have x11 : X.ob T.next = some (.box 28 (encV q).cells) := by rw [← hXe]; (first | (simp (disch := first | decide | omega | (simp only [nx]; first | done | omega)) only [go_sem, Nat.reduceMul]; first | done | rfl) | rfl)
            have xn : X.next = T.next + 1 := by rw [← hXe]; simp only [add_next, set_next]
            have hX : X.WF := by rw [← hXe]; exact (by (repeat' first | assumption | refine St.WF.leave ?_ _ | refine St.WF.add ?_ _ | refine St.WF.set ?_ ?_ _ | refine St.WF.grow ?_ _ _ _ | refine St.WF.keep ?_ ?_ | (first | omega | (simp only [RowOk.lo, nx]; first | done | omega))))
            clear hXe
            have h5 := h2.old hT xo
            have x3 := (xo _ (by omega)).trans t3'
            have x7 := h5.box
            have lnX : lo ≤ X.next := by omega
            have y3 : ∀ m m2, ((X.grow o1 9 m).grow o2 28 m2).ob S.next = some (.box 28 (encV v).cells) := fun m m2 => h5.at2b hX (by omega) x3
            have y7 : ∀ m m2, ((X.grow o1 9 m).grow o2 28 m2).ob (S.next + 1 + 1 + 1) = some (.box 28 (outR v (.sl o1 (l1.map strD)) (.sl o2 (l2.map encV)))) := fun m m2 => h5.at2b hX (by omega) x7
            (refine ddraw_any (fun S' => S'.ob S.next = some (.box 28 (encV v).cells) ∧ S'.ob (S.next + 1 + 1 + 1) = some (.box 28 (outR v (.sl o1 (l1.map strD)) (.sl o2 (l2.map encV)))) ∧ S'.ob T.next = some (.box 28 (encV q).cells)) 15 (by (first | (simp (disch := first | decide | omega | (simp only [nx]; first | done | omega)) only [go_sem, Nat.reduceMul, x3, x7, x11]; first | done | rfl) | rfl)) (by kernel_rfl) ?_; (refine s_take 0 rfl (by kernel_rfl) (by kernel_rfl) (v := ?v35) (fun S' hz => dquietR_of ?h35) <| s_take 1 rfl (by kernel_rfl) (by kernel_rfl) (v := ?v36) (fun S' hz => dquietR_of ?h36) <| s_take 2 rfl (by kernel_rfl) (by kernel_rfl) (v := ?v37) (fun S' hz => dquietR_of ?h37) <| s_take 3 rfl (by kernel_rfl) (by kernel_rfl) (v := ?v38) (fun S' hz => dquietR_of ?h38) <| s_take 4 rfl (by kernel_rfl) (by kernel_rfl) (v := ?v39) (fun S' hz => dquietR_of ?h39) <| s_take 5 rfl (by kernel_rfl) (by kernel_rfl) (v := ?v40) (fun S' hz => dquietR_of ?h40) <| s_take 6 rfl (by kernel_rfl) (by kernel_rfl) (v := ?v41) (fun S' hz => dquietR_of ?h41) <| s_take 7 rfl (by kernel_rfl) (by kernel_rfl) (v := ?v42) (fun S' hz => dquietR_of ?h42) <| s_take 9 rfl (by kernel_rfl) (by kernel_rfl) (v := ?v43) (fun S' hz => dquietR_of ?h43) <| s_take 10 rfl (by kernel_rfl) (by kernel_rfl) (v := ?v44) (fun S' hz => dquietR_of ?h44) <| s_take 11 rfl (by kernel_rfl) (by kernel_rfl) (v := ?v45) (fun S' hz => dquietR_of ?h45) <| s_take 12 rfl (by kernel_rfl) (by kernel_rfl) (v := ?v46) (fun S' hz => dquietR_of ?h46) <| ?k46; (case h35 | h36 | h37 | h38 | h39 | h40 | h41 | h42 | h43 | h44 | h45 | h46 => ((simp (disch := first | decide | omega | (simp only [nx]; first | done | omega)) only [go_sem, Nat.reduceMul, q3b, q7b, q10, outR, hlt, hz]; (repeat (with_reducible refine And.intro (by first | omega | assumption | rfl) ?_))); first | done | exact rfl | omega))); (refine s_split [8] (by kernel_rfl) (by simp) ?_; intro j_ hj_; obtain rfl : j_ = 8 := (by simpa using hj_); clear hj_; refine s_op rfl ?_; (simp (disch := first | decide | omega | (simp only [nx]; first | done | omega)) only [go_sem, Nat.reduceMul]; (repeat (with_reducible refine And.intro (by first | omega | assumption | rfl) ?_)))); (refine dapp_at (lo := lo) heU (by kernel_rfl) h5.r1 (wU _) (xU _) (by simp (disch := first | decide | omega | (simp only [nx]; first | done | omega)) only [go_sem, Nat.reduceMul]; omega) (by simp (disch := first | decide | omega | (simp only [nx]; first | done | omega)) only [go_sem, Nat.reduceMul]; omega) ?_); (refine ⟨⟨h5.at1b hX (by omega) x3, h5.at1b hX (by omega) x7, h5.at1b hX (by omega) x11⟩, ?_⟩); (refine s_take 14 rfl (by kernel_rfl) (by kernel_rfl) (v := ?v47) (fun S' hz => dquietR_of ?h47) ?k47; (case h47 => ((simp (disch := first | decide | omega | (simp only [nx]; first | done | omega)) only [go_sem, Nat.reduceMul, q3b, q7b, q10, outR, hlt, hz]; (repeat (with_reducible refine And.intro (by first | omega | assumption | rfl) ?_))); first | done | exact rfl | omega))); (refine s_split [13] (by kernel_rfl) (by simp) ?_; intro j_ hj_; obtain rfl : j_ = 13 := (by simpa using hj_); clear hj_; refine s_op rfl ?_; (simp (disch := first | decide | omega | (simp only [nx]; first | done | omega)) only [go_sem, Nat.reduceMul]; (repeat (with_reducible refine And.intro (by first | omega | assumption | rfl) ?_)))); (refine dapp_at (lo := lo) heV (by kernel_rfl) (h5.row2 hX (by decide)) (wV _) (xV _) (by simp (disch := first | decide | omega | (simp only [nx]; first | done | omega)) only [go_sem, Nat.reduceMul]; omega) (by simp (disch := first | decide | omega | (simp only [nx]; first | done | omega)) only [go_sem, Nat.reduceMul]; omega) ?_); (refine ⟨⟨h5.at2b hX (by omega) x3, h5.at2b hX (by omega) x7, h5.at2b hX (by omega) x11⟩, ?_⟩))
            (refine s_done (by kernel_rfl) ?_; (simp (disch := first | decide | omega | (simp only [nx]; first | done | omega)) only [go_sem, Nat.reduceMul, q7b, y7, outR, q3b, q10, y3, w5]; (repeat (with_reducible refine And.intro (by first | omega | assumption | rfl) ?_))))
            have key := two_step h5 hX lnX (by decide) (L1' := l1.map strD ++ [strD v.names[i]]) (L2' := l2.map encV ++ [encV q]) (B := .box 28 (outR v (.sl (.row X.next) (l1.map strD ++ [strD v.names[i]])) (.sl o2 (l2.map encV)))) (m1 := l1.length + 1) (m2 := l2.length + 1) (by simp) (by simp)
            simp only [outR, strD] at key
            revert key
            generalize St.set (St.set _ _ _) _ _ = T5
            rintro ⟨h6, hF5, hT5, hn5⟩
            refine ⟨by omega, T5.ob, fun _ _ h => h, by omega, by (first | (simp (disch := first | decide | omega | (simp only [nx]; first | done | omega)) only [go_sem, Nat.reduceMul, q8, a1]; first | done | rfl) | rfl), by (first | (simp (disch := first | decide | omega | (simp only [nx]; first | done | omega)) only [go_sem, Nat.reduceMul]; first | done | rfl) | rfl), ⟨(.row X.next), (.row (X.next + 1)), ?_⟩, ?_, by show lo ≤ T5.next; omega⟩
            · rw [a2, a3, List.map_append, List.map_append]
              exact h6
            · have hFX : Fz (fun j => j ≠ S.next + 1 + 1 + 1 ∧ j < lo) T X := ⟨by omega, fun j o' hj e => by rw [xo j (by omega)]; exact e⟩
              exact ((hF.trans hFX).trans hF5).mono fun _ h => ⟨h.1, h.2⟩

          · have b8 : ((i : Int) == ixI v.names x) = false := by simp [hik]
            have hqp : q = v.parts[i] := by rw [hq, wq, if_neg hik, getD_at hlp]
            (simp (disch := first | decide | omega | (simp only [nx]; first | done | omega)) only [go_sem, Nat.reduceMul, q8, q3b, q5b, q9b, q10, t3', t5', hlt, hlp, b8]; (repeat (with_reducible refine And.intro (by first | omega | assumption | rfl) ?_)))
            rw [← hqp]
            generalize hXe : St.set (St.add _ _) _ _ = X
            
            have xo : ∀ j, j < T.next → X.ob j = T.ob j := fun j hj => by
              have hj1 : j ≠ T.next := by omega
              rw [← hXe]; (first | (simp (disch := first | decide | omega | (simp only [nx]; first | done | omega)) only [go_sem, Nat.reduceMul, hj1]; first | done | rfl) | rfl)
            have x11 : X.ob T.next = some (.box 28 (encV q).cells) := by rw [← hXe]; (first | (simp (disch := first | decide | omega | (simp only [nx]; first | done | omega)) only [go_sem, Nat.reduceMul]; first | done | rfl) | rfl)
            have xn : X.next = T.next + 1 := by rw [← hXe]; simp only [add_next, set_next]
            have hX : X.WF := by rw [← hXe]; exact (by (repeat' first | assumption | refine St.WF.leave ?_ _ | refine St.WF.add ?_ _ | refine St.WF.set ?_ ?_ _ | refine St.WF.grow ?_ _ _ _ | refine St.WF.keep ?_ ?_ | (first | omega | (simp only [RowOk.lo, nx]; first | done | omega))))
            clear hXe
            have h5 := h2.old hT xo
            have x3 := (xo _ (by omega)).trans t3'
            have x7 := h5.box
            have lnX : lo ≤ X.next := by omega
            have y3 : ∀ m m2, ((X.grow o1 9 m).grow o2 28 m2).ob S.next = some (.box 28 (encV v).cells) := fun m m2 => h5.at2b hX (by omega) x3
            have y7 : ∀ m m2, ((X.grow o1 9 m).grow o2 28 m2).ob (S.next + 1 + 1 + 1) = some (.box 28 (outR v (.sl o1 (l1.map strD)) (.sl o2 (l2.map encV)))) := fun m m2 => h5.at2b hX (by omega) x7
            (refine ddraw_any (fun S' => S'.ob S.next = some (.box 28 (encV v).cells) ∧ S'.ob (S.next + 1 + 1 + 1) = some (.box 28 (outR v (.sl o1 (l1.map strD)) (.sl o2 (l2.map encV)))) ∧ S'.ob T.next = some (.box 28 (encV q).cells)) 15 (by (first | (simp (disch := first | decide | omega | (simp only [nx]; first | done | omega)) only [go_sem, Nat.reduceMul, x3, x7, x11]; first | done | rfl) | rfl)) (by kernel_rfl) ?_; (refine s_take 0 rfl (by kernel_rfl) (by kernel_rfl) (v := ?v48) (fun S' hz => dquietR_of ?h48) <| s_take 1 rfl (by kernel_rfl) (by kernel_rfl) (v := ?v49) (fun S' hz => dquietR_of ?h49) <| s_take 2 rfl (by kernel_rfl) (by kernel_rfl) (v := ?v50) (fun S' hz => dquietR_of ?h50) <| s_take 3 rfl (by kernel_rfl) (by kernel_rfl) (v := ?v51) (fun S' hz => dquietR_of ?h51) <| s_take 4 rfl (by kernel_rfl) (by kernel_rfl) (v := ?v52) (fun S' hz => dquietR_of ?h52) <| s_take 5 rfl (by kernel_rfl) (by kernel_rfl) (v := ?v53) (fun S' hz => dquietR_of ?h53) <| s_take 6 rfl (by kernel_rfl) (by kernel_rfl) (v := ?v54) (fun S' hz => dquietR_of ?h54) <| s_take 7 rfl (by kernel_rfl) (by kernel_rfl) (v := ?v55) (fun S' hz => dquietR_of ?h55) <| s_take 9 rfl (by kernel_rfl) (by kernel_rfl) (v := ?v56) (fun S' hz => dquietR_of ?h56) <| s_take 10 rfl (by kernel_rfl) (by kernel_rfl) (v := ?v57) (fun S' hz => dquietR_of ?h57) <| s_take 11 rfl (by kernel_rfl) (by kernel_rfl) (v := ?v58) (fun S' hz => dquietR_of ?h58) <| s_take 12 rfl (by kernel_rfl) (by kernel_rfl) (v := ?v59) (fun S' hz => dquietR_of ?h59) <| ?k59; (case h48 | h49 | h50 | h51 | h52 | h53 | h54 | h55 | h56 | h57 | h58 | h59 => ((simp (disch := first | decide | omega | (simp only [nx]; first | done | omega)) only [go_sem, Nat.reduceMul, q3b, q7b, q10, outR, hlt, hz]; (repeat (with_reducible refine And.intro (by first | omega | assumption | rfl) ?_))); first | done | exact rfl | omega))); (refine s_split [8] (by kernel_rfl) (by simp) ?_; intro j_ hj_; obtain rfl : j_ = 8 := (by simpa using hj_); clear hj_; refine s_op rfl ?_; (simp (disch := first | decide | omega | (simp only [nx]; first | done | omega)) only [go_sem, Nat.reduceMul]; (repeat (with_reducible refine And.intro (by first | omega | assumption | rfl) ?_)))); (refine dapp_at (lo := lo) heU (by kernel_rfl) h5.r1 (wU _) (xU _) (by simp (disch := first | decide | omega | (simp only [nx]; first | done | omega)) only [go_sem, Nat.reduceMul]; omega) (by simp (disch := first | decide | omega | (simp only [nx]; first | done | omega)) only [go_sem, Nat.reduceMul]; omega) ?_); (refine ⟨⟨h5.at1b hX (by omega) x3, h5.at1b hX (by omega) x7, h5.at1b hX (by omega) x11⟩, ?_⟩); (refine s_take 14 rfl (by kernel_rfl) (by kernel_rfl) (v := ?v60) (fun S' hz => dquietR_of ?h60) ?k60; (case h60 => ((simp (disch := first | decide | omega | (simp only [nx]; first | done | omega)) only [go_sem, Nat.reduceMul, q3b, q7b, q10, outR, hlt, hz]; (repeat (with_reducible refine And.intro (by first | omega | assumption | rfl) ?_))); first | done | exact rfl | omega))); (refine s_split [13] (by kernel_rfl) (by simp) ?_; intro j_ hj_; obtain rfl : j_ = 13 := (by simpa using hj_); clear hj_; refine s_op rfl ?_; (simp (disch := first | decide | omega | (simp only [nx]; first | done | omega)) only [go_sem, Nat.reduceMul]; (repeat (with_reducible refine And.intro (by first | omega | assumption | rfl) ?_)))); (refine dapp_at (lo := lo) heV (by kernel_rfl) (h5.row2 hX (by decide)) (wV _) (xV _) (by simp (disch := first | decide | omega | (simp only [nx]; first | done | omega)) only [go_sem, Nat.reduceMul]; omega) (by simp (disch := first | decide | omega | (simp only [nx]; first | done | omega)) only [go_sem, Nat.reduceMul]; omega) ?_); (refine ⟨⟨h5.at2b hX (by omega) x3, h5.at2b hX (by omega) x7, h5.at2b hX (by omega) x11⟩, ?_⟩))
            (refine s_done (by kernel_rfl) ?_; (simp (disch := first | decide | omega | (simp only [nx]; first | done | omega)) only [go_sem, Nat.reduceMul, q7b, y7, outR, q3b, q10, y3, w5]; (repeat (with_reducible refine And.intro (by first | omega | assumption | rfl) ?_))))
            have key := two_step h5 hX lnX (by decide) (L1' := l1.map strD ++ [strD v.names[i]]) (L2' := l2.map encV ++ [encV q]) (B := .box 28 (outR v (.sl (.row X.next) (l1.map strD ++ [strD v.names[i]])) (.sl o2 (l2.map encV)))) (m1 := l1.length + 1) (m2 := l2.length + 1) (by simp) (by simp)
            simp only [outR, strD] at key
            revert key
            generalize St.set (St.set _ _ _) _ _ = T5
            rintro ⟨h6, hF5, hT5, hn5⟩
            refine ⟨by omega, T5.ob, fun _ _ h => h, by omega, by (first | (simp (disch := first | decide | omega | (simp only [nx]; first | done | omega)) only [go_sem, Nat.reduceMul, q8, a1]; first | done | rfl) | rfl), by (first | (simp (disch := first | decide | omega | (simp only [nx]; first | done | omega)) only [go_sem, Nat.reduceMul]; first | done | rfl) | rfl), ⟨(.row X.next), (.row (X.next + 1)), ?_⟩, ?_, by show lo ≤ T5.next; omega⟩
            · rw [a2, a3, List.map_append, List.map_append]
              exact h6
            · have hFX : Fz (fun j => j ≠ S.next + 1 + 1 + 1 ∧ j < lo) T X := ⟨by omega, fun j o' hj e => by rw [xo j (by omega)]; exact e⟩
              exact ((hF.trans hFX).trans hF5).mono fun _ h => ⟨h.1, h.2⟩


    | false =>
      rw [hd] at q8
      cases hs : sLt x v.names[i] with
      | false =>
        have b4 : (!(Op.bytesLess v.names[i] x || v.names[i] == x)) = false := (gt_sLt _ _).trans hs
        have a0 : wst v x p (i + 1) = ((wst v x p i).1, (wst v x p i).2.1 ++ [v.names.getD i []], (wst v x p i).2.2 ++ [wq v p (ixI v.names x) i]) := by rw [wst, if_neg (by rw [hd, hgn, hs]; simp)]
        have a1 : (wst v x p (i + 1)).1 = false := by rw [a0]; exact hd
        have a2 : (wst v x p (i + 1)).2.1 = (wst v x p i).2.1 ++ [v.names[i]] := by rw [a0, hgn]
        have a3 : (wst v x p (i + 1)).2.2 = (wst v x p i).2.2 ++ [wq v p (ixI v.names x) i] := by rw [a0]
        clear a0
        (simp (disch := first | decide | omega | (simp only [nx]; first | done | omega)) only [go_sem, Nat.reduceMul, q1b, q3b, q8, q10, b1, t3, hlt, b4]; (repeat (with_reducible refine And.intro (by first | omega | assumption | rfl) ?_)))
        generalize (wst v x p i).2.1 = l1 at *
        generalize (wst v x p i).2.2 = l2 at *
        · skip
          
          have t3' := hF.ob _ _ ⟨by omega, by omega⟩ u3
          have t5' := hF.ob _ _ ⟨by omega, by omega⟩ u5
          have hqd : ∃ q, q = wq v p (ixI v.names x) i := ⟨_, rfl⟩
          obtain ⟨q, hq⟩ := hqd
          rw [← hq] at a3
          by_cases hik : (i : Int) = ixI v.names x
          · have b8 : ((i : Int) == ixI v.names x) = true := by simp [hik]
            have hqp : q = p := by rw [hq, wq, if_pos hik]
            subst hqp
            (simp (disch := first | decide | omega | (simp only [nx]; first | done | omega)) only [go_sem, Nat.reduceMul, q8, q3b, q5b, q9b, q10, t3', t5', hlt, hlp, b8]; (repeat (with_reducible refine And.intro (by first | omega | assumption | rfl) ?_)))
            generalize hXe : St.set (St.set (St.add _ _) _ _) _ _ = X
            
            have xo : ∀ j, j < T.next → X.ob j = T.ob j := fun j hj => by
              have hj1 : j ≠ T.next := by omega
              rw [← hXe]; (first | (simp (disch := first | decide | omega | (simp only [nx]; first | done | omega)) only [go_sem, Nat.reduceMul, hj1]; first | done | rfl) | rfl)
            have x11 : X.ob T.next = some (.box 28 (encV q).cells) := by rw [← hXe]; (first | (simp (disch := first | decide | omega | (simp only [nx]; first | done | omega)) only [go_sem, Nat.reduceMul]; first | done | rfl) | rfl)
            have xn : X.next = T.next + 1 := by rw [← hXe]; simp only [add_next, set_next]
            have hX : X.WF := by rw [← hXe]; exact (by (repeat' first | assumption | refine St.WF.leave ?_ _ | refine St.WF.add ?_ _ | refine St.WF.set ?_ ?_ _ | refine St.WF.grow ?_ _ _ _ | refine St.WF.keep ?_ ?_ | (first | omega | (simp only [RowOk.lo, nx]; first | done | omega))))
            clear hXe
            have h5 := h2.old hT xo
            have x3 := (xo _ (by omega)).trans t3'
            have x7 := h5.box
            have lnX : lo ≤ X.next := by omega
            have y3 : ∀ m m2, ((X.grow o1 9 m).grow o2 28 m2).ob S.next = some (.box 28 (encV v).cells) := fun m m2 => h5.at2b hX (by omega) x3
            have y7 : ∀ m m2, ((X.grow o1 9 m).grow o2 28 m2).ob (S.next + 1 + 1 + 1) = some (.box 28 (outR v (.sl o1 (l1.map strD)) (.sl o2 (l2.map encV)))) := fun m m2 => h5.at2b hX (by omega) x7
            (refine ddraw_any (fun S' => S'.ob S.next = some (.box 28 (encV v).cells) ∧ S'.ob (S.next + 1 + 1 + 1) = some (.box 28 (outR v (.sl o1 (l1.map strD)) (.sl o2 (l2.map encV)))) ∧ S'.ob T.next = some (.box 28 (encV q).cells)) 15 (by (first | (simp (disch := first | decide | omega | (simp only [nx]; first | done | omega)) only [go_sem, Nat.reduceMul, x3, x7, x11]; first | done | rfl) | rfl)) (by kernel_rfl) ?_; (refine s_take 0 rfl (by kernel_rfl) (by kernel_rfl) (v := ?v61) (fun S' hz => dquietR_of ?h61) <| s_take 1 rfl (by kernel_rfl) (by kernel_rfl) (v := ?v62) (fun S' hz => dquietR_of ?h62) <| s_take 2 rfl (by kernel_rfl) (by kernel_rfl) (v := ?v63) (fun S' hz => dquietR_of ?h63) <| s_take 3 rfl (by kernel_rfl) (by kernel_rfl) (v := ?v64) (fun S' hz => dquietR_of ?h64) <| s_take 4 rfl (by kernel_rfl) (by kernel_rfl) (v := ?v65) (fun S' hz => dquietR_of ?h65) <| s_take 5 rfl (by kernel_rfl) (by kernel_rfl) (v := ?v66) (fun S' hz => dquietR_of ?h66) <| s_take 6 rfl (by kernel_rfl) (by kernel_rfl) (v := ?v67) (fun S' hz => dquietR_of ?h67) <| s_take 7 rfl (by kernel_rfl) (by kernel_rfl) (v := ?v68) (fun S' hz => dquietR_of ?h68) <| s_take 9 rfl (by kernel_rfl) (by kernel_rfl) (v := ?v69) (fun S' hz => dquietR_of ?h69) <| s_take 10 rfl (by kernel_rfl) (by kernel_rfl) (v := ?v70) (fun S' hz => dquietR_of ?h70) <| s_take 11 rfl (by kernel_rfl) (by kernel_rfl) (v := ?v71) (fun S' hz => dquietR_of ?h71) <| s_take 12 rfl (by kernel_rfl) (by kernel_rfl) (v := ?v72) (fun S' hz => dquietR_of ?h72) <| ?k72; (case h61 | h62 | h63 | h64 | h65 | h66 | h67 | h68 | h69 | h70 | h71 | h72 => ((simp (disch := first | decide | omega | (simp only [nx]; first | done | omega)) only [go_sem, Nat.reduceMul, q3b, q7b, q10, outR, hlt, hz]; (repeat (with_reducible refine And.intro (by first | omega | assumption | rfl) ?_))); first | done | exact rfl | omega))); (refine s_split [8] (by kernel_rfl) (by simp) ?_; intro j_ hj_; obtain rfl : j_ = 8 := (by simpa using hj_); clear hj_; refine s_op rfl ?_; (simp (disch := first | decide | omega | (simp only [nx]; first | done | omega)) only [go_sem, Nat.reduceMul]; (repeat (with_reducible refine And.intro (by first | omega | assumption | rfl) ?_)))); (refine dapp_at (lo := lo) heU (by kernel_rfl) h5.r1 (wU _) (xU _) (by simp (disch := first | decide | omega | (simp only [nx]; first | done | omega)) only [go_sem, Nat.reduceMul]; omega) (by simp (disch := first | decide | omega | (simp only [nx]; first | done | omega)) only [go_sem, Nat.reduceMul]; omega) ?_); (refine ⟨⟨h5.at1b hX (by omega) x3, h5.at1b hX (by omega) x7, h5.at1b hX (by omega) x11⟩, ?_⟩); (refine s_take 14 rfl (by kernel_rfl) (by kernel_rfl) (v := ?v73) (fun S' hz => dquietR_of ?h73) ?k73; (case h73 => ((simp (disch := first | decide | omega | (simp only [nx]; first | done | omega)) only [go_sem, Nat.reduceMul, q3b, q7b, q10, outR, hlt, hz]; (repeat (with_reducible refine And.intro (by first | omega | assumption | rfl) ?_))); first | done | exact rfl | omega))); (refine s_split [13] (by kernel_rfl) (by simp) ?_; intro j_ hj_; obtain rfl : j_ = 13 := (by simpa using hj_); clear hj_; refine s_op rfl ?_; (simp (disch := first | decide | omega | (simp only [nx]; first | done | omega)) only [go_sem, Nat.reduceMul]; (repeat (with_reducible refine And.intro (by first | omega | assumption | rfl) ?_)))); (refine dapp_at (lo := lo) heV (by kernel_rfl) (h5.row2 hX (by decide)) (wV _) (xV _) (by simp (disch := first | decide | omega | (simp only [nx]; first | done | omega)) only [go_sem, Nat.reduceMul]; omega) (by simp (disch := first | decide | omega | (simp only [nx]; first | done | omega)) only [go_sem, Nat.reduceMul]; omega) ?_); (refine ⟨⟨h5.at2b hX (by omega) x3, h5.at2b hX (by omega) x7, h5.at2b hX (by omega) x11⟩, ?_⟩))
            (refine s_done (by kernel_rfl) ?_; (simp (disch := first | decide | omega | (simp only [nx]; first | done | omega)) only [go_sem, Nat.reduceMul, q7b, y7, outR, q3b, q10, y3, w5]; (repeat (with_reducible refine And.intro (by first | omega | assumption | rfl) ?_))))
            have key := two_step h5 hX lnX (by decide) (L1' := l1.map strD ++ [strD v.names[i]]) (L2' := l2.map encV ++ [encV q]) (B := .box 28 (outR v (.sl (.row X.next) (l1.map strD ++ [strD v.names[i]])) (.sl o2 (l2.map encV)))) (m1 := l1.length + 1) (m2 := l2.length + 1) (by simp) (by simp)
            simp only [outR, strD] at key
            revert key
            generalize St.set (St.set _ _ _) _ _ = T5
            rintro ⟨h6, hF5, hT5, hn5⟩
            refine ⟨by omega, T5.ob, fun _ _ h => h, by omega, by (first | (simp (disch := first | decide | omega | (simp only [nx]; first | done | omega)) only [go_sem, Nat.reduceMul, q8, a1]; first | done | rfl) | rfl), by (first | (simp (disch := first | decide | omega | (simp only [nx]; first | done | omega)) only [go_sem, Nat.reduceMul]; first | done | rfl) | rfl), ⟨(.row X.next), (.row (X.next + 1)), ?_⟩, ?_, by show lo ≤ T5.next; omega⟩
            · rw [a2, a3, List.map_append, List.map_append]
              exact h6
            · have hFX : Fz (fun j => j ≠ S.next + 1 + 1 + 1 ∧ j < lo) T X := ⟨by omega, fun j o' hj e => by rw [xo j (by omega)]; exact e⟩
              exact ((hF.trans hFX).trans hF5).mono fun _ h => ⟨h.1, h.2⟩

          · have b8 : ((i : Int) == ixI v.names x) = false := by simp [hik]
            have hqp : q = v.parts[i] := by rw [hq, wq, if_neg hik, getD_at hlp]
            (simp (disch := first | decide | omega | (simp only [nx]; first | done | omega)) only [go_sem, Nat.reduceMul, q8, q3b, q5b, q9b, q10, t3', t5', hlt, hlp, b8]; (repeat (with_reducible refine And.intro (by first | omega | assumption | rfl) ?_)))
            rw [← hqp]
            generalize hXe : St.set (St.add _ _) _ _ = X
            
            have xo : ∀ j, j < T.next → X.ob j = T.ob j := fun j hj => by
              have hj1 : j ≠ T.next := by omega
              rw [← hXe]; (first | (simp (disch := first | decide | omega | (simp only [nx]; first | done | omega)) only [go_sem, Nat.reduceMul, hj1]; first | done | rfl) | rfl)
            have x11 : X.ob T.next = some (.box 28 (encV q).cells) := by rw [← hXe]; (first | (simp (disch := first | decide | omega | (simp only [nx]; first | done | omega)) only [go_sem, Nat.reduceMul]; first | done | rfl) | rfl)
            have xn : X.next = T.next + 1 := by rw [← hXe]; simp only [add_next, set_next]
            have hX : X.WF := by rw [← hXe]; exact (by (repeat' first | assumption | refine St.WF.leave ?_ _ | refine St.WF.add ?_ _ | refine St.WF.set ?_ ?_ _ | refine St.WF.grow ?_ _ _ _ | refine St.WF.keep ?_ ?_ | (first | omega | (simp only [RowOk.lo, nx]; first | done | omega))))
            clear hXe
            have h5 := h2.old hT xo
            have x3 := (xo _ (by omega)).trans t3'
            have x7 := h5.box
            have lnX : lo ≤ X.next := by omega
            have y3 : ∀ m m2, ((X.grow o1 9 m).grow o2 28 m2).ob S.next = some (.box 28 (encV v).cells) := fun m m2 => h5.at2b hX (by omega) x3
            have y7 : ∀ m m2, ((X.grow o1 9 m).grow o2 28 m2).ob (S.next + 1 + 1 + 1) = some (.box 28 (outR v (.sl o1 (l1.map strD)) (.sl o2 (l2.map encV)))) := fun m m2 => h5.at2b hX (by omega) x7
            (refine ddraw_any (fun S' => S'.ob S.next = some (.box 28 (encV v).cells) ∧ S'.ob (S.next + 1 + 1 + 1) = some (.box 28 (outR v (.sl o1 (l1.map strD)) (.sl o2 (l2.map encV)))) ∧ S'.ob T.next = some (.box 28 (encV q).cells)) 15 (by (first | (simp (disch := first | decide | omega | (simp only [nx]; first | done | omega)) only [go_sem, Nat.reduceMul, x3, x7, x11]; first | done | rfl) | rfl)) (by kernel_rfl) ?_; (refine s_take 0 rfl (by kernel_rfl) (by kernel_rfl) (v := ?v74) (fun S' hz => dquietR_of ?h74) <| s_take 1 rfl (by kernel_rfl) (by kernel_rfl) (v := ?v75) (fun S' hz => dquietR_of ?h75) <| s_take 2 rfl (by kernel_rfl) (by kernel_rfl) (v := ?v76) (fun S' hz => dquietR_of ?h76) <| s_take 3 rfl (by kernel_rfl) (by kernel_rfl) (v := ?v77) (fun S' hz => dquietR_of ?h77) <| s_take 4 rfl (by kernel_rfl) (by kernel_rfl) (v := ?v78) (fun S' hz => dquietR_of ?h78) <| s_take 5 rfl (by kernel_rfl) (by kernel_rfl) (v := ?v79) (fun S' hz => dquietR_of ?h79) <| s_take 6 rfl (by kernel_rfl) (by kernel_rfl) (v := ?v80) (fun S' hz => dquietR_of ?h80) <| s_take 7 rfl (by kernel_rfl) (by kernel_rfl) (v := ?v81) (fun S' hz => dquietR_of ?h81) <| s_take 9 rfl (by kernel_rfl) (by kernel_rfl) (v := ?v82) (fun S' hz => dquietR_of ?h82) <| s_take 10 rfl (by kernel_rfl) (by kernel_rfl) (v := ?v83) (fun S' hz => dquietR_of ?h83) <| s_take 11 rfl (by kernel_rfl) (by kernel_rfl) (v := ?v84) (fun S' hz => dquietR_of ?h84) <| s_take 12 rfl (by kernel_rfl) (by kernel_rfl) (v := ?v85) (fun S' hz => dquietR_of ?h85) <| ?k85; (case h74 | h75 | h76 | h77 | h78 | h79 | h80 | h81 | h82 | h83 | h84 | h85 => ((simp (disch := first | decide | omega | (simp only [nx]; first | done | omega)) only [go_sem, Nat.reduceMul, q3b, q7b, q10, outR, hlt, hz]; (repeat (with_reducible refine And.intro (by first | omega | assumption | rfl) ?_))); first | done | exact rfl | omega))); (refine s_split [8] (by kernel_rfl) (by simp) ?_; intro j_ hj_; obtain rfl : j_ = 8 := (by simpa using hj_); clear hj_; refine s_op rfl ?_; (simp (disch := first | decide | omega | (simp only [nx]; first | done | omega)) only [go_sem, Nat.reduceMul]; (repeat (with_reducible refine And.intro (by first | omega | assumption | rfl) ?_)))); (refine dapp_at (lo := lo) heU (by kernel_rfl) h5.r1 (wU _) (xU _) (by simp (disch := first | decide | omega | (simp only [nx]; first | done | omega)) only [go_sem, Nat.reduceMul]; omega) (by simp (disch := first | decide | omega | (simp only [nx]; first | done | omega)) only [go_sem, Nat.reduceMul]; omega) ?_); (refine ⟨⟨h5.at1b hX (by omega) x3, h5.at1b hX (by omega) x7, h5.at1b hX (by omega) x11⟩, ?_⟩); (refine s_take 14 rfl (by kernel_rfl) (by kernel_rfl) (v := ?v86) (fun S' hz => dquietR_of ?h86) ?k86; (case h86 => ((simp (disch := first | decide | omega | (simp only [nx]; first | done | omega)) only [go_sem, Nat.reduceMul, q3b, q7b, q10, outR, hlt, hz]; (repeat (with_reducible refine And.intro (by first | omega | assumption | rfl) ?_))); first | done | exact rfl | omega))); (refine s_split [13] (by kernel_rfl) (by simp) ?_; intro j_ hj_; obtain rfl : j_ = 13 := (by simpa using hj_); clear hj_; refine s_op rfl ?_; (simp (disch := first | decide | omega | (simp only [nx]; first | done | omega)) only [go_sem, Nat.reduceMul]; (repeat (with_reducible refine And.intro (by first | omega | assumption | rfl) ?_)))); (refine dapp_at (lo := lo) heV (by kernel_rfl) (h5.row2 hX (by decide)) (wV _) (xV _) (by simp (disch := first | decide | omega | (simp only [nx]; first | done | omega)) only [go_sem, Nat.reduceMul]; omega) (by simp (disch := first | decide | omega | (simp only [nx]; first | done | omega)) only [go_sem, Nat.reduceMul]; omega) ?_); (refine ⟨⟨h5.at2b hX (by omega) x3, h5.at2b hX (by omega) x7, h5.at2b hX (by omega) x11⟩, ?_⟩))
            (refine s_done (by kernel_rfl) ?_; (simp (disch := first | decide | omega | (simp only [nx]; first | done | omega)) only [go_sem, Nat.reduceMul, q7b, y7, outR, q3b, q10, y3, w5]; (repeat (with_reducible refine And.intro (by first | omega | assumption | rfl) ?_))))
            have key := two_step h5 hX lnX (by decide) (L1' := l1.map strD ++ [strD v.names[i]]) (L2' := l2.map encV ++ [encV q]) (B := .box 28 (outR v (.sl (.row X.next) (l1.map strD ++ [strD v.names[i]])) (.sl o2 (l2.map encV)))) (m1 := l1.length + 1) (m2 := l2.length + 1) (by simp) (by simp)
            simp only [outR, strD] at key
            revert key
            generalize St.set (St.set _ _ _) _ _ = T5
            rintro ⟨h6, hF5, hT5, hn5⟩
            refine ⟨by omega, T5.ob, fun _ _ h => h, by omega, by (first | (simp (disch := first | decide | omega | (simp only [nx]; first | done | omega)) only [go_sem, Nat.reduceMul, q8, a1]; first | done | rfl) | rfl), by (first | (simp (disch := first | decide | omega | (simp only [nx]; first | done | omega)) only [go_sem, Nat.reduceMul]; first | done | rfl) | rfl), ⟨(.row X.next), (.row (X.next + 1)), ?_⟩, ?_, by show lo ≤ T5.next; omega⟩
            · rw [a2, a3, List.map_append, List.map_append]
              exact h6
            · have hFX : Fz (fun j => j ≠ S.next + 1 + 1 + 1 ∧ j < lo) T X := ⟨by omega, fun j o' hj e => by rw [xo j (by omega)]; exact e⟩
              exact ((hF.trans hFX).trans hF5).mono fun _ h => ⟨h.1, h.2⟩


      | true =>
        have b4 : (!(Op.bytesLess v.names[i] x || v.names[i] == x)) = true := (gt_sLt _ _).trans hs
        have a0 : wst v x p (i + 1) = (true, (wst v x p i).2.1 ++ [x] ++ [v.names.getD i []], (wst v x p i).2.2 ++ [p] ++ [wq v p (ixI v.names x) i]) := by rw [wst, if_pos (by rw [hd, hgn, hs]; simp)]
        have a1 : (wst v x p (i + 1)).1 = true := by rw [a0]
        have a2 : (wst v x p (i + 1)).2.1 = (wst v x p i).2.1 ++ [x] ++ [v.names[i]] := by rw [a0, hgn]
        have a3 : (wst v x p (i + 1)).2.2 = (wst v x p i).2.2 ++ [p] ++ [wq v p (ixI v.names x) i] := by rw [a0]
        clear a0
        (simp (disch := first | decide | omega | (simp only [nx]; first | done | omega)) only [go_sem, Nat.reduceMul, q1b, q3b, q8, q10, b1, t3, hlt, b4]; (repeat (with_reducible refine And.intro (by first | omega | assumption | rfl) ?_)))
        generalize (wst v x p i).2.1 = k1 at *
        generalize (wst v x p i).2.2 = k2 at *
        have y5 : ∀ m m2, ((T.grow o1 9 m).grow o2 28 m2).ob (S.next + 1) = some (.box 28 (encV p).cells) := fun m m2 => h2.at2 hT (by omega) t5
        have y7' : ∀ m m2, ((T.grow o1 9 m).grow o2 28 m2).ob (S.next + 1 + 1 + 1) = some (.box 28 (outR v (.sl o1 (k1.map strD)) (.sl o2 (k2.map encV)))) := fun m m2 => h2.at2b hT (hT.lt t7) t7
        (refine ddraw_any (fun S' => S'.ob (S.next + 1) = some (.box 28 (encV p).cells) ∧ S'.ob (S.next + 1 + 1 + 1) = some (.box 28 (outR v (.sl o1 (k1.map strD)) (.sl o2 (k2.map encV))))) 11 (by (first | (simp (disch := first | decide | omega | (simp only [nx]; first | done | omega)) only [go_sem, Nat.reduceMul, t5, t7]; first | done | rfl) | rfl)) (by kernel_rfl) ?_; (refine s_take 0 rfl (by kernel_rfl) (by kernel_rfl) (v := ?v1) (fun S' hz => dquietR_of ?h1) <| s_take 1 rfl (by kernel_rfl) (by kernel_rfl) (v := ?v2) (fun S' hz => dquietR_of ?h2) <| s_take 2 rfl (by kernel_rfl) (by kernel_rfl) (v := ?v3) (fun S' hz => dquietR_of ?h3) <| s_take 3 rfl (by kernel_rfl) (by kernel_rfl) (v := ?v4) (fun S' hz => dquietR_of ?h4) <| s_take 5 rfl (by kernel_rfl) (by kernel_rfl) (v := ?v5) (fun S' hz => dquietR_of ?h5) <| s_take 6 rfl (by kernel_rfl) (by kernel_rfl) (v := ?v6) (fun S' hz => dquietR_of ?h6) <| s_take 7 rfl (by kernel_rfl) (by kernel_rfl) (v := ?v7) (fun S' hz => dquietR_of ?h7) <| s_take 8 rfl (by kernel_rfl) (by kernel_rfl) (v := ?v8) (fun S' hz => dquietR_of ?h8) <| ?k8; (case h1 | h2 | h3 | h4 | h5 | h6 | h7 | h8 => ((simp (disch := first | decide | omega | (simp only [nx]; first | done | omega)) only [go_sem, Nat.reduceMul, q1b, q5b, q7b, outR, hz]; (repeat (with_reducible refine And.intro (by first | omega | assumption | rfl) ?_))); first | done | exact rfl | omega))); (refine s_split [4] (by kernel_rfl) (by simp) ?_; intro j_ hj_; obtain rfl : j_ = 4 := (by simpa using hj_); clear hj_; refine s_op rfl ?_; (simp (disch := first | decide | omega | (simp only [nx]; first | done | omega)) only [go_sem, Nat.reduceMul]; (repeat (with_reducible refine And.intro (by first | omega | assumption | rfl) ?_)))); (refine dapp_at (lo := lo) heU (by kernel_rfl) h2.r1 (wU _) (xU x) (by simp (disch := first | decide | omega | (simp only [nx]; first | done | omega)) only [go_sem, Nat.reduceMul]; omega) (by simp (disch := first | decide | omega | (simp only [nx]; first | done | omega)) only [go_sem, Nat.reduceMul]; omega) ?_); (refine ⟨⟨h2.at1 hT (by omega) t5, h2.at1b hT (by omega) t7⟩, ?_⟩); (refine s_take 10 rfl (by kernel_rfl) (by kernel_rfl) (v := ?v9) (fun S' hz => dquietR_of ?h9) ?k9; (case h9 => ((simp (disch := first | decide | omega | (simp only [nx]; first | done | omega)) only [go_sem, Nat.reduceMul, q1b, q5b, q7b, outR, hz]; (repeat (with_reducible refine And.intro (by first | omega | assumption | rfl) ?_))); first | done | exact rfl | omega))); (refine s_split [9] (by kernel_rfl) (by simp) ?_; intro j_ hj_; obtain rfl : j_ = 9 := (by simpa using hj_); clear hj_; refine s_op rfl ?_; (simp (disch := first | decide | omega | (simp only [nx]; first | done | omega)) only [go_sem, Nat.reduceMul]; (repeat (with_reducible refine And.intro (by first | omega | assumption | rfl) ?_)))); (refine dapp_at (lo := lo) heV (by kernel_rfl) (h2.row2 hT (by decide)) (wV _) (xV p) (by simp (disch := first | decide | omega | (simp only [nx]; first | done | omega)) only [go_sem, Nat.reduceMul]; omega) (by simp (disch := first | decide | omega | (simp only [nx]; first | done | omega)) only [go_sem, Nat.reduceMul]; omega) ?_); (refine ⟨⟨h2.at2 hT (by omega) t5, h2.at2b hT (by omega) t7⟩, ?_⟩))
        (refine s_done (by kernel_rfl) ?_; (simp (disch := first | decide | omega | (simp only [nx]; first | done | omega)) only [go_sem, Nat.reduceMul, q7b, y7', outR, q10]; (repeat (with_reducible refine And.intro (by first | omega | assumption | rfl) ?_))))
        have key := two_step h2 hT hln (by decide) (L1' := k1.map strD ++ [strD x]) (L2' := k2.map encV ++ [encV p]) (B := .box 28 (outR v (.sl (.row T.next) (k1.map strD ++ [strD x])) (.sl o2 (k2.map encV)))) (m1 := k1.length + 1) (m2 := k2.length + 1) (by simp) (by simp)
        simp only [outR, strD] at key
        revert key
        generalize St.set (St.set _ _ _) _ _ = T2
        rintro ⟨h3, hF3, hT2, hn3⟩
        have c1 : k1.map strD ++ [.v (sv x)] = (k1 ++ [x]).map strD := by simp [strD]
        have c2 : k2.map encV ++ [encV p] = (k2 ++ [p]).map encV := by simp
        rw [c1, c2] at h3
        have hF4 := hF.trans hF3
        have hln4 : lo ≤ T2.next := by omega
        have il : (k1 ++ [x]).length ≤ 2 * i + 1 ∧ (k2 ++ [p]).length ≤ 2 * i + 1 := by simp only [List.length_append, List.length_cons, List.length_nil]; omega
        generalize k1 ++ [x] = l1 at *
        generalize k2 ++ [p] = l2 at *
        · skip
          
          have t3' := hF4.ob _ _ ⟨by omega, by omega⟩ u3
          have t5' := hF4.ob _ _ ⟨by omega, by omega⟩ u5
          have hqd : ∃ q, q = wq v p (ixI v.names x) i := ⟨_, rfl⟩
          obtain ⟨q, hq⟩ := hqd
          rw [← hq] at a3
          by_cases hik : (i : Int) = ixI v.names x
          · have b8 : ((i : Int) == ixI v.names x) = true := by simp [hik]
            have hqp : q = p := by rw [hq, wq, if_pos hik]
            subst hqp
            (simp (disch := first | decide | omega | (simp only [nx]; first | done | omega)) only [go_sem, Nat.reduceMul, q7b, q3b, q5b, q9b, q10, t3', t5', hlt, hlp, b8]; (repeat (with_reducible refine And.intro (by first | omega | assumption | rfl) ?_)))
            generalize hXe : St.set (St.set (St.add _ _) _ _) _ _ = X
            
            have xo : ∀ j, j < T2.next → X.ob j = T2.ob j := fun j hj => by
              have hj1 : j ≠ T2.next := by omega
              rw [← hXe]; (first | (simp (disch := first | decide | omega | (simp only [nx]; first | done | omega)) only [go_sem, Nat.reduceMul, hj1]; first | done | rfl) | rfl)
            have x11 : X.ob T2.next = some (.box 28 (encV q).cells) := by rw [← hXe]; (first | (simp (disch := first | decide | omega | (simp only [nx]; first | done | omega)) only [go_sem, Nat.reduceMul]; first | done | rfl) | rfl)
            have xn : X.next = T2.next + 1 := by rw [← hXe]; simp only [add_next, set_next]
            have hX : X.WF := by rw [← hXe]; exact (by (repeat' first | assumption | refine St.WF.leave ?_ _ | refine St.WF.add ?_ _ | refine St.WF.set ?_ ?_ _ | refine St.WF.grow ?_ _ _ _ | refine St.WF.keep ?_ ?_ | (first | omega | (simp only [RowOk.lo, nx]; first | done | omega))))
            clear hXe
            have h5 := h3.old hT2 xo
            have x3 := (xo _ (by omega)).trans t3'
            have x7 := h5.box
            have lnX : lo ≤ X.next := by omega
            have y3 : ∀ m m2, ((X.grow (Own.row T.next) 9 m).grow (Own.row (T.next + 1)) 28 m2).ob S.next = some (.box 28 (encV v).cells) := fun m m2 => h5.at2b hX (by omega) x3
            have y7 : ∀ m m2, ((X.grow (Own.row T.next) 9 m).grow (Own.row (T.next + 1)) 28 m2).ob (S.next + 1 + 1 + 1) = some (.box 28 (outR v (.sl (Own.row T.next) (l1.map strD)) (.sl (Own.row (T.next + 1)) (l2.map encV)))) := fun m m2 => h5.at2b hX (by omega) x7
            (refine ddraw_any (fun S' => S'.ob S.next = some (.box 28 (encV v).cells) ∧ S'.ob (S.next + 1 + 1 + 1) = some (.box 28 (outR v (.sl (Own.row T.next) (l1.map strD)) (.sl (Own.row (T.next + 1)) (l2.map encV)))) ∧ S'.ob T2.next = some (.box 28 (encV q).cells)) 15 (by (first | (simp (disch := first | decide | omega | (simp only [nx]; first | done | omega)) only [go_sem, Nat.reduceMul, x3, x7, x11]; first | done | rfl) | rfl)) (by kernel_rfl) ?_; (refine s_take 0 rfl (by kernel_rfl) (by kernel_rfl) (v := ?v87) (fun S' hz => dquietR_of ?h87) <| s_take 1 rfl (by kernel_rfl) (by kernel_rfl) (v := ?v88) (fun S' hz => dquietR_of ?h88) <| s_take 2 rfl (by kernel_rfl) (by kernel_rfl) (v := ?v89) (fun S' hz => dquietR_of ?h89) <| s_take 3 rfl (by kernel_rfl) (by kernel_rfl) (v := ?v90) (fun S' hz => dquietR_of ?h90) <| s_take 4 rfl (by kernel_rfl) (by kernel_rfl) (v := ?v91) (fun S' hz => dquietR_of ?h91) <| s_take 5 rfl (by kernel_rfl) (by kernel_rfl) (v := ?v92) (fun S' hz => dquietR_of ?h92) <| s_take 6 rfl (by kernel_rfl) (by kernel_rfl) (v := ?v93) (fun S' hz => dquietR_of ?h93) <| s_take 7 rfl (by kernel_rfl) (by kernel_rfl) (v := ?v94) (fun S' hz => dquietR_of ?h94) <| s_take 9 rfl (by kernel_rfl) (by kernel_rfl) (v := ?v95) (fun S' hz => dquietR_of ?h95) <| s_take 10 rfl (by kernel_rfl) (by kernel_rfl) (v := ?v96) (fun S' hz => dquietR_of ?h96) <| s_take 11 rfl (by kernel_rfl) (by kernel_rfl) (v := ?v97) (fun S' hz => dquietR_of ?h97) <| s_take 12 rfl (by kernel_rfl) (by kernel_rfl) (v := ?v98) (fun S' hz => dquietR_of ?h98) <| ?k98; (case h87 | h88 | h89 | h90 | h91 | h92 | h93 | h94 | h95 | h96 | h97 | h98 => ((simp (disch := first | decide | omega | (simp only [nx]; first | done | omega)) only [go_sem, Nat.reduceMul, q3b, q7b, q10, outR, hlt, hz]; (repeat (with_reducible refine And.intro (by first | omega | assumption | rfl) ?_))); first | done | exact rfl | omega))); (refine s_split [8] (by kernel_rfl) (by simp) ?_; intro j_ hj_; obtain rfl : j_ = 8 := (by simpa using hj_); clear hj_; refine s_op rfl ?_; (simp (disch := first | decide | omega | (simp only [nx]; first | done | omega)) only [go_sem, Nat.reduceMul]; (repeat (with_reducible refine And.intro (by first | omega | assumption | rfl) ?_)))); (refine dapp_at (lo := lo) heU (by kernel_rfl) h5.r1 (wU _) (xU _) (by simp (disch := first | decide | omega | (simp only [nx]; first | done | omega)) only [go_sem, Nat.reduceMul]; omega) (by simp (disch := first | decide | omega | (simp only [nx]; first | done | omega)) only [go_sem, Nat.reduceMul]; omega) ?_); (refine ⟨⟨h5.at1b hX (by omega) x3, h5.at1b hX (by omega) x7, h5.at1b hX (by omega) x11⟩, ?_⟩); (refine s_take 14 rfl (by kernel_rfl) (by kernel_rfl) (v := ?v99) (fun S' hz => dquietR_of ?h99) ?k99; (case h99 => ((simp (disch := first | decide | omega | (simp only [nx]; first | done | omega)) only [go_sem, Nat.reduceMul, q3b, q7b, q10, outR, hlt, hz]; (repeat (with_reducible refine And.intro (by first | omega | assumption | rfl) ?_))); first | done | exact rfl | omega))); (refine s_split [13] (by kernel_rfl) (by simp) ?_; intro j_ hj_; obtain rfl : j_ = 13 := (by simpa using hj_); clear hj_; refine s_op rfl ?_; (simp (disch := first | decide | omega | (simp only [nx]; first | done | omega)) only [go_sem, Nat.reduceMul]; (repeat (with_reducible refine And.intro (by first | omega | assumption | rfl) ?_)))); (refine dapp_at (lo := lo) heV (by kernel_rfl) (h5.row2 hX (by decide)) (wV _) (xV _) (by simp (disch := first | decide | omega | (simp only [nx]; first | done | omega)) only [go_sem, Nat.reduceMul]; omega) (by simp (disch := first | decide | omega | (simp only [nx]; first | done | omega)) only [go_sem, Nat.reduceMul]; omega) ?_); (refine ⟨⟨h5.at2b hX (by omega) x3, h5.at2b hX (by omega) x7, h5.at2b hX (by omega) x11⟩, ?_⟩))
            (refine s_done (by kernel_rfl) ?_; (simp (disch := first | decide | omega | (simp only [nx]; first | done | omega)) only [go_sem, Nat.reduceMul, q7b, y7, outR, q3b, q10, y3, w5]; (repeat (with_reducible refine And.intro (by first | omega | assumption | rfl) ?_))))
            have key := two_step h5 hX lnX (by decide) (L1' := l1.map strD ++ [strD v.names[i]]) (L2' := l2.map encV ++ [encV q]) (B := .box 28 (outR v (.sl (.row X.next) (l1.map strD ++ [strD v.names[i]])) (.sl (Own.row (T.next + 1)) (l2.map encV)))) (m1 := l1.length + 1) (m2 := l2.length + 1) (by simp) (by simp)
            simp only [outR, strD] at key
            revert key
            generalize St.set (St.set _ _ _) _ _ = T5
            rintro ⟨h6, hF5, hT5, hn5⟩
            refine ⟨by omega, T5.ob, fun _ _ h => h, by omega, by (first | (simp (disch := first | decide | omega | (simp only [nx]; first | done | omega)) only [go_sem, Nat.reduceMul, q7b, a1]; first | done | rfl) | rfl), by (first | (simp (disch := first | decide | omega | (simp only [nx]; first | done | omega)) only [go_sem, Nat.reduceMul]; first | done | rfl) | rfl), ⟨(.row X.next), (.row (X.next + 1)), ?_⟩, ?_, by show lo ≤ T5.next; omega⟩
            · rw [a2, a3, List.map_append, List.map_append]
              exact h6
            · have hFX : Fz (fun j => j ≠ S.next + 1 + 1 + 1 ∧ j < lo) T2 X := ⟨by omega, fun j o' hj e => by rw [xo j (by omega)]; exact e⟩
              exact ((hF4.trans hFX).trans hF5).mono fun _ h => ⟨h.1, h.2⟩

          · have b8 : ((i : Int) == ixI v.names x) = false := by simp [hik]
            have hqp : q = v.parts[i] := by rw [hq, wq, if_neg hik, getD_at hlp]
            (simp (disch := first | decide | omega | (simp only [nx]; first | done | omega)) only [go_sem, Nat.reduceMul, q7b, q3b, q5b, q9b, q10, t3', t5', hlt, hlp, b8]; (repeat (with_reducible refine And.intro (by first | omega | assumption | rfl) ?_)))
            rw [← hqp]
            generalize hXe : St.set (St.add _ _) _ _ = X
            
            have xo : ∀ j, j < T2.next → X.ob j = T2.ob j := fun j hj => by
              have hj1 : j ≠ T2.next := by omega
              rw [← hXe]; (first | (simp (disch := first | decide | omega | (simp only [nx]; first | done | omega)) only [go_sem, Nat.reduceMul, hj1]; first | done | rfl) | rfl)
            have x11 : X.ob T2.next = some (.box 28 (encV q).cells) := by rw [← hXe]; (first | (simp (disch := first | decide | omega | (simp only [nx]; first | done | omega)) only [go_sem, Nat.reduceMul]; first | done | rfl) | rfl)
            have xn : X.next = T2.next + 1 := by rw [← hXe]; simp only [add_next, set_next]
            have hX : X.WF := by rw [← hXe]; exact (by (repeat' first | assumption | refine St.WF.leave ?_ _ | refine St.WF.add ?_ _ | refine St.WF.set ?_ ?_ _ | refine St.WF.grow ?_ _ _ _ | refine St.WF.keep ?_ ?_ | (first | omega | (simp only [RowOk.lo, nx]; first | done | omega))))
            clear hXe
            have h5 := h3.old hT2 xo
            have x3 := (xo _ (by omega)).trans t3'
            have x7 := h5.box
            have lnX : lo ≤ X.next := by omega
            have y3 : ∀ m m2, ((X.grow (Own.row T.next) 9 m).grow (Own.row (T.next + 1)) 28 m2).ob S.next = some (.box 28 (encV v).cells) := fun m m2 => h5.at2b hX (by omega) x3
            have y7 : ∀ m m2, ((X.grow (Own.row T.next) 9 m).grow (Own.row (T.next + 1)) 28 m2).ob (S.next + 1 + 1 + 1) = some (.box 28 (outR v (.sl (Own.row T.next) (l1.map strD)) (.sl (Own.row (T.next + 1)) (l2.map encV)))) := fun m m2 => h5.at2b hX (by omega) x7
            (refine ddraw_any (fun S' => S'.ob S.next = some (.box 28 (encV v).cells) ∧ S'.ob (S.next + 1 + 1 + 1) = some (.box 28 (outR v (.sl (Own.row T.next) (l1.map strD)) (.sl (Own.row (T.next + 1)) (l2.map encV)))) ∧ S'.ob T2.next = some (.box 28 (encV q).cells)) 15 (by (first | (simp (disch := first | decide | omega | (simp only [nx]; first | done | omega)) only [go_sem, Nat.reduceMul, x3, x7, x11]; first | done | rfl) | rfl)) (by kernel_rfl) ?_; (refine s_take 0 rfl (by kernel_rfl) (by kernel_rfl) (v := ?v100) (fun S' hz => dquietR_of ?h100) <| s_take 1 rfl (by kernel_rfl) (by kernel_rfl) (v := ?v101) (fun S' hz => dquietR_of ?h101) <| s_take 2 rfl (by kernel_rfl) (by kernel_rfl) (v := ?v102) (fun S' hz => dquietR_of ?h102) <| s_take 3 rfl (by kernel_rfl) (by kernel_rfl) (v := ?v103) (fun S' hz => dquietR_of ?h103) <| s_take 4 rfl (by kernel_rfl) (by kernel_rfl) (v := ?v104) (fun S' hz => dquietR_of ?h104) <| s_take 5 rfl (by kernel_rfl) (by kernel_rfl) (v := ?v105) (fun S' hz => dquietR_of ?h105) <| s_take 6 rfl (by kernel_rfl) (by kernel_rfl) (v := ?v106) (fun S' hz => dquietR_of ?h106) <| s_take 7 rfl (by kernel_rfl) (by kernel_rfl) (v := ?v107) (fun S' hz => dquietR_of ?h107) <| s_take 9 rfl (by kernel_rfl) (by kernel_rfl) (v := ?v108) (fun S' hz => dquietR_of ?h108) <| s_take 10 rfl (by kernel_rfl) (by kernel_rfl) (v := ?v109) (fun S' hz => dquietR_of ?h109) <| s_take 11 rfl (by kernel_rfl) (by kernel_rfl) (v := ?v110) (fun S' hz => dquietR_of ?h110) <| s_take 12 rfl (by kernel_rfl) (by kernel_rfl) (v := ?v111) (fun S' hz => dquietR_of ?h111) <| ?k111; (case h100 | h101 | h102 | h103 | h104 | h105 | h106 | h107 | h108 | h109 | h110 | h111 => ((simp (disch := first | decide | omega | (simp only [nx]; first | done | omega)) only [go_sem, Nat.reduceMul, q3b, q7b, q10, outR, hlt, hz]; (repeat (with_reducible refine And.intro (by first | omega | assumption | rfl) ?_))); first | done | exact rfl | omega))); (refine s_split [8] (by kernel_rfl) (by simp) ?_; intro j_ hj_; obtain rfl : j_ = 8 := (by simpa using hj_); clear hj_; refine s_op rfl ?_; (simp (disch := first | decide | omega | (simp only [nx]; first | done | omega)) only [go_sem, Nat.reduceMul]; (repeat (with_reducible refine And.intro (by first | omega | assumption | rfl) ?_)))); (refine dapp_at (lo := lo) heU (by kernel_rfl) h5.r1 (wU _) (xU _) (by simp (disch := first | decide | omega | (simp only [nx]; first | done | omega)) only [go_sem, Nat.reduceMul]; omega) (by simp (disch := first | decide | omega | (simp only [nx]; first | done | omega)) only [go_sem, Nat.reduceMul]; omega) ?_); (refine ⟨⟨h5.at1b hX (by omega) x3, h5.at1b hX (by omega) x7, h5.at1b hX (by omega) x11⟩, ?_⟩); (refine s_take 14 rfl (by kernel_rfl) (by kernel_rfl) (v := ?v112) (fun S' hz => dquietR_of ?h112) ?k112; (case h112 => ((simp (disch := first | decide | omega | (simp only [nx]; first | done | omega)) only [go_sem, Nat.reduceMul, q3b, q7b, q10, outR, hlt, hz]; (repeat (with_reducible refine And.intro (by first | omega | assumption | rfl) ?_))); first | done | exact rfl | omega))); (refine s_split [13] (by kernel_rfl) (by simp) ?_; intro j_ hj_; obtain rfl : j_ = 13 := (by simpa using hj_); clear hj_; refine s_op rfl ?_; (simp (disch := first | decide | omega | (simp only [nx]; first | done | omega)) only [go_sem, Nat.reduceMul]; (repeat (with_reducible refine And.intro (by first | omega | assumption | rfl) ?_)))); (refine dapp_at (lo := lo) heV (by kernel_rfl) (h5.row2 hX (by decide)) (wV _) (xV _) (by simp (disch := first | decide | omega | (simp only [nx]; first | done | omega)) only [go_sem, Nat.reduceMul]; omega) (by simp (disch := first | decide | omega | (simp only [nx]; first | done | omega)) only [go_sem, Nat.reduceMul]; omega) ?_); (refine ⟨⟨h5.at2b hX (by omega) x3, h5.at2b hX (by omega) x7, h5.at2b hX (by omega) x11⟩, ?_⟩))
            (refine s_done (by kernel_rfl) ?_; (simp (disch := first | decide | omega | (simp only [nx]; first | done | omega)) only [go_sem, Nat.reduceMul, q7b, y7, outR, q3b, q10, y3, w5]; (repeat (with_reducible refine And.intro (by first | omega | assumption | rfl) ?_))))
            have key := two_step h5 hX lnX (by decide) (L1' := l1.map strD ++ [strD v.names[i]]) (L2' := l2.map encV ++ [encV q]) (B := .box 28 (outR v (.sl (.row X.next) (l1.map strD ++ [strD v.names[i]])) (.sl (Own.row (T.next + 1)) (l2.map encV)))) (m1 := l1.length + 1) (m2 := l2.length + 1) (by simp) (by simp)
            simp only [outR, strD] at key
            revert key
            generalize St.set (St.set _ _ _) _ _ = T5
            rintro ⟨h6, hF5, hT5, hn5⟩
            refine ⟨by omega, T5.ob, fun _ _ h => h, by omega, by (first | (simp (disch := first | decide | omega | (simp only [nx]; first | done | omega)) only [go_sem, Nat.reduceMul, q7b, a1]; first | done | rfl) | rfl), by (first | (simp (disch := first | decide | omega | (simp only [nx]; first | done | omega)) only [go_sem, Nat.reduceMul]; first | done | rfl) | rfl), ⟨(.row X.next), (.row (X.next + 1)), ?_⟩, ?_, by show lo ≤ T5.next; omega⟩
            · rw [a2, a3, List.map_append, List.map_append]
              exact h6
            · have hFX : Fz (fun j => j ≠ S.next + 1 + 1 + 1 ∧ j < lo) T2 X := ⟨by omega, fun j o' hj e => by rw [xo j (by omega)]; exact e⟩
              exact ((hF4.trans hFX).trans hF5).mono fun _ h => ⟨h.1, h.2⟩


  · have b1 : decide ((i : Int) < (v.names.length : Int)) = false := by simp; omega
    have hi : i = v.names.length := by omega
    have hrw : refWithV v x p = v.ofFields (if (wst v x p v.names.length).1 = true then (wst v x p v.names.length).2.1 else (wst v x p v.names.length).2.1 ++ [x]) ((if (wst v x p v.names.length).1 = true then (wst v x p v.names.length).2.2 else (wst v x p v.names.length).2.2 ++ [p]) ++ v.parts.drop v.names.length) := by rw [refWithV, if_neg (by rw [hwh]; simp)]
    subst hi
    cases hd : (wst v x p v.names.length).1 with
    | true =>
      rw [hd, if_pos rfl, if_pos rfl] at hrw
      rw [hd] at q8
      (simp (disch := first | decide | omega | (simp only [nx]; first | done | omega)) only [go_sem, Nat.reduceMul, q3b, q8, q10, b1, t3]; (repeat (with_reducible refine And.intro (by first | omega | assumption | rfl) ?_)))
      generalize (wst v x p v.names.length).2.1 = l1 at *
      generalize (wst v x p v.names.length).2.2 = l2 at *
      
      have t3' := hF.ob _ _ ⟨by omega, by omega⟩ u3
      have t6' := hF.ob _ _ ⟨by omega, by omega⟩ u6
      have x7 := h2.box
      have lT := hln
      have l3 : (∀ d, d ∈ List.map encV v.parts → d.cells.length = 6) = True := eq_true fun d hd => by obtain ⟨q, _, rfl⟩ := List.mem_map.1 hd; exact cells_encV q
      have l4 : ((v.names.length : Int) ≤ (v.parts.length : Int)) = True := eq_true (by omega)
      have gk : ∀ {j m t cs}, j < T.next → T.ob j = some (.box t cs) → (T.grow o2 28 m).ob j = some (.box t cs) := fun hj e => by rw [grow_skip (by omega) (h2.r2.ne (.inr ⟨_, _, e⟩)), e]
      have y7 : ∀ m, (T.grow o2 28 m).ob (S.next + 1 + 1 + 1) = some (.box 28 (outR v (.sl o1 (l1.map strD)) (.sl o2 (l2.map encV)))) := fun m => gk (by omega) x7
      have y6 : ∀ m, (T.grow o2 28 m).ob (S.next + 1 + 1) = some (.box 28 [.v (.int .i64 0), .v (.int .i64 0), .v (.string ⟨#[]⟩), .sl .full [], .sl .full [], .sl .full []]) := fun m => gk (by omega) t6'
      refine ddraw_any (fun S' => S'.ob S.next = some (.box 28 (encV v).cells) ∧ S'.ob (S.next + 1 + 1 + 1) = some (.box 28 (outR v (.sl o1 (l1.map strD)) (.sl o2 (l2.map encV))))) 10 (by (first | (simp (disch := first | decide | omega | (simp only [nx]; first | done | omega)) only [go_sem, Nat.reduceMul, t3', x7]; first | done | rfl) | rfl)) (by kernel_rfl) ?_
      (refine s_take 0 rfl (by kernel_rfl) (by kernel_rfl) (v := ?v10) (fun S' hz => dquietR_of ?h10) <| s_take 1 rfl (by kernel_rfl) (by kernel_rfl) (v := ?v11) (fun S' hz => dquietR_of ?h11) <| s_take 2 rfl (by kernel_rfl) (by kernel_rfl) (v := ?v12) (fun S' hz => dquietR_of ?h12) <| s_take 3 rfl (by kernel_rfl) (by kernel_rfl) (v := ?v13) (fun S' hz => dquietR_of ?h13) <| s_take 4 rfl (by kernel_rfl) (by kernel_rfl) (v := ?v14) (fun S' hz => dquietR_of ?h14) <| s_take 5 rfl (by kernel_rfl) (by kernel_rfl) (v := ?v15) (fun S' hz => dquietR_of ?h15) <| s_take 6 rfl (by kernel_rfl) (by kernel_rfl) (v := ?v16) (fun S' hz => dquietR_of ?h16) <| ?k16; (case h10 | h11 | h12 | h13 | h14 | h15 | h16 => ((simp (disch := first | decide | omega | (simp only [nx]; first | done | omega)) only [go_sem, Nat.reduceMul, q3b, q7b, outR, hz]; (repeat (with_reducible refine And.intro (by first | omega | assumption | rfl) ?_))); first | done | exact rfl | omega)))
      (refine s_take 7 rfl (by kernel_rfl) (by kernel_rfl) (v := .sl .no ((v.parts.map encV).drop v.names.length)) (fun S' hz => dquietR_of (by (simp (disch := first | decide | omega | (simp only [nx]; first | done | omega)) only [go_sem, Nat.reduceMul, l3, l4, or_true]; (repeat (with_reducible refine And.intro (by first | omega | assumption | rfl) ?_))); first | done | rfl | omega)) ?_)
      (refine s_split [8] (by kernel_rfl) (by simp) ?_; intro j_ hj_; obtain rfl : j_ = 8 := (by simpa using hj_); clear hj_; refine s_op rfl ?_; (simp (disch := first | decide | omega | (simp only [nx]; first | done | omega)) only [go_sem, Nat.reduceMul]; (repeat (with_reducible refine And.intro (by first | omega | assumption | rfl) ?_))))
      refine dapp_more heV (by kernel_rfl) (h2.r2.elim (fun e => .inl e.1) (fun ⟨g, e1, _, e2⟩ => .inr ⟨g, e1, e2⟩)) (wV l2) (fun d hd => wV v.parts d (List.mem_of_mem_drop hd)) (by simp only [List.length_drop, List.length_map]; omega) (by simp only [hbV, List.length_drop, List.length_map]; omega) ?_
      refine ⟨⟨gk (by omega) t3', y7 _⟩, ?_⟩
      (refine s_take 9 rfl (by kernel_rfl) (by kernel_rfl) (v := ?v17) (fun S' hz => dquietR_of ?h17) ?k17; (case h17 => ((simp (disch := first | decide | omega | (simp only [nx]; first | done | omega)) only [go_sem, Nat.reduceMul, q7b, hz]; (repeat (with_reducible refine And.intro (by first | omega | assumption | rfl) ?_))); first | done | exact rfl | omega)))
      (refine s_done (by kernel_rfl) ?_; (simp (disch := first | decide | omega | (simp only [nx]; first | done | omega)) only [go_sem, Nat.reduceMul, q6b, q7b, y6, y7, outR]; (repeat (with_reducible refine And.intro (by first | omega | assumption | rfl) ?_))))
      have hcc : List.map encV l2 ++ List.drop v.names.length (List.map encV v.parts) = (l2 ++ v.parts.drop v.names.length).map encV := by simp
      rw [hcc, hrw]
      refine ⟨?_, ?_⟩
      · simp only [D.frz, frzL, frz_strs, frz_u64s, frz_mapV, sv]
        rw [encV_eq (v.ofFields _ _)]; rfl
      · have hTx := hF.next
        refine ⟨by simp only [nx]; omega, fun j ob e => ?_⟩
        have hj := hS.lt e
        simp only [St.set]
        rw [if_neg (by omega), if_neg (by omega), grow_skip (by omega) (h2.r2.ne (.inl (by omega)))]
        exact hF.ob _ _ ⟨by omega, by omega⟩ (hF0.ob _ _ e)

    | false =>
      rw [hd, if_neg (by simp), if_neg (by simp)] at hrw
      rw [hd] at q8
      (simp (disch := first | decide | omega | (simp only [nx]; first | done | omega)) only [go_sem, Nat.reduceMul, q3b, q8, q10, b1, t3]; (repeat (with_reducible refine And.intro (by first | omega | assumption | rfl) ?_)))
      generalize (wst v x p v.names.length).2.1 = k1 at *
      generalize (wst v x p v.names.length).2.2 = k2 at *
      have y5 : ∀ m m2, ((T.grow o1 9 m).grow o2 28 m2).ob (S.next + 1) = some (.box 28 (encV p).cells) := fun m m2 => h2.at2 hT (by omega) t5
      have y7' : ∀ m m2, ((T.grow o1 9 m).grow o2 28 m2).ob (S.next + 1 + 1 + 1) = some (.box 28 (outR v (.sl o1 (k1.map strD)) (.sl o2 (k2.map encV)))) := fun m m2 => h2.at2b hT (hT.lt t7) t7
      (refine ddraw_any (fun S' => S'.ob (S.next + 1) = some (.box 28 (encV p).cells) ∧ S'.ob (S.next + 1 + 1 + 1) = some (.box 28 (outR v (.sl o1 (k1.map strD)) (.sl o2 (k2.map encV))))) 11 (by (first | (simp (disch := first | decide | omega | (simp only [nx]; first | done | omega)) only [go_sem, Nat.reduceMul, t5, t7]; first | done | rfl) | rfl)) (by kernel_rfl) ?_; (refine s_take 0 rfl (by kernel_rfl) (by kernel_rfl) (v := ?v18) (fun S' hz => dquietR_of ?h18) <| s_take 1 rfl (by kernel_rfl) (by kernel_rfl) (v := ?v19) (fun S' hz => dquietR_of ?h19) <| s_take 2 rfl (by kernel_rfl) (by kernel_rfl) (v := ?v20) (fun S' hz => dquietR_of ?h20) <| s_take 3 rfl (by kernel_rfl) (by kernel_rfl) (v := ?v21) (fun S' hz => dquietR_of ?h21) <| s_take 5 rfl (by kernel_rfl) (by kernel_rfl) (v := ?v22) (fun S' hz => dquietR_of ?h22) <| s_take 6 rfl (by kernel_rfl) (by kernel_rfl) (v := ?v23) (fun S' hz => dquietR_of ?h23) <| s_take 7 rfl (by kernel_rfl) (by kernel_rfl) (v := ?v24) (fun S' hz => dquietR_of ?h24) <| s_take 8 rfl (by kernel_rfl) (by kernel_rfl) (v := ?v25) (fun S' hz => dquietR_of ?h25) <| ?k25; (case h18 | h19 | h20 | h21 | h22 | h23 | h24 | h25 => ((simp (disch := first | decide | omega | (simp only [nx]; first | done | omega)) only [go_sem, Nat.reduceMul, q1b, q5b, q7b, outR, hz]; (repeat (with_reducible refine And.intro (by first | omega | assumption | rfl) ?_))); first | done | exact rfl | omega))); (refine s_split [4] (by kernel_rfl) (by simp) ?_; intro j_ hj_; obtain rfl : j_ = 4 := (by simpa using hj_); clear hj_; refine s_op rfl ?_; (simp (disch := first | decide | omega | (simp only [nx]; first | done | omega)) only [go_sem, Nat.reduceMul]; (repeat (with_reducible refine And.intro (by first | omega | assumption | rfl) ?_)))); (refine dapp_at (lo := lo) heU (by kernel_rfl) h2.r1 (wU _) (xU x) (by simp (disch := first | decide | omega | (simp only [nx]; first | done | omega)) only [go_sem, Nat.reduceMul]; omega) (by simp (disch := first | decide | omega | (simp only [nx]; first | done | omega)) only [go_sem, Nat.reduceMul]; omega) ?_); (refine ⟨⟨h2.at1 hT (by omega) t5, h2.at1b hT (by omega) t7⟩, ?_⟩); (refine s_take 10 rfl (by kernel_rfl) (by kernel_rfl) (v := ?v26) (fun S' hz => dquietR_of ?h26) ?k26; (case h26 => ((simp (disch := first | decide | omega | (simp only [nx]; first | done | omega)) only [go_sem, Nat.reduceMul, q1b, q5b, q7b, outR, hz]; (repeat (with_reducible refine And.intro (by first | omega | assumption | rfl) ?_))); first | done | exact rfl | omega))); (refine s_split [9] (by kernel_rfl) (by simp) ?_; intro j_ hj_; obtain rfl : j_ = 9 := (by simpa using hj_); clear hj_; refine s_op rfl ?_; (simp (disch := first | decide | omega | (simp only [nx]; first | done | omega)) only [go_sem, Nat.reduceMul]; (repeat (with_reducible refine And.intro (by first | omega | assumption | rfl) ?_)))); (refine dapp_at (lo := lo) heV (by kernel_rfl) (h2.row2 hT (by decide)) (wV _) (xV p) (by simp (disch := first | decide | omega | (simp only [nx]; first | done | omega)) only [go_sem, Nat.reduceMul]; omega) (by simp (disch := first | decide | omega | (simp only [nx]; first | done | omega)) only [go_sem, Nat.reduceMul]; omega) ?_); (refine ⟨⟨h2.at2 hT (by omega) t5, h2.at2b hT (by omega) t7⟩, ?_⟩))
      (refine s_done (by kernel_rfl) ?_; (simp (disch := first | decide | omega | (simp only [nx]; first | done | omega)) only [go_sem, Nat.reduceMul, q7b, y7', outR, q10]; (repeat (with_reducible refine And.intro (by first | omega | assumption | rfl) ?_))))
      have key := two_step h2 hT hln (by decide) (L1' := k1.map strD ++ [strD x]) (L2' := k2.map encV ++ [encV p]) (B := .box 28 (outR v (.sl (.row T.next) (k1.map strD ++ [strD x])) (.sl o2 (k2.map encV)))) (m1 := k1.length + 1) (m2 := k2.length + 1) (by simp) (by simp)
      simp only [outR, strD] at key
      revert key
      generalize St.set (St.set _ _ _) _ _ = T2
      rintro ⟨h3, hF3, hT2, hn3⟩
      have c1 : k1.map strD ++ [.v (sv x)] = (k1 ++ [x]).map strD := by simp [strD]
      have c2 : k2.map encV ++ [encV p] = (k2 ++ [p]).map encV := by simp
      rw [c1, c2] at h3
      have hF4 := hF.trans hF3
      have hln4 : lo ≤ T2.next := by omega
      have il : (k1 ++ [x]).length ≤ 2 * v.names.length + 1 ∧ (k2 ++ [p]).length ≤ 2 * v.names.length + 1 := by simp only [List.length_append, List.length_cons, List.length_nil]; omega
      generalize k1 ++ [x] = l1 at *
      generalize k2 ++ [p] = l2 at *
      
      have t3' := hF4.ob _ _ ⟨by omega, by omega⟩ u3
      have t6' := hF4.ob _ _ ⟨by omega, by omega⟩ u6
      have x7 := h3.box
      have lT := hln4
      have l3 : (∀ d, d ∈ List.map encV v.parts → d.cells.length = 6) = True := eq_true fun d hd => by obtain ⟨q, _, rfl⟩ := List.mem_map.1 hd; exact cells_encV q
      have l4 : ((v.names.length : Int) ≤ (v.parts.length : Int)) = True := eq_true (by omega)
      have gk : ∀ {j m t cs}, j < T2.next → T2.ob j = some (.box t cs) → (T2.grow (Own.row (T.next + 1)) 28 m).ob j = some (.box t cs) := fun hj e => by rw [grow_skip (by omega) (h3.r2.ne (.inr ⟨_, _, e⟩)), e]
      have y7 : ∀ m, (T2.grow (Own.row (T.next + 1)) 28 m).ob (S.next + 1 + 1 + 1) = some (.box 28 (outR v (.sl (Own.row T.next) (l1.map strD)) (.sl (Own.row (T.next + 1)) (l2.map encV)))) := fun m => gk (by omega) x7
      have y6 : ∀ m, (T2.grow (Own.row (T.next + 1)) 28 m).ob (S.next + 1 + 1) = some (.box 28 [.v (.int .i64 0), .v (.int .i64 0), .v (.string ⟨#[]⟩), .sl .full [], .sl .full [], .sl .full []]) := fun m => gk (by omega) t6'
      refine ddraw_any (fun S' => S'.ob S.next = some (.box 28 (encV v).cells) ∧ S'.ob (S.next + 1 + 1 + 1) = some (.box 28 (outR v (.sl (Own.row T.next) (l1.map strD)) (.sl (Own.row (T.next + 1)) (l2.map encV))))) 10 (by (first | (simp (disch := first | decide | omega | (simp only [nx]; first | done | omega)) only [go_sem, Nat.reduceMul, t3', x7]; first | done | rfl) | rfl)) (by kernel_rfl) ?_
      (refine s_take 0 rfl (by kernel_rfl) (by kernel_rfl) (v := ?v27) (fun S' hz => dquietR_of ?h27) <| s_take 1 rfl (by kernel_rfl) (by kernel_rfl) (v := ?v28) (fun S' hz => dquietR_of ?h28) <| s_take 2 rfl (by kernel_rfl) (by kernel_rfl) (v := ?v29) (fun S' hz => dquietR_of ?h29) <| s_take 3 rfl (by kernel_rfl) (by kernel_rfl) (v := ?v30) (fun S' hz => dquietR_of ?h30) <| s_take 4 rfl (by kernel_rfl) (by kernel_rfl) (v := ?v31) (fun S' hz => dquietR_of ?h31) <| s_take 5 rfl (by kernel_rfl) (by kernel_rfl) (v := ?v32) (fun S' hz => dquietR_of ?h32) <| s_take 6 rfl (by kernel_rfl) (by kernel_rfl) (v := ?v33) (fun S' hz => dquietR_of ?h33) <| ?k33; (case h27 | h28 | h29 | h30 | h31 | h32 | h33 => ((simp (disch := first | decide | omega | (simp only [nx]; first | done | omega)) only [go_sem, Nat.reduceMul, q3b, q7b, outR, hz]; (repeat (with_reducible refine And.intro (by first | omega | assumption | rfl) ?_))); first | done | exact rfl | omega)))
      (refine s_take 7 rfl (by kernel_rfl) (by kernel_rfl) (v := .sl .no ((v.parts.map encV).drop v.names.length)) (fun S' hz => dquietR_of (by (simp (disch := first | decide | omega | (simp only [nx]; first | done | omega)) only [go_sem, Nat.reduceMul, l3, l4, or_true]; (repeat (with_reducible refine And.intro (by first | omega | assumption | rfl) ?_))); first | done | rfl | omega)) ?_)
      (refine s_split [8] (by kernel_rfl) (by simp) ?_; intro j_ hj_; obtain rfl : j_ = 8 := (by simpa using hj_); clear hj_; refine s_op rfl ?_; (simp (disch := first | decide | omega | (simp only [nx]; first | done | omega)) only [go_sem, Nat.reduceMul]; (repeat (with_reducible refine And.intro (by first | omega | assumption | rfl) ?_))))
      refine dapp_more heV (by kernel_rfl) (h3.r2.elim (fun e => .inl e.1) (fun ⟨g, e1, _, e2⟩ => .inr ⟨g, e1, e2⟩)) (wV l2) (fun d hd => wV v.parts d (List.mem_of_mem_drop hd)) (by simp only [List.length_drop, List.length_map]; omega) (by simp only [hbV, List.length_drop, List.length_map]; omega) ?_
      refine ⟨⟨gk (by omega) t3', y7 _⟩, ?_⟩
      (refine s_take 9 rfl (by kernel_rfl) (by kernel_rfl) (v := ?v34) (fun S' hz => dquietR_of ?h34) ?k34; (case h34 => ((simp (disch := first | decide | omega | (simp only [nx]; first | done | omega)) only [go_sem, Nat.reduceMul, q7b, hz]; (repeat (with_reducible refine And.intro (by first | omega | assumption | rfl) ?_))); first | done | exact rfl | omega)))
      (refine s_done (by kernel_rfl) ?_; (simp (disch := first | decide | omega | (simp only [nx]; first | done | omega)) only [go_sem, Nat.reduceMul, q6b, q7b, y6, y7, outR]; (repeat (with_reducible refine And.intro (by first | omega | assumption | rfl) ?_))))
      have hcc : List.map encV l2 ++ List.drop v.names.length (List.map encV v.parts) = (l2 ++ v.parts.drop v.names.length).map encV := by simp
      rw [hcc, hrw]
      refine ⟨?_, ?_⟩
      · simp only [D.frz, frzL, frz_strs, frz_u64s, frz_mapV, sv]
        rw [encV_eq (v.ofFields _ _)]; rfl
      · have hTx := hF4.next
        refine ⟨by simp only [nx]; omega, fun j ob e => ?_⟩
        have hj := hS.lt e
        simp only [St.set]
        rw [if_neg (by omega), if_neg (by omega), grow_skip (by omega) (h3.r2.ne (.inl (by omega)))]
        exact hF4.ob _ _ ⟨by omega, by omega⟩ (hF0.ob _ _ e)

end Go.Proofs.Ytjjhjhjphhpeiaa

namespace Go.Proofs.Ytjjhjhjphhpeiaa
open Go.RowKit
set_option linter.unusedSimpArgs false
set_option linter.unusedVariables false
theorem take_succ_get {α : Type} {l : List α} {i : Nat} (h : i < l.length) : l.take (i + 1) = l.take i ++ [l[i]] := List.take_succ_eq_append_getElem h
/-- A name that is there: its part is another one. -/
theorem wst_mem {v : DVal} {x : Str} {p : DVal} (hm : x ∈ v.names) (hl : v.names.length ≤ v.parts.length) : ∀ i, i ≤ v.names.length → wst v x p i = (true, v.names.take i, (v.parts.set (ixN v.names x) p).take i)
  | 0, _ => by
    have : (0 : Int) ≤ ixI v.names x := by rw [ixI, if_pos hm]; omega
    simp [wst, this]
  | i + 1, hi => by
    have ih := wst_mem (p := p) hm hl i (by omega)
    have hlt : i < v.names.length := by omega
    have hlp : i < v.parts.length := by omega
    rw [wst, if_neg (by rw [ih]; simp), ih, getD_at hlt, take_succ_get hlt, take_succ_get (by rw [List.length_set]; exact hlp)]
    have hq : wq v p (ixI v.names x) i = (v.parts.set (ixN v.names x) p)[i]'(by rw [List.length_set]; exact hlp) := by
      rw [wq, ixI, if_pos hm, List.getElem_set]
      by_cases e : ixN v.names x = i
      · rw [if_pos (by omega), if_pos e]
      · rw [if_neg (by omega), if_neg e, getD_at hlp]
    rw [hq]
/-- A new name: ahead of the first that is greater. -/
theorem wst_new {v : DVal} {x : Str} {p : DVal} (hm : x ∉ v.names) (hl : v.names.length ≤ v.parts.length) : ∀ i, i ≤ v.names.length → wst v x p i = (decide (gtN v.names x < i), insAt v.names x (gtN v.names x) i, insAt v.parts p (gtN v.names x) i)
  | 0, _ => by
    have h0 : ¬ (0 : Int) ≤ ixI v.names x := by rw [ixI, if_neg hm]; omega
    rw [wst, insAt_zero, insAt_zero, decide_eq_false h0, decide_eq_false (by omega)]
  | i + 1, hi => by
    have ih := wst_new (p := p) hm hl i (by omega)
    have hlt : i < v.names.length := by omega
    have hlp : i < v.parts.length := by omega
    have hq : wq v p (ixI v.names x) i = v.parts[i] := by
      rw [wq, ixI, if_neg hm, if_neg (by omega), getD_at hlp]
    rw [wst, ih, getD_at hlt, hq]
    by_cases e : gtN v.names x < i
    · rw [if_neg (by simp [e]), insAt_lt (by omega) hlt, insAt_lt (by omega) hlp, decide_eq_true e, decide_eq_true (show gtN v.names x < i + 1 by omega)]
    · cases hs : sLt x v.names[i] with
      | true =>
        have he : gtN v.names x = i := by
          have h1 : gtN v.names x ≤ i := by
            rcases Nat.lt_or_ge i (gtN v.names x) with h | h
            · exfalso
              have := List.not_of_lt_findIdx (p := fun s => sLt x s) h
              rw [hs] at this
              exact absurd this (by simp)
            · exact h
          omega
        rw [if_pos (by simp [e]), he, insAt_at2 hlt, insAt_at2 hlp]; simp
      | false =>
        have he : gtN v.names x ≠ i := fun e2 => by
          have hlt2 : gtN v.names x < v.names.length := by omega
          have h3 : sLt x v.names[gtN v.names x] = true := List.findIdx_getElem (w := hlt2)
          simp only [e2] at h3
          rw [hs] at h3
          cases h3
        rw [if_neg (by simp), insAt_lt (fun h => he h.symm) hlt, insAt_lt (fun h => he h.symm) hlp, decide_eq_false e, decide_eq_false (show ¬ gtN v.names x < i + 1 by omega)]
theorem refWith_eq (v p : DVal) (x : Str) : refWithV v x p = withV v x p := by
  unfold refWithV withV
  cases hwh : wholeB v with
  | false => rfl
  | true =>
    have hl : v.names.length ≤ v.parts.length := by
      have := hwh
      simp only [wholeB, Bool.and_eq_true, decide_eq_true_eq] at this
      exact this.2
    simp only [show (true = false) = False from by simp, if_false]
    by_cases hm : x ∈ v.names
    · rw [wst_mem hm hl _ (Nat.le_refl _), if_pos hm]
      simp only [if_true, List.take_length]
      congr 1
      have : v.parts.drop v.names.length = (v.parts.set (ixN v.names x) p).drop v.names.length := by
        rw [List.drop_set_of_lt (ix_lt hm)]
      rw [this, List.take_append_drop]
    · have hg : gtN v.names x ≤ v.names.length := List.findIdx_le_length
      rw [wst_new hm hl _ (Nat.le_refl _), if_neg hm]
      by_cases e : gtN v.names x < v.names.length
      · have e' : decide (gtN v.names x < v.names.length) = true := decide_eq_true e
        simp only [e', if_true]
        unfold insAt
        rw [if_pos e, if_pos e, List.take_length]
        congr 1
        have h1 : v.parts.drop (gtN v.names x) = (v.parts.take v.names.length).drop (gtN v.names x) ++ v.parts.drop v.names.length := by
          have := List.drop_append_of_le_length (l₁ := v.parts.take v.names.length) (l₂ := v.parts.drop v.names.length) (i := gtN v.names x) (by rw [List.length_take]; omega)
          rw [List.take_append_drop] at this
          exact this
        show _ = v.parts.take (gtN v.names x) ++ [p] ++ v.parts.drop (gtN v.names x)
        rw [h1]; simp only [List.append_assoc]
      · have e' : decide (gtN v.names x < v.names.length) = false := decide_eq_false e
        have e2 : gtN v.names x = v.names.length := by omega
        simp only [e']
        rw [if_neg (by simp), if_neg (by simp)]
        unfold insAt atN
        rw [if_neg e, if_neg e, e2, List.take_length, List.drop_length, List.append_nil]
end Go.Proofs.Ytjjhjhjphhpeiaa

namespace Go.Proofs.Ytjjhjhjphhpeiaa
open Go.RowKit
set_option linter.unusedSimpArgs false
set_option linter.unusedVariables false
def recV0 : DVal := .mk 5 0 [] [] [] []
def recV (l : List Str) (ps : List DVal) : Nat → DVal
  | 0 => recV0
  | i + 1 => withV (recV l ps i) (l.getD i []) (ps.getD i default)
theorem ofFields_weight (v : DVal) (ns : List Str) (ps : List DVal) : (v.ofFields ns ps).weight = 1 + ns.length + v.ids.length + DVal.weights ps := by rw [DVal.weight_eq]; rfl
theorem withV_weight (v p : DVal) (x : Str) : (withV v x p).weight ≤ v.weight + 1 + p.weight := by
  have hw : ∀ l m : List DVal, DVal.weights (l ++ m) = DVal.weights l + DVal.weights m := fun l m => by
    induction l with
    | nil => simp [DVal.weights]
    | cons a l ih => simp only [List.cons_append, DVal.weights, ih]; omega
  have hs : ∀ (l : List DVal) (i : Nat), DVal.weights (l.set i p) ≤ DVal.weights l + p.weight := fun l => by
    induction l with
    | nil => intro i; simp [DVal.weights]
    | cons a l ih =>
      intro i
      cases i with
      | zero => simp only [List.set_cons_zero, DVal.weights]; omega
      | succ i => simp only [List.set_cons_succ, DVal.weights]; have := ih i; omega
  have hv := v.weight_eq
  unfold withV
  split
  · omega
  · split
    · rw [ofFields_weight]
      have := hs v.parts (ixN v.names x)
      omega
    · rw [ofFields_weight]
      have e : DVal.weights (v.parts.take (atN v.names x)) + DVal.weights (v.parts.drop (atN v.names x)) = DVal.weights v.parts := by rw [← hw, List.take_append_drop]
      have e2 : (v.names.take (atN v.names x) ++ [x] ++ v.names.drop (atN v.names x)).length = v.names.length + 1 := by
        have : atN v.names x ≤ v.names.length := List.findIdx_le_length
        simp only [List.length_append, List.length_take, List.length_drop, List.length_cons, List.length_nil]; omega
      rw [e2, hw, hw]
      simp only [DVal.weights]
      omega
theorem recV_weight (l : List Str) (ps : List DVal) (m : Nat) (h : ∀ p ∈ ps, p.weight ≤ m) : ∀ i, i ≤ ps.length → (recV l ps i).weight ≤ 1 + i * (m + 1)
  | 0, _ => by simp [recV, recV0, DVal.weight_eq, DVal.names, DVal.ids, DVal.parts, DVal.weights]
  | i + 1, hi => by
    have h1 := recV_weight l ps m h i (by omega)
    have h2 := withV_weight (recV l ps i) (ps.getD i default) (l.getD i [])
    have h3 := h _ (List.getElem_mem (show i < ps.length from hi))
    have e : ps.getD i default = ps[i] := getD_at hi
    rw [e] at h2
    show (withV _ _ _).weight ≤ _
    rw [e]
    rw [Nat.add_mul]
    omega
set_option maxRecDepth 200000 in
set_option maxHeartbeats 4000000 in
theorem record_d (own own2 : Own) (l : List Str) (ps : List DVal) (hl : l.length ≤ 1000) (hp : ps.length ≤ 20) (hw : ∀ p ∈ ps, p.weight ≤ 4000) (hx : ∀ x ∈ l, x.length ≤ maxLen) : DPure Try.prog 15 [.sl own (l.map strD), .sl own2 (ps.map encV)] (encV (recV l ps (min l.length ps.length))) := by
  refine dpure_of_dwp mixed Try.func15 rfl (fun _ _ => by kernel_rfl) (rs := [.cell 4 28]) rfl (by kernel_rfl) (closed_encV _) (fun S hS => ?_)
  have hmin : (if (ps.length : Int) < (l.length : Int) then (ps.length : Int) else (l.length : Int)) = ((min l.length ps.length : Nat) : Int) := by split <;> omega
  obtain ⟨n, hn⟩ : ∃ n, min l.length ps.length = n := ⟨_, rfl⟩
  have hn1 : n ≤ l.length := by omega
  have hn2 : n ≤ ps.length := by omega
  rw [hn] at hmin ⊢
  (simp (disch := first | decide | omega | (simp only [nx]; first | done | omega)) only [go_sem, Nat.reduceMul, hmin]; (repeat (with_reducible refine And.intro (by first | omega | assumption | rfl) ?_)))
  have e0 : (encV (recV l ps 0)).cells = [.v (.int .i64 5), .v (.int .i64 0), .v (sv []), .sl .no [], .sl .no [], .sl .no []] := by rw [recV, recV0, encV_eq]; rfl
  refine dloop_up (fun t => List.contains [6, 13, 14, 15, 16, 17, 18, 19, 20, 21, 22, 23, 24, 25, 26] t) (by kernel_rfl) (by exact (by (repeat' first | assumption | refine St.WF.leave ?_ _ | refine St.WF.add ?_ _ | refine St.WF.set ?_ ?_ _ | refine St.WF.grow ?_ _ _ _ | refine St.WF.keep ?_ ?_ | (first | omega | (simp only [RowOk.lo, nx]; first | done | omega))))) n (fun i g T => i ≤ n ∧ g 13 = .v (.int .i64 ((i : Nat) : Int)) ∧ (i = 0 ∧ T.ob (S.next + 1) = some (.box 28 [.v (.int .i64 5), .v (.int .i64 0), .v (.string ⟨#[]⟩), .sl .full [], .sl .full [], .sl .full []]) ∨ 0 < i ∧ T.ob (S.next + 1) = some (.box 28 (encV (recV l ps i)).cells)) ∧ (∃ cs, cs.length = 6 ∧ T.ob S.next = some (.box 28 cs)) ∧ S.Sub T ∧ S.next + 1 < T.next) ⟨by omega, by (first | (simp (disch := first | decide | omega | (simp only [nx]; first | done | omega)) only [go_sem, Nat.reduceMul]; first | done | rfl) | rfl), .inl ⟨rfl, by (first | (simp (disch := first | decide | omega | (simp only [nx]; first | done | omega)) only [go_sem, Nat.reduceMul]; first | done | rfl) | rfl)⟩, ⟨_, rfl, by (first | (simp (disch := first | decide | omega | (simp only [nx]; first | done | omega)) only [go_sem, Nat.reduceMul]; first | done | rfl) | rfl)⟩, by exact (by (repeat' first | assumption | exact St.Sub.refl _ | exact RowOk.sub (by assumption) (by assumption) | refine St.Sub.trans ?_ (RowOk.sub (by assumption) (by assumption)) | refine St.Sub.add ?_ ?_ _ | refine St.Sub.set ?_ ?_ ?_ _ | refine St.Sub.keep ?_ ?_ | refine St.WF.leave ?_ _ | refine St.WF.add ?_ _ | refine St.WF.set ?_ ?_ _ | refine St.WF.grow ?_ _ _ _ | refine St.WF.keep ?_ ?_ | (first | omega | (simp only [RowOk.lo, nx]; first | done | omega)))), by simp only [add_next, set_next]; omega⟩ ?_
  rintro i g T hT hg ⟨le, q13, hx1, ⟨cs, hcs, hx0⟩, hs, hsn⟩
  have q0 := hg 0 rfl
  have q1 := hg 1 rfl
  have q4 := hg 4 rfl
  have q5 := hg 5 rfl
  have q12 := hg 12 rfl
  simp (disch := first | decide | omega | (simp only [nx]; first | done | omega)) only [go_sem, Nat.reduceMul, hmin] at q0 q1 q4 q5 q12
  clear hg
  have hrw := recV_weight l ps 4000 hw i (by omega)
  have hrw2 : i * 4001 ≤ 20 * 4001 := Nat.mul_le_mul_right _ (by omega)
  by_cases hlt : i < n
  · have b5 : decide ((i : Int) < (n : Int)) = true := by simp; omega
    have w1 : IntKind.i64.wrap ((i : Int) + 1) = ((i + 1 : Nat) : Int) := IntWalk.i64_in _ ⟨by omega, by omega⟩
    have hi1 : i < l.length := by omega
    have hi2 : i < ps.length := by omega
    have g1 := getD_map strD l i hi1
    have g2 := getD_map encV ps i hi2
    have hwd := with_d (recV l ps i) ps[i] l[i] (by omega) (by have := hw _ (List.getElem_mem hi2); omega) (hx _ (List.getElem_mem hi1))
    have er : recV l ps (i + 1) = withV (recV l ps i) l[i] ps[i] := by rw [recV, getD_at hi1, getD_at hi2]
    rcases hx1 with ⟨h0, hx1⟩ | ⟨_, hx1⟩
    · have hr0 : recV l ps i = recV0 := by rw [h0]; rfl
      (simp (disch := first | decide | omega | (simp only [nx]; first | done | omega)) only [go_sem, Nat.reduceMul, q0, q1, q5, q12, q13, b5]; (repeat (with_reducible refine And.intro (by first | omega | assumption | rfl) ?_)))
      refine ddraw_mk 10 (by kernel_rfl) ?_
      (simp (disch := first | decide | omega | (simp only [nx]; first | done | omega)) only [go_sem, Nat.reduceMul, q0, q1, q5, q12, q13, hx1, g1, g2]; (repeat (with_reducible refine And.intro (by first | omega | assumption | rfl) ?_)))
      refine dqgo_mk (DPure.weak hwd (by rw [hr0]; simp only [frzL, frz_encV]; rfl)) ?_
      (simp (disch := first | decide | omega | (simp only [nx]; first | done | omega)) only [go_sem, Nat.reduceMul, q0, q1, q5, q12, q13, hx1, g1, g2, w1]; (repeat (with_reducible refine And.intro (by first | omega | assumption | rfl) ?_)))
      rw [← er]
      refine ⟨hlt, _, fun _ _ h => h, by omega, by (first | (simp (disch := first | decide | omega | (simp only [nx]; first | done | omega)) only [go_sem, Nat.reduceMul]; first | done | rfl) | rfl), .inr ⟨by omega, ?_⟩, ⟨cs, hcs, ?_⟩, ?_, ?_⟩
      · show (if S.next + 1 = S.next + 1 then _ else _) = _
        rw [if_pos rfl]
      · show (if S.next = S.next + 1 then _ else _) = _
        rw [if_neg (by omega)]; exact hx0
      · exact hs.set hS (by omega) _
      · exact hsn
    · (simp (disch := first | decide | omega | (simp only [nx]; first | done | omega)) only [go_sem, Nat.reduceMul, q0, q1, q5, q12, q13, b5]; (repeat (with_reducible refine And.intro (by first | omega | assumption | rfl) ?_)))
      refine ddraw_mk 10 (by kernel_rfl) ?_
      (simp (disch := first | decide | omega | (simp only [nx]; first | done | omega)) only [go_sem, Nat.reduceMul, q0, q1, q5, q12, q13, hx1, g1, g2]; (repeat (with_reducible refine And.intro (by first | omega | assumption | rfl) ?_)))
      refine dqgo_mk hwd ?_
      (simp (disch := first | decide | omega | (simp only [nx]; first | done | omega)) only [go_sem, Nat.reduceMul, q0, q1, q5, q12, q13, hx1, g1, g2, w1]; (repeat (with_reducible refine And.intro (by first | omega | assumption | rfl) ?_)))
      rw [← er]
      refine ⟨hlt, _, fun _ _ h => h, by omega, by (first | (simp (disch := first | decide | omega | (simp only [nx]; first | done | omega)) only [go_sem, Nat.reduceMul]; first | done | rfl) | rfl), .inr ⟨by omega, ?_⟩, ⟨cs, hcs, ?_⟩, ?_, ?_⟩
      · show (if S.next + 1 = S.next + 1 then _ else _) = _
        rw [if_pos rfl]
      · show (if S.next = S.next + 1 then _ else _) = _
        rw [if_neg (by omega)]; exact hx0
      · exact hs.set hS (by omega) _
      · exact hsn
  · have b5 : decide ((i : Int) < (n : Int)) = false := by simp; omega
    obtain rfl : i = n := by omega
    have hd6 : List.drop 6 cs = [] := List.drop_of_length_le (by omega)
    rcases hx1 with ⟨h0, hx1⟩ | ⟨_, hx1⟩
    · have hr0 : recV l ps i = recV0 := by rw [h0]; rfl
      (simp (disch := first | decide | omega | (simp only [nx]; first | done | omega)) only [go_sem, Nat.reduceMul, q0, q1, q5, q12, q13, b5, q4, hx0, hx1, hcs, hd6]; (repeat (with_reducible refine And.intro (by first | omega | assumption | rfl) ?_)))
      rw [hr0]
      refine ⟨?_, hs.set hS (Nat.le_refl _) _⟩
      rw [recV0, encV_eq]; rfl
    · (simp (disch := first | decide | omega | (simp only [nx]; first | done | omega)) only [go_sem, Nat.reduceMul, q0, q1, q5, q12, q13, b5, q4, hx0, hx1, hcs, hd6]; (repeat (with_reducible refine And.intro (by first | omega | assumption | rfl) ?_)))
      exact ⟨frz_encV _, hs.set hS (Nat.le_refl _) _⟩
end Go.Proofs.Ytjjhjhjphhpeiaa

namespace Go.Proofs.Ytjjhjhjphhpeiaa
open Go.RowKit
set_option linter.unusedSimpArgs false
set_option linter.unusedVariables false
def IsU64 (n : Nat) : Prop := n < 18446744073709551616
def IsI64 (n : Int) : Prop := -9223372036854775808 ≤ n ∧ n < 9223372036854775808
theorem wrap_u64 (n : Nat) (h : IsU64 n) : IntKind.u64.wrap (n : Int) = n := by
  unfold IsU64 at h
  simp only [IntKind.wrap_u64]
  omega
theorem or80' : ∀ x : Fin 256, bits BinOp.or IntKind.u8 (x.val : Int) 128 = ((x.val % 128 + 128 : Nat) : Int) := by decide +kernel
theorem or80 (k : Nat) : bits BinOp.or IntKind.u8 ((k : Int) % 256) 128 = ((k % 128 + 128 : Nat) : Int) := by
  have h := or80' ⟨k % 256, by omega⟩
  simp only at h
  rw [show ((k : Int) % 256) = ((k % 256 : Nat) : Int) from by omega, h]
  omega
theorem xor_zig (n : Int) (h : IsI64 n) : bits BinOp.xor IntKind.u64 (IntKind.u64.wrap (IntKind.u64.wrap n * 2)) (IntKind.u64.wrap (n / 9223372036854775808)) = (zig n : Int) := by
  unfold IsI64 at h
  show IntKind.u64.wrap ((BitVec.ofInt 64 _ ^^^ BitVec.ofInt 64 _).toNat : Int) = _
  simp only [IntKind.wrap_u64]
  unfold zig
  by_cases h0 : n < 0
  · rw [if_pos h0, show n / 9223372036854775808 % 18446744073709551616 = 18446744073709551615 from by omega]
    rw [show BitVec.ofInt 64 18446744073709551615 = BitVec.allOnes 64 from by decide, BitVec.xor_allOnes, BitVec.toNat_not, BitVec.toNat_ofInt]
    omega
  · rw [if_neg h0, show n / 9223372036854775808 % 18446744073709551616 = 0 from by omega]
    rw [show BitVec.ofInt 64 0 = 0#64 from by decide, BitVec.xor_zero, BitVec.toNat_ofInt]
    omega
theorem zig_u64 (n : Int) (h : IsI64 n) : IsU64 (zig n) := by unfold IsI64 at h; unfold IsU64 zig; split <;> omega
section
variable {P : Program} {t : TypeId} {x y : Operand}
theorem bin_or (k : IntKind) (a b : Int) : dbin P .or t x y (.v (.int k a)) (.v (.int k b)) = some (True, .v (.int k (bits .or k a b))) := by
  simp [dbin, eqGuard, binOp, intBits_or, pureRun_bind, pureRun_pure]
theorem bin_xor (k : IntKind) (a b : Int) : dbin P .xor t x y (.v (.int k a)) (.v (.int k b)) = some (True, .v (.int k (bits .xor k a b))) := by
  simp [dbin, eqGuard, binOp, intBits_xor, pureRun_bind, pureRun_pure]
theorem bin_andNot (k : IntKind) (a b : Int) : dbin P .andNot t x y (.v (.int k a)) (.v (.int k b)) = some (True, .v (.int k (bits .andNot k a b))) := by
  simp [dbin, eqGuard, binOp, intBits_andNot, pureRun_bind, pureRun_pure]
theorem bin_shr7 (a : Nat) : dbin P .shr t x y (.v (.int .u64 a)) (.v (.int .u64 7)) = some (True, .v (.int .u64 ((a / 128 : Nat) : Int))) := by
  simp [dbin, eqGuard, binOp, shift_shr .u64 .u64 (a : Int) 7 (by omega) (by decide), pureRun_bind, pureRun_pure]
theorem bin_shr63 (a : Int) : dbin P .shr t x y (.v (.int .i64 a)) (.v (.int .u64 63)) = some (True, .v (.int .i64 (a / 9223372036854775808))) := by
  simp [dbin, eqGuard, binOp, shift_shr .i64 .u64 a 63 (by omega) (by decide), pureRun_bind, pureRun_pure]
theorem bin_shl1 (a : Int) : dbin P .shl t x y (.v (.int .u64 a)) (.v (.int .u64 1)) = some (True, .v (.int .u64 (IntKind.u64.wrap (a * 2)))) := by
  simp [dbin, eqGuard, binOp, Op.shift, IntKind.bits, pureRun_bind, pureRun_pure]
end
theorem cv_u64u8 (n : Int) : pureRun Try.prog (convert 24 5 (.int .u64 n)) = some (.int .u8 (IntKind.u8.wrap n)) := by kernel_rfl
theorem cv_i64u64 (n : Int) : pureRun Try.prog (convert 3 24 (.int .i64 n)) = some (.int .u64 (IntKind.u64.wrap n)) := by kernel_rfl
theorem cv_u64i64 (n : Int) : pureRun Try.prog (convert 24 3 (.int .u64 n)) = some (.int .i64 (IntKind.i64.wrap n)) := by kernel_rfl
theorem cv_u8u64 (n : Int) : pureRun Try.prog (convert 5 24 (.int .u8 n)) = some (.int .u64 (IntKind.u64.wrap n)) := by kernel_rfl
theorem cv_i64u8 (n : Int) : pureRun Try.prog (convert 3 5 (.int .i64 n)) = some (.int .u8 (IntKind.u8.wrap n)) := by kernel_rfl
theorem u8T_u8 : u8T Try.prog 5 = true := by kernel_rfl
attribute [go_sem] u8T_u8
attribute [go_sem] bin_or bin_xor bin_andNot bin_shr7 bin_shr63 bin_shl1 cv_u64u8 cv_i64u64 cv_u64i64 cv_u8u64 cv_i64u8
/-- In T the writer k holds the bytes bs. -/
def WAt (k : Nat) (bs : List UInt8) (T : St) : Prop := ∃ own, T.ob k = some (.box 90 [.sl own (bs.map bD)]) ∧ ((own = .full ∧ bs = []) ∨ ∃ g, own = .row g ∧ k < g ∧ T.ob g = some (.row 5 bs.length))
/-- Variables but k stay as they are. -/
structure WFr (k : Nat) (S T : St) : Prop where
  next : S.next ≤ T.next
  ob : ∀ j o, (j < k ∨ (j ≠ k ∧ ∃ t cs, o = .box t cs)) → S.ob j = some o → T.ob j = some o
theorem WFr.box {k : Nat} {S T : St} (h : WFr k S T) (j : Nat) (t : TypeId) (cs : List D) (hj : j ≠ k) (e : S.ob j = some (.box t cs)) : T.ob j = some (.box t cs) := h.ob j _ (.inr ⟨hj, t, cs, rfl⟩) e
theorem WFr.of_keep {k : Nat} {S T : St} (hn : S.next ≤ T.next) (h : ∀ j o, S.ob j = some o → T.ob j = some o) : WFr k S T := ⟨hn, fun j o _ e => h j o e⟩
theorem WFr.refl (k : Nat) (S : St) : WFr k S S := ⟨Nat.le_refl _, fun _ _ _ h => h⟩
theorem WFr.trans {k : Nat} {A B C : St} (h : WFr k A B) (g : WFr k B C) : WFr k A C := ⟨Nat.le_trans h.next g.next, fun j o hj e => g.ob j o hj (h.ob j o hj e)⟩
theorem wd_bD (l : List UInt8) : ∀ d ∈ l.map bD, d.width = szOf Try.prog 5 := by
  intro d hd
  obtain ⟨b, _, rfl⟩ := List.mem_map.1 hd
  exact Eq.trans rfl (by kernel_rfl : 1 = szOf Try.prog 5)
theorem dapp_bytes {S : St} {ty : TypeId} {own own2 : Own} {bs xs : List UInt8} {K : D → St → Prop} (h : (own = .full ∧ bs = []) ∨ ∃ g, own = .row g ∧ S.ob g = some (.row 5 bs.length)) (hl : bs.length + xs.length ≤ 1099511627776)
    (k : K (.sl (.row S.next) ((bs ++ xs).map bD)) (S.grow own 5 (bs.length + xs.length))) : dapp Try.prog S 61 61 ty (.sl own (bs.map bD)) (.sl own2 (xs.map bD)) K := by
  refine dapp_row ?_
  have he : elT Try.prog 61 = some 5 := by kernel_rfl
  have hb : bytesOf Try.prog 5 = 1 := by kernel_rfl
  have hz : zeroT Try.prog 5 = true := by kernel_rfl
  simp only [dappend, he, hz, hb, List.length_map, ← List.map_append, true_and, Option.isSome_some]
  refine ⟨wd_bD bs, wd_bD xs, ?_, by omega, by omega, k⟩
  rcases h with ⟨rfl, rfl⟩ | ⟨g, rfl, h⟩
  · trivial
  · exact h
set_option maxRecDepth 200000 in
set_option maxHeartbeats 4000000 in
theorem raw_w {S : St} {k : Nat} {bs : List UInt8} (own2 : Own) (xs : List UInt8) (hk : k < S.next) (h : WAt k bs S) (hl : bs.length + xs.length ≤ 1099511627776) : DCalls Try.prog 112 [.loc k 0, .sl own2 (xs.map bD)] S fun d T => d = undefD ∧ WAt k (bs ++ xs) T ∧ WFr k S T := by
  obtain ⟨own, h1, h2⟩ := h
  refine dcalls_inline mixed Try.func112 rfl (fun _ _ => by kernel_rfl) (rs := []) rfl (by kernel_rfl) (fun hS => ?_)
  (simp (disch := first | decide | omega | (simp only [nx]; first | done | omega)) only [go_sem, Nat.reduceMul, h1]; (repeat (with_reducible refine And.intro (by first | omega | assumption | rfl) ?_)))
  have hk2 : (k = S.next) = False := by simp; omega
  rcases h2 with ⟨rfl, rfl⟩ | ⟨g, rfl, hg, h2⟩
  · refine dapp_bytes (.inl ⟨rfl, rfl⟩) (by omega) ?_
    (simp (disch := first | decide | omega | (simp only [nx]; first | done | omega)) only [go_sem, Nat.reduceMul, hk2, h1]; (repeat (with_reducible refine And.intro (by first | omega | assumption | rfl) ?_)))
    refine ⟨⟨.row S.next, by simp [St.set], .inr ⟨S.next, rfl, by omega, ?_⟩⟩, ⟨by simp [St.set, St.grow, St.leave, St.add], fun j o hj e => ?_⟩⟩
    · simp [St.grow, St.leave, St.add, St.set, Ne.symm (show k ≠ S.next by omega)]
    · have hlt := hS.lt e
      have hj : j ≠ k := by rcases hj with h | h; omega; exact h.1
      simp [St.grow, St.leave, St.add, St.set, hj, show j ≠ S.next by omega, e]
  · have hkg : (k = g) = False := by simp; omega
    refine dapp_bytes (.inr ⟨g, rfl, h2⟩) (by omega) ?_
    (simp (disch := first | decide | omega | (simp only [nx]; first | done | omega)) only [go_sem, Nat.reduceMul, hk2, hkg, h1]; (repeat (with_reducible refine And.intro (by first | omega | assumption | rfl) ?_)))
    refine ⟨⟨.row S.next, by simp [St.set], .inr ⟨S.next, rfl, by omega, ?_⟩⟩, ⟨by simp [St.set, St.grow, St.leave, St.add, St.drop], fun j o hj e => ?_⟩⟩
    · simp [St.grow, St.leave, St.add, St.set, St.drop, Ne.symm (show k ≠ S.next by omega)]
    · have hlt := hS.lt e
      have hjg : j ≠ g := fun e2 => by
        rcases hj with h | ⟨_, t, cs, rfl⟩
        · omega
        · rw [e2, h2] at e; cases e
      have hj : j ≠ k := by rcases hj with h | h; omega; exact h.1
      simp [St.grow, St.leave, St.add, St.set, St.drop, hj, hjg, show j ≠ S.next by omega, e]
theorem WAt.box {k : Nat} {bs : List UInt8} {S T : St} (h : WAt k bs S) (hn : S.next ≤ T.next) (hS : S.WF) (hb : ∀ j o, S.ob j = some o → T.ob j = some o) : WAt k bs T := by
  obtain ⟨own, h1, h2⟩ := h
  refine ⟨own, hb _ _ h1, h2.imp id fun ⟨g, h3, h4, h5⟩ => ⟨g, h3, h4, hb _ _ h5⟩⟩
theorem add_keep {S : St} (hS : S.WF) (o : Ob) : ∀ j o', S.ob j = some o' → (S.add o).ob j = some o' := by
  intro j o' h
  have hlt := hS.lt h
  simp [St.add, show j ≠ S.next by omega, h]
set_option maxRecDepth 200000 in
set_option maxHeartbeats 4000000 in
theorem byte_w {S : St} {k : Nat} {bs : List UInt8} (b : UInt8) (hk : k < S.next) (h : WAt k bs S) (hl : bs.length + 1 ≤ 1099511627776) : DCalls Try.prog 86 [.loc k 0, bD b] S fun d T => d = undefD ∧ WAt k (bs ++ [b]) T ∧ WFr k S T := by
  refine dcalls_inline mixed Try.func86 rfl (fun _ _ => by kernel_rfl) (rs := []) rfl (by kernel_rfl) (fun hS => ?_)
  (simp (disch := first | decide | omega | (simp only [nx]; first | done | omega)) only [go_sem, Nat.reduceMul, show bD b = .v (.int .u8 b.toNat) from rfl]; (repeat (with_reducible refine And.intro (by first | omega | assumption | rfl) ?_)))
  refine (raw_w .full [b] hk h hl).mono ?_
  rintro _ T ⟨rfl, h1, h2⟩
  (simp (disch := first | decide | omega | (simp only [nx]; first | done | omega)) only [go_sem, Nat.reduceMul]; (repeat (with_reducible refine And.intro (by first | omega | assumption | rfl) ?_)))
  exact h2
theorem bD1 (n : Nat) (h : n < 256) : [D.v (.int .u8 (n : Int))] = [b8 n].map bD := by
  simp [bD, b8_toNat n h]
theorem wrap_u8 (n : Nat) : IntKind.u8.wrap (n : Int) = (n : Int) % 256 := IntKind.wrap_u8 _
set_option maxRecDepth 200000 in
set_option maxHeartbeats 4000000 in
theorem number_w {S : St} {k : Nat} {bs : List UInt8} (n : Nat) (hn : IsU64 n) (hk : k < S.next) (h : WAt k bs S) (hl : bs.length + 10 ≤ 1099511627776) : DCalls Try.prog 90 [.loc k 0, .v (.int .u64 (n : Int))] S fun d T => d = undefD ∧ WAt k (bs ++ numB n) T ∧ WFr k S T := by
  refine dcalls_inline mixed Try.func90 rfl (fun _ _ => by kernel_rfl) (rs := []) rfl (by kernel_rfl) (fun hS => ?_)
  (simp (disch := first | decide | omega | (simp only [nx]; first | done | omega)) only [go_sem, Nat.reduceMul]; (repeat (with_reducible refine And.intro (by first | omega | assumption | rfl) ?_)))
  have hnl := numB_length_le n hn
  refine dloop_down (fun t => List.contains [1, 4, 5, 6, 7, 8, 9, 10, 11, 12, 13] t) (by kernel_rfl) hS (fun m g T => ∃ done, done ++ numB m = numB n ∧ IsU64 m ∧ g 1 = .v (.int .u64 (m : Int)) ∧ WAt k (bs ++ done) T ∧ WFr k S T) n ⟨[], rfl, hn, rfl, by rw [List.append_nil]; exact h, WFr.refl k S⟩ ?_
  rintro m g T hT hg ⟨done, hd, hm, q1, hW, hF⟩
  have q0 : g 0 = .loc k 0 := hg 0 rfl
  have hkT : k < T.next := Nat.lt_of_lt_of_le hk hF.next
  have hdl : (bs ++ done).length + 1 ≤ 1099511627776 := by
    have := congrArg List.length hd
    rw [List.length_append] at this
    have := numB_pos m
    rw [List.length_append]; omega
  by_cases hlt : m < 128
  · have b1 : decide ((128 : Int) ≤ (m : Int)) = false := by simp; omega
    have w8 : IntKind.u8.wrap (m : Int) = (m : Int) := by rw [wrap_u8]; omega
    (simp (disch := first | decide | omega | (simp only [nx]; first | done | omega)) only [go_sem, Nat.reduceMul, q0, q1, b1, w8]; (repeat (with_reducible refine And.intro (by first | omega | assumption | rfl) ?_)))
    rw [bD1 m (by omega)]
    refine (raw_w .full [b8 m] hkT hW hdl).mono ?_
    rintro _ T1 ⟨rfl, h1, h2⟩
    (simp (disch := first | decide | omega | (simp only [nx]; first | done | omega)) only [go_sem, Nat.reduceMul]; (repeat (with_reducible refine And.intro (by first | omega | assumption | rfl) ?_)))
    refine ⟨?_, hF.trans h2⟩
    rw [← hd, numB_lt m hlt, ← List.append_assoc]; exact h1
  · have b1 : decide ((128 : Int) ≤ (m : Int)) = true := by simp; omega
    (simp (disch := first | decide | omega | (simp only [nx]; first | done | omega)) only [go_sem, Nat.reduceMul, q0, q1, b1, wrap_u8, or80]; (repeat (with_reducible refine And.intro (by first | omega | assumption | rfl) ?_)))
    rw [bD1 (m % 128 + 128) (by omega)]
    refine (raw_w .full [b8 (m % 128 + 128)] hkT hW hdl).mono ?_
    rintro _ T1 ⟨rfl, h1, h2⟩
    (simp (disch := first | decide | omega | (simp only [nx]; first | done | omega)) only [go_sem, Nat.reduceMul, q0, q1]; (repeat (with_reducible refine And.intro (by first | omega | assumption | rfl) ?_)))
    refine ⟨m / 128, T1.ob, by omega, fun _ _ h => h, done ++ [b8 (m % 128 + 128)], ?_, by unfold IsU64 at *; omega, ?_, by rw [← List.append_assoc]; exact h1, hF.trans h2⟩
    · rw [List.append_assoc, ← hd, numB_ge m hlt]; rfl
    · (first | (simp (disch := first | decide | omega | (simp only [nx]; first | done | omega)) only [go_sem, Nat.reduceMul]; first | done | rfl) | rfl)
set_option maxRecDepth 200000 in
set_option maxHeartbeats 4000000 in
theorem bytes_w {S : St} {k : Nat} {bs : List UInt8} (own2 : Own) (xs : List UInt8) (hk : k < S.next) (h : WAt k bs S) (hl : bs.length + xs.length + 10 ≤ 1099511627776) : DCalls Try.prog 113 [.loc k 0, .sl own2 (xs.map bD)] S fun d T => d = undefD ∧ WAt k (bs ++ (numB xs.length ++ xs)) T ∧ WFr k S T := by
  refine dcalls_inline mixed Try.func113 rfl (fun _ _ => by kernel_rfl) (rs := []) rfl (by kernel_rfl) (fun hS => ?_)
  have hu : IsU64 xs.length := by unfold IsU64; omega
  (simp (disch := first | decide | omega | (simp only [nx]; first | done | omega)) only [go_sem, Nat.reduceMul, wrap_u64 xs.length hu]; (repeat (with_reducible refine And.intro (by first | omega | assumption | rfl) ?_)))
  refine (number_w xs.length hu hk h (by omega)).mono ?_
  rintro _ T ⟨rfl, h1, h2⟩
  (simp (disch := first | decide | omega | (simp only [nx]; first | done | omega)) only [go_sem, Nat.reduceMul]; (repeat (with_reducible refine And.intro (by first | omega | assumption | rfl) ?_)))
  have := numB_length_le xs.length hu
  refine (raw_w own2 xs (Nat.lt_of_lt_of_le hk h2.next) h1 (by rw [List.length_append]; omega)).mono ?_
  rintro _ T1 ⟨rfl, h3, h4⟩
  (simp (disch := first | decide | omega | (simp only [nx]; first | done | omega)) only [go_sem, Nat.reduceMul]; (repeat (with_reducible refine And.intro (by first | omega | assumption | rfl) ?_)))
  refine ⟨by rw [← List.append_assoc]; exact h3, h2.trans h4⟩
set_option maxRecDepth 200000 in
set_option maxHeartbeats 4000000 in
theorem text_w {S : St} {k : Nat} {bs : List UInt8} (s : ByteArray) (hk : k < S.next) (h : WAt k bs S) (hl : bs.length + s.data.toList.length + 10 ≤ 1099511627776) : DCalls Try.prog 89 [.loc k 0, .v (.string s)] S fun d T => d = undefD ∧ WAt k (bs ++ (numB s.data.toList.length ++ s.data.toList)) T ∧ WFr k S T := by
  refine dcalls_inline mixed Try.func89 rfl (fun _ _ => by kernel_rfl) (rs := []) rfl (by kernel_rfl) (fun hS => ?_)
  (simp (disch := first | decide | omega | (simp only [nx]; first | done | omega)) only [go_sem, Nat.reduceMul]; (repeat (with_reducible refine And.intro (by first | omega | assumption | rfl) ?_)))
  refine (bytes_w .no s.data.toList hk h hl).mono ?_
  rintro _ T ⟨rfl, h1, h2⟩
  (simp (disch := first | decide | omega | (simp only [nx]; first | done | omega)) only [go_sem, Nat.reduceMul]; (repeat (with_reducible refine And.intro (by first | omega | assumption | rfl) ?_)))
  exact h2
set_option maxRecDepth 200000 in
set_option maxHeartbeats 4000000 in
theorem bool_w {S : St} {k : Nat} {bs : List UInt8} (b : Bool) (hk : k < S.next) (h : WAt k bs S) (hl : bs.length + 1 ≤ 1099511627776) : DCalls Try.prog 87 [.loc k 0, .v (.bool b)] S fun d T => d = undefD ∧ WAt k (bs ++ [if b then 1 else 0]) T ∧ WFr k S T := by
  refine dcalls_inline mixed Try.func87 rfl (fun _ _ => by kernel_rfl) (rs := []) rfl (by kernel_rfl) (fun hS => ?_)
  cases b
  · (simp (disch := first | decide | omega | (simp only [nx]; first | done | omega)) only [go_sem, Nat.reduceMul]; (repeat (with_reducible refine And.intro (by first | omega | assumption | rfl) ?_)))
    refine (raw_w .full [0] hk h (by simpa using hl)).mono ?_
    rintro _ T ⟨rfl, h1, h2⟩
    (simp (disch := first | decide | omega | (simp only [nx]; first | done | omega)) only [go_sem, Nat.reduceMul]; (repeat (with_reducible refine And.intro (by first | omega | assumption | rfl) ?_)))
    exact ⟨h1, h2⟩
  · (simp (disch := first | decide | omega | (simp only [nx]; first | done | omega)) only [go_sem, Nat.reduceMul]; (repeat (with_reducible refine And.intro (by first | omega | assumption | rfl) ?_)))
    refine (raw_w .full [1] hk h (by simpa using hl)).mono ?_
    rintro _ T ⟨rfl, h1, h2⟩
    (simp (disch := first | decide | omega | (simp only [nx]; first | done | omega)) only [go_sem, Nat.reduceMul]; (repeat (with_reducible refine And.intro (by first | omega | assumption | rfl) ?_)))
    exact h2
set_option maxRecDepth 200000 in
set_option maxHeartbeats 4000000 in
theorem int_w {S : St} {k : Nat} {bs : List UInt8} (n : Int) (hn : IsI64 n) (hk : k < S.next) (h : WAt k bs S) (hl : bs.length + 10 ≤ 1099511627776) : DCalls Try.prog 88 [.loc k 0, .v (.int .i64 n)] S fun d T => d = undefD ∧ WAt k (bs ++ numB (zig n)) T ∧ WFr k S T := by
  refine dcalls_inline mixed Try.func88 rfl (fun _ _ => by kernel_rfl) (rs := []) rfl (by kernel_rfl) (fun hS => ?_)
  (simp (disch := first | decide | omega | (simp only [nx]; first | done | omega)) only [go_sem, Nat.reduceMul, xor_zig n hn]; (repeat (with_reducible refine And.intro (by first | omega | assumption | rfl) ?_)))
  refine (number_w (zig n) (zig_u64 n hn) hk h hl).mono ?_
  rintro _ T ⟨rfl, h1, h2⟩
  (simp (disch := first | decide | omega | (simp only [nx]; first | done | omega)) only [go_sem, Nat.reduceMul]; (repeat (with_reducible refine And.intro (by first | omega | assumption | rfl) ?_)))
  exact h2
set_option maxRecDepth 200000 in
set_option maxHeartbeats 4000000 in
theorem out_w {S : St} {k : Nat} {bs : List UInt8} (h : WAt k bs S) (hl : bs.length ≤ 1099511627776) : DCalls Try.prog 57 [.loc k 0] S fun d T => ∃ o, d = .sl o (bs.map bD) ∧ WAt k bs T ∧ WFr k S T := by
  obtain ⟨own, h1, h2⟩ := h
  refine dcalls_inline mixed Try.func57 rfl (fun _ _ => by kernel_rfl) (rs := [.tmp 2]) rfl (by kernel_rfl) (fun hS => ?_)
  (simp (disch := first | decide | omega | (simp only [nx]; first | done | omega)) only [go_sem, Nat.reduceMul, h1]; (repeat (with_reducible refine And.intro (by first | omega | assumption | rfl) ?_)))
  refine dapp_bytes (bs := []) (.inl ⟨rfl, rfl⟩) (by simpa using hl) ?_
  (simp (disch := first | decide | omega | (simp only [nx]; first | done | omega)) only [go_sem, Nat.reduceMul]; (repeat (with_reducible refine And.intro (by first | omega | assumption | rfl) ?_)))
  have hob : ∀ j o, S.ob j = some o → (S.grow .full 5 bs.length).ob j = some o := fun j o e => by
    have hlt := hS.lt e
    simp [St.grow, St.leave, St.add, show j ≠ S.next by omega, e]
  exact ⟨_, rfl, ⟨own, hob _ _ h1, h2.imp id fun ⟨g, h3, h4, h5⟩ => ⟨g, h3, h4, hob _ _ h5⟩⟩, WFr.of_keep (by simp [St.grow, St.leave, St.add]) hob⟩
end Go.Proofs.Ytjjhjhjphhpeiaa

namespace Go.Proofs.Ytjjhjhjphhpeiaa
open Go.RowKit
set_option linter.unusedSimpArgs false
set_option linter.unusedVariables false
theorem bD_eq (b : UInt8) : bD b = .v (.int .u8 (b.toNat : Int)) := rfl
section
variable {P : Program} {f : Fm} {S : St}
theorem pfin_ret3 (t u v : Tmp) (S' : St) (d : D) : DQ.pfin P [.tmp t, .tmp u, .tmp v] S d .ret f S' = PFin S S' (.tup [f t, f u, f v]) d := by
  simp [DQ.pfin, dresL, dres, onVal, one]
theorem pfin_normal3 (t u v : Tmp) (S' : St) (d : D) : DQ.pfin P [.tmp t, .tmp u, .tmp v] S d .normal f S' = PFin S S' (.tup [f t, f u, f v]) d := by
  simp [DQ.pfin, dresL, dres, onVal, one]
end
attribute [go_sem] pfin_ret3 pfin_normal3
end Go.Proofs.Ytjjhjhjphhpeiaa

namespace Go.Proofs.Ytjjhjhjphhpeiaa
open Go.RowKit
set_option linter.unusedSimpArgs false
set_option linter.unusedVariables false
section
variable {P : Program} {t : TypeId} {x : Operand}
theorem bin_nil_eql (c : Value) : dbin Try.prog .eql 57 x (.const c) (.v .nilIface) (.v .nilIface) = some (True, .v (.bool true)) := by cases x <;> kernel_rfl
theorem bin_nil_neq (c : Value) : dbin Try.prog .neq 57 x (.const c) (.v .nilIface) (.v .nilIface) = some (True, .v (.bool false)) := by cases x <;> kernel_rfl
end
attribute [go_sem] bin_nil_eql bin_nil_neq
end Go.Proofs.Ytjjhjhjphhpeiaa

namespace Go.Proofs.Ytjjhjhjphhpeiaa
open Go.RowKit
set_option linter.unusedSimpArgs false
set_option linter.unusedVariables false
def vkindB (v : DVal) : UInt8 := UInt8.ofNat v.kind.toNat
def vheadB (v : DVal) : List UInt8 := vkindB v :: (if v.kind = 1 then [if v.n = 1 then 1 else 0] else if v.kind = 2 then numB (zig v.n) else if v.kind = 3 ∨ v.kind = 4 then numB v.s.length ++ v.s else numB v.parts.length)
def vkeyB (v : DVal) (i : Nat) : List UInt8 := if v.kind = 5 then numB (v.names.getD i []).length ++ v.names.getD i [] else numB (v.ids.getD i 0)
def bytesV : Nat → DVal → List UInt8
  | 0, _ => []
  | m + 1, v => vheadB v ++ (List.range v.parts.length).flatMap fun i => vkeyB v i ++ bytesV m (v.parts.getD i default)
def vpartB (m : Nat) (v : DVal) (i : Nat) : List UInt8 := (List.range i).flatMap fun i => vkeyB v i ++ bytesV m (v.parts.getD i default)
theorem vpartB_succ (m : Nat) (v : DVal) (i : Nat) : vpartB m v (i + 1) = vpartB m v i ++ (vkeyB v i ++ bytesV m (v.parts.getD i default)) := by
  unfold vpartB
  rw [List.range_succ, List.flatMap_append]
  simp
theorem isU64 {n : Nat} (h : U64 (n : Int)) : IsU64 n := by have := bounds_u64 h; unfold IsU64; omega
theorem isI64 {n : Int} (h : I64 n) : IsI64 n := by have := bounds_i64 h; unfold IsI64; omega
structure VF (v : DVal) : Prop where
  kind : 1 ≤ v.kind ∧ v.kind ≤ 6
  s : v.s.length ≤ 64
  names : ∀ x ∈ v.names, x.length ≤ 12
  nn : v.names.length ≤ 8
  ni : v.ids.length ≤ 12
theorem RV.facts {v : DVal} (h : RV v) : VF v := by
  obtain ⟨m, h1, h2⟩ := h
  obtain ⟨m, rfl⟩ : ∃ n, m = n + 1 := ⟨m - 1, by have := v.depth_pos; omega⟩
  rw [soundV, Bool.and_eq_true, hereV, Bool.and_eq_true, Bool.and_eq_true, Bool.not_eq_true', Bool.not_eq_true', decide_eq_false_iff_not, decide_eq_false_iff_not] at h2
  have h3 := h2.1.1.1
  have h4 := h2.1.1.2
  have h5 := h2.1.2
  rw [Bool.and_eq_true] at h5
  have hn4 : v.kind = 4 → v.s.length ≤ 12 := fun e => by
    cases hb : nameB v.s with
    | false => unfold bad2 at h4; rw [hb] at h4; simp [e] at h4
    | true =>
      unfold nameB at hb
      rw [Bool.and_eq_true, decide_eq_true_eq] at hb
      exact hb.2.2
  have hnm : ∀ x ∈ v.names, x.length ≤ 12 := fun x hx => by
    obtain ⟨i, hi, rfl⟩ := List.getElem_of_mem hx
    have := List.all_eq_true.1 h5.1 i (List.mem_range.2 hi)
    unfold riseOk at this
    rw [Bool.and_eq_true] at this
    have h6 := this.1
    have e : v.names.getD i [] = v.names[i] := getD_at hi
    simp only [e] at h6
    unfold nameB at h6
    rw [Bool.and_eq_true, decide_eq_true_eq] at h6
    exact h6.2.2
  unfold bad1 at h3
  unfold bad2 at h4
  refine ⟨by omega, ?_, hnm, by omega, by omega⟩
  by_cases e3 : v.kind = 3
  · omega
  · by_cases e4 : v.kind = 4
    · have := hn4 e4; omega
    · omega
theorem vhead_len {v : DVal} (h : VF v) (ho : okV v) : (vheadB v).length ≤ 80 := by
  have hp := (okV_eq v).1 ho
  have h1 := numB_length_le v.s.length (by have := h.s; omega)
  unfold vheadB
  split
  · simp
  · split
    · have := numB_length_le (zig v.n) (zig_u64 v.n (isI64 hp.2.1))
      simp only [List.length_cons]; omega
    · split
      · have := h.s
        simp only [List.length_cons, List.length_append]; omega
      · have := numB_length_le v.parts.length (by have := hp.2.2.2.2.2.2.2.1; omega)
        simp only [List.length_cons]; omega
theorem vkey_len {v : DVal} (h : VF v) (ho : okV v) (i : Nat) : (vkeyB v i).length ≤ 30 := by
  have hp := (okV_eq v).1 ho
  unfold vkeyB
  split
  · have hx : (v.names.getD i []).length ≤ 12 := by
      rcases Nat.lt_or_ge i v.names.length with hi | hi
      · rw [getD_at hi]; exact h.names _ (List.getElem_mem hi)
      · rw [List.getD, List.getElem?_eq_none hi]; simp
    have := numB_length_le (v.names.getD i []).length (by omega)
    simp only [List.length_append]; omega
  · have hx : IsU64 (v.ids.getD i 0) := by
      rcases Nat.lt_or_ge i v.ids.length with hi | hi
      · rw [getD_at hi]
        have := hp.2.2.2.2.2.1 _ (List.getElem_mem hi)
        exact isU64 this
      · rw [List.getD, List.getElem?_eq_none hi]; simp [IsU64]
    have := numB_length_le (v.ids.getD i 0) hx
    omega
theorem weights_snoc (l : List DVal) (p : DVal) : DVal.weights (l ++ [p]) = DVal.weights l + p.weight := by
  induction l with
  | nil => simp [DVal.weights]
  | cons a l ihl => simp only [List.cons_append, DVal.weights, ihl]; omega
mutual
theorem bytesV_len : ∀ (m : Nat) (v : DVal), v.depth ≤ m → RV v → okV v → (bytesV m v).length ≤ 110 * v.weight
  | 0, v, h, _, _ => by have := v.depth_pos; omega
  | m + 1, v, hd, hr, ho => by
    have h0 := vhead_len hr.facts ho
    have hh := hr.here
    have hwe := v.weight_eq
    have h5 := vpart_len m v v.parts.length (Nat.le_refl _) hd hr ho
    rw [List.take_of_length_le (Nat.le_refl _)] at h5
    show (vheadB v ++ vpartB m v v.parts.length).length ≤ _
    rw [List.length_append]
    have := hh.2.2
    omega
  termination_by m _ => (m, 1, 0)
theorem vpart_len : ∀ (m : Nat) (v : DVal) (i : Nat), i ≤ v.parts.length → v.depth ≤ m + 1 → RV v → okV v → (vpartB m v i).length ≤ 110 * DVal.weights (v.parts.take i) + 30 * i
  | m, v, 0, _, _, _, _ => by simp [vpartB]
  | m, v, i + 1, hi, hd, hr, ho => by
    have h1 := vpart_len m v i (by omega) hd hr ho
    have h2 := vkey_len hr.facts ho i
    have hlt : i < v.parts.length := hi
    have hm := List.getElem_mem hlt
    have h3 := bytesV_len m v.parts[i] (by have := DVal.depth_part hm; omega) (hr.part hm) (((okV_eq v).1 ho).2.2.2.2.2.2.2.2 _ hm)
    have e : v.parts.getD i default = v.parts[i] := getD_at hlt
    rw [vpartB_succ, List.length_append, List.length_append, e, List.take_succ_eq_append_getElem hlt, weights_snoc]
    omega
  termination_by m _ i => (m, 2, i)
end
set_option maxRecDepth 200000 in
set_option maxHeartbeats 8000000 in
theorem valWrite_w (m : Nat) : ∀ (v : DVal) {S : St} {k : Nat} {bs : List UInt8} (hd : v.depth ≤ m) (hr : RV v) (ho : okV v) (hw : v.weight ≤ 100000) (hk : k < S.next) (h : WAt k bs S) (hb : bs.length + 200 * v.weight ≤ 1000000000),
    DCalls Try.prog 56 [.loc k 0, encV v] S fun d T => d = undefD ∧ WAt k (bs ++ bytesV m v) T ∧ WFr k S T := by
  induction m with
  | zero => intro v S k bs h; have := v.depth_pos; omega
  | succ m ih =>
    intro v S k bs hd hr ho hw hk h hb
    have hf := hr.facts
    have hh := hr.here
    have hp := (okV_eq v).1 ho
    have hwe := v.weight_eq
    have hpl := partsLen v
    have hkk := hf.kind
    refine dcalls_inline mixed Try.func56 rfl (fun _ _ => by kernel_rfl) (rs := []) rfl (by kernel_rfl) (fun hS => ?_)
    have wk : IntKind.u8.wrap v.kind = ((vkindB v).toNat : Int) := by
      rw [IntKind.wrap_u8]
      unfold vkindB
      rw [UInt8.toNat_ofNat']
      omega
    (simp (disch := first | decide | omega | (simp only [nx]; first | done | omega)) only [go_sem, Nat.reduceMul, encV_eq v, wk]; (repeat (with_reducible refine And.intro (by first | omega | assumption | rfl) ?_)))
    refine (byte_w (vkindB v) (k := k) (by show k < S.next + 1; omega) (h.box (by show S.next ≤ S.next + 1; omega) hS (add_keep hS _)) (by omega)).wf.mono ?_
    rintro _ T0 ⟨⟨rfl, hW0, hF0⟩, hT0⟩
    have hx0 := hF0.box S.next 28 [.v (.int .i64 v.kind), .v (.int .i64 v.n), .v (sv v.s), .sl .no (v.names.map strD), .sl .no (v.ids.map u64D), .sl .no (v.parts.map encV)] (by omega) (by (first | (simp (disch := first | decide | omega | (simp only [nx]; first | done | omega)) only [go_sem, Nat.reduceMul]; first | done | rfl) | rfl))
    have hn0 : S.next + 1 ≤ T0.next := hF0.next
    have hFS : WFr k S T0 := (WFr.of_keep (by show S.next ≤ S.next + 1; omega) (add_keep hS _)).trans hF0
    have hempty : v.kind ≠ 5 → v.kind ≠ 6 → v.parts.length = 0 := fun h5 h6 => by have := hh.1 h5; have := hh.2.1 h6; omega
    have kne : ∀ n : Int, v.kind ≠ n → (v.kind == n) = false := fun n h => by simpa using h
    have keq : ∀ n : Int, v.kind = n → (v.kind == n) = true := fun n h => by simpa using h
    by_cases k1 : v.kind = 1
    · have np1 := hempty (by omega) (by omega)
      have np0 : decide ((0 : Int) < (v.parts.length : Int)) = false := by rw [np1]; decide
      have b1 := keq 1 k1
      (simp (disch := first | decide | omega | (simp only [nx]; first | done | omega)) only [go_sem, Nat.reduceMul, hx0, b1]; (repeat (with_reducible refine And.intro (by first | omega | assumption | rfl) ?_)))
      refine (bool_w (v.n == 1) (k := k) (by omega) hW0 (by simp; omega)).wf.mono ?_
      rintro _ T1 ⟨⟨rfl, hW1, hF1⟩, hT1⟩
      have hx1 := hF1.box S.next _ _ (by omega) hx0
      (simp (disch := first | decide | omega | (simp only [nx]; first | done | omega)) only [go_sem, Nat.reduceMul, hx1]; (repeat (with_reducible refine And.intro (by first | omega | assumption | rfl) ?_)))
      refine dloop_fuel 1 hT1 (by kernel_rfl) ?_
      rw [loopN_eq]
      (simp (disch := first | decide | omega | (simp only [nx]; first | done | omega)) only [go_sem, Nat.reduceMul, hx1, np0]; (repeat (with_reducible refine And.intro (by first | omega | assumption | rfl) ?_)))
      refine ⟨?_, hFS.trans hF1⟩
      show WAt k (bs ++ (vheadB v ++ vpartB m v v.parts.length)) _
      rw [np1]
      simpa [vheadB, vpartB, k1, List.append_assoc] using hW1
    by_cases k2 : v.kind = 2
    · have np1 := hempty (by omega) (by omega)
      have np0 : decide ((0 : Int) < (v.parts.length : Int)) = false := by rw [np1]; decide
      have b1 := kne 1 k1
      have b2 := keq 2 k2
      (simp (disch := first | decide | omega | (simp only [nx]; first | done | omega)) only [go_sem, Nat.reduceMul, hx0, b1, b2]; (repeat (with_reducible refine And.intro (by first | omega | assumption | rfl) ?_)))
      refine (int_w v.n (isI64 hp.2.1) (k := k) (by omega) hW0 (by simp; omega)).wf.mono ?_
      rintro _ T1 ⟨⟨rfl, hW1, hF1⟩, hT1⟩
      have hx1 := hF1.box S.next _ _ (by omega) hx0
      (simp (disch := first | decide | omega | (simp only [nx]; first | done | omega)) only [go_sem, Nat.reduceMul, hx1]; (repeat (with_reducible refine And.intro (by first | omega | assumption | rfl) ?_)))
      refine dloop_fuel 1 hT1 (by kernel_rfl) ?_
      rw [loopN_eq]
      (simp (disch := first | decide | omega | (simp only [nx]; first | done | omega)) only [go_sem, Nat.reduceMul, hx1, np0]; (repeat (with_reducible refine And.intro (by first | omega | assumption | rfl) ?_)))
      refine ⟨?_, hFS.trans hF1⟩
      show WAt k (bs ++ (vheadB v ++ vpartB m v v.parts.length)) _
      rw [np1]
      simpa [vheadB, vpartB, k2, List.append_assoc] using hW1
    by_cases k3 : v.kind = 3
    · have np1 := hempty (by omega) (by omega)
      have np0 : decide ((0 : Int) < (v.parts.length : Int)) = false := by rw [np1]; decide
      have b1 := kne 1 k1
      have b2 := kne 2 k2
      have b3 := keq 3 k3
      have hsl := hf.s
      (simp (disch := first | decide | omega | (simp only [nx]; first | done | omega)) only [go_sem, Nat.reduceMul, hx0, b1, b2, b3]; (repeat (with_reducible refine And.intro (by first | omega | assumption | rfl) ?_)))
      refine (text_w ⟨v.s.toArray⟩ (k := k) (by omega) hW0 (by simp; omega)).wf.mono ?_
      rintro _ T1 ⟨⟨rfl, hW1, hF1⟩, hT1⟩
      have hx1 := hF1.box S.next _ _ (by omega) hx0
      (simp (disch := first | decide | omega | (simp only [nx]; first | done | omega)) only [go_sem, Nat.reduceMul, hx1]; (repeat (with_reducible refine And.intro (by first | omega | assumption | rfl) ?_)))
      refine dloop_fuel 1 hT1 (by kernel_rfl) ?_
      rw [loopN_eq]
      (simp (disch := first | decide | omega | (simp only [nx]; first | done | omega)) only [go_sem, Nat.reduceMul, hx1, np0]; (repeat (with_reducible refine And.intro (by first | omega | assumption | rfl) ?_)))
      refine ⟨?_, hFS.trans hF1⟩
      show WAt k (bs ++ (vheadB v ++ vpartB m v v.parts.length)) _
      rw [np1]
      simpa [vheadB, vpartB, k3, List.append_assoc] using hW1
    by_cases k4 : v.kind = 4
    · have np1 := hempty (by omega) (by omega)
      have np0 : decide ((0 : Int) < (v.parts.length : Int)) = false := by rw [np1]; decide
      have b1 := kne 1 k1
      have b2 := kne 2 k2
      have b3 := kne 3 k3
      have b4 := keq 4 k4
      have hsl := hf.s
      (simp (disch := first | decide | omega | (simp only [nx]; first | done | omega)) only [go_sem, Nat.reduceMul, hx0, b1, b2, b3, b4]; (repeat (with_reducible refine And.intro (by first | omega | assumption | rfl) ?_)))
      refine (text_w ⟨v.s.toArray⟩ (k := k) (by omega) hW0 (by simp; omega)).wf.mono ?_
      rintro _ T1 ⟨⟨rfl, hW1, hF1⟩, hT1⟩
      have hx1 := hF1.box S.next _ _ (by omega) hx0
      (simp (disch := first | decide | omega | (simp only [nx]; first | done | omega)) only [go_sem, Nat.reduceMul, hx1]; (repeat (with_reducible refine And.intro (by first | omega | assumption | rfl) ?_)))
      refine dloop_fuel 1 hT1 (by kernel_rfl) ?_
      rw [loopN_eq]
      (simp (disch := first | decide | omega | (simp only [nx]; first | done | omega)) only [go_sem, Nat.reduceMul, hx1, np0]; (repeat (with_reducible refine And.intro (by first | omega | assumption | rfl) ?_)))
      refine ⟨?_, hFS.trans hF1⟩
      show WAt k (bs ++ (vheadB v ++ vpartB m v v.parts.length)) _
      rw [np1]
      simpa [vheadB, vpartB, k4, List.append_assoc] using hW1
    have b1 := kne 1 k1
    have b2 := kne 2 k2
    have b3 := kne 3 k3
    have b4 := kne 4 k4
    have hnu : IsU64 v.parts.length := by unfold IsU64; omega
    (simp (disch := first | decide | omega | (simp only [nx]; first | done | omega)) only [go_sem, Nat.reduceMul, hx0, b1, b2, b3, b4, wrap_u64 v.parts.length hnu]; (repeat (with_reducible refine And.intro (by first | omega | assumption | rfl) ?_)))
    refine (number_w v.parts.length hnu (k := k) (by omega) hW0 (by simp; omega)).wf.mono ?_
    rintro _ T1 ⟨⟨rfl, hW1, hF1⟩, hT1⟩
    have hx1 := hF1.box S.next _ _ (by omega) hx0
    have hn1 : T0.next ≤ T1.next := hF1.next
    have hFS1 := hFS.trans hF1
    have ehead : bs ++ [vkindB v] ++ numB v.parts.length = bs ++ vheadB v := by
      rw [vheadB, if_neg k1, if_neg k2, if_neg (by omega), List.append_assoc]; rfl
    rw [ehead] at hW1
    (simp (disch := first | decide | omega | (simp only [nx]; first | done | omega)) only [go_sem, Nat.reduceMul, hx1]; (repeat (with_reducible refine And.intro (by first | omega | assumption | rfl) ?_)))
    refine dloop_up (fun t => List.contains [4, 5, 42, 43, 44, 45, 46, 47, 48, 49, 50, 51, 52, 53, 54, 55, 56, 57, 58, 59, 60, 61, 62, 63, 64, 65, 66, 67] t) (by kernel_rfl) hT1 v.parts.length (fun i g T => i ≤ v.parts.length ∧ g 42 = .v (.int .i64 ((i : Nat) : Int)) ∧ WAt k ((bs ++ vheadB v) ++ vpartB m v i) T ∧ WFr k S T ∧ T.ob S.next = some (.box 28 [.v (.int .i64 v.kind), .v (.int .i64 v.n), .v (sv v.s), .sl .no (v.names.map strD), .sl .no (v.ids.map u64D), .sl .no (v.parts.map encV)]) ∧ S.next < T.next) ⟨by omega, by (first | (simp (disch := first | decide | omega | (simp only [nx]; first | done | omega)) only [go_sem, Nat.reduceMul]; first | done | rfl) | rfl), by simpa [vpartB] using hW1, hFS1, hx1, by omega⟩ ?_
    rintro i g T hT hg ⟨le, q42, hW, hF, hx, hsn⟩
    have q0 := hg 0 rfl
    have q3 := hg 3 rfl
    have q40 := hg 40 rfl
    have q41 := hg 41 rfl
    simp (disch := first | decide | omega | (simp only [nx]; first | done | omega)) only [go_sem, Nat.reduceMul] at q0 q3 q40 q41
    clear hg
    by_cases hlt : i < v.parts.length
    · have b5 : decide ((i : Int) < (v.parts.length : Int)) = true := by simp; omega
      have w1 : IntKind.i64.wrap ((i : Int) + 1) = ((i + 1 : Nat) : Int) := IntWalk.i64_in _ ⟨by omega, by omega⟩
      have hmem := List.getElem_mem hlt
      have hpe : v.parts.getD i default = v.parts[i] := getD_at hlt
      have hkT : k < T.next := Nat.lt_of_lt_of_le hk hF.next
      have hWa : WAt k ((bs ++ vheadB v) ++ vpartB m v i) (T.add (.box 28 (encV v.parts[i]).cells)) := hW.box (by show T.next ≤ T.next + 1; omega) hT (add_keep hT _)
      have hFa : WFr k S (T.add (.box 28 (encV v.parts[i]).cells)) := hF.trans (WFr.of_keep (by show T.next ≤ T.next + 1; omega) (add_keep hT _))
      have hxa : (T.add (.box 28 (encV v.parts[i]).cells)).ob S.next = some (.box 28 [.v (.int .i64 v.kind), .v (.int .i64 v.n), .v (sv v.s), .sl .no (v.names.map strD), .sl .no (v.ids.map u64D), .sl .no (v.parts.map encV)]) := by (first | (simp (disch := first | decide | omega | (simp only [nx]; first | done | omega)) only [go_sem, Nat.reduceMul, hx]; first | done | rfl) | rfl)
      have hpa : (T.add (.box 28 (encV v.parts[i]).cells)).ob T.next = some (.box 28 (encV v.parts[i]).cells) := by (first | (simp (disch := first | decide | omega | (simp only [nx]; first | done | omega)) only [go_sem, Nat.reduceMul]; first | done | rfl) | rfl)
      have hkl := vkey_len hf ho i
      have hlen : ((bs ++ vheadB v) ++ vpartB m v i).length + 30 + 200 * v.parts[i].weight ≤ 1000000000 := by
        have h1 := vhead_len hf ho
        have h3 := vpart_len m v i le (by omega) hr ho
        have h4 : DVal.weights (v.parts.take i) + v.parts[i].weight ≤ DVal.weights v.parts := by
          have := weights_take_le v.parts (i + 1)
          rwa [List.take_succ_eq_append_getElem hlt, weights_snoc] at this
        have h5 := hh.2.2
        simp only [List.length_append]
        omega
      by_cases k5 : v.kind = 5
      · have b6 := keq 5 k5
        have hin : i < v.names.length := by have := hh.2.2; have := hh.2.1 (by omega); omega
        have hke : vkeyB v i = numB v.names[i].length ++ v.names[i] := by rw [vkeyB, if_pos k5, getD_at hin]
        have hnl := hf.names _ (List.getElem_mem hin)
        (simp (disch := first | decide | omega | (simp only [nx]; first | done | omega)) only [go_sem, Nat.reduceMul, q0, q3, q40, q41, q42, b5, hx, St.add_set, hxa, b6]; (repeat (with_reducible refine And.intro (by first | omega | assumption | rfl) ?_)))
        refine (text_w ⟨v.names[i].toArray⟩ (k := k) (by show k < T.next + 1; omega) hWa (by simp only [List.toList_toArray]; omega)).mono ?_
        rintro _ T2 ⟨rfl, hW2, hF2⟩
        rw [show numB (ByteArray.mk v.names[i].toArray).data.toList.length ++ (ByteArray.mk v.names[i].toArray).data.toList = vkeyB v i by rw [hke]] at hW2
        have hx2 := hF2.box S.next _ _ (by omega) hxa
        have hxp := hF2.box T.next 28 (encV v.parts[i]).cells (by omega) hpa
        have hn2 : T.next + 1 ≤ T2.next := hF2.next
        (simp (disch := first | decide | omega | (simp only [nx]; first | done | omega)) only [go_sem, Nat.reduceMul, hxp, q0]; (repeat (with_reducible refine And.intro (by first | omega | assumption | rfl) ?_)))
        refine (ih v.parts[i] (by have := DVal.depth_part hmem; omega) (hr.part hmem) (hp.2.2.2.2.2.2.2.2 _ hmem) (by have := DVal.weight_part hmem; omega) (k := k) (by omega) hW2 (by simp only [List.length_append] at hkl hlen ⊢; omega)).wf.mono ?_
        rintro _ T3 ⟨⟨rfl, hW3, hF3⟩, hT3⟩
        have hx3 := hF3.box S.next _ _ (by omega) hx2
        have hn3 : T2.next ≤ T3.next := hF3.next
        (simp (disch := first | decide | omega | (simp only [nx]; first | done | omega)) only [go_sem, Nat.reduceMul, q42, w1]; (repeat (with_reducible refine And.intro (by first | omega | assumption | rfl) ?_)))
        refine ⟨hlt, T3.ob, fun _ _ h => h, by omega, by (first | (simp (disch := first | decide | omega | (simp only [nx]; first | done | omega)) only [go_sem, Nat.reduceMul]; first | done | rfl) | rfl), ?_, (hFa.trans hF2).trans hF3, hx3, by show S.next < T3.next; omega⟩
        show WAt k _ T3
        rw [vpartB_succ, hpe]
        simpa [List.append_assoc] using hW3
      · have b6 := kne 5 k5
        have hin : i < v.ids.length := by have := hh.2.2; have := hh.1 k5; omega
        have hke : vkeyB v i = numB v.ids[i] := by rw [vkeyB, if_neg k5, getD_at hin]
        (simp (disch := first | decide | omega | (simp only [nx]; first | done | omega)) only [go_sem, Nat.reduceMul, q0, q3, q40, q41, q42, b5, hx, St.add_set, hxa, b6]; (repeat (with_reducible refine And.intro (by first | omega | assumption | rfl) ?_)))
        refine (number_w v.ids[i] (isU64 (hp.2.2.2.2.2.1 _ (List.getElem_mem hin))) (k := k) (by show k < T.next + 1; omega) hWa (by omega)).mono ?_
        rintro _ T2 ⟨rfl, hW2, hF2⟩
        rw [show numB v.ids[i] = vkeyB v i from hke.symm] at hW2
        have hx2 := hF2.box S.next _ _ (by omega) hxa
        have hxp := hF2.box T.next 28 (encV v.parts[i]).cells (by omega) hpa
        have hn2 : T.next + 1 ≤ T2.next := hF2.next
        (simp (disch := first | decide | omega | (simp only [nx]; first | done | omega)) only [go_sem, Nat.reduceMul, hxp, q0]; (repeat (with_reducible refine And.intro (by first | omega | assumption | rfl) ?_)))
        refine (ih v.parts[i] (by have := DVal.depth_part hmem; omega) (hr.part hmem) (hp.2.2.2.2.2.2.2.2 _ hmem) (by have := DVal.weight_part hmem; omega) (k := k) (by omega) hW2 (by simp only [List.length_append] at hkl hlen ⊢; omega)).wf.mono ?_
        rintro _ T3 ⟨⟨rfl, hW3, hF3⟩, hT3⟩
        have hx3 := hF3.box S.next _ _ (by omega) hx2
        have hn3 : T2.next ≤ T3.next := hF3.next
        (simp (disch := first | decide | omega | (simp only [nx]; first | done | omega)) only [go_sem, Nat.reduceMul, q42, w1]; (repeat (with_reducible refine And.intro (by first | omega | assumption | rfl) ?_)))
        refine ⟨hlt, T3.ob, fun _ _ h => h, by omega, by (first | (simp (disch := first | decide | omega | (simp only [nx]; first | done | omega)) only [go_sem, Nat.reduceMul]; first | done | rfl) | rfl), ?_, (hFa.trans hF2).trans hF3, hx3, by show S.next < T3.next; omega⟩
        show WAt k _ T3
        rw [vpartB_succ, hpe]
        simpa [List.append_assoc] using hW3
    · have b5 : decide ((i : Int) < (v.parts.length : Int)) = false := by simp; omega
      (simp (disch := first | decide | omega | (simp only [nx]; first | done | omega)) only [go_sem, Nat.reduceMul, q0, q3, q40, q41, q42, b5]; (repeat (with_reducible refine And.intro (by first | omega | assumption | rfl) ?_)))
      have e : i = v.parts.length := by omega
      rw [e, List.append_assoc] at hW
      exact ⟨hW, hF⟩
end Go.Proofs.Ytjjhjhjphhpeiaa

namespace Go.Proofs.Ytjjhjhjphhpeiaa
open Go.RowKit
set_option linter.unusedSimpArgs false
set_option linter.unusedVariables false
/-- An error's number. -/
def errD (n : Int) : D := .ifc 84 (.v (.int .i64 n))
def bytesOfV (v : DVal) : List UInt8 := bytesV v.depth v
def encRes (v : DVal) : D :=
  if rightV 5 v = false then .tup [.sl .no [], errD 1]
  else if 4096 < (bytesOfV v).length then .tup [.sl .no [], errD 3]
  else .tup [.sl .no ((bytesOfV v).map bD), .v .nilIface]
theorem closed_bD (l : List UInt8) : allL (fun _ => False) (l.map bD) := allL_iff.2 fun d hd => by
  obtain ⟨b, _, rfl⟩ := List.mem_map.1 hd
  simp [bD, D.all]
theorem frz_bD (l : List UInt8) : frzL (l.map bD) = l.map bD := by
  induction l with
  | nil => rfl
  | cons b l ih => simp only [List.map_cons, frzL, ih]; rfl
theorem encRes_closed (v : DVal) : (encRes v).closed := by
  unfold encRes errD
  split
  · simp [D.closed, D.all, allL, Own.all]
  · split
    · simp [D.closed, D.all, allL, Own.all]
    · simp only [D.closed, D.all, allL, Own.all]
      exact ⟨⟨trivial, closed_bD _⟩, trivial, trivial⟩
set_option maxRecDepth 200000 in
set_option maxHeartbeats 4000000 in
theorem encode_d (v : DVal) (ho : okV v) (hw : v.weight ≤ 100000) : DPure Try.prog 31 [encV v] (encRes v) := by
  refine dpure_of_dwp mixed Try.func31 rfl (fun _ _ => by kernel_rfl) (rs := [.tmp 2, .tmp 3]) rfl (by kernel_rfl) (encRes_closed v) (fun S hS => ?_)
  (simp (disch := first | decide | omega | (simp only [nx]; first | done | omega)) only [go_sem, Nat.reduceMul]; (repeat (with_reducible refine And.intro (by first | omega | assumption | rfl) ?_)))
  refine DCalls.of_pure (valRight_d v ho) ?_
  cases hR : rightV 5 v
  · (simp (disch := first | decide | omega | (simp only [nx]; first | done | omega)) only [go_sem, Nat.reduceMul]; (repeat (with_reducible refine And.intro (by first | omega | assumption | rfl) ?_)))
    refine ⟨?_, (by (repeat' first | assumption | exact St.Sub.refl _ | exact RowOk.sub (by assumption) (by assumption) | refine St.Sub.trans ?_ (RowOk.sub (by assumption) (by assumption)) | refine St.Sub.add ?_ ?_ _ | refine St.Sub.set ?_ ?_ ?_ _ | refine St.Sub.keep ?_ ?_ | refine St.WF.leave ?_ _ | refine St.WF.add ?_ _ | refine St.WF.set ?_ ?_ _ | refine St.WF.grow ?_ _ _ _ | refine St.WF.keep ?_ ?_ | (first | omega | (simp only [RowOk.lo, nx]; first | done | omega))))⟩
    rw [encRes, if_pos hR]
    rfl
  · have hr := RV.of_right hR
    (simp (disch := first | decide | omega | (simp only [nx]; first | done | omega)) only [go_sem, Nat.reduceMul]; (repeat (with_reducible refine And.intro (by first | omega | assumption | rfl) ?_)))
    refine (valWrite_w v.depth v (k := S.next + 1) (bs := []) (Nat.le_refl _) hr ho hw (by simp only [add_next]; omega) ⟨.full, by (first | (simp (disch := first | decide | omega | (simp only [nx]; first | done | omega)) only [go_sem, Nat.reduceMul]; first | done | rfl) | rfl), .inl ⟨rfl, rfl⟩⟩ (by simp; omega)).wf.mono ?_
    rintro _ T ⟨⟨rfl, hW, hF⟩, hT⟩
    have hbl := bytesV_len v.depth v (Nat.le_refl _) hr ho
    rw [List.nil_append] at hW
    (simp (disch := first | decide | omega | (simp only [nx]; first | done | omega)) only [go_sem, Nat.reduceMul]; (repeat (with_reducible refine And.intro (by first | omega | assumption | rfl) ?_)))
    refine (out_w hW (by omega)).wf.mono ?_
    rintro _ T1 ⟨⟨o, rfl, hW1, hF1⟩, hT1⟩
    have hsub : S.Sub T1 := by
      have h1 := hF.trans hF1
      have hn := h1.next
      simp only [add_next] at hn
      exact ⟨by omega, fun j o' hj => h1.ob j o' (.inl (by have := hS.lt hj; omega)) (by have := hS.lt hj; rw [ob_skip (by simp only [add_next]; omega), ob_skip (by omega)]; exact hj)⟩
    by_cases h4 : 4096 < (bytesV v.depth v).length
    · have b1 : decide ((4096 : Int) < ((bytesV v.depth v).length : Int)) = true := by simp; omega
      (simp (disch := first | decide | omega | (simp only [nx]; first | done | omega)) only [go_sem, Nat.reduceMul, b1]; (repeat (with_reducible refine And.intro (by first | omega | assumption | rfl) ?_)))
      refine ⟨?_, hsub⟩
      rw [encRes, if_neg (by rw [hR]; simp), if_pos (show 4096 < (bytesOfV v).length from h4)]
      rfl
    · have b1 : decide ((4096 : Int) < ((bytesV v.depth v).length : Int)) = false := by simp; omega
      (simp (disch := first | decide | omega | (simp only [nx]; first | done | omega)) only [go_sem, Nat.reduceMul, b1]; (repeat (with_reducible refine And.intro (by first | omega | assumption | rfl) ?_)))
      refine ⟨?_, hsub⟩
      rw [encRes, if_neg (by rw [hR]; simp), if_neg (show ¬ 4096 < (bytesOfV v).length from h4)]
      simp only [D.frz, frzL, frz_bD]
      rfl
end Go.Proofs.Ytjjhjhjphhpeiaa

namespace Go.Proofs.Ytjjhjhjphhpeiaa
open Go.RowKit
set_option linter.unusedSimpArgs false
set_option linter.unusedVariables false
theorem u8ne (x y : UInt8) : ((x.toNat : Int) != (y.toNat : Int)) = !decide (x = y) := by
  by_cases h : x = y
  · subst h; simp
  · have : ¬ ((x.toNat : Int) = (y.toNat : Int)) := fun e => h (UInt8.toNat_inj.1 (by omega))
    simp [h, this, bne]
set_option maxRecDepth 200000 in
set_option maxHeartbeats 8000000 in
theorem bytesEq_d (own own2 : Own) (p q : List UInt8) (hp : p.length ≤ 1000000) (hq : q.length ≤ 1000000) : DPure Try.prog 32 [.sl own (p.map bD), .sl own2 (q.map bD)] (.v (.bool (decide (p = q)))) := by
  refine dpure_of_dwp mixed Try.func32 rfl (fun _ _ => by kernel_rfl) (rs := [.tmp 4]) rfl (by kernel_rfl) trivial (fun S hS => ?_)
  by_cases hl : p.length = q.length
  · have b0 : ((p.length : Int) != (q.length : Int)) = false := by simp [hl]
    (simp (disch := first | decide | omega | (simp only [nx]; first | done | omega)) only [go_sem, Nat.reduceMul, b0]; (repeat (with_reducible refine And.intro (by first | omega | assumption | rfl) ?_)))
    (refine dloop_st (fun t => List.contains [4, 5, 11, 12, 13, 14, 15, 16, 17, 18, 19, 20, 21, 22, 23, 24, 25] t) (by kernel_rfl) ?_ (p.length) (fun i f => i ≤ p.length ∧ f 5 = .v (.int .i64 (i : Nat)) ∧ (∀ j, j < i → p[j]? = q[j]?)) ?_ ?_; (exact (by (repeat' first | assumption | refine St.WF.leave ?_ _ | refine St.WF.add ?_ _ | refine St.WF.set ?_ ?_ _ | refine St.WF.grow ?_ _ _ _ | refine St.WF.keep ?_ ?_ | (first | omega | (simp only [RowOk.lo, nx]; first | done | omega))))); (exact ⟨(by omega), (by (first | (simp (disch := first | decide | omega | (simp only [nx]; first | done | omega)) only [go_sem, Nat.reduceMul]; first | done | rfl) | rfl)), (fun j hj => by omega)⟩); intro i g tn hn hT hg hI; obtain ⟨le, q5, hsame⟩ := hI; have q0 := hg 0 rfl; have q1 := hg 1 rfl; simp (disch := first | decide | omega | (simp only [nx]; first | done | omega)) only [go_sem, Nat.reduceMul] at q0 q1; clear hg; have hn' := hn; try simp only [add_next, set_next, grow_next, leave_next, drop_next] at hn')
    by_cases hlt : i < p.length
    · have b1 : decide ((i : Int) < (p.length : Int)) = true := by simp; omega
      have w1 : IntKind.i64.wrap ((i : Int) + 1) = ((i + 1 : Nat) : Int) := IntWalk.i64_in _ ⟨by omega, by omega⟩
      have hlt2 : i < q.length := by omega
      by_cases hx : p[i] = q[i]
      · have b2 : (!decide (p[i] = q[i])) = false := by simp [hx]
        (simp (disch := first | decide | omega | (simp only [nx]; first | done | omega)) only [go_sem, Nat.reduceMul, q0, q1, q5, b1, w1]; (repeat (with_reducible refine And.intro (by first | omega | assumption | rfl) ?_)))
        refine ddraw_mk 9 (by kernel_rfl) ?_
        (simp (disch := first | decide | omega | (simp only [nx]; first | done | omega)) only [go_sem, Nat.reduceMul, q0, q1, q5, b1, b2, w1, bD_eq, u8ne]; (repeat (with_reducible refine And.intro (by first | omega | assumption | rfl) ?_)))
        (refine ⟨by omega, (by (repeat' first | assumption | exact St.Sub.refl _ | exact RowOk.sub (by assumption) (by assumption) | refine St.Sub.trans ?_ (RowOk.sub (by assumption) (by assumption)) | refine St.Sub.add ?_ ?_ _ | refine St.Sub.set ?_ ?_ ?_ _ | refine St.Sub.keep ?_ ?_ | refine St.WF.leave ?_ _ | refine St.WF.add ?_ _ | refine St.WF.set ?_ ?_ _ | refine St.WF.grow ?_ _ _ _ | refine St.WF.keep ?_ ?_ | (first | omega | (simp only [RowOk.lo, nx]; first | done | omega)))), ?_⟩; refine ⟨by omega, ?_, ?_⟩; all_goals (try (first | (simp (disch := first | decide | omega | (simp only [nx]; first | done | omega)) only [go_sem, Nat.reduceMul, w1]; first | done | rfl) | rfl)))
        intro j hj
        by_cases e : j = i
        · subst e; rw [List.getElem?_eq_getElem hlt, List.getElem?_eq_getElem hlt2, hx]
        · exact hsame j (by omega)
      · have b2 : (!decide (p[i] = q[i])) = true := by simp [hx]
        (simp (disch := first | decide | omega | (simp only [nx]; first | done | omega)) only [go_sem, Nat.reduceMul, q0, q1, q5, b1]; (repeat (with_reducible refine And.intro (by first | omega | assumption | rfl) ?_)))
        refine ddraw_mk 9 (by kernel_rfl) ?_
        (simp (disch := first | decide | omega | (simp only [nx]; first | done | omega)) only [go_sem, Nat.reduceMul, q0, q1, q5, b1, b2, bD_eq, u8ne]; (repeat (with_reducible refine And.intro (by first | omega | assumption | rfl) ?_)))
        refine ⟨?_, (by (repeat' first | assumption | exact St.Sub.refl _ | exact RowOk.sub (by assumption) (by assumption) | refine St.Sub.trans ?_ (RowOk.sub (by assumption) (by assumption)) | refine St.Sub.add ?_ ?_ _ | refine St.Sub.set ?_ ?_ ?_ _ | refine St.Sub.keep ?_ ?_ | refine St.WF.leave ?_ _ | refine St.WF.add ?_ _ | refine St.WF.set ?_ ?_ _ | refine St.WF.grow ?_ _ _ _ | refine St.WF.keep ?_ ?_ | (first | omega | (simp only [RowOk.lo, nx]; first | done | omega))))⟩
        rw [decide_eq_false]
        · rfl
        · intro e; subst e; exact hx rfl
    · have b1 : decide ((i : Int) < (p.length : Int)) = false := by simp; omega
      (simp (disch := first | decide | omega | (simp only [nx]; first | done | omega)) only [go_sem, Nat.reduceMul, q0, q1, q5, b1]; (repeat (with_reducible refine And.intro (by first | omega | assumption | rfl) ?_)))
      refine ⟨?_, (by (repeat' first | assumption | exact St.Sub.refl _ | exact RowOk.sub (by assumption) (by assumption) | refine St.Sub.trans ?_ (RowOk.sub (by assumption) (by assumption)) | refine St.Sub.add ?_ ?_ _ | refine St.Sub.set ?_ ?_ ?_ _ | refine St.Sub.keep ?_ ?_ | refine St.WF.leave ?_ _ | refine St.WF.add ?_ _ | refine St.WF.set ?_ ?_ _ | refine St.WF.grow ?_ _ _ _ | refine St.WF.keep ?_ ?_ | (first | omega | (simp only [RowOk.lo, nx]; first | done | omega))))⟩
      rw [decide_eq_true]
      · rfl
      · refine List.ext_getElem? fun j => ?_
        by_cases hj : j < i
        · exact hsame j hj
        · rw [List.getElem?_eq_none (by omega), List.getElem?_eq_none (by omega)]
  · have b0 : ((p.length : Int) != (q.length : Int)) = true := by simp; omega
    (simp (disch := first | decide | omega | (simp only [nx]; first | done | omega)) only [go_sem, Nat.reduceMul, b0]; (repeat (with_reducible refine And.intro (by first | omega | assumption | rfl) ?_)))
    refine ⟨?_, (by (repeat' first | assumption | exact St.Sub.refl _ | exact RowOk.sub (by assumption) (by assumption) | refine St.Sub.trans ?_ (RowOk.sub (by assumption) (by assumption)) | refine St.Sub.add ?_ ?_ _ | refine St.Sub.set ?_ ?_ ?_ _ | refine St.Sub.keep ?_ ?_ | refine St.WF.leave ?_ _ | refine St.WF.add ?_ _ | refine St.WF.set ?_ ?_ _ | refine St.WF.grow ?_ _ _ _ | refine St.WF.keep ?_ ?_ | (first | omega | (simp only [RowOk.lo, nx]; first | done | omega))))⟩
    rw [decide_eq_false]
    · rfl
    · intro e; subst e; exact hl rfl
end Go.Proofs.Ytjjhjhjphhpeiaa

namespace Go.Proofs.Ytjjhjhjphhpeiaa
open Go.RowKit
set_option linter.unusedSimpArgs false
set_option linter.unusedVariables false
theorem i64_5 : I64 5 := WalkArith.wf_i64 (by omega)
def exA : DVal := .mk 2 5 [] [] [] []
def exB : DVal := .mk 1 1 [] [] [] []
def exV8 : DVal := .mk 5 0 [] [[97], [98]] [] [exB, exA]
theorem ex_rec : recV [[98], [97]] [exA, exB] 2 = exV8 := by kernel_rfl
theorem ex_bytes : bytesOfV exV8 = [5, 2, 1, 97, 1, 1, 1, 98, 2, 10] := by
  have e1 : bytesV 1 exA = [2, 10] := by
    simp [bytesV, vheadB, vkindB, exA, DVal.kind, DVal.n, DVal.parts, zig, numB_lt]
    decide
  have e2 : bytesV 1 exB = [1, 1] := by
    simp [bytesV, vheadB, vkindB, exB, DVal.kind, DVal.n, DVal.parts]
  show bytesV 2 exV8 = _
  have h : bytesV 2 exV8 = vheadB exV8 ++ (List.range exV8.parts.length).flatMap fun i => vkeyB exV8 i ++ bytesV 1 (exV8.parts.getD i default) := rfl
  rw [h]
  have h2 : List.range exV8.parts.length = [0, 1] := rfl
  rw [h2]
  have p0 : exV8.parts.getD 0 default = exB := rfl
  have p1 : exV8.parts.getD 1 default = exA := rfl
  simp only [List.flatMap_cons, List.flatMap_nil, p0, p1, e1, e2]
  have k0 : vkeyB exV8 0 = [1, 97] := by
    show numB 1 ++ [97] = _
    rw [numB_lt _ (by omega)]; rfl
  have k1 : vkeyB exV8 1 = [1, 98] := by
    show numB 1 ++ [98] = _
    rw [numB_lt _ (by omega)]; rfl
  have hh : vheadB exV8 = [5, 2] := by
    show vkindB exV8 :: numB 2 = _
    rw [numB_lt _ (by omega)]; rfl
  rw [k0, k1, hh]
  rfl
theorem ex_enc : encRes exV8 = .tup [.sl .no (([5, 2, 1, 97, 1, 1, 1, 98, 2, 10] : List UInt8).map bD), .v .nilIface] := by
  have hr : rightV 5 exV8 = true := by kernel_rfl
  rw [encRes, if_neg (by rw [hr]; simp), ex_bytes, if_neg (by simp)]
set_option maxRecDepth 200000 in
set_option maxHeartbeats 4000000 in
theorem awake08_d : DPure Try.prog 9 [] (.v (.bool true)) := by
  refine dpure_of_dwp mixed Try.func9 rfl (fun _ _ => by kernel_rfl) (rs := [.tmp 0]) rfl (by kernel_rfl) trivial (fun S hS => ?_)
  (simp (disch := first | decide | omega | (simp only [nx]; first | done | omega)) only [go_sem, Nat.reduceMul]; (repeat (with_reducible refine And.intro (by first | omega | assumption | rfl) ?_)))
  have hrec := record_d .no .no [[98], [97]] [exA, exB] (by simp) (by simp) (by
    intro p hp
    simp only [List.mem_cons, List.not_mem_nil, or_false] at hp
    rcases hp with rfl | rfl <;> (rw [DVal.weight_eq]; simp [exA, exB, DVal.names, DVal.ids, DVal.parts, DVal.weights])) (by
    intro x hx
    simp only [List.mem_cons, List.not_mem_nil, or_false] at hx
    rcases hx with rfl | rfl <;> simp [maxLen])
  rw [show min ([[98], [97]] : List Str).length [exA, exB].length = 2 from rfl, ex_rec] at hrec
  refine DCalls.of_pure (DPure.weak hrec (by
    simp only [frzL, D.frz, List.map_cons, List.map_nil, encV_eq]
    rfl)) ?_
  (simp (disch := first | decide | omega | (simp only [nx]; first | done | omega)) only [go_sem, Nat.reduceMul]; (repeat (with_reducible refine And.intro (by first | omega | assumption | rfl) ?_)))
  refine DCalls.of_pure (encode_d exV8 (by
    rw [okV_eq]
    refine ⟨i64_5, i64_0, by simp [exV8, DVal.s], ?_, by simp [exV8, DVal.names], by simp [exV8, DVal.ids], by simp [exV8, DVal.ids], by simp [exV8, DVal.parts], ?_⟩
    · intro x hx
      simp only [exV8, DVal.names, List.mem_cons, List.not_mem_nil, or_false] at hx
      rcases hx with rfl | rfl <;> simp [maxLen]
    · intro p hp
      simp only [exV8, DVal.parts, List.mem_cons, List.not_mem_nil, or_false] at hp
      rcases hp with rfl | rfl
      all_goals
        rw [okV_eq]
        refine ⟨?_, ?_, by simp [exA, exB, DVal.s], by simp [exA, exB, DVal.names], by simp [exA, exB, DVal.names], by simp [exA, exB, DVal.ids], by simp [exA, exB, DVal.ids], by simp [exA, exB, DVal.parts], by simp [exA, exB, DVal.parts]⟩ <;> exact WalkArith.wf_i64 (by simp [exA, exB, DVal.kind, DVal.n])) (by
    rw [DVal.weight_eq]; simp [exV8, exA, exB, DVal.names, DVal.ids, DVal.parts, DVal.weights, DVal.weight_eq])) ?_
  rw [ex_enc]
  (simp (disch := first | decide | omega | (simp only [nx]; first | done | omega)) only [go_sem, Nat.reduceMul]; (repeat (with_reducible refine And.intro (by first | omega | assumption | rfl) ?_)))
  have hbe := bytesEq_d .no .full [5, 2, 1, 97, 1, 1, 1, 98, 2, 10] [5, 2, 1, 97, 1, 1, 1, 98, 2, 10] (by simp) (by simp)
  rw [decide_eq_true rfl] at hbe
  refine DCalls.of_pure hbe ?_
  (simp (disch := first | decide | omega | (simp only [nx]; first | done | omega)) only [go_sem, Nat.reduceMul]; (repeat (with_reducible refine And.intro (by first | omega | assumption | rfl) ?_)))
  exact ⟨rfl, (by (repeat' first | assumption | exact St.Sub.refl _ | exact RowOk.sub (by assumption) (by assumption) | refine St.Sub.trans ?_ (RowOk.sub (by assumption) (by assumption)) | refine St.Sub.add ?_ ?_ _ | refine St.Sub.set ?_ ?_ ?_ _ | refine St.Sub.keep ?_ ?_ | refine St.WF.leave ?_ _ | refine St.WF.add ?_ _ | refine St.WF.set ?_ ?_ _ | refine St.WF.grow ?_ _ _ _ | refine St.WF.keep ?_ ?_ | (first | omega | (simp only [RowOk.lo, nx]; first | done | omega))))⟩
end Go.Proofs.Ytjjhjhjphhpeiaa
