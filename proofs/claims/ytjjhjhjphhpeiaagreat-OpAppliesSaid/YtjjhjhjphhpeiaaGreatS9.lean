/- Texts of a proof, part 9. Conditions: none. -/
import Derived.Test.YtjjhjhjphhpeiaaGreatS8
set_option linter.unusedVariables false
set_option linter.unusedSimpArgs false
namespace Go.Proofs.YtjjhjhjphhpeiaaGreat
open Go.RowKit
set_option linter.unusedSimpArgs false
set_option linter.unusedVariables false
/-- A list, by itself. -/
def listV (is : List Nat) (ps : List DVal) : DVal := .mk 6 0 [] [] is ps
def outL (d1 d2 : D) : List D := [.v (.int .i64 6), .v (.int .i64 0), .v (.string ⟨#[]⟩), .sl .full [], d1, d2]
/-- Where the last element with a number stands, behind it; or the end. -/
def lastP (l : List Nat) (x : Nat) : Nat → Nat
  | 0 => l.length
  | i + 1 => if l.getD i 0 = x ∧ i < l.length then i + 1 else lastP l x i
theorem lastP_mem {l : List Nat} (hn : l.Nodup) {x : Nat} (hm : x ∈ l) : ∀ i, ixN l x < i → i ≤ l.length → lastP l x i = ixN l x + 1
  | 0, h, _ => by omega
  | i + 1, h, hi => by
    have hlt : i < l.length := by omega
    have hk := ix_lt hm
    have hix : l[ixN l x] = x := List.getElem_idxOf (x := x) (xs := l) hk
    unfold lastP
    rw [getD_at hlt]
    by_cases e : l[i] = x
    · rw [if_pos ⟨e, hlt⟩]
      have : i = ixN l x := by
        by_cases hh : i = ixN l x
        · exact hh
        · rcases Nat.lt_or_gt_of_ne hh with h1 | h1
          · omega
          · exact absurd (hix.trans e.symm) (List.pairwise_iff_getElem.1 hn _ _ hk hlt h1)
      omega
    · rw [if_neg (fun h => e h.1)]
      refine lastP_mem hn hm i ?_ (by omega)
      rcases Nat.lt_or_ge (ixN l x) i with h1 | h1
      · exact h1
      · have h2 : ixN l x = i := by omega
        have h3 : l[i] = x := by
          have h4 := hix
          simp only [h2] at h4
          exact h4
        exact absurd h3 e
theorem lastP_no {l : List Nat} {x : Nat} (hm : x ∉ l) : ∀ i, i ≤ l.length → lastP l x i = l.length
  | 0, _ => rfl
  | i + 1, hi => by
    have hlt : i < l.length := by omega
    unfold lastP
    rw [getD_at hlt, if_neg (show ¬ (l[i] = x ∧ i < l.length) from fun h => hm (h.1 ▸ List.getElem_mem hlt))]
    exact lastP_no hm i (by omega)
set_option maxRecDepth 200000 in
set_option maxHeartbeats 8000000 in
theorem refIn_d (v x : DVal) (id after : Nat) (hl : v.parts.length = v.ids.length) (hn : v.ids.length ≤ 1000) (hd : v.ids.Nodup) :
    DPure Tryz.prog 18 [encV v, .v (uv id), .v (uv after), encV x] (encV (listV (v.ids.take (plK v after) ++ [id] ++ v.ids.drop (plK v after)) (v.parts.take (plK v after) ++ [x] ++ v.parts.drop (plK v after)))) := by
  refine dpure_of_dwp mixed Tryz.func18 rfl (fun _ _ => by kernel_rfl) (rs := [.cell 8 29]) rfl (by kernel_rfl) (closed_encV _) (fun S hS => ?_)
  (simp (disch := first | decide | omega | (simp only [nx]; first | done | omega)) only [go_sem, Nat.reduceMul, uv]; (repeat (with_reducible refine And.intro (by first | omega | assumption | rfl) ?_)))
  (refine dloop_st (fun t => List.contains [10, 11, 17, 18, 19, 20, 21, 22, 23, 24, 25, 26, 27, 28, 29, 30, 31, 32] t) (by kernel_rfl) ?_ (v.ids.length) (fun i f => i ≤ v.ids.length ∧ f 11 = .v (.int .i64 (i : Nat)) ∧ f 10 = .v (.int .i64 ((lastP v.ids after i : Nat) : Int))) ?_ ?_; (exact (by (repeat' first | assumption | refine St.WF.leave ?_ _ | refine St.WF.add ?_ _ | refine St.WF.set ?_ ?_ _ | refine St.WF.grow ?_ _ _ _ | refine St.WF.keep ?_ ?_ | (first | omega | (simp only [RowOk.lo, nx]; first | done | omega))))); (exact ⟨(by omega), (by (first | (simp (disch := first | decide | omega | (simp only [nx]; first | done | omega)) only [go_sem, Nat.reduceMul, lastP]; first | done | rfl) | rfl)), (by (first | (simp (disch := first | decide | omega | (simp only [nx]; first | done | omega)) only [go_sem, Nat.reduceMul, lastP]; first | done | rfl) | rfl))⟩); intro i g tn hn hT hg hI; obtain ⟨le, q11, q10⟩ := hI; have q1 := hg 1 rfl; have q2 := hg 2 rfl; have q4 := hg 4 rfl; have q7 := hg 7 rfl; have q8 := hg 8 rfl; have q9 := hg 9 rfl; simp (disch := first | decide | omega | (simp only [nx]; first | done | omega)) only [go_sem, Nat.reduceMul, lastP] at q1 q2 q4 q7 q8 q9; clear hg; have hn' := hn; try simp only [add_next, set_next, grow_next, leave_next, drop_next] at hn')
  by_cases hlt : i < v.ids.length
  · have b1 : decide ((i : Int) < (v.ids.length : Int)) = true := by simp; omega
    have w1 : IntKind.i64.wrap ((i : Int) + 1) = ((i + 1 : Nat) : Int) := IntWalk.i64_in _ ⟨by omega, by omega⟩
    by_cases hx : v.ids[i] = after
    · have b2 : ((v.ids[i] : Int) == (after : Int)) = true := by simp [hx]
      have hp : lastP v.ids after (i + 1) = i + 1 := by rw [lastP, if_pos ⟨by rw [getD_at hlt]; exact hx, hlt⟩]
      (simp (disch := first | decide | omega | (simp only [nx]; first | done | omega)) only [go_sem, Nat.reduceMul, q2, q4, q10, q11, b1, b2, w1, u64D]; (repeat (with_reducible refine And.intro (by first | omega | assumption | rfl) ?_)))
      (refine ⟨by omega, (by (repeat' first | assumption | exact St.Sub.refl _ | exact RowOk.sub (by assumption) (by assumption) | refine St.Sub.trans ?_ (RowOk.sub (by assumption) (by assumption)) | refine St.Sub.add ?_ ?_ _ | refine St.Sub.set ?_ ?_ ?_ _ | refine St.Sub.keep ?_ ?_ | refine St.WF.leave ?_ _ | refine St.WF.add ?_ _ | refine St.WF.set ?_ ?_ _ | refine St.WF.grow ?_ _ _ _ | refine St.WF.keep ?_ ?_ | (first | omega | (simp only [RowOk.lo, nx]; first | done | omega)))), ?_⟩; refine ⟨by omega, ?_, ?_⟩; all_goals (try (first | (simp (disch := first | decide | omega | (simp only [nx]; first | done | omega)) only [go_sem, Nat.reduceMul, w1, hp]; first | done | rfl) | rfl)))
    · have b2 : ((v.ids[i] : Int) == (after : Int)) = false := by simp; omega
      have hp : lastP v.ids after (i + 1) = lastP v.ids after i := by rw [lastP, if_neg (by rw [getD_at hlt]; exact fun h => hx h.1)]
      (simp (disch := first | decide | omega | (simp only [nx]; first | done | omega)) only [go_sem, Nat.reduceMul, q2, q4, q10, q11, b1, b2, w1, u64D]; (repeat (with_reducible refine And.intro (by first | omega | assumption | rfl) ?_)))
      (refine ⟨by omega, (by (repeat' first | assumption | exact St.Sub.refl _ | exact RowOk.sub (by assumption) (by assumption) | refine St.Sub.trans ?_ (RowOk.sub (by assumption) (by assumption)) | refine St.Sub.add ?_ ?_ _ | refine St.Sub.set ?_ ?_ ?_ _ | refine St.Sub.keep ?_ ?_ | refine St.WF.leave ?_ _ | refine St.WF.add ?_ _ | refine St.WF.set ?_ ?_ _ | refine St.WF.grow ?_ _ _ _ | refine St.WF.keep ?_ ?_ | (first | omega | (simp only [RowOk.lo, nx]; first | done | omega)))), ?_⟩; refine ⟨by omega, ?_, ?_⟩; all_goals (try (first | (simp (disch := first | decide | omega | (simp only [nx]; first | done | omega)) only [go_sem, Nat.reduceMul, w1, hp, q10]; first | done | rfl) | rfl)))
  · have b1 : decide ((i : Int) < (v.ids.length : Int)) = false := by simp; omega
    have hi : i = v.ids.length := by omega
    subst hi
    have hkl := plK_le v after
    -- where it comes in
    have hat : (after = 0 ∧ plK v after = 0) ∨ (after ≠ 0 ∧ plK v after = lastP v.ids after v.ids.length) := by
      by_cases h0 : after = 0
      · exact .inl ⟨h0, by rw [plK, if_pos h0]⟩
      · refine .inr ⟨h0, ?_⟩
        rw [plK, if_neg h0]
        by_cases hm : after ∈ v.ids
        · rw [if_pos hm, lastP_mem hd hm _ (ix_lt hm) (Nat.le_refl _)]
        · rw [if_neg hm, lastP_no hm _ (Nat.le_refl _)]
    rcases hat with ⟨h0, hk⟩ | ⟨h0, hk⟩
    · have b3 : ((after : Int) == 0) = true := by simp [h0]
      (simp (disch := first | decide | omega | (simp only [nx]; first | done | omega)) only [go_sem, Nat.reduceMul, q2, q4, q10, q11, b1, b3]; (repeat (with_reducible refine And.intro (by first | omega | assumption | rfl) ?_)))
      obtain ⟨T0, hT0e⟩ : ∃ T0 : St, T0 = ⟨tn, (((((S.add (.box 29 (encV v).cells)).add (.box 29 (encV x).cells)).add (.box 29 [.v (.int .i64 0), .v (.int .i64 0), .v (.string ⟨#[]⟩), .sl .full [], .sl .full [], .sl .full []])).add (.box 29 [.v (.int .i64 0), .v (.int .i64 0), .v (.string ⟨#[]⟩), .sl .full [], .sl .full [], .sl .full []])).set (S.next + 1 + 1 + 1) (.box 29 [.v (.int .i64 6), .v (.int .i64 0), .v (.string ⟨#[]⟩), .sl .full [], .sl .full [], .sl .full []])).ob⟩ := ⟨_, rfl⟩
      have hT0 : T0.WF := by rw [hT0e]; exact hT
      have hn0 : T0.next = tn := by rw [hT0e]
      have hF0 : S.Sub T0 := by rw [hT0e]; exact (by (repeat' first | assumption | exact St.Sub.refl _ | exact RowOk.sub (by assumption) (by assumption) | refine St.Sub.trans ?_ (RowOk.sub (by assumption) (by assumption)) | refine St.Sub.add ?_ ?_ _ | refine St.Sub.set ?_ ?_ ?_ _ | refine St.Sub.keep ?_ ?_ | refine St.WF.leave ?_ _ | refine St.WF.add ?_ _ | refine St.WF.set ?_ ?_ _ | refine St.WF.grow ?_ _ _ _ | refine St.WF.keep ?_ ?_ | (first | omega | (simp only [RowOk.lo, nx]; first | done | omega))))
      have u4 : T0.ob S.next = some (.box 29 (encV v).cells) := by rw [hT0e]; (first | (simp (disch := first | decide | omega | (simp only [nx]; first | done | omega)) only [go_sem, Nat.reduceMul]; first | done | rfl) | rfl)
      have u7 : T0.ob (S.next + 1) = some (.box 29 (encV x).cells) := by rw [hT0e]; (first | (simp (disch := first | decide | omega | (simp only [nx]; first | done | omega)) only [go_sem, Nat.reduceMul]; first | done | rfl) | rfl)
      have u8 : T0.ob (S.next + 1 + 1) = some (.box 29 [.v (.int .i64 0), .v (.int .i64 0), .v (.string ⟨#[]⟩), .sl .full [], .sl .full [], .sl .full []]) := by rw [hT0e]; (first | (simp (disch := first | decide | omega | (simp only [nx]; first | done | omega)) only [go_sem, Nat.reduceMul]; first | done | rfl) | rfl)
      have u9 : T0.ob (S.next + 1 + 1 + 1) = some (.box 29 [.v (.int .i64 6), .v (.int .i64 0), .v (.string ⟨#[]⟩), .sl .full [], .sl .full [], .sl .full []]) := by rw [hT0e]; (first | (simp (disch := first | decide | omega | (simp only [nx]; first | done | omega)) only [go_sem, Nat.reduceMul]; first | done | rfl) | rfl)
      rw [← hT0e]
      obtain ⟨lo, hlo⟩ : ∃ lo, lo = tn := ⟨_, rfl⟩
      obtain ⟨k, hkk⟩ : ∃ k, plK v after = k := ⟨_, rfl⟩
      rw [hkk] at hk hkl ⊢
      have heU : elT Tryz.prog 26 = some 36 := by kernel_rfl
      have heV : elT Tryz.prog 27 = some 29 := by kernel_rfl
      have hzU : szOf Tryz.prog 36 = 1 := by kernel_rfl
      have hzV : szOf Tryz.prog 29 = 6 := by kernel_rfl
      refine dloop_up (fun t => List.contains [12, 35, 36, 37, 38, 39, 40, 41, 42, 43, 44, 45, 46, 47, 48, 49, 50, 51, 52, 53, 54, 55, 56, 57, 58, 59, 60, 61, 62, 63, 64, 65, 66, 67, 68, 69, 70, 71, 72, 73, 74, 75, 76, 77, 78, 79, 80, 81] t) (by kernel_rfl) hT0 (v.ids.length + 1) (fun i g T => i ≤ v.ids.length + 1 ∧ g 12 = .v (.int .i64 ((i : Nat) : Int)) ∧ (∃ o1 o2, Two (S.next + 1 + 1 + 1) lo 36 29 outL ((insAt v.ids id k i).map u64D) ((insAt v.parts x k i).map encV) o1 o2 T) ∧ Fz (fun j => j ≠ S.next + 1 + 1 + 1 ∧ j < lo) T0 T ∧ lo ≤ T.next)
        ⟨by omega, by (first | (simp (disch := first | decide | omega | (simp only [nx]; first | done | omega)) only [go_sem, Nat.reduceMul]; first | done | rfl) | rfl), ⟨.full, .full, ⟨by rw [insAt_zero, insAt_zero]; exact u9, .inl ⟨rfl, by rw [insAt_zero]; rfl⟩, .inl ⟨rfl, by rw [insAt_zero]; rfl⟩⟩⟩, Fz.refl _ _, by omega⟩ ?_
      rintro i g2 T hT hgb ⟨le2, q12, ⟨o1, o2, h2⟩, hF, hln⟩
      (have q1b := hgb 1 rfl; have q4b := hgb 4 rfl; have q7b := hgb 7 rfl; have q8b := hgb 8 rfl; have q9b := hgb 9 rfl; have q10b := hgb 10 rfl; simp (disch := first | decide | omega | (simp only [nx]; first | done | omega)) only [go_sem, Nat.reduceMul, q1, q2, q4, q7, q8, q9, q10] at q1b q4b q7b q8b q9b q10b; clear hgb)
      have t4 := hF.ob _ _ ⟨by omega, by omega⟩ u4
      have t7 := hF.ob _ _ ⟨by omega, by omega⟩ u7
      have t8 := hF.ob _ _ ⟨by omega, by omega⟩ u8
      have t9 := h2.box
      by_cases hle : i ≤ v.ids.length
      · have b5 : decide ((i : Int) ≤ (v.ids.length : Int)) = true := by simp; omega
        have w5 : IntKind.i64.wrap ((i : Int) + 1) = ((i + 1 : Nat) : Int) := IntWalk.i64_in _ ⟨by omega, by omega⟩
        have wU : ∀ l : List Nat, ∀ d ∈ l.map u64D, d.width = szOf Tryz.prog 36 := fun l d hd => by rw [hzU]; exact wUs l d hd
        have wV : ∀ l : List DVal, ∀ d ∈ l.map encV, d.width = szOf Tryz.prog 29 := fun l d hd => by rw [hzV]; exact wVs l d hd
        have xU : ∀ n : Nat, (u64D n).width = szOf Tryz.prog 36 := fun n => by rw [hzU]; rfl
        have xV : ∀ p : DVal, (encV p).width = szOf Tryz.prog 29 := fun p => by rw [hzV]; exact cells_encV p
        have il1 := insAt_len v.ids id k i
        have il2 := insAt_len v.parts x k i
        have y4 : ∀ m m2, ((T.grow o1 36 m).grow o2 29 m2).ob S.next = some (.box 29 (encV v).cells) := fun m m2 => h2.at2 hT (by omega) t4
        have y9 : ∀ m m2, ((T.grow o1 36 m).grow o2 29 m2).ob (S.next + 1 + 1 + 1) = some (.box 29 (outL (.sl o1 ((insAt v.ids id k i).map u64D)) (.sl o2 ((insAt v.parts x k i).map encV)))) := fun m m2 => h2.at2 hT (by omega) t9
        by_cases hik : i = k
        · have b6 : ((i : Int) == (0 : Int)) = true := by simp; omega
          (simp (disch := first | decide | omega | (simp only [nx]; first | done | omega)) only [go_sem, Nat.reduceMul, q4b, q12, q10b, b5, b6, t4]; (repeat (with_reducible refine And.intro (by first | omega | assumption | rfl) ?_)))
          (refine ddraw_any (fun S' => S'.ob (S.next + 1) = some (.box 29 (encV x).cells) ∧ S'.ob (S.next + 1 + 1 + 1) = some (.box 29 (outL (.sl o1 ((insAt v.ids id k i).map u64D)) (.sl o2 ((insAt v.parts x k i).map encV))))) 11 (by (first | (simp (disch := first | decide | omega | (simp only [nx]; first | done | omega)) only [go_sem, Nat.reduceMul, t7, t9]; first | done | rfl) | rfl)) (by kernel_rfl) ?_; (refine s_take 0 rfl (by kernel_rfl) (by kernel_rfl) (v := ?v1) (fun S' hz => dquietR_of ?h1) <| s_take 1 rfl (by kernel_rfl) (by kernel_rfl) (v := ?v2) (fun S' hz => dquietR_of ?h2) <| s_take 2 rfl (by kernel_rfl) (by kernel_rfl) (v := ?v3) (fun S' hz => dquietR_of ?h3) <| s_take 3 rfl (by kernel_rfl) (by kernel_rfl) (v := ?v4) (fun S' hz => dquietR_of ?h4) <| s_take 5 rfl (by kernel_rfl) (by kernel_rfl) (v := ?v5) (fun S' hz => dquietR_of ?h5) <| s_take 6 rfl (by kernel_rfl) (by kernel_rfl) (v := ?v6) (fun S' hz => dquietR_of ?h6) <| s_take 7 rfl (by kernel_rfl) (by kernel_rfl) (v := ?v7) (fun S' hz => dquietR_of ?h7) <| s_take 8 rfl (by kernel_rfl) (by kernel_rfl) (v := ?v8) (fun S' hz => dquietR_of ?h8) <| ?k8; (case h1 | h2 | h3 | h4 | h5 | h6 | h7 | h8 => ((simp (disch := first | decide | omega | (simp only [nx]; first | done | omega)) only [go_sem, Nat.reduceMul, q1b, q7b, q9b, outL, hz]; (repeat (with_reducible refine And.intro (by first | omega | assumption | rfl) ?_))); first | done | exact rfl | omega))); (refine s_split [4] (by kernel_rfl) (by simp) ?_; intro j_ hj_; obtain rfl : j_ = 4 := (by simpa using hj_); clear hj_; refine s_op rfl ?_; (simp (disch := first | decide | omega | (simp only [nx]; first | done | omega)) only [go_sem, Nat.reduceMul]; (repeat (with_reducible refine And.intro (by first | omega | assumption | rfl) ?_)))); (refine dapp_at (lo := lo) heU (by kernel_rfl) h2.r1 (wU _) (xU id) (by simp (disch := first | decide | omega | (simp only [nx]; first | done | omega)) only [go_sem, Nat.reduceMul]; omega) (by simp (disch := first | decide | omega | (simp only [nx]; first | done | omega)) only [go_sem, Nat.reduceMul]; omega) ?_); (refine ⟨⟨h2.at1 hT (by omega) t7, h2.at1 hT (by omega) t9⟩, ?_⟩); (refine s_take 10 rfl (by kernel_rfl) (by kernel_rfl) (v := ?v9) (fun S' hz => dquietR_of ?h9) ?k9; (case h9 => ((simp (disch := first | decide | omega | (simp only [nx]; first | done | omega)) only [go_sem, Nat.reduceMul, q1b, q7b, q9b, outL, hz]; (repeat (with_reducible refine And.intro (by first | omega | assumption | rfl) ?_))); first | done | exact rfl | omega))); (refine s_split [9] (by kernel_rfl) (by simp) ?_; intro j_ hj_; obtain rfl : j_ = 9 := (by simpa using hj_); clear hj_; refine s_op rfl ?_; (simp (disch := first | decide | omega | (simp only [nx]; first | done | omega)) only [go_sem, Nat.reduceMul]; (repeat (with_reducible refine And.intro (by first | omega | assumption | rfl) ?_)))); (refine dapp_at (lo := lo) heV (by kernel_rfl) (h2.row2 hT (by decide)) (wV _) (xV x) (by simp (disch := first | decide | omega | (simp only [nx]; first | done | omega)) only [go_sem, Nat.reduceMul]; omega) (by simp (disch := first | decide | omega | (simp only [nx]; first | done | omega)) only [go_sem, Nat.reduceMul]; omega) ?_); (refine ⟨⟨h2.at2 hT (by omega) t7, h2.at2 hT (by omega) t9⟩, ?_⟩))
          (refine s_done (by kernel_rfl) ?_; (simp (disch := first | decide | omega | (simp only [nx]; first | done | omega)) only [go_sem, Nat.reduceMul, q9b, y9, outL, q4b, q12, y4]; (repeat (with_reducible refine And.intro (by first | omega | assumption | rfl) ?_))))
          have key := two_step h2 hT hln (by decide) (L1' := (insAt v.ids id k i).map u64D ++ [u64D id]) (L2' := (insAt v.parts x k i).map encV ++ [encV x]) (B := .box 29 (outL (.sl (.row T.next) ((insAt v.ids id k i).map u64D ++ [u64D id])) (.sl o2 ((insAt v.parts x k i).map encV)))) (m1 := (insAt v.ids id k i).length + 1) (m2 := (insAt v.parts x k i).length + 1) (by simp) (by simp)
          simp only [outL, u64D] at key
          revert key
          generalize St.set (St.set _ _ _) _ _ = T2
          rintro ⟨h3, hF3, hT2, hn3⟩
          obtain ⟨l1, hl1⟩ : ∃ l1, insAt v.ids id k i ++ [id] = l1 := ⟨_, rfl⟩
          obtain ⟨l2, hl2⟩ : ∃ l2, insAt v.parts x k i ++ [x] = l2 := ⟨_, rfl⟩
          have a1 : ∀ h : i < v.ids.length, insAt v.ids id k (i + 1) = l1 ++ [v.ids[i]] := fun h => by subst hik; rw [insAt_at2 h, hl1]
          have a2 : ∀ h : i < v.parts.length, insAt v.parts x k (i + 1) = l2 ++ [v.parts[i]] := fun h => by subst hik; rw [insAt_at2 h, hl2]
          have a3 : i = v.ids.length → insAt v.ids id k (i + 1) = l1 := fun h => by rw [← hl1, ← hik, h]; exact insAt_at3
          have a4 : i = v.parts.length → insAt v.parts x k (i + 1) = l2 := fun h => by rw [← hl2, ← hik, h]; exact insAt_at3
          have b1' : l1.length ≤ v.ids.length + 2 := by rw [← hl1]; simp; omega
          have b2' : l2.length ≤ v.parts.length + 2 := by rw [← hl2]; simp; omega
          have c1 : (insAt v.ids id k i).map u64D ++ [.v (.int .u64 (id : Nat))] = l1.map u64D := by rw [← hl1]; simp [u64D]
          have c2 : (insAt v.parts x k i).map encV ++ [encV x] = l2.map encV := by rw [← hl2]; simp
          rw [c1, c2] at h3
          have hF4 := hF.trans hF3
          have hln4 : lo ≤ T2.next := by omega
          clear hl1 hl2 c1 c2
          
          have t4' := hF4.ob _ _ ⟨by omega, by omega⟩ u4
          have t9' := h3.box
          have y4' : ∀ m m2, ((T2.grow (Own.row T.next) 36 m).grow (Own.row (T.next + 1)) 29 m2).ob S.next = some (.box 29 (encV v).cells) := fun m m2 => h3.at2 hT2 (by omega) t4'
          have y9' : ∀ m m2, ((T2.grow (Own.row T.next) 36 m).grow (Own.row (T.next + 1)) 29 m2).ob (S.next + 1 + 1 + 1) = some (.box 29 (outL (.sl (Own.row T.next) (l1.map u64D)) (.sl (Own.row (T.next + 1)) (l2.map encV)))) := fun m m2 => h3.at2 hT2 (by omega) t9'
          by_cases hlt : i < v.ids.length
          · have b7 : decide ((i : Int) < (v.ids.length : Int)) = true := by simp; omega
            have hlp : i < v.parts.length := by omega
            (simp (disch := first | decide | omega | (simp only [nx]; first | done | omega)) only [go_sem, Nat.reduceMul, q4b, q12, q9b, b7]; (repeat (with_reducible refine And.intro (by first | omega | assumption | rfl) ?_)))
            (refine ddraw_any (fun S' => S'.ob S.next = some (.box 29 (encV v).cells) ∧ S'.ob (S.next + 1 + 1 + 1) = some (.box 29 (outL (.sl (Own.row T.next) (l1.map u64D)) (.sl (Own.row (T.next + 1)) (l2.map encV))))) 19 (by (first | (simp (disch := first | decide | omega | (simp only [nx]; first | done | omega)) only [go_sem, Nat.reduceMul, t4', t9']; first | done | rfl) | rfl)) (by kernel_rfl) ?_; (refine s_take 0 rfl (by kernel_rfl) (by kernel_rfl) (v := ?v19) (fun S' hz => dquietR_of ?h19) <| s_take 1 rfl (by kernel_rfl) (by kernel_rfl) (v := ?v20) (fun S' hz => dquietR_of ?h20) <| s_take 2 rfl (by kernel_rfl) (by kernel_rfl) (v := ?v21) (fun S' hz => dquietR_of ?h21) <| s_take 3 rfl (by kernel_rfl) (by kernel_rfl) (v := ?v22) (fun S' hz => dquietR_of ?h22) <| s_take 4 rfl (by kernel_rfl) (by kernel_rfl) (v := ?v23) (fun S' hz => dquietR_of ?h23) <| s_take 5 rfl (by kernel_rfl) (by kernel_rfl) (v := ?v24) (fun S' hz => dquietR_of ?h24) <| s_take 6 rfl (by kernel_rfl) (by kernel_rfl) (v := ?v25) (fun S' hz => dquietR_of ?h25) <| s_take 7 rfl (by kernel_rfl) (by kernel_rfl) (v := ?v26) (fun S' hz => dquietR_of ?h26) <| s_take 9 rfl (by kernel_rfl) (by kernel_rfl) (v := ?v27) (fun S' hz => dquietR_of ?h27) <| s_take 10 rfl (by kernel_rfl) (by kernel_rfl) (v := ?v28) (fun S' hz => dquietR_of ?h28) <| s_take 11 rfl (by kernel_rfl) (by kernel_rfl) (v := ?v29) (fun S' hz => dquietR_of ?h29) <| s_take 12 rfl (by kernel_rfl) (by kernel_rfl) (v := ?v30) (fun S' hz => dquietR_of ?h30) <| s_take 13 rfl (by kernel_rfl) (by kernel_rfl) (v := ?v31) (fun S' hz => dquietR_of ?h31) <| s_take 14 rfl (by kernel_rfl) (by kernel_rfl) (v := ?v32) (fun S' hz => dquietR_of ?h32) <| s_take 15 rfl (by kernel_rfl) (by kernel_rfl) (v := ?v33) (fun S' hz => dquietR_of ?h33) <| s_take 16 rfl (by kernel_rfl) (by kernel_rfl) (v := ?v34) (fun S' hz => dquietR_of ?h34) <| ?k34; (case h19 | h20 | h21 | h22 | h23 | h24 | h25 | h26 | h27 | h28 | h29 | h30 | h31 | h32 | h33 | h34 => ((simp (disch := first | decide | omega | (simp only [nx]; first | done | omega)) only [go_sem, Nat.reduceMul, q4b, q9b, q12, outL, hlt, hlp, hz]; (repeat (with_reducible refine And.intro (by first | omega | assumption | rfl) ?_))); first | done | exact rfl | omega))); (refine s_split [8] (by kernel_rfl) (by simp) ?_; intro j_ hj_; obtain rfl : j_ = 8 := (by simpa using hj_); clear hj_; refine s_op rfl ?_; (simp (disch := first | decide | omega | (simp only [nx]; first | done | omega)) only [go_sem, Nat.reduceMul]; (repeat (with_reducible refine And.intro (by first | omega | assumption | rfl) ?_)))); (refine dapp_at (lo := lo) heU (by kernel_rfl) h3.r1 (wU _) (xU _) (by simp (disch := first | decide | omega | (simp only [nx]; first | done | omega)) only [go_sem, Nat.reduceMul]; omega) (by simp (disch := first | decide | omega | (simp only [nx]; first | done | omega)) only [go_sem, Nat.reduceMul]; omega) ?_); (refine ⟨⟨h3.at1 hT2 (by omega) t4', h3.at1 hT2 (by omega) t9'⟩, ?_⟩); (refine s_take 18 rfl (by kernel_rfl) (by kernel_rfl) (v := ?v35) (fun S' hz => dquietR_of ?h35) ?k35; (case h35 => ((simp (disch := first | decide | omega | (simp only [nx]; first | done | omega)) only [go_sem, Nat.reduceMul, q4b, q9b, q12, outL, hlt, hlp, hz]; (repeat (with_reducible refine And.intro (by first | omega | assumption | rfl) ?_))); first | done | exact rfl | omega))); (refine s_split [17] (by kernel_rfl) (by simp) ?_; intro j_ hj_; obtain rfl : j_ = 17 := (by simpa using hj_); clear hj_; refine s_op rfl ?_; (simp (disch := first | decide | omega | (simp only [nx]; first | done | omega)) only [go_sem, Nat.reduceMul]; (repeat (with_reducible refine And.intro (by first | omega | assumption | rfl) ?_)))); (refine dapp_at (lo := lo) heV (by kernel_rfl) (h3.row2 hT2 (by decide)) (wV _) (xV _) (by simp (disch := first | decide | omega | (simp only [nx]; first | done | omega)) only [go_sem, Nat.reduceMul]; omega) (by simp (disch := first | decide | omega | (simp only [nx]; first | done | omega)) only [go_sem, Nat.reduceMul]; omega) ?_); (refine ⟨⟨h3.at2 hT2 (by omega) t4', h3.at2 hT2 (by omega) t9'⟩, ?_⟩))
            (refine s_done (by kernel_rfl) ?_; (simp (disch := first | decide | omega | (simp only [nx]; first | done | omega)) only [go_sem, Nat.reduceMul, q9b, y9', outL, q4b, q12, y4', w5]; (repeat (with_reducible refine And.intro (by first | omega | assumption | rfl) ?_))))
            have key := two_step h3 hT2 hln4 (by decide) (L1' := l1.map u64D ++ [u64D v.ids[i]]) (L2' := l2.map encV ++ [encV v.parts[i]]) (B := .box 29 (outL (.sl (.row T2.next) (l1.map u64D ++ [u64D v.ids[i]])) (.sl (Own.row (T.next + 1)) (l2.map encV)))) (m1 := l1.length + 1) (m2 := l2.length + 1) (by simp) (by simp)
            simp only [outL, u64D] at key
            revert key
            generalize St.set (St.set _ _ _) _ _ = T5
            rintro ⟨h5, hF5, hT5, hn5⟩
            refine ⟨by omega, T5.ob, fun _ _ h => h, by omega, by (first | (simp (disch := first | decide | omega | (simp only [nx]; first | done | omega)) only [go_sem, Nat.reduceMul]; first | done | rfl) | rfl), ⟨(.row T2.next), (.row (T2.next + 1)), ?_⟩, (hF4.trans hF5).mono fun _ h => ⟨h.1, h.2⟩, by show lo ≤ T5.next; omega⟩
            rw [a1 hlt, a2 hlp, List.map_append, List.map_append]
            exact h5
          · have b7 : decide ((i : Int) < (v.ids.length : Int)) = false := by simp; omega
            (simp (disch := first | decide | omega | (simp only [nx]; first | done | omega)) only [go_sem, Nat.reduceMul, q4b, q12, q9b, b7, w5]; (repeat (with_reducible refine And.intro (by first | omega | assumption | rfl) ?_)))
            have hie : i = v.ids.length := by omega
            refine ⟨by omega, T2.ob, fun _ _ h => h, by omega, by (first | (simp (disch := first | decide | omega | (simp only [nx]; first | done | omega)) only [go_sem, Nat.reduceMul]; first | done | rfl) | rfl), ⟨(Own.row T.next), (Own.row (T.next + 1)), ?_⟩, hF4.mono fun _ h => ⟨h.1, h.2⟩, hln4⟩
            rw [a3 hie, a4 (by omega)]
            exact h3

        · have b6 : ((i : Int) == (0 : Int)) = false := by simp; omega
          (simp (disch := first | decide | omega | (simp only [nx]; first | done | omega)) only [go_sem, Nat.reduceMul, q4b, q12, q10b, b5, b6, t4]; (repeat (with_reducible refine And.intro (by first | omega | assumption | rfl) ?_)))
          obtain ⟨l1, hl1⟩ : ∃ l1, insAt v.ids id k i = l1 := ⟨_, rfl⟩
          obtain ⟨l2, hl2⟩ : ∃ l2, insAt v.parts x k i = l2 := ⟨_, rfl⟩
          have a1 : ∀ h : i < v.ids.length, insAt v.ids id k (i + 1) = l1 ++ [v.ids[i]] := fun h => by rw [insAt_lt hik h, hl1]
          have a2 : ∀ h : i < v.parts.length, insAt v.parts x k (i + 1) = l2 ++ [v.parts[i]] := fun h => by rw [insAt_lt hik h, hl2]
          have a3 : i = v.ids.length → insAt v.ids id k (i + 1) = l1 := fun h => by rw [← hl1, h]; exact insAt_past (by omega)
          have a4 : i = v.parts.length → insAt v.parts x k (i + 1) = l2 := fun h => by rw [← hl2, h]; exact insAt_past (by omega)
          have b1' : l1.length ≤ v.ids.length + 2 := by rw [← hl1]; omega
          have b2' : l2.length ≤ v.parts.length + 2 := by rw [← hl2]; omega
          rw [hl1, hl2] at h2
          clear hl1 hl2
          
          have t4' := hF.ob _ _ ⟨by omega, by omega⟩ u4
          have t9' := h2.box
          have y4' : ∀ m m2, ((T.grow o1 36 m).grow o2 29 m2).ob S.next = some (.box 29 (encV v).cells) := fun m m2 => h2.at2 hT (by omega) t4'
          have y9' : ∀ m m2, ((T.grow o1 36 m).grow o2 29 m2).ob (S.next + 1 + 1 + 1) = some (.box 29 (outL (.sl o1 (l1.map u64D)) (.sl o2 (l2.map encV)))) := fun m m2 => h2.at2 hT (by omega) t9'
          by_cases hlt : i < v.ids.length
          · have b7 : decide ((i : Int) < (v.ids.length : Int)) = true := by simp; omega
            have hlp : i < v.parts.length := by omega
            (simp (disch := first | decide | omega | (simp only [nx]; first | done | omega)) only [go_sem, Nat.reduceMul, q4b, q12, q9b, b7]; (repeat (with_reducible refine And.intro (by first | omega | assumption | rfl) ?_)))
            (refine ddraw_any (fun S' => S'.ob S.next = some (.box 29 (encV v).cells) ∧ S'.ob (S.next + 1 + 1 + 1) = some (.box 29 (outL (.sl o1 (l1.map u64D)) (.sl o2 (l2.map encV))))) 19 (by (first | (simp (disch := first | decide | omega | (simp only [nx]; first | done | omega)) only [go_sem, Nat.reduceMul, t4', t9']; first | done | rfl) | rfl)) (by kernel_rfl) ?_; (refine s_take 0 rfl (by kernel_rfl) (by kernel_rfl) (v := ?v36) (fun S' hz => dquietR_of ?h36) <| s_take 1 rfl (by kernel_rfl) (by kernel_rfl) (v := ?v37) (fun S' hz => dquietR_of ?h37) <| s_take 2 rfl (by kernel_rfl) (by kernel_rfl) (v := ?v38) (fun S' hz => dquietR_of ?h38) <| s_take 3 rfl (by kernel_rfl) (by kernel_rfl) (v := ?v39) (fun S' hz => dquietR_of ?h39) <| s_take 4 rfl (by kernel_rfl) (by kernel_rfl) (v := ?v40) (fun S' hz => dquietR_of ?h40) <| s_take 5 rfl (by kernel_rfl) (by kernel_rfl) (v := ?v41) (fun S' hz => dquietR_of ?h41) <| s_take 6 rfl (by kernel_rfl) (by kernel_rfl) (v := ?v42) (fun S' hz => dquietR_of ?h42) <| s_take 7 rfl (by kernel_rfl) (by kernel_rfl) (v := ?v43) (fun S' hz => dquietR_of ?h43) <| s_take 9 rfl (by kernel_rfl) (by kernel_rfl) (v := ?v44) (fun S' hz => dquietR_of ?h44) <| s_take 10 rfl (by kernel_rfl) (by kernel_rfl) (v := ?v45) (fun S' hz => dquietR_of ?h45) <| s_take 11 rfl (by kernel_rfl) (by kernel_rfl) (v := ?v46) (fun S' hz => dquietR_of ?h46) <| s_take 12 rfl (by kernel_rfl) (by kernel_rfl) (v := ?v47) (fun S' hz => dquietR_of ?h47) <| s_take 13 rfl (by kernel_rfl) (by kernel_rfl) (v := ?v48) (fun S' hz => dquietR_of ?h48) <| s_take 14 rfl (by kernel_rfl) (by kernel_rfl) (v := ?v49) (fun S' hz => dquietR_of ?h49) <| s_take 15 rfl (by kernel_rfl) (by kernel_rfl) (v := ?v50) (fun S' hz => dquietR_of ?h50) <| s_take 16 rfl (by kernel_rfl) (by kernel_rfl) (v := ?v51) (fun S' hz => dquietR_of ?h51) <| ?k51; (case h36 | h37 | h38 | h39 | h40 | h41 | h42 | h43 | h44 | h45 | h46 | h47 | h48 | h49 | h50 | h51 => ((simp (disch := first | decide | omega | (simp only [nx]; first | done | omega)) only [go_sem, Nat.reduceMul, q4b, q9b, q12, outL, hlt, hlp, hz]; (repeat (with_reducible refine And.intro (by first | omega | assumption | rfl) ?_))); first | done | exact rfl | omega))); (refine s_split [8] (by kernel_rfl) (by simp) ?_; intro j_ hj_; obtain rfl : j_ = 8 := (by simpa using hj_); clear hj_; refine s_op rfl ?_; (simp (disch := first | decide | omega | (simp only [nx]; first | done | omega)) only [go_sem, Nat.reduceMul]; (repeat (with_reducible refine And.intro (by first | omega | assumption | rfl) ?_)))); (refine dapp_at (lo := lo) heU (by kernel_rfl) h2.r1 (wU _) (xU _) (by simp (disch := first | decide | omega | (simp only [nx]; first | done | omega)) only [go_sem, Nat.reduceMul]; omega) (by simp (disch := first | decide | omega | (simp only [nx]; first | done | omega)) only [go_sem, Nat.reduceMul]; omega) ?_); (refine ⟨⟨h2.at1 hT (by omega) t4', h2.at1 hT (by omega) t9'⟩, ?_⟩); (refine s_take 18 rfl (by kernel_rfl) (by kernel_rfl) (v := ?v52) (fun S' hz => dquietR_of ?h52) ?k52; (case h52 => ((simp (disch := first | decide | omega | (simp only [nx]; first | done | omega)) only [go_sem, Nat.reduceMul, q4b, q9b, q12, outL, hlt, hlp, hz]; (repeat (with_reducible refine And.intro (by first | omega | assumption | rfl) ?_))); first | done | exact rfl | omega))); (refine s_split [17] (by kernel_rfl) (by simp) ?_; intro j_ hj_; obtain rfl : j_ = 17 := (by simpa using hj_); clear hj_; refine s_op rfl ?_; (simp (disch := first | decide | omega | (simp only [nx]; first | done | omega)) only [go_sem, Nat.reduceMul]; (repeat (with_reducible refine And.intro (by first | omega | assumption | rfl) ?_)))); (refine dapp_at (lo := lo) heV (by kernel_rfl) (h2.row2 hT (by decide)) (wV _) (xV _) (by simp (disch := first | decide | omega | (simp only [nx]; first | done | omega)) only [go_sem, Nat.reduceMul]; omega) (by simp (disch := first | decide | omega | (simp only [nx]; first | done | omega)) only [go_sem, Nat.reduceMul]; omega) ?_); (refine ⟨⟨h2.at2 hT (by omega) t4', h2.at2 hT (by omega) t9'⟩, ?_⟩))
            (refine s_done (by kernel_rfl) ?_; (simp (disch := first | decide | omega | (simp only [nx]; first | done | omega)) only [go_sem, Nat.reduceMul, q9b, y9', outL, q4b, q12, y4', w5]; (repeat (with_reducible refine And.intro (by first | omega | assumption | rfl) ?_))))
            have key := two_step h2 hT hln (by decide) (L1' := l1.map u64D ++ [u64D v.ids[i]]) (L2' := l2.map encV ++ [encV v.parts[i]]) (B := .box 29 (outL (.sl (.row T.next) (l1.map u64D ++ [u64D v.ids[i]])) (.sl o2 (l2.map encV)))) (m1 := l1.length + 1) (m2 := l2.length + 1) (by simp) (by simp)
            simp only [outL, u64D] at key
            revert key
            generalize St.set (St.set _ _ _) _ _ = T5
            rintro ⟨h5, hF5, hT5, hn5⟩
            refine ⟨by omega, T5.ob, fun _ _ h => h, by omega, by (first | (simp (disch := first | decide | omega | (simp only [nx]; first | done | omega)) only [go_sem, Nat.reduceMul]; first | done | rfl) | rfl), ⟨(.row T.next), (.row (T.next + 1)), ?_⟩, (hF.trans hF5).mono fun _ h => ⟨h.1, h.2⟩, by show lo ≤ T5.next; omega⟩
            rw [a1 hlt, a2 hlp, List.map_append, List.map_append]
            exact h5
          · have b7 : decide ((i : Int) < (v.ids.length : Int)) = false := by simp; omega
            (simp (disch := first | decide | omega | (simp only [nx]; first | done | omega)) only [go_sem, Nat.reduceMul, q4b, q12, q9b, b7, w5]; (repeat (with_reducible refine And.intro (by first | omega | assumption | rfl) ?_)))
            have hie : i = v.ids.length := by omega
            refine ⟨by omega, T.ob, fun _ _ h => h, by omega, by (first | (simp (disch := first | decide | omega | (simp only [nx]; first | done | omega)) only [go_sem, Nat.reduceMul]; first | done | rfl) | rfl), ⟨o1, o2, ?_⟩, hF.mono fun _ h => ⟨h.1, h.2⟩, hln⟩
            rw [a3 hie, a4 (by omega)]
            exact h2

      · have b5 : decide ((i : Int) ≤ (v.ids.length : Int)) = false := by simp; omega
        have hi : i = v.ids.length + 1 := by omega
        (simp (disch := first | decide | omega | (simp only [nx]; first | done | omega)) only [go_sem, Nat.reduceMul, q4b, q12, q10b, b5, t4, q9b, t9, q8b, t8, outL]; (repeat (with_reducible refine And.intro (by first | omega | assumption | rfl) ?_)))
        subst hi
        rw [insAt_end hkl, ← hl, insAt_end (by omega)]
        refine ⟨?_, ?_⟩
        · simp only [listV, encV, D.frz, frzL, frz_u64s, frz_mapV, encVs_map, sv, List.map_nil]
          rfl
        · refine ⟨by have := hF.next; show S.next ≤ T.next; omega, fun j ob e => ?_⟩
          have := hS.lt e
          rw [St.set, ]
          show (if j = S.next + 1 + 1 then _ else T.ob j) = some ob
          rw [if_neg (by omega)]
          exact hF.ob _ _ ⟨by omega, by omega⟩ (hF0.ob _ _ e)
    · have b3 : ((after : Int) == 0) = false := by simp; omega
      (simp (disch := first | decide | omega | (simp only [nx]; first | done | omega)) only [go_sem, Nat.reduceMul, q2, q4, q10, q11, b1, b3]; (repeat (with_reducible refine And.intro (by first | omega | assumption | rfl) ?_)))
      obtain ⟨T0, hT0e⟩ : ∃ T0 : St, T0 = ⟨tn, (((((S.add (.box 29 (encV v).cells)).add (.box 29 (encV x).cells)).add (.box 29 [.v (.int .i64 0), .v (.int .i64 0), .v (.string ⟨#[]⟩), .sl .full [], .sl .full [], .sl .full []])).add (.box 29 [.v (.int .i64 0), .v (.int .i64 0), .v (.string ⟨#[]⟩), .sl .full [], .sl .full [], .sl .full []])).set (S.next + 1 + 1 + 1) (.box 29 [.v (.int .i64 6), .v (.int .i64 0), .v (.string ⟨#[]⟩), .sl .full [], .sl .full [], .sl .full []])).ob⟩ := ⟨_, rfl⟩
      have hT0 : T0.WF := by rw [hT0e]; exact hT
      have hn0 : T0.next = tn := by rw [hT0e]
      have hF0 : S.Sub T0 := by rw [hT0e]; exact (by (repeat' first | assumption | exact St.Sub.refl _ | exact RowOk.sub (by assumption) (by assumption) | refine St.Sub.trans ?_ (RowOk.sub (by assumption) (by assumption)) | refine St.Sub.add ?_ ?_ _ | refine St.Sub.set ?_ ?_ ?_ _ | refine St.Sub.keep ?_ ?_ | refine St.WF.leave ?_ _ | refine St.WF.add ?_ _ | refine St.WF.set ?_ ?_ _ | refine St.WF.grow ?_ _ _ _ | refine St.WF.keep ?_ ?_ | (first | omega | (simp only [RowOk.lo, nx]; first | done | omega))))
      have u4 : T0.ob S.next = some (.box 29 (encV v).cells) := by rw [hT0e]; (first | (simp (disch := first | decide | omega | (simp only [nx]; first | done | omega)) only [go_sem, Nat.reduceMul]; first | done | rfl) | rfl)
      have u7 : T0.ob (S.next + 1) = some (.box 29 (encV x).cells) := by rw [hT0e]; (first | (simp (disch := first | decide | omega | (simp only [nx]; first | done | omega)) only [go_sem, Nat.reduceMul]; first | done | rfl) | rfl)
      have u8 : T0.ob (S.next + 1 + 1) = some (.box 29 [.v (.int .i64 0), .v (.int .i64 0), .v (.string ⟨#[]⟩), .sl .full [], .sl .full [], .sl .full []]) := by rw [hT0e]; (first | (simp (disch := first | decide | omega | (simp only [nx]; first | done | omega)) only [go_sem, Nat.reduceMul]; first | done | rfl) | rfl)
      have u9 : T0.ob (S.next + 1 + 1 + 1) = some (.box 29 [.v (.int .i64 6), .v (.int .i64 0), .v (.string ⟨#[]⟩), .sl .full [], .sl .full [], .sl .full []]) := by rw [hT0e]; (first | (simp (disch := first | decide | omega | (simp only [nx]; first | done | omega)) only [go_sem, Nat.reduceMul]; first | done | rfl) | rfl)
      rw [← hT0e]
      obtain ⟨lo, hlo⟩ : ∃ lo, lo = tn := ⟨_, rfl⟩
      obtain ⟨k, hkk⟩ : ∃ k, plK v after = k := ⟨_, rfl⟩
      rw [hkk] at hk hkl ⊢
      have heU : elT Tryz.prog 26 = some 36 := by kernel_rfl
      have heV : elT Tryz.prog 27 = some 29 := by kernel_rfl
      have hzU : szOf Tryz.prog 36 = 1 := by kernel_rfl
      have hzV : szOf Tryz.prog 29 = 6 := by kernel_rfl
      refine dloop_up (fun t => List.contains [12, 35, 36, 37, 38, 39, 40, 41, 42, 43, 44, 45, 46, 47, 48, 49, 50, 51, 52, 53, 54, 55, 56, 57, 58, 59, 60, 61, 62, 63, 64, 65, 66, 67, 68, 69, 70, 71, 72, 73, 74, 75, 76, 77, 78, 79, 80, 81] t) (by kernel_rfl) hT0 (v.ids.length + 1) (fun i g T => i ≤ v.ids.length + 1 ∧ g 12 = .v (.int .i64 ((i : Nat) : Int)) ∧ (∃ o1 o2, Two (S.next + 1 + 1 + 1) lo 36 29 outL ((insAt v.ids id k i).map u64D) ((insAt v.parts x k i).map encV) o1 o2 T) ∧ Fz (fun j => j ≠ S.next + 1 + 1 + 1 ∧ j < lo) T0 T ∧ lo ≤ T.next)
        ⟨by omega, by (first | (simp (disch := first | decide | omega | (simp only [nx]; first | done | omega)) only [go_sem, Nat.reduceMul]; first | done | rfl) | rfl), ⟨.full, .full, ⟨by rw [insAt_zero, insAt_zero]; exact u9, .inl ⟨rfl, by rw [insAt_zero]; rfl⟩, .inl ⟨rfl, by rw [insAt_zero]; rfl⟩⟩⟩, Fz.refl _ _, by omega⟩ ?_
      rintro i g2 T hT hgb ⟨le2, q12, ⟨o1, o2, h2⟩, hF, hln⟩
      (have q1b := hgb 1 rfl; have q4b := hgb 4 rfl; have q7b := hgb 7 rfl; have q8b := hgb 8 rfl; have q9b := hgb 9 rfl; have q10b := hgb 10 rfl; simp (disch := first | decide | omega | (simp only [nx]; first | done | omega)) only [go_sem, Nat.reduceMul, q1, q2, q4, q7, q8, q9, q10] at q1b q4b q7b q8b q9b q10b; clear hgb)
      have t4 := hF.ob _ _ ⟨by omega, by omega⟩ u4
      have t7 := hF.ob _ _ ⟨by omega, by omega⟩ u7
      have t8 := hF.ob _ _ ⟨by omega, by omega⟩ u8
      have t9 := h2.box
      by_cases hle : i ≤ v.ids.length
      · have b5 : decide ((i : Int) ≤ (v.ids.length : Int)) = true := by simp; omega
        have w5 : IntKind.i64.wrap ((i : Int) + 1) = ((i + 1 : Nat) : Int) := IntWalk.i64_in _ ⟨by omega, by omega⟩
        have wU : ∀ l : List Nat, ∀ d ∈ l.map u64D, d.width = szOf Tryz.prog 36 := fun l d hd => by rw [hzU]; exact wUs l d hd
        have wV : ∀ l : List DVal, ∀ d ∈ l.map encV, d.width = szOf Tryz.prog 29 := fun l d hd => by rw [hzV]; exact wVs l d hd
        have xU : ∀ n : Nat, (u64D n).width = szOf Tryz.prog 36 := fun n => by rw [hzU]; rfl
        have xV : ∀ p : DVal, (encV p).width = szOf Tryz.prog 29 := fun p => by rw [hzV]; exact cells_encV p
        have il1 := insAt_len v.ids id k i
        have il2 := insAt_len v.parts x k i
        have y4 : ∀ m m2, ((T.grow o1 36 m).grow o2 29 m2).ob S.next = some (.box 29 (encV v).cells) := fun m m2 => h2.at2 hT (by omega) t4
        have y9 : ∀ m m2, ((T.grow o1 36 m).grow o2 29 m2).ob (S.next + 1 + 1 + 1) = some (.box 29 (outL (.sl o1 ((insAt v.ids id k i).map u64D)) (.sl o2 ((insAt v.parts x k i).map encV)))) := fun m m2 => h2.at2 hT (by omega) t9
        by_cases hik : i = k
        · have b6 : ((i : Int) == ((lastP v.ids after v.ids.length : Nat) : Int)) = true := by simp; omega
          (simp (disch := first | decide | omega | (simp only [nx]; first | done | omega)) only [go_sem, Nat.reduceMul, q4b, q12, q10b, b5, b6, t4]; (repeat (with_reducible refine And.intro (by first | omega | assumption | rfl) ?_)))
          (refine ddraw_any (fun S' => S'.ob (S.next + 1) = some (.box 29 (encV x).cells) ∧ S'.ob (S.next + 1 + 1 + 1) = some (.box 29 (outL (.sl o1 ((insAt v.ids id k i).map u64D)) (.sl o2 ((insAt v.parts x k i).map encV))))) 11 (by (first | (simp (disch := first | decide | omega | (simp only [nx]; first | done | omega)) only [go_sem, Nat.reduceMul, t7, t9]; first | done | rfl) | rfl)) (by kernel_rfl) ?_; (refine s_take 0 rfl (by kernel_rfl) (by kernel_rfl) (v := ?v10) (fun S' hz => dquietR_of ?h10) <| s_take 1 rfl (by kernel_rfl) (by kernel_rfl) (v := ?v11) (fun S' hz => dquietR_of ?h11) <| s_take 2 rfl (by kernel_rfl) (by kernel_rfl) (v := ?v12) (fun S' hz => dquietR_of ?h12) <| s_take 3 rfl (by kernel_rfl) (by kernel_rfl) (v := ?v13) (fun S' hz => dquietR_of ?h13) <| s_take 5 rfl (by kernel_rfl) (by kernel_rfl) (v := ?v14) (fun S' hz => dquietR_of ?h14) <| s_take 6 rfl (by kernel_rfl) (by kernel_rfl) (v := ?v15) (fun S' hz => dquietR_of ?h15) <| s_take 7 rfl (by kernel_rfl) (by kernel_rfl) (v := ?v16) (fun S' hz => dquietR_of ?h16) <| s_take 8 rfl (by kernel_rfl) (by kernel_rfl) (v := ?v17) (fun S' hz => dquietR_of ?h17) <| ?k17; (case h10 | h11 | h12 | h13 | h14 | h15 | h16 | h17 => ((simp (disch := first | decide | omega | (simp only [nx]; first | done | omega)) only [go_sem, Nat.reduceMul, q1b, q7b, q9b, outL, hz]; (repeat (with_reducible refine And.intro (by first | omega | assumption | rfl) ?_))); first | done | exact rfl | omega))); (refine s_split [4] (by kernel_rfl) (by simp) ?_; intro j_ hj_; obtain rfl : j_ = 4 := (by simpa using hj_); clear hj_; refine s_op rfl ?_; (simp (disch := first | decide | omega | (simp only [nx]; first | done | omega)) only [go_sem, Nat.reduceMul]; (repeat (with_reducible refine And.intro (by first | omega | assumption | rfl) ?_)))); (refine dapp_at (lo := lo) heU (by kernel_rfl) h2.r1 (wU _) (xU id) (by simp (disch := first | decide | omega | (simp only [nx]; first | done | omega)) only [go_sem, Nat.reduceMul]; omega) (by simp (disch := first | decide | omega | (simp only [nx]; first | done | omega)) only [go_sem, Nat.reduceMul]; omega) ?_); (refine ⟨⟨h2.at1 hT (by omega) t7, h2.at1 hT (by omega) t9⟩, ?_⟩); (refine s_take 10 rfl (by kernel_rfl) (by kernel_rfl) (v := ?v18) (fun S' hz => dquietR_of ?h18) ?k18; (case h18 => ((simp (disch := first | decide | omega | (simp only [nx]; first | done | omega)) only [go_sem, Nat.reduceMul, q1b, q7b, q9b, outL, hz]; (repeat (with_reducible refine And.intro (by first | omega | assumption | rfl) ?_))); first | done | exact rfl | omega))); (refine s_split [9] (by kernel_rfl) (by simp) ?_; intro j_ hj_; obtain rfl : j_ = 9 := (by simpa using hj_); clear hj_; refine s_op rfl ?_; (simp (disch := first | decide | omega | (simp only [nx]; first | done | omega)) only [go_sem, Nat.reduceMul]; (repeat (with_reducible refine And.intro (by first | omega | assumption | rfl) ?_)))); (refine dapp_at (lo := lo) heV (by kernel_rfl) (h2.row2 hT (by decide)) (wV _) (xV x) (by simp (disch := first | decide | omega | (simp only [nx]; first | done | omega)) only [go_sem, Nat.reduceMul]; omega) (by simp (disch := first | decide | omega | (simp only [nx]; first | done | omega)) only [go_sem, Nat.reduceMul]; omega) ?_); (refine ⟨⟨h2.at2 hT (by omega) t7, h2.at2 hT (by omega) t9⟩, ?_⟩))
          (refine s_done (by kernel_rfl) ?_; (simp (disch := first | decide | omega | (simp only [nx]; first | done | omega)) only [go_sem, Nat.reduceMul, q9b, y9, outL, q4b, q12, y4]; (repeat (with_reducible refine And.intro (by first | omega | assumption | rfl) ?_))))
          have key := two_step h2 hT hln (by decide) (L1' := (insAt v.ids id k i).map u64D ++ [u64D id]) (L2' := (insAt v.parts x k i).map encV ++ [encV x]) (B := .box 29 (outL (.sl (.row T.next) ((insAt v.ids id k i).map u64D ++ [u64D id])) (.sl o2 ((insAt v.parts x k i).map encV)))) (m1 := (insAt v.ids id k i).length + 1) (m2 := (insAt v.parts x k i).length + 1) (by simp) (by simp)
          simp only [outL, u64D] at key
          revert key
          generalize St.set (St.set _ _ _) _ _ = T2
          rintro ⟨h3, hF3, hT2, hn3⟩
          obtain ⟨l1, hl1⟩ : ∃ l1, insAt v.ids id k i ++ [id] = l1 := ⟨_, rfl⟩
          obtain ⟨l2, hl2⟩ : ∃ l2, insAt v.parts x k i ++ [x] = l2 := ⟨_, rfl⟩
          have a1 : ∀ h : i < v.ids.length, insAt v.ids id k (i + 1) = l1 ++ [v.ids[i]] := fun h => by subst hik; rw [insAt_at2 h, hl1]
          have a2 : ∀ h : i < v.parts.length, insAt v.parts x k (i + 1) = l2 ++ [v.parts[i]] := fun h => by subst hik; rw [insAt_at2 h, hl2]
          have a3 : i = v.ids.length → insAt v.ids id k (i + 1) = l1 := fun h => by rw [← hl1, ← hik, h]; exact insAt_at3
          have a4 : i = v.parts.length → insAt v.parts x k (i + 1) = l2 := fun h => by rw [← hl2, ← hik, h]; exact insAt_at3
          have b1' : l1.length ≤ v.ids.length + 2 := by rw [← hl1]; simp; omega
          have b2' : l2.length ≤ v.parts.length + 2 := by rw [← hl2]; simp; omega
          have c1 : (insAt v.ids id k i).map u64D ++ [.v (.int .u64 (id : Nat))] = l1.map u64D := by rw [← hl1]; simp [u64D]
          have c2 : (insAt v.parts x k i).map encV ++ [encV x] = l2.map encV := by rw [← hl2]; simp
          rw [c1, c2] at h3
          have hF4 := hF.trans hF3
          have hln4 : lo ≤ T2.next := by omega
          clear hl1 hl2 c1 c2
          
          have t4' := hF4.ob _ _ ⟨by omega, by omega⟩ u4
          have t9' := h3.box
          have y4' : ∀ m m2, ((T2.grow (Own.row T.next) 36 m).grow (Own.row (T.next + 1)) 29 m2).ob S.next = some (.box 29 (encV v).cells) := fun m m2 => h3.at2 hT2 (by omega) t4'
          have y9' : ∀ m m2, ((T2.grow (Own.row T.next) 36 m).grow (Own.row (T.next + 1)) 29 m2).ob (S.next + 1 + 1 + 1) = some (.box 29 (outL (.sl (Own.row T.next) (l1.map u64D)) (.sl (Own.row (T.next + 1)) (l2.map encV)))) := fun m m2 => h3.at2 hT2 (by omega) t9'
          by_cases hlt : i < v.ids.length
          · have b7 : decide ((i : Int) < (v.ids.length : Int)) = true := by simp; omega
            have hlp : i < v.parts.length := by omega
            (simp (disch := first | decide | omega | (simp only [nx]; first | done | omega)) only [go_sem, Nat.reduceMul, q4b, q12, q9b, b7]; (repeat (with_reducible refine And.intro (by first | omega | assumption | rfl) ?_)))
            (refine ddraw_any (fun S' => S'.ob S.next = some (.box 29 (encV v).cells) ∧ S'.ob (S.next + 1 + 1 + 1) = some (.box 29 (outL (.sl (Own.row T.next) (l1.map u64D)) (.sl (Own.row (T.next + 1)) (l2.map encV))))) 19 (by (first | (simp (disch := first | decide | omega | (simp only [nx]; first | done | omega)) only [go_sem, Nat.reduceMul, t4', t9']; first | done | rfl) | rfl)) (by kernel_rfl) ?_; (refine s_take 0 rfl (by kernel_rfl) (by kernel_rfl) (v := ?v53) (fun S' hz => dquietR_of ?h53) <| s_take 1 rfl (by kernel_rfl) (by kernel_rfl) (v := ?v54) (fun S' hz => dquietR_of ?h54) <| s_take 2 rfl (by kernel_rfl) (by kernel_rfl) (v := ?v55) (fun S' hz => dquietR_of ?h55) <| s_take 3 rfl (by kernel_rfl) (by kernel_rfl) (v := ?v56) (fun S' hz => dquietR_of ?h56) <| s_take 4 rfl (by kernel_rfl) (by kernel_rfl) (v := ?v57) (fun S' hz => dquietR_of ?h57) <| s_take 5 rfl (by kernel_rfl) (by kernel_rfl) (v := ?v58) (fun S' hz => dquietR_of ?h58) <| s_take 6 rfl (by kernel_rfl) (by kernel_rfl) (v := ?v59) (fun S' hz => dquietR_of ?h59) <| s_take 7 rfl (by kernel_rfl) (by kernel_rfl) (v := ?v60) (fun S' hz => dquietR_of ?h60) <| s_take 9 rfl (by kernel_rfl) (by kernel_rfl) (v := ?v61) (fun S' hz => dquietR_of ?h61) <| s_take 10 rfl (by kernel_rfl) (by kernel_rfl) (v := ?v62) (fun S' hz => dquietR_of ?h62) <| s_take 11 rfl (by kernel_rfl) (by kernel_rfl) (v := ?v63) (fun S' hz => dquietR_of ?h63) <| s_take 12 rfl (by kernel_rfl) (by kernel_rfl) (v := ?v64) (fun S' hz => dquietR_of ?h64) <| s_take 13 rfl (by kernel_rfl) (by kernel_rfl) (v := ?v65) (fun S' hz => dquietR_of ?h65) <| s_take 14 rfl (by kernel_rfl) (by kernel_rfl) (v := ?v66) (fun S' hz => dquietR_of ?h66) <| s_take 15 rfl (by kernel_rfl) (by kernel_rfl) (v := ?v67) (fun S' hz => dquietR_of ?h67) <| s_take 16 rfl (by kernel_rfl) (by kernel_rfl) (v := ?v68) (fun S' hz => dquietR_of ?h68) <| ?k68; (case h53 | h54 | h55 | h56 | h57 | h58 | h59 | h60 | h61 | h62 | h63 | h64 | h65 | h66 | h67 | h68 => ((simp (disch := first | decide | omega | (simp only [nx]; first | done | omega)) only [go_sem, Nat.reduceMul, q4b, q9b, q12, outL, hlt, hlp, hz]; (repeat (with_reducible refine And.intro (by first | omega | assumption | rfl) ?_))); first | done | exact rfl | omega))); (refine s_split [8] (by kernel_rfl) (by simp) ?_; intro j_ hj_; obtain rfl : j_ = 8 := (by simpa using hj_); clear hj_; refine s_op rfl ?_; (simp (disch := first | decide | omega | (simp only [nx]; first | done | omega)) only [go_sem, Nat.reduceMul]; (repeat (with_reducible refine And.intro (by first | omega | assumption | rfl) ?_)))); (refine dapp_at (lo := lo) heU (by kernel_rfl) h3.r1 (wU _) (xU _) (by simp (disch := first | decide | omega | (simp only [nx]; first | done | omega)) only [go_sem, Nat.reduceMul]; omega) (by simp (disch := first | decide | omega | (simp only [nx]; first | done | omega)) only [go_sem, Nat.reduceMul]; omega) ?_); (refine ⟨⟨h3.at1 hT2 (by omega) t4', h3.at1 hT2 (by omega) t9'⟩, ?_⟩); (refine s_take 18 rfl (by kernel_rfl) (by kernel_rfl) (v := ?v69) (fun S' hz => dquietR_of ?h69) ?k69; (case h69 => ((simp (disch := first | decide | omega | (simp only [nx]; first | done | omega)) only [go_sem, Nat.reduceMul, q4b, q9b, q12, outL, hlt, hlp, hz]; (repeat (with_reducible refine And.intro (by first | omega | assumption | rfl) ?_))); first | done | exact rfl | omega))); (refine s_split [17] (by kernel_rfl) (by simp) ?_; intro j_ hj_; obtain rfl : j_ = 17 := (by simpa using hj_); clear hj_; refine s_op rfl ?_; (simp (disch := first | decide | omega | (simp only [nx]; first | done | omega)) only [go_sem, Nat.reduceMul]; (repeat (with_reducible refine And.intro (by first | omega | assumption | rfl) ?_)))); (refine dapp_at (lo := lo) heV (by kernel_rfl) (h3.row2 hT2 (by decide)) (wV _) (xV _) (by simp (disch := first | decide | omega | (simp only [nx]; first | done | omega)) only [go_sem, Nat.reduceMul]; omega) (by simp (disch := first | decide | omega | (simp only [nx]; first | done | omega)) only [go_sem, Nat.reduceMul]; omega) ?_); (refine ⟨⟨h3.at2 hT2 (by omega) t4', h3.at2 hT2 (by omega) t9'⟩, ?_⟩))
            (refine s_done (by kernel_rfl) ?_; (simp (disch := first | decide | omega | (simp only [nx]; first | done | omega)) only [go_sem, Nat.reduceMul, q9b, y9', outL, q4b, q12, y4', w5]; (repeat (with_reducible refine And.intro (by first | omega | assumption | rfl) ?_))))
            have key := two_step h3 hT2 hln4 (by decide) (L1' := l1.map u64D ++ [u64D v.ids[i]]) (L2' := l2.map encV ++ [encV v.parts[i]]) (B := .box 29 (outL (.sl (.row T2.next) (l1.map u64D ++ [u64D v.ids[i]])) (.sl (Own.row (T.next + 1)) (l2.map encV)))) (m1 := l1.length + 1) (m2 := l2.length + 1) (by simp) (by simp)
            simp only [outL, u64D] at key
            revert key
            generalize St.set (St.set _ _ _) _ _ = T5
            rintro ⟨h5, hF5, hT5, hn5⟩
            refine ⟨by omega, T5.ob, fun _ _ h => h, by omega, by (first | (simp (disch := first | decide | omega | (simp only [nx]; first | done | omega)) only [go_sem, Nat.reduceMul]; first | done | rfl) | rfl), ⟨(.row T2.next), (.row (T2.next + 1)), ?_⟩, (hF4.trans hF5).mono fun _ h => ⟨h.1, h.2⟩, by show lo ≤ T5.next; omega⟩
            rw [a1 hlt, a2 hlp, List.map_append, List.map_append]
            exact h5
          · have b7 : decide ((i : Int) < (v.ids.length : Int)) = false := by simp; omega
            (simp (disch := first | decide | omega | (simp only [nx]; first | done | omega)) only [go_sem, Nat.reduceMul, q4b, q12, q9b, b7, w5]; (repeat (with_reducible refine And.intro (by first | omega | assumption | rfl) ?_)))
            have hie : i = v.ids.length := by omega
            refine ⟨by omega, T2.ob, fun _ _ h => h, by omega, by (first | (simp (disch := first | decide | omega | (simp only [nx]; first | done | omega)) only [go_sem, Nat.reduceMul]; first | done | rfl) | rfl), ⟨(Own.row T.next), (Own.row (T.next + 1)), ?_⟩, hF4.mono fun _ h => ⟨h.1, h.2⟩, hln4⟩
            rw [a3 hie, a4 (by omega)]
            exact h3

        · have b6 : ((i : Int) == ((lastP v.ids after v.ids.length : Nat) : Int)) = false := by simp; omega
          (simp (disch := first | decide | omega | (simp only [nx]; first | done | omega)) only [go_sem, Nat.reduceMul, q4b, q12, q10b, b5, b6, t4]; (repeat (with_reducible refine And.intro (by first | omega | assumption | rfl) ?_)))
          obtain ⟨l1, hl1⟩ : ∃ l1, insAt v.ids id k i = l1 := ⟨_, rfl⟩
          obtain ⟨l2, hl2⟩ : ∃ l2, insAt v.parts x k i = l2 := ⟨_, rfl⟩
          have a1 : ∀ h : i < v.ids.length, insAt v.ids id k (i + 1) = l1 ++ [v.ids[i]] := fun h => by rw [insAt_lt hik h, hl1]
          have a2 : ∀ h : i < v.parts.length, insAt v.parts x k (i + 1) = l2 ++ [v.parts[i]] := fun h => by rw [insAt_lt hik h, hl2]
          have a3 : i = v.ids.length → insAt v.ids id k (i + 1) = l1 := fun h => by rw [← hl1, h]; exact insAt_past (by omega)
          have a4 : i = v.parts.length → insAt v.parts x k (i + 1) = l2 := fun h => by rw [← hl2, h]; exact insAt_past (by omega)
          have b1' : l1.length ≤ v.ids.length + 2 := by rw [← hl1]; omega
          have b2' : l2.length ≤ v.parts.length + 2 := by rw [← hl2]; omega
          rw [hl1, hl2] at h2
          clear hl1 hl2
          
          have t4' := hF.ob _ _ ⟨by omega, by omega⟩ u4
          have t9' := h2.box
          have y4' : ∀ m m2, ((T.grow o1 36 m).grow o2 29 m2).ob S.next = some (.box 29 (encV v).cells) := fun m m2 => h2.at2 hT (by omega) t4'
          have y9' : ∀ m m2, ((T.grow o1 36 m).grow o2 29 m2).ob (S.next + 1 + 1 + 1) = some (.box 29 (outL (.sl o1 (l1.map u64D)) (.sl o2 (l2.map encV)))) := fun m m2 => h2.at2 hT (by omega) t9'
          by_cases hlt : i < v.ids.length
          · have b7 : decide ((i : Int) < (v.ids.length : Int)) = true := by simp; omega
            have hlp : i < v.parts.length := by omega
            (simp (disch := first | decide | omega | (simp only [nx]; first | done | omega)) only [go_sem, Nat.reduceMul, q4b, q12, q9b, b7]; (repeat (with_reducible refine And.intro (by first | omega | assumption | rfl) ?_)))
            (refine ddraw_any (fun S' => S'.ob S.next = some (.box 29 (encV v).cells) ∧ S'.ob (S.next + 1 + 1 + 1) = some (.box 29 (outL (.sl o1 (l1.map u64D)) (.sl o2 (l2.map encV))))) 19 (by (first | (simp (disch := first | decide | omega | (simp only [nx]; first | done | omega)) only [go_sem, Nat.reduceMul, t4', t9']; first | done | rfl) | rfl)) (by kernel_rfl) ?_; (refine s_take 0 rfl (by kernel_rfl) (by kernel_rfl) (v := ?v70) (fun S' hz => dquietR_of ?h70) <| s_take 1 rfl (by kernel_rfl) (by kernel_rfl) (v := ?v71) (fun S' hz => dquietR_of ?h71) <| s_take 2 rfl (by kernel_rfl) (by kernel_rfl) (v := ?v72) (fun S' hz => dquietR_of ?h72) <| s_take 3 rfl (by kernel_rfl) (by kernel_rfl) (v := ?v73) (fun S' hz => dquietR_of ?h73) <| s_take 4 rfl (by kernel_rfl) (by kernel_rfl) (v := ?v74) (fun S' hz => dquietR_of ?h74) <| s_take 5 rfl (by kernel_rfl) (by kernel_rfl) (v := ?v75) (fun S' hz => dquietR_of ?h75) <| s_take 6 rfl (by kernel_rfl) (by kernel_rfl) (v := ?v76) (fun S' hz => dquietR_of ?h76) <| s_take 7 rfl (by kernel_rfl) (by kernel_rfl) (v := ?v77) (fun S' hz => dquietR_of ?h77) <| s_take 9 rfl (by kernel_rfl) (by kernel_rfl) (v := ?v78) (fun S' hz => dquietR_of ?h78) <| s_take 10 rfl (by kernel_rfl) (by kernel_rfl) (v := ?v79) (fun S' hz => dquietR_of ?h79) <| s_take 11 rfl (by kernel_rfl) (by kernel_rfl) (v := ?v80) (fun S' hz => dquietR_of ?h80) <| s_take 12 rfl (by kernel_rfl) (by kernel_rfl) (v := ?v81) (fun S' hz => dquietR_of ?h81) <| s_take 13 rfl (by kernel_rfl) (by kernel_rfl) (v := ?v82) (fun S' hz => dquietR_of ?h82) <| s_take 14 rfl (by kernel_rfl) (by kernel_rfl) (v := ?v83) (fun S' hz => dquietR_of ?h83) <| s_take 15 rfl (by kernel_rfl) (by kernel_rfl) (v := ?v84) (fun S' hz => dquietR_of ?h84) <| s_take 16 rfl (by kernel_rfl) (by kernel_rfl) (v := ?v85) (fun S' hz => dquietR_of ?h85) <| ?k85; (case h70 | h71 | h72 | h73 | h74 | h75 | h76 | h77 | h78 | h79 | h80 | h81 | h82 | h83 | h84 | h85 => ((simp (disch := first | decide | omega | (simp only [nx]; first | done | omega)) only [go_sem, Nat.reduceMul, q4b, q9b, q12, outL, hlt, hlp, hz]; (repeat (with_reducible refine And.intro (by first | omega | assumption | rfl) ?_))); first | done | exact rfl | omega))); (refine s_split [8] (by kernel_rfl) (by simp) ?_; intro j_ hj_; obtain rfl : j_ = 8 := (by simpa using hj_); clear hj_; refine s_op rfl ?_; (simp (disch := first | decide | omega | (simp only [nx]; first | done | omega)) only [go_sem, Nat.reduceMul]; (repeat (with_reducible refine And.intro (by first | omega | assumption | rfl) ?_)))); (refine dapp_at (lo := lo) heU (by kernel_rfl) h2.r1 (wU _) (xU _) (by simp (disch := first | decide | omega | (simp only [nx]; first | done | omega)) only [go_sem, Nat.reduceMul]; omega) (by simp (disch := first | decide | omega | (simp only [nx]; first | done | omega)) only [go_sem, Nat.reduceMul]; omega) ?_); (refine ⟨⟨h2.at1 hT (by omega) t4', h2.at1 hT (by omega) t9'⟩, ?_⟩); (refine s_take 18 rfl (by kernel_rfl) (by kernel_rfl) (v := ?v86) (fun S' hz => dquietR_of ?h86) ?k86; (case h86 => ((simp (disch := first | decide | omega | (simp only [nx]; first | done | omega)) only [go_sem, Nat.reduceMul, q4b, q9b, q12, outL, hlt, hlp, hz]; (repeat (with_reducible refine And.intro (by first | omega | assumption | rfl) ?_))); first | done | exact rfl | omega))); (refine s_split [17] (by kernel_rfl) (by simp) ?_; intro j_ hj_; obtain rfl : j_ = 17 := (by simpa using hj_); clear hj_; refine s_op rfl ?_; (simp (disch := first | decide | omega | (simp only [nx]; first | done | omega)) only [go_sem, Nat.reduceMul]; (repeat (with_reducible refine And.intro (by first | omega | assumption | rfl) ?_)))); (refine dapp_at (lo := lo) heV (by kernel_rfl) (h2.row2 hT (by decide)) (wV _) (xV _) (by simp (disch := first | decide | omega | (simp only [nx]; first | done | omega)) only [go_sem, Nat.reduceMul]; omega) (by simp (disch := first | decide | omega | (simp only [nx]; first | done | omega)) only [go_sem, Nat.reduceMul]; omega) ?_); (refine ⟨⟨h2.at2 hT (by omega) t4', h2.at2 hT (by omega) t9'⟩, ?_⟩))
            (refine s_done (by kernel_rfl) ?_; (simp (disch := first | decide | omega | (simp only [nx]; first | done | omega)) only [go_sem, Nat.reduceMul, q9b, y9', outL, q4b, q12, y4', w5]; (repeat (with_reducible refine And.intro (by first | omega | assumption | rfl) ?_))))
            have key := two_step h2 hT hln (by decide) (L1' := l1.map u64D ++ [u64D v.ids[i]]) (L2' := l2.map encV ++ [encV v.parts[i]]) (B := .box 29 (outL (.sl (.row T.next) (l1.map u64D ++ [u64D v.ids[i]])) (.sl o2 (l2.map encV)))) (m1 := l1.length + 1) (m2 := l2.length + 1) (by simp) (by simp)
            simp only [outL, u64D] at key
            revert key
            generalize St.set (St.set _ _ _) _ _ = T5
            rintro ⟨h5, hF5, hT5, hn5⟩
            refine ⟨by omega, T5.ob, fun _ _ h => h, by omega, by (first | (simp (disch := first | decide | omega | (simp only [nx]; first | done | omega)) only [go_sem, Nat.reduceMul]; first | done | rfl) | rfl), ⟨(.row T.next), (.row (T.next + 1)), ?_⟩, (hF.trans hF5).mono fun _ h => ⟨h.1, h.2⟩, by show lo ≤ T5.next; omega⟩
            rw [a1 hlt, a2 hlp, List.map_append, List.map_append]
            exact h5
          · have b7 : decide ((i : Int) < (v.ids.length : Int)) = false := by simp; omega
            (simp (disch := first | decide | omega | (simp only [nx]; first | done | omega)) only [go_sem, Nat.reduceMul, q4b, q12, q9b, b7, w5]; (repeat (with_reducible refine And.intro (by first | omega | assumption | rfl) ?_)))
            have hie : i = v.ids.length := by omega
            refine ⟨by omega, T.ob, fun _ _ h => h, by omega, by (first | (simp (disch := first | decide | omega | (simp only [nx]; first | done | omega)) only [go_sem, Nat.reduceMul]; first | done | rfl) | rfl), ⟨o1, o2, ?_⟩, hF.mono fun _ h => ⟨h.1, h.2⟩, hln⟩
            rw [a3 hie, a4 (by omega)]
            exact h2

      · have b5 : decide ((i : Int) ≤ (v.ids.length : Int)) = false := by simp; omega
        have hi : i = v.ids.length + 1 := by omega
        (simp (disch := first | decide | omega | (simp only [nx]; first | done | omega)) only [go_sem, Nat.reduceMul, q4b, q12, q10b, b5, t4, q9b, t9, q8b, t8, outL]; (repeat (with_reducible refine And.intro (by first | omega | assumption | rfl) ?_)))
        subst hi
        rw [insAt_end hkl, ← hl, insAt_end (by omega)]
        refine ⟨?_, ?_⟩
        · simp only [listV, encV, D.frz, frzL, frz_u64s, frz_mapV, encVs_map, sv, List.map_nil]
          rfl
        · refine ⟨by have := hF.next; show S.next ≤ T.next; omega, fun j ob e => ?_⟩
          have := hS.lt e
          rw [St.set, ]
          show (if j = S.next + 1 + 1 then _ else T.ob j) = some ob
          rw [if_neg (by omega)]
          exact hF.ob _ _ ⟨by omega, by omega⟩ (hF0.ob _ _ e)
end Go.Proofs.YtjjhjhjphhpeiaaGreat

namespace Go.Proofs.YtjjhjhjphhpeiaaGreat
open Go.RowKit
set_option linter.unusedSimpArgs false
set_option linter.unusedVariables false
/-- The first elements but those of a number. -/
def woI (v : DVal) (id i : Nat) : List Nat := (v.ids.take i).filter (fun a => a != id)
def woP (v : DVal) (id i : Nat) : List DVal := (((v.ids.zip v.parts).take i).filter (fun a => a.1 != id)).map (·.2)
theorem woI_ne {v : DVal} {id i : Nat} (h : i < v.ids.length) (e : v.ids[i] ≠ id) : woI v id (i + 1) = woI v id i ++ [v.ids[i]] := by
  have : (v.ids[i] != id) = true := by simp [e]
  rw [woI, List.take_succ_eq_append_getElem h, List.filter_append, List.filter_cons_of_pos (p := fun a => a != id) this, List.filter_nil, woI]
theorem woI_eq {v : DVal} {id i : Nat} (h : i < v.ids.length) (e : v.ids[i] = id) : woI v id (i + 1) = woI v id i := by
  have : ¬ (v.ids[i] != id) = true := by simp [e]
  rw [woI, List.take_succ_eq_append_getElem h, List.filter_append, List.filter_cons_of_neg (p := fun a => a != id) this, List.filter_nil, List.append_nil, woI]
theorem woP_ne {v : DVal} {id i : Nat} (h : i < v.ids.length) (h2 : i < v.parts.length) (e : v.ids[i] ≠ id) : woP v id (i + 1) = woP v id i ++ [v.parts[i]] := by
  have h3 : i < (v.ids.zip v.parts).length := by rw [List.length_zip]; omega
  have h4 : (v.ids.zip v.parts)[i] = (v.ids[i], v.parts[i]) := List.getElem_zip
  have : ((v.ids.zip v.parts)[i].1 != id) = true := by rw [h4]; simp [e]
  rw [woP, List.take_succ_eq_append_getElem h3, List.filter_append, List.filter_cons_of_pos (p := fun a : Nat × DVal => a.1 != id) this, List.filter_nil, List.map_append, List.map_cons, h4, woP]; rfl
theorem woP_eq {v : DVal} {id i : Nat} (h : i < v.ids.length) (h2 : i < v.parts.length) (e : v.ids[i] = id) : woP v id (i + 1) = woP v id i := by
  have h3 : i < (v.ids.zip v.parts).length := by rw [List.length_zip]; omega
  have h4 : (v.ids.zip v.parts)[i] = (v.ids[i], v.parts[i]) := List.getElem_zip
  have : ¬ ((v.ids.zip v.parts)[i].1 != id) = true := by rw [h4]; simp [e]
  rw [woP, List.take_succ_eq_append_getElem h3, List.filter_append, List.filter_cons_of_neg (p := fun a : Nat × DVal => a.1 != id) this, List.filter_nil, List.append_nil, woP]
theorem woI_len (v : DVal) (id i : Nat) : (woI v id i).length ≤ v.ids.length := by
  refine Nat.le_trans (List.length_filter_le _ _) ?_
  rw [List.length_take]; omega
theorem woP_len (v : DVal) (id i : Nat) : (woP v id i).length ≤ v.ids.length := by
  rw [woP, List.length_map]
  refine Nat.le_trans (List.length_filter_le _ _) ?_
  rw [List.length_take, List.length_zip]; omega
set_option maxRecDepth 200000 in
set_option maxHeartbeats 8000000 in
theorem refWithout_d (v : DVal) (id : Nat) (hl : v.parts.length = v.ids.length) (hn : v.ids.length ≤ 1000) :
    DPure Tryz.prog 19 [encV v, .v (uv id)] (encV (listV (woI v id v.ids.length) (woP v id v.ids.length))) := by
  refine dpure_of_dwp mixed Tryz.func19 rfl (fun _ _ => by kernel_rfl) (rs := [.cell 4 29]) rfl (by kernel_rfl) (closed_encV _) (fun S hS => ?_)
  (simp (disch := first | decide | omega | (simp only [nx]; first | done | omega)) only [go_sem, Nat.reduceMul, uv]; (repeat (with_reducible refine And.intro (by first | omega | assumption | rfl) ?_)))
  obtain ⟨T0, hT0e⟩ : ∃ T0 : St, T0 = (((((S.add (.box 29 (encV v).cells)).add (.box 29 [.v (.int .i64 0), .v (.int .i64 0), .v (.string ⟨#[]⟩), .sl .full [], .sl .full [], .sl .full []])).add (.box 29 [.v (.int .i64 0), .v (.int .i64 0), .v (.string ⟨#[]⟩), .sl .full [], .sl .full [], .sl .full []])).set (S.next + 1 + 1) (.box 29 [.v (.int .i64 6), .v (.int .i64 0), .v (.string ⟨#[]⟩), .sl .full [], .sl .full [], .sl .full []]))) := ⟨_, rfl⟩
  have hT0 : T0.WF := by rw [hT0e]; exact (by (repeat' first | assumption | refine St.WF.leave ?_ _ | refine St.WF.add ?_ _ | refine St.WF.set ?_ ?_ _ | refine St.WF.grow ?_ _ _ _ | refine St.WF.keep ?_ ?_ | (first | omega | (simp only [RowOk.lo, nx]; first | done | omega))))
  have hn0 : T0.next = S.next + 1 + 1 + 1 := by rw [hT0e]; simp only [add_next, set_next]
  have hF0 : S.Sub T0 := by rw [hT0e]; exact (by (repeat' first | assumption | exact St.Sub.refl _ | exact RowOk.sub (by assumption) (by assumption) | refine St.Sub.trans ?_ (RowOk.sub (by assumption) (by assumption)) | refine St.Sub.add ?_ ?_ _ | refine St.Sub.set ?_ ?_ ?_ _ | refine St.Sub.keep ?_ ?_ | refine St.WF.leave ?_ _ | refine St.WF.add ?_ _ | refine St.WF.set ?_ ?_ _ | refine St.WF.grow ?_ _ _ _ | refine St.WF.keep ?_ ?_ | (first | omega | (simp only [RowOk.lo, nx]; first | done | omega))))
  have u2 : T0.ob S.next = some (.box 29 (encV v).cells) := by rw [hT0e]; (first | (simp (disch := first | decide | omega | (simp only [nx]; first | done | omega)) only [go_sem, Nat.reduceMul]; first | done | rfl) | rfl)
  have u4 : T0.ob (S.next + 1) = some (.box 29 [.v (.int .i64 0), .v (.int .i64 0), .v (.string ⟨#[]⟩), .sl .full [], .sl .full [], .sl .full []]) := by rw [hT0e]; (first | (simp (disch := first | decide | omega | (simp only [nx]; first | done | omega)) only [go_sem, Nat.reduceMul]; first | done | rfl) | rfl)
  have u5 : T0.ob (S.next + 1 + 1) = some (.box 29 [.v (.int .i64 6), .v (.int .i64 0), .v (.string ⟨#[]⟩), .sl .full [], .sl .full [], .sl .full []]) := by rw [hT0e]; (first | (simp (disch := first | decide | omega | (simp only [nx]; first | done | omega)) only [go_sem, Nat.reduceMul]; first | done | rfl) | rfl)
  try rw [← hT0e]
  obtain ⟨lo, hlo⟩ : ∃ lo, lo = S.next + 1 + 1 + 1 := ⟨_, rfl⟩
  have heU : elT Tryz.prog 26 = some 36 := by kernel_rfl
  have heV : elT Tryz.prog 27 = some 29 := by kernel_rfl
  have hzU : szOf Tryz.prog 36 = 1 := by kernel_rfl
  have hzV : szOf Tryz.prog 29 = 6 := by kernel_rfl
  have wU : ∀ l : List Nat, ∀ d ∈ l.map u64D, d.width = szOf Tryz.prog 36 := fun l d hd => by rw [hzU]; exact wUs l d hd
  have wV : ∀ l : List DVal, ∀ d ∈ l.map encV, d.width = szOf Tryz.prog 29 := fun l d hd => by rw [hzV]; exact wVs l d hd
  have xU : ∀ n : Nat, (u64D n).width = szOf Tryz.prog 36 := fun n => by rw [hzU]; rfl
  have xV : ∀ p : DVal, (encV p).width = szOf Tryz.prog 29 := fun p => by rw [hzV]; exact cells_encV p
  refine dloop_up (fun t => List.contains [6, 8, 9, 10, 11, 12, 13, 14, 15, 16, 17, 18, 19, 20, 21, 22, 23, 24, 25, 26, 27, 28, 29, 30, 31, 32, 33, 34, 35, 36, 37, 38, 39, 40, 41] t) (by kernel_rfl) hT0 v.ids.length (fun i g T => i ≤ v.ids.length ∧ g 6 = .v (.int .i64 ((i : Nat) : Int)) ∧ (∃ o1 o2, Two (S.next + 1 + 1) lo 36 29 outL ((woI v id i).map u64D) ((woP v id i).map encV) o1 o2 T) ∧ Fz (fun j => j ≠ S.next + 1 + 1 ∧ j < lo) T0 T ∧ lo ≤ T.next)
    ⟨by omega, by (first | (simp (disch := first | decide | omega | (simp only [nx]; first | done | omega)) only [go_sem, Nat.reduceMul]; first | done | rfl) | rfl), ⟨.full, .full, ⟨u5, .inl ⟨rfl, rfl⟩, .inl ⟨rfl, rfl⟩⟩⟩, Fz.refl _ _, by omega⟩ ?_
  rintro i g2 T hT hgb ⟨le2, q6, ⟨o1, o2, h2⟩, hF, hln⟩
  (have q1b := hgb 1 rfl; have q2b := hgb 2 rfl; have q4b := hgb 4 rfl; have q5b := hgb 5 rfl; simp (disch := first | decide | omega | (simp only [nx]; first | done | omega)) only [go_sem, Nat.reduceMul] at q1b q2b q4b q5b; clear hgb)
  have t2 := hF.ob _ _ ⟨by omega, by omega⟩ u2
  have t4 := hF.ob _ _ ⟨by omega, by omega⟩ u4
  have t5 := h2.box
  have il1 := woI_len v id i
  have il2 := woP_len v id i
  have y2 : ∀ m m2, ((T.grow o1 36 m).grow o2 29 m2).ob S.next = some (.box 29 (encV v).cells) := fun m m2 => h2.at2 hT (by omega) t2
  have y5 : ∀ m m2, ((T.grow o1 36 m).grow o2 29 m2).ob (S.next + 1 + 1) = some (.box 29 (outL (.sl o1 ((woI v id i).map u64D)) (.sl o2 ((woP v id i).map encV)))) := fun m m2 => h2.at2 hT (by omega) t5
  by_cases hlt : i < v.ids.length
  · have b1 : decide ((i : Int) < (v.ids.length : Int)) = true := by simp; omega
    have w5 : IntKind.i64.wrap ((i : Int) + 1) = ((i + 1 : Nat) : Int) := IntWalk.i64_in _ ⟨by omega, by omega⟩
    have hlp : i < v.parts.length := by omega
    by_cases hx : v.ids[i] = id
    · have b2 : ((v.ids[i] : Int) != (id : Int)) = false := by simp [hx]
      (simp (disch := first | decide | omega | (simp only [nx]; first | done | omega)) only [go_sem, Nat.reduceMul, q2b, q1b, q6, b1, b2, t2, w5, u64D]; (repeat (with_reducible refine And.intro (by first | omega | assumption | rfl) ?_)))
      refine ⟨by omega, T.ob, fun _ _ h => h, by omega, by (first | (simp (disch := first | decide | omega | (simp only [nx]; first | done | omega)) only [go_sem, Nat.reduceMul]; first | done | rfl) | rfl), ⟨o1, o2, ?_⟩, hF, hln⟩
      rw [woI_eq hlt hx, woP_eq hlt hlp hx]
      exact h2
    · have b2 : ((v.ids[i] : Int) != (id : Int)) = true := by simp; omega
      (simp (disch := first | decide | omega | (simp only [nx]; first | done | omega)) only [go_sem, Nat.reduceMul, q2b, q1b, q6, b1, b2, t2, u64D]; (repeat (with_reducible refine And.intro (by first | omega | assumption | rfl) ?_)))
      (refine ddraw_any (fun S' => S'.ob S.next = some (.box 29 (encV v).cells) ∧ S'.ob (S.next + 1 + 1) = some (.box 29 (outL (.sl o1 ((woI v id i).map u64D)) (.sl o2 ((woP v id i).map encV))))) 19 (by (first | (simp (disch := first | decide | omega | (simp only [nx]; first | done | omega)) only [go_sem, Nat.reduceMul, t2, t5]; first | done | rfl) | rfl)) (by kernel_rfl) ?_; (refine s_take 0 rfl (by kernel_rfl) (by kernel_rfl) (v := ?v1) (fun S' hz => dquietR_of ?h1) <| s_take 1 rfl (by kernel_rfl) (by kernel_rfl) (v := ?v2) (fun S' hz => dquietR_of ?h2) <| s_take 2 rfl (by kernel_rfl) (by kernel_rfl) (v := ?v3) (fun S' hz => dquietR_of ?h3) <| s_take 3 rfl (by kernel_rfl) (by kernel_rfl) (v := ?v4) (fun S' hz => dquietR_of ?h4) <| s_take 4 rfl (by kernel_rfl) (by kernel_rfl) (v := ?v5) (fun S' hz => dquietR_of ?h5) <| s_take 5 rfl (by kernel_rfl) (by kernel_rfl) (v := ?v6) (fun S' hz => dquietR_of ?h6) <| s_take 6 rfl (by kernel_rfl) (by kernel_rfl) (v := ?v7) (fun S' hz => dquietR_of ?h7) <| s_take 7 rfl (by kernel_rfl) (by kernel_rfl) (v := ?v8) (fun S' hz => dquietR_of ?h8) <| s_take 9 rfl (by kernel_rfl) (by kernel_rfl) (v := ?v9) (fun S' hz => dquietR_of ?h9) <| s_take 10 rfl (by kernel_rfl) (by kernel_rfl) (v := ?v10) (fun S' hz => dquietR_of ?h10) <| s_take 11 rfl (by kernel_rfl) (by kernel_rfl) (v := ?v11) (fun S' hz => dquietR_of ?h11) <| s_take 12 rfl (by kernel_rfl) (by kernel_rfl) (v := ?v12) (fun S' hz => dquietR_of ?h12) <| s_take 13 rfl (by kernel_rfl) (by kernel_rfl) (v := ?v13) (fun S' hz => dquietR_of ?h13) <| s_take 14 rfl (by kernel_rfl) (by kernel_rfl) (v := ?v14) (fun S' hz => dquietR_of ?h14) <| s_take 15 rfl (by kernel_rfl) (by kernel_rfl) (v := ?v15) (fun S' hz => dquietR_of ?h15) <| s_take 16 rfl (by kernel_rfl) (by kernel_rfl) (v := ?v16) (fun S' hz => dquietR_of ?h16) <| ?k16; (case h1 | h2 | h3 | h4 | h5 | h6 | h7 | h8 | h9 | h10 | h11 | h12 | h13 | h14 | h15 | h16 => ((simp (disch := first | decide | omega | (simp only [nx]; first | done | omega)) only [go_sem, Nat.reduceMul, q2b, q5b, q6, outL, hlt, hlp, hz]; (repeat (with_reducible refine And.intro (by first | omega | assumption | rfl) ?_))); first | done | exact rfl | omega))); (refine s_split [8] (by kernel_rfl) (by simp) ?_; intro j_ hj_; obtain rfl : j_ = 8 := (by simpa using hj_); clear hj_; refine s_op rfl ?_; (simp (disch := first | decide | omega | (simp only [nx]; first | done | omega)) only [go_sem, Nat.reduceMul]; (repeat (with_reducible refine And.intro (by first | omega | assumption | rfl) ?_)))); (refine dapp_at (lo := lo) heU (by kernel_rfl) h2.r1 (wU _) (xU _) (by simp (disch := first | decide | omega | (simp only [nx]; first | done | omega)) only [go_sem, Nat.reduceMul]; omega) (by simp (disch := first | decide | omega | (simp only [nx]; first | done | omega)) only [go_sem, Nat.reduceMul]; omega) ?_); (refine ⟨⟨h2.at1 hT (by omega) t2, h2.at1 hT (by omega) t5⟩, ?_⟩); (refine s_take 18 rfl (by kernel_rfl) (by kernel_rfl) (v := ?v17) (fun S' hz => dquietR_of ?h17) ?k17; (case h17 => ((simp (disch := first | decide | omega | (simp only [nx]; first | done | omega)) only [go_sem, Nat.reduceMul, q2b, q5b, q6, outL, hlt, hlp, hz]; (repeat (with_reducible refine And.intro (by first | omega | assumption | rfl) ?_))); first | done | exact rfl | omega))); (refine s_split [17] (by kernel_rfl) (by simp) ?_; intro j_ hj_; obtain rfl : j_ = 17 := (by simpa using hj_); clear hj_; refine s_op rfl ?_; (simp (disch := first | decide | omega | (simp only [nx]; first | done | omega)) only [go_sem, Nat.reduceMul]; (repeat (with_reducible refine And.intro (by first | omega | assumption | rfl) ?_)))); (refine dapp_at (lo := lo) heV (by kernel_rfl) (h2.row2 hT (by decide)) (wV _) (xV _) (by simp (disch := first | decide | omega | (simp only [nx]; first | done | omega)) only [go_sem, Nat.reduceMul]; omega) (by simp (disch := first | decide | omega | (simp only [nx]; first | done | omega)) only [go_sem, Nat.reduceMul]; omega) ?_); (refine ⟨⟨h2.at2 hT (by omega) t2, h2.at2 hT (by omega) t5⟩, ?_⟩))
      (refine s_done (by kernel_rfl) ?_; (simp (disch := first | decide | omega | (simp only [nx]; first | done | omega)) only [go_sem, Nat.reduceMul, q5b, y5, outL, q2b, q6, y2, w5]; (repeat (with_reducible refine And.intro (by first | omega | assumption | rfl) ?_))))
      have key := two_step h2 hT hln (by decide) (L1' := (woI v id i).map u64D ++ [u64D v.ids[i]]) (L2' := (woP v id i).map encV ++ [encV v.parts[i]]) (B := .box 29 (outL (.sl (.row T.next) ((woI v id i).map u64D ++ [u64D v.ids[i]])) (.sl o2 ((woP v id i).map encV)))) (m1 := (woI v id i).length + 1) (m2 := (woP v id i).length + 1) (by simp) (by simp)
      simp only [outL, u64D] at key
      revert key
      generalize St.set (St.set _ _ _) _ _ = T5
      rintro ⟨h5, hF5, hT5, hn5⟩
      refine ⟨by omega, T5.ob, fun _ _ h => h, by omega, by (first | (simp (disch := first | decide | omega | (simp only [nx]; first | done | omega)) only [go_sem, Nat.reduceMul]; first | done | rfl) | rfl), ⟨(.row T.next), (.row (T.next + 1)), ?_⟩, (hF.trans hF5).mono fun _ h => ⟨h.1, h.2⟩, by show lo ≤ T5.next; omega⟩
      rw [woI_ne hlt hx, woP_ne hlt hlp hx, List.map_append, List.map_append]
      exact h5
  · have b1 : decide ((i : Int) < (v.ids.length : Int)) = false := by simp; omega
    have hi : i = v.ids.length := by omega
    (simp (disch := first | decide | omega | (simp only [nx]; first | done | omega)) only [go_sem, Nat.reduceMul, q2b, q6, b1, t2, q4b, t4, q5b, t5, outL]; (repeat (with_reducible refine And.intro (by first | omega | assumption | rfl) ?_)))
    subst hi
    refine ⟨?_, ?_⟩
    · simp only [listV, encV, D.frz, frzL, frz_u64s, frz_mapV, encVs_map, sv, List.map_nil]
      rfl
    · refine ⟨by have := hF.next; show S.next ≤ T.next; omega, fun j ob e => ?_⟩
      have := hS.lt e
      show (if j = S.next + 1 then _ else T.ob j) = some ob
      rw [if_neg (by omega)]
      exact hF.ob _ _ ⟨by omega, by omega⟩ (hF0.ob _ _ e)
end Go.Proofs.YtjjhjhjphhpeiaaGreat

namespace Go.Proofs.YtjjhjhjphhpeiaaGreat
open Go.RowKit
set_option linter.unusedSimpArgs false
set_option linter.unusedVariables false
def valued (k : Int) : Bool := decide (k = 1) || decide (k = 2)
theorem refValued_d (k : Int) : DPure Tryz.prog 44 [.v (.int .i64 k)] (.v (.bool (valued k))) := by
  refine dpure_of_dwp mixed Tryz.func44 rfl (fun _ _ => by kernel_rfl) (rs := [.tmp 2]) rfl (by kernel_rfl) trivial (fun S hS => ?_)
  by_cases k1 : k = 1
  · have c1 : (k == 1) = true := by simp [k1]
    (simp (disch := first | decide | omega | (simp only [nx]; first | done | omega)) only [go_sem, Nat.reduceMul, c1]; (repeat (with_reducible refine And.intro (by first | omega | assumption | rfl) ?_)))
    refine ⟨?_, (by (repeat' first | assumption | exact St.Sub.refl _ | exact RowOk.sub (by assumption) (by assumption) | refine St.Sub.trans ?_ (RowOk.sub (by assumption) (by assumption)) | refine St.Sub.add ?_ ?_ _ | refine St.Sub.set ?_ ?_ ?_ _ | refine St.Sub.keep ?_ ?_ | refine St.WF.leave ?_ _ | refine St.WF.add ?_ _ | refine St.WF.set ?_ ?_ _ | refine St.WF.grow ?_ _ _ _ | refine St.WF.keep ?_ ?_ | (first | omega | (simp only [RowOk.lo, nx]; first | done | omega))))⟩
    rw [show valued k = true from by simp [valued, k1]]; rfl
  · have c1 : (k == 1) = false := by simp [k1]
    by_cases k2 : k = 2
    · have c2 : (k == 2) = true := by simp [k2]
      (simp (disch := first | decide | omega | (simp only [nx]; first | done | omega)) only [go_sem, Nat.reduceMul, c1, c2]; (repeat (with_reducible refine And.intro (by first | omega | assumption | rfl) ?_)))
      refine ⟨?_, (by (repeat' first | assumption | exact St.Sub.refl _ | exact RowOk.sub (by assumption) (by assumption) | refine St.Sub.trans ?_ (RowOk.sub (by assumption) (by assumption)) | refine St.Sub.add ?_ ?_ _ | refine St.Sub.set ?_ ?_ ?_ _ | refine St.Sub.keep ?_ ?_ | refine St.WF.leave ?_ _ | refine St.WF.add ?_ _ | refine St.WF.set ?_ ?_ _ | refine St.WF.grow ?_ _ _ _ | refine St.WF.keep ?_ ?_ | (first | omega | (simp only [RowOk.lo, nx]; first | done | omega))))⟩
      rw [show valued k = true from by simp [valued, k2]]; rfl
    · have c2 : (k == 2) = false := by simp [k2]
      (simp (disch := first | decide | omega | (simp only [nx]; first | done | omega)) only [go_sem, Nat.reduceMul, c1, c2]; (repeat (with_reducible refine And.intro (by first | omega | assumption | rfl) ?_)))
      refine ⟨?_, (by (repeat' first | assumption | exact St.Sub.refl _ | exact RowOk.sub (by assumption) (by assumption) | refine St.Sub.trans ?_ (RowOk.sub (by assumption) (by assumption)) | refine St.Sub.add ?_ ?_ _ | refine St.Sub.set ?_ ?_ ?_ _ | refine St.Sub.keep ?_ ?_ | refine St.WF.leave ?_ _ | refine St.WF.add ?_ _ | refine St.WF.set ?_ ?_ _ | refine St.WF.grow ?_ _ _ _ | refine St.WF.keep ?_ ?_ | (first | omega | (simp only [RowOk.lo, nx]; first | done | omega))))⟩
      rw [show valued k = false from by simp [valued, k1, k2]]; rfl
/-- An operation's kind, path and value. -/
theorem rightO_kind {o : DOp} (h : o.kind < 1 ∨ 4 < o.kind) : rightO o = false := by
  rw [rightO, if_neg (by omega), if_neg (by omega), if_neg (by omega), if_neg (by omega), Bool.and_false]
theorem RS.of_typS : ∀ (ps : List DStp) {s t : DSch}, RS s → typS ps s = some t → RS t ∧ True
  | [], s, t, h1, h2 => by injection h2 with h2; subst h2; exact ⟨h1, trivial⟩
  | p :: ps, s, t, h1, h2 => by
    rw [typS_cons] at h2
    cases hq : stepT s p with
    | none => rw [hq] at h2; cases h2
    | some u => rw [hq] at h2; exact RS.of_typS ps (h1.step hq) h2
theorem ne_swap (o : DOp) : ((o.after : Int) != (o.id : Int)) = ((o.id : Int) != (o.after : Int)) := by
  rw [u64_dne, u64_dne]; exact decide_eq_decide.2 ⟨fun h e => h e.symm, fun h e => h e.symm⟩
set_option maxRecDepth 200000 in
set_option maxHeartbeats 8000000 in
theorem refOpRight_d (o : DOp) (h : OkO o) : DPure Tryz.prog 26 [encO o] (.v (.bool (rightO o))) := by
  have hwt := h.wt
  have hpl := h.path
  have hdw := DVal.depth_weight o.val.depth o.val (Nat.le_refl _)
  refine dpure_of_dwp mixed Tryz.func26 rfl (fun _ _ => by kernel_rfl) (rs := [.tmp 2]) rfl (by kernel_rfl) trivial (fun S hS => ?_)
  by_cases r1 : o.kind < 1
  · have c1 : decide (o.kind < 1) = true := by simp [r1]
    (simp (disch := first | decide | omega | (simp only [nx]; first | done | omega)) only [go_sem, Nat.reduceMul, opCs, c1]; (repeat (with_reducible refine And.intro (by first | omega | assumption | rfl) ?_)))
    refine ⟨?_, (by (repeat' first | assumption | exact St.Sub.refl _ | exact RowOk.sub (by assumption) (by assumption) | refine St.Sub.trans ?_ (RowOk.sub (by assumption) (by assumption)) | refine St.Sub.add ?_ ?_ _ | refine St.Sub.set ?_ ?_ ?_ _ | refine St.Sub.keep ?_ ?_ | refine St.WF.leave ?_ _ | refine St.WF.add ?_ _ | refine St.WF.set ?_ ?_ _ | refine St.WF.grow ?_ _ _ _ | refine St.WF.keep ?_ ?_ | (first | omega | (simp only [RowOk.lo, nx]; first | done | omega))))⟩
    rw [rightO_kind (.inl r1)]; rfl
  have c1 : decide (o.kind < 1) = false := by simp; omega
  by_cases r2 : 4 < o.kind
  · have c2 : decide (4 < o.kind) = true := by simp [r2]
    (simp (disch := first | decide | omega | (simp only [nx]; first | done | omega)) only [go_sem, Nat.reduceMul, opCs, c1, c2]; (repeat (with_reducible refine And.intro (by first | omega | assumption | rfl) ?_)))
    refine ⟨?_, (by (repeat' first | assumption | exact St.Sub.refl _ | exact RowOk.sub (by assumption) (by assumption) | refine St.Sub.trans ?_ (RowOk.sub (by assumption) (by assumption)) | refine St.Sub.add ?_ ?_ _ | refine St.Sub.set ?_ ?_ ?_ _ | refine St.Sub.keep ?_ ?_ | refine St.WF.leave ?_ _ | refine St.WF.add ?_ _ | refine St.WF.set ?_ ?_ _ | refine St.WF.grow ?_ _ _ _ | refine St.WF.keep ?_ ?_ | (first | omega | (simp only [RowOk.lo, nx]; first | done | omega))))⟩
    rw [rightO_kind (.inr r2)]; rfl
  have c2 : decide (4 < o.kind) = false := by simp; omega
  (simp (disch := first | decide | omega | (simp only [nx]; first | done | omega)) only [go_sem, Nat.reduceMul, opCs, c1, c2]; (repeat (with_reducible refine And.intro (by first | omega | assumption | rfl) ?_)))
  refine DCalls.of_pure (refRight_d .no o.path (by omega) h.names) ?_
  cases hp : rightP o.path with
  | false =>
    (simp (disch := first | decide | omega | (simp only [nx]; first | done | omega)) only [go_sem, Nat.reduceMul]; (repeat (with_reducible refine And.intro (by first | omega | assumption | rfl) ?_)))
    refine ⟨?_, (by (repeat' first | assumption | exact St.Sub.refl _ | exact RowOk.sub (by assumption) (by assumption) | refine St.Sub.trans ?_ (RowOk.sub (by assumption) (by assumption)) | refine St.Sub.add ?_ ?_ _ | refine St.Sub.set ?_ ?_ ?_ _ | refine St.Sub.keep ?_ ?_ | refine St.WF.leave ?_ _ | refine St.WF.add ?_ _ | refine St.WF.set ?_ ?_ _ | refine St.WF.grow ?_ _ _ _ | refine St.WF.keep ?_ ?_ | (first | omega | (simp only [RowOk.lo, nx]; first | done | omega))))⟩
    rw [rightO, hp]; rfl
  | true =>
  have hsm := refSameV_d o.val zeroV h.val zeroV_ok
  have hv := refValRight_d o.val h.val (by omega)
  (simp (disch := first | decide | omega | (simp only [nx]; first | done | omega)) only [go_sem, Nat.reduceMul]; (repeat (with_reducible refine And.intro (by first | omega | assumption | rfl) ?_)))
  refine DCalls.of_pure (refValued_d o.kind) ?_
  by_cases kv : o.kind = 1 ∨ o.kind = 2
  · have ev : valued o.kind = true := by simp [valued, kv]
    (simp (disch := first | decide | omega | (simp only [nx]; first | done | omega)) only [go_sem, Nat.reduceMul, ev]; (repeat (with_reducible refine And.intro (by first | omega | assumption | rfl) ?_)))
    refine DCalls.of_pure hv ?_
    cases hr : rightV 5 o.val with
    | false =>
      (simp (disch := first | decide | omega | (simp only [nx]; first | done | omega)) only [go_sem, Nat.reduceMul]; (repeat (with_reducible refine And.intro (by first | omega | assumption | rfl) ?_)))
      refine ⟨?_, (by (repeat' first | assumption | exact St.Sub.refl _ | exact RowOk.sub (by assumption) (by assumption) | refine St.Sub.trans ?_ (RowOk.sub (by assumption) (by assumption)) | refine St.Sub.add ?_ ?_ _ | refine St.Sub.set ?_ ?_ ?_ _ | refine St.Sub.keep ?_ ?_ | refine St.WF.leave ?_ _ | refine St.WF.add ?_ _ | refine St.WF.set ?_ ?_ _ | refine St.WF.grow ?_ _ _ _ | refine St.WF.keep ?_ ?_ | (first | omega | (simp only [RowOk.lo, nx]; first | done | omega))))⟩
      rcases kv with k | k
      · rw [rightO, hp, if_pos k, hr]; simp; rfl
      · rw [rightO, hp, if_neg (by omega), if_pos k, hr]; simp; rfl
    | true =>
    (simp (disch := first | decide | omega | (simp only [nx]; first | done | omega)) only [go_sem, Nat.reduceMul]; (repeat (with_reducible refine And.intro (by first | omega | assumption | rfl) ?_)))
    refine DCalls.of_pure (refValued_d o.kind) ?_
    rcases kv with k1 | k2
    · have c1 : (o.kind == 1) = true := by simp [k1]
      by_cases i0 : o.id = 0
      · by_cases a0 : o.after = 0
        · have d1 := decide_eq_true i0
          have d2 := decide_eq_true a0
          (simp (disch := first | decide | omega | (simp only [nx]; first | done | omega)) only [go_sem, Nat.reduceMul, ev, c1, u64_d0, d1, d2]; (repeat (with_reducible refine And.intro (by first | omega | assumption | rfl) ?_)))
          refine ⟨?_, (by (repeat' first | assumption | exact St.Sub.refl _ | exact RowOk.sub (by assumption) (by assumption) | refine St.Sub.trans ?_ (RowOk.sub (by assumption) (by assumption)) | refine St.Sub.add ?_ ?_ _ | refine St.Sub.set ?_ ?_ ?_ _ | refine St.Sub.keep ?_ ?_ | refine St.WF.leave ?_ _ | refine St.WF.add ?_ _ | refine St.WF.set ?_ ?_ _ | refine St.WF.grow ?_ _ _ _ | refine St.WF.keep ?_ ?_ | (first | omega | (simp only [RowOk.lo, nx]; first | done | omega))))⟩
          rw [rightO, hp, if_pos k1, d1, d2, hr]; rfl
        · have d1 := decide_eq_true i0
          have d2 := decide_eq_false a0
          (simp (disch := first | decide | omega | (simp only [nx]; first | done | omega)) only [go_sem, Nat.reduceMul, ev, c1, u64_d0, d1, d2]; (repeat (with_reducible refine And.intro (by first | omega | assumption | rfl) ?_)))
          refine ⟨?_, (by (repeat' first | assumption | exact St.Sub.refl _ | exact RowOk.sub (by assumption) (by assumption) | refine St.Sub.trans ?_ (RowOk.sub (by assumption) (by assumption)) | refine St.Sub.add ?_ ?_ _ | refine St.Sub.set ?_ ?_ ?_ _ | refine St.Sub.keep ?_ ?_ | refine St.WF.leave ?_ _ | refine St.WF.add ?_ _ | refine St.WF.set ?_ ?_ _ | refine St.WF.grow ?_ _ _ _ | refine St.WF.keep ?_ ?_ | (first | omega | (simp only [RowOk.lo, nx]; first | done | omega))))⟩
          rw [rightO, hp, if_pos k1, d1, d2]; rfl
      · have d1 := decide_eq_false i0
        (simp (disch := first | decide | omega | (simp only [nx]; first | done | omega)) only [go_sem, Nat.reduceMul, ev, c1, u64_d0, d1]; (repeat (with_reducible refine And.intro (by first | omega | assumption | rfl) ?_)))
        refine ⟨?_, (by (repeat' first | assumption | exact St.Sub.refl _ | exact RowOk.sub (by assumption) (by assumption) | refine St.Sub.trans ?_ (RowOk.sub (by assumption) (by assumption)) | refine St.Sub.add ?_ ?_ _ | refine St.Sub.set ?_ ?_ ?_ _ | refine St.Sub.keep ?_ ?_ | refine St.WF.leave ?_ _ | refine St.WF.add ?_ _ | refine St.WF.set ?_ ?_ _ | refine St.WF.grow ?_ _ _ _ | refine St.WF.keep ?_ ?_ | (first | omega | (simp only [RowOk.lo, nx]; first | done | omega))))⟩
        rw [rightO, hp, if_pos k1, d1]; rfl
    · have c1 : (o.kind == 1) = false := by simp [k2]
      have c3 : (o.kind == 3) = false := by simp [k2]
      by_cases i0 : o.id ≠ 0
      · by_cases a0 : o.id ≠ o.after
        · have d1 := decide_eq_true i0
          have d2 := decide_eq_true a0
          (simp (disch := first | decide | omega | (simp only [nx]; first | done | omega)) only [go_sem, Nat.reduceMul, ev, c1, c3, u64_n0, ne_swap o, u64_dne, d1, d2]; (repeat (with_reducible refine And.intro (by first | omega | assumption | rfl) ?_)))
          refine ⟨?_, (by (repeat' first | assumption | exact St.Sub.refl _ | exact RowOk.sub (by assumption) (by assumption) | refine St.Sub.trans ?_ (RowOk.sub (by assumption) (by assumption)) | refine St.Sub.add ?_ ?_ _ | refine St.Sub.set ?_ ?_ ?_ _ | refine St.Sub.keep ?_ ?_ | refine St.WF.leave ?_ _ | refine St.WF.add ?_ _ | refine St.WF.set ?_ ?_ _ | refine St.WF.grow ?_ _ _ _ | refine St.WF.keep ?_ ?_ | (first | omega | (simp only [RowOk.lo, nx]; first | done | omega))))⟩
          rw [rightO, hp, if_neg (by omega), if_pos k2, d1, d2, hr]; rfl
        · have d1 := decide_eq_true i0
          have d2 := decide_eq_false a0
          (simp (disch := first | decide | omega | (simp only [nx]; first | done | omega)) only [go_sem, Nat.reduceMul, ev, c1, c3, u64_n0, ne_swap o, u64_dne, d1, d2]; (repeat (with_reducible refine And.intro (by first | omega | assumption | rfl) ?_)))
          refine ⟨?_, (by (repeat' first | assumption | exact St.Sub.refl _ | exact RowOk.sub (by assumption) (by assumption) | refine St.Sub.trans ?_ (RowOk.sub (by assumption) (by assumption)) | refine St.Sub.add ?_ ?_ _ | refine St.Sub.set ?_ ?_ ?_ _ | refine St.Sub.keep ?_ ?_ | refine St.WF.leave ?_ _ | refine St.WF.add ?_ _ | refine St.WF.set ?_ ?_ _ | refine St.WF.grow ?_ _ _ _ | refine St.WF.keep ?_ ?_ | (first | omega | (simp only [RowOk.lo, nx]; first | done | omega))))⟩
          rw [rightO, hp, if_neg (by omega), if_pos k2, d1, d2]; rfl
      · have d1 := decide_eq_false i0
        (simp (disch := first | decide | omega | (simp only [nx]; first | done | omega)) only [go_sem, Nat.reduceMul, ev, c1, c3, u64_n0, d1]; (repeat (with_reducible refine And.intro (by first | omega | assumption | rfl) ?_)))
        refine ⟨?_, (by (repeat' first | assumption | exact St.Sub.refl _ | exact RowOk.sub (by assumption) (by assumption) | refine St.Sub.trans ?_ (RowOk.sub (by assumption) (by assumption)) | refine St.Sub.add ?_ ?_ _ | refine St.Sub.set ?_ ?_ ?_ _ | refine St.Sub.keep ?_ ?_ | refine St.WF.leave ?_ _ | refine St.WF.add ?_ _ | refine St.WF.set ?_ ?_ _ | refine St.WF.grow ?_ _ _ _ | refine St.WF.keep ?_ ?_ | (first | omega | (simp only [RowOk.lo, nx]; first | done | omega))))⟩
        rw [rightO, hp, if_neg (by omega), if_pos k2, d1]; rfl
  · have ev : valued o.kind = false := by simp [valued]; omega
    have k1 : ¬ o.kind = 1 := by omega
    have k2 : ¬ o.kind = 2 := by omega
    have c1 : (o.kind == 1) = false := by simp [k1]
    (simp (disch := first | decide | omega | (simp only [nx]; first | done | omega)) only [go_sem, Nat.reduceMul, ev]; (repeat (with_reducible refine And.intro (by first | omega | assumption | rfl) ?_)))
    refine DCalls.of_pure (refValued_d o.kind) ?_
    (simp (disch := first | decide | omega | (simp only [nx]; first | done | omega)) only [go_sem, Nat.reduceMul, ev]; (repeat (with_reducible refine And.intro (by first | omega | assumption | rfl) ?_)))
    refine DCalls.of_pure (DPure.weak hsm (by simp only [frzL, frz_encV]; rfl)) ?_
    cases hs : eqB o.val zeroV with
    | false =>
      (simp (disch := first | decide | omega | (simp only [nx]; first | done | omega)) only [go_sem, Nat.reduceMul]; (repeat (with_reducible refine And.intro (by first | omega | assumption | rfl) ?_)))
      refine ⟨?_, (by (repeat' first | assumption | exact St.Sub.refl _ | exact RowOk.sub (by assumption) (by assumption) | refine St.Sub.trans ?_ (RowOk.sub (by assumption) (by assumption)) | refine St.Sub.add ?_ ?_ _ | refine St.Sub.set ?_ ?_ ?_ _ | refine St.Sub.keep ?_ ?_ | refine St.WF.leave ?_ _ | refine St.WF.add ?_ _ | refine St.WF.set ?_ ?_ _ | refine St.WF.grow ?_ _ _ _ | refine St.WF.keep ?_ ?_ | (first | omega | (simp only [RowOk.lo, nx]; first | done | omega))))⟩
      by_cases k : o.kind = 3
      · rw [rightO, hp, if_neg k1, if_neg k2, if_pos k, hs]; simp; rfl
      · rw [rightO, hp, if_neg k1, if_neg k2, if_neg k, if_pos (by omega), hs]; simp; rfl
    | true =>
    by_cases k3 : o.kind = 3
    · have c3 : (o.kind == 3) = true := by simp [k3]
      by_cases i0 : o.id ≠ 0
      · by_cases a0 : o.after = 0
        · have d1 := decide_eq_true i0
          have d2 := decide_eq_true a0
          (simp (disch := first | decide | omega | (simp only [nx]; first | done | omega)) only [go_sem, Nat.reduceMul, ev, c1, c3, u64_n0, u64_d0, d1, d2]; (repeat (with_reducible refine And.intro (by first | omega | assumption | rfl) ?_)))
          refine ⟨?_, (by (repeat' first | assumption | exact St.Sub.refl _ | exact RowOk.sub (by assumption) (by assumption) | refine St.Sub.trans ?_ (RowOk.sub (by assumption) (by assumption)) | refine St.Sub.add ?_ ?_ _ | refine St.Sub.set ?_ ?_ ?_ _ | refine St.Sub.keep ?_ ?_ | refine St.WF.leave ?_ _ | refine St.WF.add ?_ _ | refine St.WF.set ?_ ?_ _ | refine St.WF.grow ?_ _ _ _ | refine St.WF.keep ?_ ?_ | (first | omega | (simp only [RowOk.lo, nx]; first | done | omega))))⟩
          rw [rightO, hp, if_neg k1, if_neg k2, if_pos k3, d1, d2, hs]; rfl
        · have d1 := decide_eq_true i0
          have d2 := decide_eq_false a0
          (simp (disch := first | decide | omega | (simp only [nx]; first | done | omega)) only [go_sem, Nat.reduceMul, ev, c1, c3, u64_n0, u64_d0, d1, d2]; (repeat (with_reducible refine And.intro (by first | omega | assumption | rfl) ?_)))
          refine ⟨?_, (by (repeat' first | assumption | exact St.Sub.refl _ | exact RowOk.sub (by assumption) (by assumption) | refine St.Sub.trans ?_ (RowOk.sub (by assumption) (by assumption)) | refine St.Sub.add ?_ ?_ _ | refine St.Sub.set ?_ ?_ ?_ _ | refine St.Sub.keep ?_ ?_ | refine St.WF.leave ?_ _ | refine St.WF.add ?_ _ | refine St.WF.set ?_ ?_ _ | refine St.WF.grow ?_ _ _ _ | refine St.WF.keep ?_ ?_ | (first | omega | (simp only [RowOk.lo, nx]; first | done | omega))))⟩
          rw [rightO, hp, if_neg k1, if_neg k2, if_pos k3, d1, d2]; rfl
      · have d1 := decide_eq_false i0
        (simp (disch := first | decide | omega | (simp only [nx]; first | done | omega)) only [go_sem, Nat.reduceMul, ev, c1, c3, u64_n0, u64_d0, d1]; (repeat (with_reducible refine And.intro (by first | omega | assumption | rfl) ?_)))
        refine ⟨?_, (by (repeat' first | assumption | exact St.Sub.refl _ | exact RowOk.sub (by assumption) (by assumption) | refine St.Sub.trans ?_ (RowOk.sub (by assumption) (by assumption)) | refine St.Sub.add ?_ ?_ _ | refine St.Sub.set ?_ ?_ ?_ _ | refine St.Sub.keep ?_ ?_ | refine St.WF.leave ?_ _ | refine St.WF.add ?_ _ | refine St.WF.set ?_ ?_ _ | refine St.WF.grow ?_ _ _ _ | refine St.WF.keep ?_ ?_ | (first | omega | (simp only [RowOk.lo, nx]; first | done | omega))))⟩
        rw [rightO, hp, if_neg k1, if_neg k2, if_pos k3, d1]; rfl
    · have c3 : (o.kind == 3) = false := by simp [k3]
      have k4 : o.kind = 4 := by omega
      by_cases i0 : o.id ≠ 0
      · by_cases a0 : o.id ≠ o.after
        · have d1 := decide_eq_true i0
          have d2 := decide_eq_true a0
          (simp (disch := first | decide | omega | (simp only [nx]; first | done | omega)) only [go_sem, Nat.reduceMul, ev, c1, c3, u64_n0, ne_swap o, u64_dne, d1, d2]; (repeat (with_reducible refine And.intro (by first | omega | assumption | rfl) ?_)))
          refine ⟨?_, (by (repeat' first | assumption | exact St.Sub.refl _ | exact RowOk.sub (by assumption) (by assumption) | refine St.Sub.trans ?_ (RowOk.sub (by assumption) (by assumption)) | refine St.Sub.add ?_ ?_ _ | refine St.Sub.set ?_ ?_ ?_ _ | refine St.Sub.keep ?_ ?_ | refine St.WF.leave ?_ _ | refine St.WF.add ?_ _ | refine St.WF.set ?_ ?_ _ | refine St.WF.grow ?_ _ _ _ | refine St.WF.keep ?_ ?_ | (first | omega | (simp only [RowOk.lo, nx]; first | done | omega))))⟩
          rw [rightO, hp, if_neg k1, if_neg k2, if_neg k3, if_pos k4, d1, d2, hs]; rfl
        · have d1 := decide_eq_true i0
          have d2 := decide_eq_false a0
          (simp (disch := first | decide | omega | (simp only [nx]; first | done | omega)) only [go_sem, Nat.reduceMul, ev, c1, c3, u64_n0, ne_swap o, u64_dne, d1, d2]; (repeat (with_reducible refine And.intro (by first | omega | assumption | rfl) ?_)))
          refine ⟨?_, (by (repeat' first | assumption | exact St.Sub.refl _ | exact RowOk.sub (by assumption) (by assumption) | refine St.Sub.trans ?_ (RowOk.sub (by assumption) (by assumption)) | refine St.Sub.add ?_ ?_ _ | refine St.Sub.set ?_ ?_ ?_ _ | refine St.Sub.keep ?_ ?_ | refine St.WF.leave ?_ _ | refine St.WF.add ?_ _ | refine St.WF.set ?_ ?_ _ | refine St.WF.grow ?_ _ _ _ | refine St.WF.keep ?_ ?_ | (first | omega | (simp only [RowOk.lo, nx]; first | done | omega))))⟩
          rw [rightO, hp, if_neg k1, if_neg k2, if_neg k3, if_pos k4, d1, d2]; rfl
      · have d1 := decide_eq_false i0
        (simp (disch := first | decide | omega | (simp only [nx]; first | done | omega)) only [go_sem, Nat.reduceMul, ev, c1, c3, u64_n0, d1]; (repeat (with_reducible refine And.intro (by first | omega | assumption | rfl) ?_)))
        refine ⟨?_, (by (repeat' first | assumption | exact St.Sub.refl _ | exact RowOk.sub (by assumption) (by assumption) | refine St.Sub.trans ?_ (RowOk.sub (by assumption) (by assumption)) | refine St.Sub.add ?_ ?_ _ | refine St.Sub.set ?_ ?_ ?_ _ | refine St.Sub.keep ?_ ?_ | refine St.WF.leave ?_ _ | refine St.WF.add ?_ _ | refine St.WF.set ?_ ?_ _ | refine St.WF.grow ?_ _ _ _ | refine St.WF.keep ?_ ?_ | (first | omega | (simp only [RowOk.lo, nx]; first | done | omega))))⟩
        rw [rightO, hp, if_neg k1, if_neg k2, if_neg k3, if_pos k4, d1]; rfl
set_option maxRecDepth 200000 in
set_option maxHeartbeats 8000000 in
theorem refCheck_d (o : DOp) (s : DSch) (h : OkO o) (hs : okS s) (hsw : s.weight ≤ 1000) : DPure Tryz.prog 15 [encO o, encS s] (.v (.int .i64 ((chkO o s : Nat) : Int))) := by
  have hwt := h.wt
  have hpl := h.path
  have hdw := DVal.depth_weight o.val.depth o.val (Nat.le_refl _)
  have hsd := DSch.depth_weight s.depth s (Nat.le_refl _)
  refine dpure_of_dwp mixed Tryz.func15 rfl (fun _ _ => by kernel_rfl) (rs := [.tmp 4]) rfl (by kernel_rfl) trivial (fun S hS => ?_)
  (simp (disch := first | decide | omega | (simp only [nx]; first | done | omega)) only [go_sem, Nat.reduceMul]; (repeat (with_reducible refine And.intro (by first | omega | assumption | rfl) ?_)))
  refine DCalls.of_pure (refOpRight_d o h) ?_
  cases hr : rightO o with
  | false =>
    (simp (disch := first | decide | omega | (simp only [nx]; first | done | omega)) only [go_sem, Nat.reduceMul]; (repeat (with_reducible refine And.intro (by first | omega | assumption | rfl) ?_)))
    refine ⟨?_, (by (repeat' first | assumption | exact St.Sub.refl _ | exact RowOk.sub (by assumption) (by assumption) | refine St.Sub.trans ?_ (RowOk.sub (by assumption) (by assumption)) | refine St.Sub.add ?_ ?_ _ | refine St.Sub.set ?_ ?_ ?_ _ | refine St.Sub.keep ?_ ?_ | refine St.WF.leave ?_ _ | refine St.WF.add ?_ _ | refine St.WF.set ?_ ?_ _ | refine St.WF.grow ?_ _ _ _ | refine St.WF.keep ?_ ?_ | (first | omega | (simp only [RowOk.lo, nx]; first | done | omega))))⟩
    rw [chkO, if_neg (by rw [hr]; simp)]; rfl
  | true =>
  (simp (disch := first | decide | omega | (simp only [nx]; first | done | omega)) only [go_sem, Nat.reduceMul]; (repeat (with_reducible refine And.intro (by first | omega | assumption | rfl) ?_)))
  refine DCalls.of_pure (refSchRight_d s hs (by omega)) ?_
  cases hrs : rightS 5 s with
  | false =>
    (simp (disch := first | decide | omega | (simp only [nx]; first | done | omega)) only [go_sem, Nat.reduceMul]; (repeat (with_reducible refine And.intro (by first | omega | assumption | rfl) ?_)))
    refine ⟨?_, (by (repeat' first | assumption | exact St.Sub.refl _ | exact RowOk.sub (by assumption) (by assumption) | refine St.Sub.trans ?_ (RowOk.sub (by assumption) (by assumption)) | refine St.Sub.add ?_ ?_ _ | refine St.Sub.set ?_ ?_ ?_ _ | refine St.Sub.keep ?_ ?_ | refine St.WF.leave ?_ _ | refine St.WF.add ?_ _ | refine St.WF.set ?_ ?_ _ | refine St.WF.grow ?_ _ _ _ | refine St.WF.keep ?_ ?_ | (first | omega | (simp only [RowOk.lo, nx]; first | done | omega))))⟩
    rw [chkO, if_neg (by rw [hrs]; simp)]; rfl
  | true =>
  have hc : chkO o s = (match typS o.path s with | some t => if fitO o t = true then 0 else 6 | none => 6) := by rw [chkO, if_pos ⟨hr, hrs⟩]; rfl
  obtain ⟨hRS, hdep⟩ := RS.of_top hrs
  (simp (disch := first | decide | omega | (simp only [nx]; first | done | omega)) only [go_sem, Nat.reduceMul, opCs]; (repeat (with_reducible refine And.intro (by first | omega | assumption | rfl) ?_)))
  refine DCalls.of_pure (refType_d o.path .no s hs (by omega) (by omega)) ?_
  cases ht : typS o.path s with
  | none =>
    (simp (disch := first | decide | omega | (simp only [nx]; first | done | omega)) only [go_sem, Nat.reduceMul, tupS, Option.getD_none, Option.isSome_none]; (repeat (with_reducible refine And.intro (by first | omega | assumption | rfl) ?_)))
    refine ddraw_mk 39 (by kernel_rfl) ?_
    (simp (disch := first | decide | omega | (simp only [nx]; first | done | omega)) only [go_sem, Nat.reduceMul]; (repeat (with_reducible refine And.intro (by first | omega | assumption | rfl) ?_)))
    refine ⟨?_, (by (repeat' first | assumption | exact St.Sub.refl _ | exact RowOk.sub (by assumption) (by assumption) | refine St.Sub.trans ?_ (RowOk.sub (by assumption) (by assumption)) | refine St.Sub.add ?_ ?_ _ | refine St.Sub.set ?_ ?_ ?_ _ | refine St.Sub.keep ?_ ?_ | refine St.WF.leave ?_ _ | refine St.WF.add ?_ _ | refine St.WF.set ?_ ?_ _ | refine St.WF.grow ?_ _ _ _ | refine St.WF.keep ?_ ?_ | (first | omega | (simp only [RowOk.lo, nx]; first | done | omega))))⟩
    rw [hc, ht]; rfl
  | some t =>
  obtain ⟨hto, htw⟩ := typS_fine _ ht hs (by omega)
  have htd := DSch.depth_weight t.depth t (Nat.le_refl _)
  rw [ht] at hc
  simp only at hc
  by_cases k1 : o.kind = 1
  · have c1 : (o.kind == 1) = true := by simp [k1]
    have g1 : decide (1 < o.kind) = false := by simp; omega
    have c2 : (o.kind == 2) = false := by simp [k1]
    (simp (disch := first | decide | omega | (simp only [nx]; first | done | omega)) only [go_sem, Nat.reduceMul, tupS, Option.getD_some, Option.isSome_some, c1, c2, g1]; (repeat (with_reducible refine And.intro (by first | omega | assumption | rfl) ?_)))
    refine ddraw_mk 39 (by kernel_rfl) ?_
    (simp (disch := first | decide | omega | (simp only [nx]; first | done | omega)) only [go_sem, Nat.reduceMul, opCs, c1, c2, g1]; (repeat (with_reducible refine And.intro (by first | omega | assumption | rfl) ?_)))
    refine dqgo_mk (refFitsTop_d o.val t h.val hto (by omega) (by omega)) ?_
    have hf : fitO o t = fitsTop o.val t := by rw [fitO, if_pos k1]
    cases hft : fitsTop o.val t with
    | true =>
      (simp (disch := first | decide | omega | (simp only [nx]; first | done | omega)) only [go_sem, Nat.reduceMul, opCs, c1, c2, g1]; (repeat (with_reducible refine And.intro (by first | omega | assumption | rfl) ?_)))
      refine ⟨?_, (by (repeat' first | assumption | exact St.Sub.refl _ | exact RowOk.sub (by assumption) (by assumption) | refine St.Sub.trans ?_ (RowOk.sub (by assumption) (by assumption)) | refine St.Sub.add ?_ ?_ _ | refine St.Sub.set ?_ ?_ ?_ _ | refine St.Sub.keep ?_ ?_ | refine St.WF.leave ?_ _ | refine St.WF.add ?_ _ | refine St.WF.set ?_ ?_ _ | refine St.WF.grow ?_ _ _ _ | refine St.WF.keep ?_ ?_ | (first | omega | (simp only [RowOk.lo, nx]; first | done | omega))))⟩
      rw [hc, hf, hft]; rfl
    | false =>
      (simp (disch := first | decide | omega | (simp only [nx]; first | done | omega)) only [go_sem, Nat.reduceMul, opCs, c1, c2, g1]; (repeat (with_reducible refine And.intro (by first | omega | assumption | rfl) ?_)))
      refine ⟨?_, (by (repeat' first | assumption | exact St.Sub.refl _ | exact RowOk.sub (by assumption) (by assumption) | refine St.Sub.trans ?_ (RowOk.sub (by assumption) (by assumption)) | refine St.Sub.add ?_ ?_ _ | refine St.Sub.set ?_ ?_ ?_ _ | refine St.Sub.keep ?_ ?_ | refine St.WF.leave ?_ _ | refine St.WF.add ?_ _ | refine St.WF.set ?_ ?_ _ | refine St.WF.grow ?_ _ _ _ | refine St.WF.keep ?_ ?_ | (first | omega | (simp only [RowOk.lo, nx]; first | done | omega))))⟩
      rw [hc, hf, hft]; rfl
  have c1 : (o.kind == 1) = false := by simp [k1]
  have hk : 1 ≤ o.kind := by
    by_cases hh : 1 ≤ o.kind
    · exact hh
    · rw [rightO_kind (.inl (by omega))] at hr; cases hr
  have g1 : decide (1 < o.kind) = true := by simp; omega
  by_cases t6 : t.kind = 6
  · have c6 : (t.kind != 6) = false := by simp [t6]
    by_cases k2 : o.kind = 2
    · have c2 : (o.kind == 2) = true := by simp [k2]
      obtain ⟨hRt, _⟩ := RS.of_typS _ hRS ht
      have hp1 := hRt.here.2 t6
      have hp0 : 0 < t.parts.length := by omega
      have g0 := getD_map encS t.parts 0 hp0
      have hp0i : (0 : Int) < (t.parts.length : Int) := by omega
      have hto0 : okS t.parts[0] := ((okS_eq t).1 hto).2.2.2.2 _ (List.getElem_mem hp0)
      have htd0 := DSch.depth_part (List.getElem_mem hp0)
      (simp (disch := first | decide | omega | (simp only [nx]; first | done | omega)) only [go_sem, Nat.reduceMul, tupS, Option.getD_some, Option.isSome_some, c1, c2, g1, c6]; (repeat (with_reducible refine And.intro (by first | omega | assumption | rfl) ?_)))
      refine ddraw_mk 39 (by kernel_rfl) ?_
      (simp (disch := first | decide | omega | (simp only [nx]; first | done | omega)) only [go_sem, Nat.reduceMul, opCs, c1, c2, g1, c6, g0, hp0i]; (repeat (with_reducible refine And.intro (by first | omega | assumption | rfl) ?_)))
      refine dqgo_mk (refFitsTop_d o.val t.parts[0] h.val hto0 (by omega) (by omega)) ?_
      have hf : fitO o t = fitsTop o.val t.parts[0] := by rw [fitO, if_neg k1, if_pos t6, if_pos k2, getD_at hp0]
      cases hft : fitsTop o.val t.parts[0] with
      | true =>
        (simp (disch := first | decide | omega | (simp only [nx]; first | done | omega)) only [go_sem, Nat.reduceMul]; (repeat (with_reducible refine And.intro (by first | omega | assumption | rfl) ?_)))
        refine ⟨?_, (by (repeat' first | assumption | exact St.Sub.refl _ | exact RowOk.sub (by assumption) (by assumption) | refine St.Sub.trans ?_ (RowOk.sub (by assumption) (by assumption)) | refine St.Sub.add ?_ ?_ _ | refine St.Sub.set ?_ ?_ ?_ _ | refine St.Sub.keep ?_ ?_ | refine St.WF.leave ?_ _ | refine St.WF.add ?_ _ | refine St.WF.set ?_ ?_ _ | refine St.WF.grow ?_ _ _ _ | refine St.WF.keep ?_ ?_ | (first | omega | (simp only [RowOk.lo, nx]; first | done | omega))))⟩
        rw [hc, hf, hft]; rfl
      | false =>
        (simp (disch := first | decide | omega | (simp only [nx]; first | done | omega)) only [go_sem, Nat.reduceMul]; (repeat (with_reducible refine And.intro (by first | omega | assumption | rfl) ?_)))
        refine ⟨?_, (by (repeat' first | assumption | exact St.Sub.refl _ | exact RowOk.sub (by assumption) (by assumption) | refine St.Sub.trans ?_ (RowOk.sub (by assumption) (by assumption)) | refine St.Sub.add ?_ ?_ _ | refine St.Sub.set ?_ ?_ ?_ _ | refine St.Sub.keep ?_ ?_ | refine St.WF.leave ?_ _ | refine St.WF.add ?_ _ | refine St.WF.set ?_ ?_ _ | refine St.WF.grow ?_ _ _ _ | refine St.WF.keep ?_ ?_ | (first | omega | (simp only [RowOk.lo, nx]; first | done | omega))))⟩
        rw [hc, hf, hft]; rfl
    · have c2 : (o.kind == 2) = false := by simp [k2]
      (simp (disch := first | decide | omega | (simp only [nx]; first | done | omega)) only [go_sem, Nat.reduceMul, tupS, Option.getD_some, Option.isSome_some, c1, c2, g1, c6]; (repeat (with_reducible refine And.intro (by first | omega | assumption | rfl) ?_)))
      refine ddraw_mk 39 (by kernel_rfl) ?_
      (simp (disch := first | decide | omega | (simp only [nx]; first | done | omega)) only [go_sem, Nat.reduceMul, opCs, c1, c2, g1, c6]; (repeat (with_reducible refine And.intro (by first | omega | assumption | rfl) ?_)))
      refine ⟨?_, (by (repeat' first | assumption | exact St.Sub.refl _ | exact RowOk.sub (by assumption) (by assumption) | refine St.Sub.trans ?_ (RowOk.sub (by assumption) (by assumption)) | refine St.Sub.add ?_ ?_ _ | refine St.Sub.set ?_ ?_ ?_ _ | refine St.Sub.keep ?_ ?_ | refine St.WF.leave ?_ _ | refine St.WF.add ?_ _ | refine St.WF.set ?_ ?_ _ | refine St.WF.grow ?_ _ _ _ | refine St.WF.keep ?_ ?_ | (first | omega | (simp only [RowOk.lo, nx]; first | done | omega))))⟩
      have hf : fitO o t = true := by rw [fitO, if_neg k1, if_pos t6, if_neg k2]
      rw [hc, hf]; rfl
  · have c6 : (t.kind != 6) = true := by simp [t6]
    (simp (disch := first | decide | omega | (simp only [nx]; first | done | omega)) only [go_sem, Nat.reduceMul, tupS, Option.getD_some, Option.isSome_some, c1, c6, g1]; (repeat (with_reducible refine And.intro (by first | omega | assumption | rfl) ?_)))
    refine ddraw_mk 39 (by kernel_rfl) ?_
    (simp (disch := first | decide | omega | (simp only [nx]; first | done | omega)) only [go_sem, Nat.reduceMul, opCs, c1, c6, g1]; (repeat (with_reducible refine And.intro (by first | omega | assumption | rfl) ?_)))
    refine ⟨?_, (by (repeat' first | assumption | exact St.Sub.refl _ | exact RowOk.sub (by assumption) (by assumption) | refine St.Sub.trans ?_ (RowOk.sub (by assumption) (by assumption)) | refine St.Sub.add ?_ ?_ _ | refine St.Sub.set ?_ ?_ ?_ _ | refine St.Sub.keep ?_ ?_ | refine St.WF.leave ?_ _ | refine St.WF.add ?_ _ | refine St.WF.set ?_ ?_ _ | refine St.WF.grow ?_ _ _ _ | refine St.WF.keep ?_ ?_ | (first | omega | (simp only [RowOk.lo, nx]; first | done | omega))))⟩
    have hf : fitO o t = false := by rw [fitO, if_neg k1, if_neg t6]
    rw [hc, hf]; rfl
end Go.Proofs.YtjjhjhjphhpeiaaGreat

namespace Go.Proofs.YtjjhjhjphhpeiaaGreat
open Go.RowKit
set_option linter.unusedSimpArgs false
attribute [go_sem] sv_beq
set_option maxRecDepth 200000 in
set_option maxHeartbeats 4000000 in
theorem refWholeV_d (v : DVal) : DPure Tryz.prog 42 [encV v] (.v (.bool (wholeB v))) := by
  refine dpure_of_dwp mixed Tryz.func42 rfl (fun _ _ => by kernel_rfl) (rs := [.tmp 2]) rfl (by kernel_rfl) trivial (fun S hS => ?_)
  by_cases h5 : v.kind = 5
  · have b5 : (v.kind == 5) = true := by simp [h5]
    (simp (disch := first | decide | omega | (simp only [nx]; first | done | omega)) only [go_sem, Nat.reduceMul, encV_eq v, b5]; (repeat (with_reducible refine And.intro (by first | omega | assumption | rfl) ?_)))
    refine ⟨?_, (by (repeat' first | assumption | exact St.Sub.refl _ | exact RowOk.sub (by assumption) (by assumption) | refine St.Sub.trans ?_ (RowOk.sub (by assumption) (by assumption)) | refine St.Sub.add ?_ ?_ _ | refine St.Sub.set ?_ ?_ ?_ _ | refine St.Sub.keep ?_ ?_ | refine St.WF.leave ?_ _ | refine St.WF.add ?_ _ | refine St.WF.set ?_ ?_ _ | refine St.WF.grow ?_ _ _ _ | refine St.WF.keep ?_ ?_ | (first | omega | (simp only [RowOk.lo, nx]; first | done | omega))))⟩
    simp only [D.frz, wholeB, decide_eq_true h5, Bool.true_and]
    congr 3
    exact propext ⟨fun h => by omega, fun h => by omega⟩
  · have b5 : (v.kind == 5) = false := by simp [h5]
    (simp (disch := first | decide | omega | (simp only [nx]; first | done | omega)) only [go_sem, Nat.reduceMul, encV_eq v, b5]; (repeat (with_reducible refine And.intro (by first | omega | assumption | rfl) ?_)))
    refine ⟨?_, (by (repeat' first | assumption | exact St.Sub.refl _ | exact RowOk.sub (by assumption) (by assumption) | refine St.Sub.trans ?_ (RowOk.sub (by assumption) (by assumption)) | refine St.Sub.add ?_ ?_ _ | refine St.Sub.set ?_ ?_ ?_ _ | refine St.Sub.keep ?_ ?_ | refine St.WF.leave ?_ _ | refine St.WF.add ?_ _ | refine St.WF.set ?_ ?_ _ | refine St.WF.grow ?_ _ _ _ | refine St.WF.keep ?_ ?_ | (first | omega | (simp only [RowOk.lo, nx]; first | done | omega))))⟩
    simp only [D.frz, wholeB, decide_eq_false h5, Bool.false_and]
set_option maxRecDepth 200000 in
set_option maxHeartbeats 4000000 in
theorem refFieldI_d (v : DVal) (x : Str) (hw : v.weight ≤ 1000000) : DPure Tryz.prog 41 [encV v, .v (sv x)] (.v (.int .i64 (ixI v.names x))) := by
  have hww := v.weight_eq
  refine dpure_of_dwp mixed Tryz.func41 rfl (fun _ _ => by kernel_rfl) (rs := [.tmp 4]) rfl (by kernel_rfl) trivial (fun S hS => ?_)
  (simp (disch := first | decide | omega | (simp only [nx]; first | done | omega)) only [go_sem, Nat.reduceMul, encV_eq v]; (repeat (with_reducible refine And.intro (by first | omega | assumption | rfl) ?_)))
  (refine dloop_st (fun t => List.contains [4, 5, 6, 7, 8, 9, 10, 11, 12, 13, 14, 15, 16, 17, 18, 19, 20] t) (by kernel_rfl) ?_ (v.names.length) (fun i f => i ≤ v.names.length ∧ f 5 = .v (.int .i64 (i : Nat)) ∧ (∀ j (hj : j < v.names.length), j < i → v.names[j] ≠ x)) ?_ ?_; (exact (by (repeat' first | assumption | refine St.WF.leave ?_ _ | refine St.WF.add ?_ _ | refine St.WF.set ?_ ?_ _ | refine St.WF.grow ?_ _ _ _ | refine St.WF.keep ?_ ?_ | (first | omega | (simp only [RowOk.lo, nx]; first | done | omega))))); (exact ⟨(by omega), (by (first | (simp (disch := first | decide | omega | (simp only [nx]; first | done | omega)) only [go_sem, Nat.reduceMul]; first | done | rfl) | rfl)), (fun j _ hj => by omega)⟩); intro i g tn hn hT hg hI; obtain ⟨le, q5, hno⟩ := hI; have q1 := hg 1 rfl; have q2 := hg 2 rfl; simp (disch := first | decide | omega | (simp only [nx]; first | done | omega)) only [go_sem, Nat.reduceMul] at q1 q2; clear hg; have hn' := hn; try simp only [add_next, set_next, grow_next, leave_next, drop_next] at hn')
  by_cases hlt : i < v.names.length
  · have b1 : decide ((i : Int) < (v.names.length : Int)) = true := by simp; omega
    have w1 : IntKind.i64.wrap ((i : Int) + 1) = ((i + 1 : Nat) : Int) := IntWalk.i64_in _ ⟨by omega, by omega⟩
    by_cases hx : v.names[i] = x
    · have b2 : (v.names[i] == x) = true := by simp [hx]
      (simp (disch := first | decide | omega | (simp only [nx]; first | done | omega)) only [go_sem, Nat.reduceMul, q1, q2, q5, b1, b2]; (repeat (with_reducible refine And.intro (by first | omega | assumption | rfl) ?_)))
      refine ⟨?_, (by (repeat' first | assumption | exact St.Sub.refl _ | exact RowOk.sub (by assumption) (by assumption) | refine St.Sub.trans ?_ (RowOk.sub (by assumption) (by assumption)) | refine St.Sub.add ?_ ?_ _ | refine St.Sub.set ?_ ?_ ?_ _ | refine St.Sub.keep ?_ ?_ | refine St.WF.leave ?_ _ | refine St.WF.add ?_ _ | refine St.WF.set ?_ ?_ _ | refine St.WF.grow ?_ _ _ _ | refine St.WF.keep ?_ ?_ | (first | omega | (simp only [RowOk.lo, nx]; first | done | omega))))⟩
      rw [ixI_first hlt hx fun j hj => hno j (by omega) hj]
      rfl
    · have b2 : (v.names[i] == x) = false := by simp [hx]
      (simp (disch := first | decide | omega | (simp only [nx]; first | done | omega)) only [go_sem, Nat.reduceMul, q1, q2, q5, b1, b2, w1]; (repeat (with_reducible refine And.intro (by first | omega | assumption | rfl) ?_)))
      (refine ⟨by omega, (by (repeat' first | assumption | exact St.Sub.refl _ | exact RowOk.sub (by assumption) (by assumption) | refine St.Sub.trans ?_ (RowOk.sub (by assumption) (by assumption)) | refine St.Sub.add ?_ ?_ _ | refine St.Sub.set ?_ ?_ ?_ _ | refine St.Sub.keep ?_ ?_ | refine St.WF.leave ?_ _ | refine St.WF.add ?_ _ | refine St.WF.set ?_ ?_ _ | refine St.WF.grow ?_ _ _ _ | refine St.WF.keep ?_ ?_ | (first | omega | (simp only [RowOk.lo, nx]; first | done | omega)))), ?_⟩; refine ⟨by omega, ?_, ?_⟩; all_goals (try (first | (simp (disch := first | decide | omega | (simp only [nx]; first | done | omega)) only [go_sem, Nat.reduceMul, w1]; first | done | rfl) | rfl)))
      intro j hj hji
      by_cases e : j = i
      · subst e; exact hx
      · exact hno j hj (by omega)
  · have b1 : decide ((i : Int) < (v.names.length : Int)) = false := by simp; omega
    (simp (disch := first | decide | omega | (simp only [nx]; first | done | omega)) only [go_sem, Nat.reduceMul, q1, q2, q5, b1]; (repeat (with_reducible refine And.intro (by first | omega | assumption | rfl) ?_)))
    refine ⟨?_, (by (repeat' first | assumption | exact St.Sub.refl _ | exact RowOk.sub (by assumption) (by assumption) | refine St.Sub.trans ?_ (RowOk.sub (by assumption) (by assumption)) | refine St.Sub.add ?_ ?_ _ | refine St.Sub.set ?_ ?_ ?_ _ | refine St.Sub.keep ?_ ?_ | refine St.WF.leave ?_ _ | refine St.WF.add ?_ _ | refine St.WF.set ?_ ?_ _ | refine St.WF.grow ?_ _ _ _ | refine St.WF.keep ?_ ?_ | (first | omega | (simp only [RowOk.lo, nx]; first | done | omega))))⟩
    rw [ixI_none fun j hj => hno j hj (by omega)]
    rfl
/-- The place of an element, or -1. -/
def elemI (v : DVal) (x : Nat) : Int := if v.kind = 6 then ixI v.ids x else -1
set_option maxRecDepth 200000 in
set_option maxHeartbeats 4000000 in
theorem refElem_d (v : DVal) (x : Nat) (hw : v.weight ≤ 1000000) : DPure Tryz.prog 17 [encV v, .v (uv x)] (.v (.int .i64 (elemI v x))) := by
  have hww := v.weight_eq
  refine dpure_of_dwp mixed Tryz.func17 rfl (fun _ _ => by kernel_rfl) (rs := [.tmp 4]) rfl (by kernel_rfl) trivial (fun S hS => ?_)
  (simp (disch := first | decide | omega | (simp only [nx]; first | done | omega)) only [go_sem, Nat.reduceMul, encV_eq v]; (repeat (with_reducible refine And.intro (by first | omega | assumption | rfl) ?_)))
  by_cases h6 : v.kind = 6
  · have b6 : (v.kind == 6) = true := by simp [h6]
    (refine dloop_st (fun t => List.contains [4, 5, 6, 7, 8, 9, 10, 11, 12, 13, 14, 15, 16, 17, 18, 19, 20, 21, 22, 23, 24, 25] t) (by kernel_rfl) ?_ (v.ids.length) (fun i f => i ≤ v.ids.length ∧ f 5 = .v (.int .i64 (i : Nat)) ∧ (∀ j (hj : j < v.ids.length), j < i → v.ids[j] ≠ x)) ?_ ?_; (exact (by (repeat' first | assumption | refine St.WF.leave ?_ _ | refine St.WF.add ?_ _ | refine St.WF.set ?_ ?_ _ | refine St.WF.grow ?_ _ _ _ | refine St.WF.keep ?_ ?_ | (first | omega | (simp only [RowOk.lo, nx]; first | done | omega))))); (exact ⟨(by omega), (by (first | (simp (disch := first | decide | omega | (simp only [nx]; first | done | omega)) only [go_sem, Nat.reduceMul]; first | done | rfl) | rfl)), (fun j _ hj => by omega)⟩); intro i g tn hn hT hg hI; obtain ⟨le, q5, hno⟩ := hI; have q1 := hg 1 rfl; have q2 := hg 2 rfl; simp (disch := first | decide | omega | (simp only [nx]; first | done | omega)) only [go_sem, Nat.reduceMul] at q1 q2; clear hg; have hn' := hn; try simp only [add_next, set_next, grow_next, leave_next, drop_next] at hn')
    by_cases hlt : i < v.ids.length
    · have b1 : decide ((i : Int) < (v.ids.length : Int)) = true := by simp; omega
      have w1 : IntKind.i64.wrap ((i : Int) + 1) = ((i + 1 : Nat) : Int) := IntWalk.i64_in _ ⟨by omega, by omega⟩
      by_cases hx : v.ids[i] = x
      · have b2 : ((v.ids[i] : Int) == (x : Int)) = true := by simp [hx]
        (simp (disch := first | decide | omega | (simp only [nx]; first | done | omega)) only [go_sem, Nat.reduceMul, q1, q2, q5, b1, b6, b2, u64D, uv]; (repeat (with_reducible refine And.intro (by first | omega | assumption | rfl) ?_)))
        refine ⟨?_, (by (repeat' first | assumption | exact St.Sub.refl _ | exact RowOk.sub (by assumption) (by assumption) | refine St.Sub.trans ?_ (RowOk.sub (by assumption) (by assumption)) | refine St.Sub.add ?_ ?_ _ | refine St.Sub.set ?_ ?_ ?_ _ | refine St.Sub.keep ?_ ?_ | refine St.WF.leave ?_ _ | refine St.WF.add ?_ _ | refine St.WF.set ?_ ?_ _ | refine St.WF.grow ?_ _ _ _ | refine St.WF.keep ?_ ?_ | (first | omega | (simp only [RowOk.lo, nx]; first | done | omega))))⟩
        rw [elemI, if_pos h6, ixI_first hlt hx fun j hj => hno j (by omega) hj]
        rfl
      · have b2 : ((v.ids[i] : Int) == (x : Int)) = false := by simp; omega
        (simp (disch := first | decide | omega | (simp only [nx]; first | done | omega)) only [go_sem, Nat.reduceMul, q1, q2, q5, b1, b6, b2, w1, u64D, uv]; (repeat (with_reducible refine And.intro (by first | omega | assumption | rfl) ?_)))
        (refine ⟨by omega, (by (repeat' first | assumption | exact St.Sub.refl _ | exact RowOk.sub (by assumption) (by assumption) | refine St.Sub.trans ?_ (RowOk.sub (by assumption) (by assumption)) | refine St.Sub.add ?_ ?_ _ | refine St.Sub.set ?_ ?_ ?_ _ | refine St.Sub.keep ?_ ?_ | refine St.WF.leave ?_ _ | refine St.WF.add ?_ _ | refine St.WF.set ?_ ?_ _ | refine St.WF.grow ?_ _ _ _ | refine St.WF.keep ?_ ?_ | (first | omega | (simp only [RowOk.lo, nx]; first | done | omega)))), ?_⟩; refine ⟨by omega, ?_, ?_⟩; all_goals (try (first | (simp (disch := first | decide | omega | (simp only [nx]; first | done | omega)) only [go_sem, Nat.reduceMul, w1]; first | done | rfl) | rfl)))
        intro j hj hji
        by_cases e : j = i
        · subst e; exact hx
        · exact hno j hj (by omega)
    · have b1 : decide ((i : Int) < (v.ids.length : Int)) = false := by simp; omega
      (simp (disch := first | decide | omega | (simp only [nx]; first | done | omega)) only [go_sem, Nat.reduceMul, q1, q2, q5, b1]; (repeat (with_reducible refine And.intro (by first | omega | assumption | rfl) ?_)))
      refine ⟨?_, (by (repeat' first | assumption | exact St.Sub.refl _ | exact RowOk.sub (by assumption) (by assumption) | refine St.Sub.trans ?_ (RowOk.sub (by assumption) (by assumption)) | refine St.Sub.add ?_ ?_ _ | refine St.Sub.set ?_ ?_ ?_ _ | refine St.Sub.keep ?_ ?_ | refine St.WF.leave ?_ _ | refine St.WF.add ?_ _ | refine St.WF.set ?_ ?_ _ | refine St.WF.grow ?_ _ _ _ | refine St.WF.keep ?_ ?_ | (first | omega | (simp only [RowOk.lo, nx]; first | done | omega))))⟩
      rw [elemI, if_pos h6, ixI_none fun j hj => hno j hj (by omega)]
      rfl
  · have b6 : (v.kind == 6) = false := by simp [h6]
    (refine dloop_st (fun t => List.contains [4, 5, 6, 7, 8, 9, 10, 11, 12, 13, 14, 15, 16, 17, 18, 19, 20, 21, 22, 23, 24, 25] t) (by kernel_rfl) ?_ (v.ids.length) (fun i f => i ≤ v.ids.length ∧ f 5 = .v (.int .i64 (i : Nat))) ?_ ?_; (exact (by (repeat' first | assumption | refine St.WF.leave ?_ _ | refine St.WF.add ?_ _ | refine St.WF.set ?_ ?_ _ | refine St.WF.grow ?_ _ _ _ | refine St.WF.keep ?_ ?_ | (first | omega | (simp only [RowOk.lo, nx]; first | done | omega))))); (exact ⟨(by omega), (by (first | (simp (disch := first | decide | omega | (simp only [nx]; first | done | omega)) only [go_sem, Nat.reduceMul]; first | done | rfl) | rfl))⟩); intro i g tn hn hT hg hI; obtain ⟨le, q5⟩ := hI; have q1 := hg 1 rfl; have q2 := hg 2 rfl; simp (disch := first | decide | omega | (simp only [nx]; first | done | omega)) only [go_sem, Nat.reduceMul] at q1 q2; clear hg; have hn' := hn; try simp only [add_next, set_next, grow_next, leave_next, drop_next] at hn')
    by_cases hlt : i < v.ids.length
    · have b1 : decide ((i : Int) < (v.ids.length : Int)) = true := by simp; omega
      (simp (disch := first | decide | omega | (simp only [nx]; first | done | omega)) only [go_sem, Nat.reduceMul, q1, q2, q5, b1, b6]; (repeat (with_reducible refine And.intro (by first | omega | assumption | rfl) ?_)))
      refine ⟨?_, (by (repeat' first | assumption | exact St.Sub.refl _ | exact RowOk.sub (by assumption) (by assumption) | refine St.Sub.trans ?_ (RowOk.sub (by assumption) (by assumption)) | refine St.Sub.add ?_ ?_ _ | refine St.Sub.set ?_ ?_ ?_ _ | refine St.Sub.keep ?_ ?_ | refine St.WF.leave ?_ _ | refine St.WF.add ?_ _ | refine St.WF.set ?_ ?_ _ | refine St.WF.grow ?_ _ _ _ | refine St.WF.keep ?_ ?_ | (first | omega | (simp only [RowOk.lo, nx]; first | done | omega))))⟩
      rw [elemI, if_neg h6]
      rfl
    · have b1 : decide ((i : Int) < (v.ids.length : Int)) = false := by simp; omega
      (simp (disch := first | decide | omega | (simp only [nx]; first | done | omega)) only [go_sem, Nat.reduceMul, q1, q2, q5, b1]; (repeat (with_reducible refine And.intro (by first | omega | assumption | rfl) ?_)))
      refine ⟨?_, (by (repeat' first | assumption | exact St.Sub.refl _ | exact RowOk.sub (by assumption) (by assumption) | refine St.Sub.trans ?_ (RowOk.sub (by assumption) (by assumption)) | refine St.Sub.add ?_ ?_ _ | refine St.Sub.set ?_ ?_ ?_ _ | refine St.Sub.keep ?_ ?_ | refine St.WF.leave ?_ _ | refine St.WF.add ?_ _ | refine St.WF.set ?_ ?_ _ | refine St.WF.grow ?_ _ _ _ | refine St.WF.keep ?_ ?_ | (first | omega | (simp only [RowOk.lo, nx]; first | done | omega))))⟩
      rw [elemI, if_neg h6]
      rfl
set_option maxRecDepth 200000 in
set_option maxHeartbeats 4000000 in
theorem refFieldV_d (v : DVal) (x : Str) (hw : v.weight ≤ 1000000) : DPure Tryz.prog 25 [encV v, .v (sv x)] (fieldV v x) := by
  refine dpure_of_dwp mixed Tryz.func25 rfl (fun _ _ => by kernel_rfl) (rs := [.cell 4 29, .tmp 5]) rfl (by kernel_rfl) (fieldV_closed v x) (fun S hS => ?_)
  (simp (disch := first | decide | omega | (simp only [nx]; first | done | omega)) only [go_sem, Nat.reduceMul]; (repeat (with_reducible refine And.intro (by first | omega | assumption | rfl) ?_)))
  refine DCalls.of_pure (refFieldI_d v x hw) ?_
  (simp (disch := first | decide | omega | (simp only [nx]; first | done | omega)) only [go_sem, Nat.reduceMul]; (repeat (with_reducible refine And.intro (by first | omega | assumption | rfl) ?_)))
  refine DCalls.of_pure (refWholeV_d v) ?_
  cases hwb : wholeB v with
  | true =>
    by_cases hm : x ∈ v.names
    · have hlt := ix_lt hm
      have hpl : ixN v.names x < v.parts.length := by
        simp only [wholeB, Bool.and_eq_true, decide_eq_true_eq] at hwb
        omega
      have hi : ixI v.names x = (ixN v.names x : Int) := by unfold ixI; rw [if_pos hm]
      have b8 : decide ((ixN v.names x : Int) < 0) = false := by simp
      (simp (disch := first | decide | omega | (simp only [nx]; first | done | omega)) only [go_sem, Nat.reduceMul, hi, b8]; (repeat (with_reducible refine And.intro (by first | omega | assumption | rfl) ?_)))
      refine ⟨?_, (by (repeat' first | assumption | exact St.Sub.refl _ | exact RowOk.sub (by assumption) (by assumption) | refine St.Sub.trans ?_ (RowOk.sub (by assumption) (by assumption)) | refine St.Sub.add ?_ ?_ _ | refine St.Sub.set ?_ ?_ ?_ _ | refine St.Sub.keep ?_ ?_ | refine St.WF.leave ?_ _ | refine St.WF.add ?_ _ | refine St.WF.set ?_ ?_ _ | refine St.WF.grow ?_ _ _ _ | refine St.WF.keep ?_ ?_ | (first | omega | (simp only [RowOk.lo, nx]; first | done | omega))))⟩
      simp only [D.frz, frzL, frz_encV, fieldV, hwb, hm, and_self, if_true, getD_at hpl]
    · have b7 : decide (ixI v.names x < 0) = true := by unfold ixI; rw [if_neg hm]; decide
      (simp (disch := first | decide | omega | (simp only [nx]; first | done | omega)) only [go_sem, Nat.reduceMul, b7]; (repeat (with_reducible refine And.intro (by first | omega | assumption | rfl) ?_)))
      refine ⟨?_, (by (repeat' first | assumption | exact St.Sub.refl _ | exact RowOk.sub (by assumption) (by assumption) | refine St.Sub.trans ?_ (RowOk.sub (by assumption) (by assumption)) | refine St.Sub.add ?_ ?_ _ | refine St.Sub.set ?_ ?_ ?_ _ | refine St.Sub.keep ?_ ?_ | refine St.WF.leave ?_ _ | refine St.WF.add ?_ _ | refine St.WF.set ?_ ?_ _ | refine St.WF.grow ?_ _ _ _ | refine St.WF.keep ?_ ?_ | (first | omega | (simp only [RowOk.lo, nx]; first | done | omega))))⟩
      simp only [D.frz, frzL, fieldV, hm, and_false, if_false]
      rfl
  | false =>
    (simp (disch := first | decide | omega | (simp only [nx]; first | done | omega)) only [go_sem, Nat.reduceMul]; (repeat (with_reducible refine And.intro (by first | omega | assumption | rfl) ?_)))
    refine ⟨?_, (by (repeat' first | assumption | exact St.Sub.refl _ | exact RowOk.sub (by assumption) (by assumption) | refine St.Sub.trans ?_ (RowOk.sub (by assumption) (by assumption)) | refine St.Sub.add ?_ ?_ _ | refine St.Sub.set ?_ ?_ ?_ _ | refine St.Sub.keep ?_ ?_ | refine St.WF.leave ?_ _ | refine St.WF.add ?_ _ | refine St.WF.set ?_ ?_ _ | refine St.WF.grow ?_ _ _ _ | refine St.WF.keep ?_ ?_ | (first | omega | (simp only [RowOk.lo, nx]; first | done | omega))))⟩
    simp only [D.frz, frzL, fieldV, hwb, Bool.false_eq_true, false_and, if_false]
    rfl
end Go.Proofs.YtjjhjhjphhpeiaaGreat

namespace Go.Proofs.YtjjhjhjphhpeiaaGreat
open Go.RowKit
set_option linter.unusedSimpArgs false
set_option linter.unusedVariables false
theorem getV_app : ∀ (p q : List DStp) (v : DVal), getV (p ++ q) v = (getV p v).bind (getV q)
  | [], q, v => rfl
  | p :: ps, q, v => by
    rw [List.cons_append, getV_cons, getV_cons]
    split
    · exact getV_app ps q _
    · rfl
def stepG (v : DVal) (p : DStp) : Option DVal := getV [p] v
theorem stepG_eq (v : DVal) (p : DStp) : stepG v p = if inP v p then some (v.parts.getD (plN v p) default) else none := by
  rw [stepG, getV_cons]; rfl
def getA (ps : List DStp) (v : DVal) (i : Nat) : DVal := (getV (ps.take i) v).getD zeroV
theorem getA_succ {ps : List DStp} {v : DVal} {i : Nat} (hi : i < ps.length) (h : (getV (ps.take i) v).isSome = true) : getV (ps.take (i + 1)) v = stepG (getA ps v i) ps[i] := by
  rw [List.take_succ_eq_append_getElem hi, getV_app]
  obtain ⟨t, ht⟩ := Option.isSome_iff_exists.1 h
  rw [getA, ht]; rfl
theorem getV_none {ps : List DStp} {v : DVal} {i : Nat} (h : getV (ps.take i) v = none) : getV ps v = none := by
  have := getV_app (ps.take i) (ps.drop i) v
  rw [List.take_append_drop] at this
  rw [this, h]; rfl
theorem getV_wt : ∀ (p : List DStp) {v u : DVal}, getV p v = some u → u.weight ≤ v.weight
  | [], v, u, h => by injection h with h; subst h; exact Nat.le_refl _
  | p :: ps, v, u, h => by
    rw [getV_cons] at h
    split at h
    · rename_i hin
      have hpl : plN v p < v.parts.length := by have := hin.1; have := hin.2; unfold plN; omega
      rw [getD_at hpl] at h
      have h1 := getV_wt ps h
      have h2 := DVal.weight_part (List.getElem_mem hpl)
      omega
    · cases h
theorem stepG_name {v : DVal} {p : DStp} (h : p.1 ≠ []) : fieldV v p.1 = .tup [encV ((stepG v p).getD zeroV), .v (.bool (stepG v p).isSome)] := by
  rw [stepG_eq]
  unfold fieldV
  have hpo : placeOf v p = if wholeB v = true ∧ p.1 ∈ v.names then (ixN v.names p.1 : Int) else -1 := by unfold placeOf; rw [if_neg h]
  by_cases hc : wholeB v = true ∧ p.1 ∈ v.names
  · rw [if_pos hc] at hpo
    have hlt := ix_lt hc.2
    have hpl : ixN v.names p.1 < v.parts.length := by
      have := hc.1
      simp only [wholeB, Bool.and_eq_true, decide_eq_true_eq] at this
      omega
    have hin : inP v p := ⟨by rw [hpo]; omega, by rw [hpo]; omega⟩
    have hpn : plN v p = ixN v.names p.1 := by unfold plN; rw [hpo]; simp
    rw [if_pos hc, if_pos hin, hpn]; rfl
  · rw [if_neg hc] at hpo
    have hin : ¬ inP v p := fun h => by have := h.1; rw [hpo] at this; omega
    rw [if_neg hc, if_neg hin]; rfl
theorem stepG_id {v : DVal} {p : DStp} (h : p.1 = []) : placeOf v p = elemI v p.2 := by
  unfold placeOf elemI ixI
  rw [if_pos h]
  by_cases h6 : v.kind = 6
  · rw [if_pos h6]
    by_cases hm : p.2 ∈ v.ids
    · rw [if_pos ⟨h6, hm⟩, if_pos hm]
    · rw [if_neg (fun h => hm h.2), if_neg hm]
  · rw [if_neg (fun h => h6 h.1), if_neg h6]
theorem getD_frz (v : DVal) (b : Bool) : (D.tup [encV v, .v (.bool b)]).frz = .tup [encV v, .v (.bool b)] := by simp only [D.frz, frzL, frz_encV]
set_option maxRecDepth 200000 in
set_option maxHeartbeats 8000000 in
theorem refGet_d (v : DVal) (ps : List DStp) (own : Own) (hok : okV v) (hw : v.weight ≤ 1000000) (hl : ps.length ≤ 1000000) : DPure Tryz.prog 14 [encV v, .sl own (ps.map encP)] (getD_ v ps) := by
  refine dpure_of_dwp mixed Tryz.func14 rfl (fun _ _ => by kernel_rfl) (rs := [.cell 4 29, .tmp 5]) rfl (by kernel_rfl) (closed_res _ _) (fun S hS => ?_)
  (simp (disch := first | decide | omega | (simp only [nx]; first | done | omega)) only [go_sem, Nat.reduceMul]; (repeat (with_reducible refine And.intro (by first | omega | assumption | rfl) ?_)))
  (refine dloop_var (fun t => List.contains [5, 6, 7, 8, 9, 10, 11, 12, 13, 14, 15, 16, 17, 18, 19, 20, 21, 22, 23, 24, 25, 26, 27, 28, 29, 30, 31, 32, 33, 34, 35, 36, 37, 38, 39, 40, 41, 42, 43, 44, 45, 46, 47, 48, 49, 50, 51, 52, 53, 54, 55, 56, 57] t) (by kernel_rfl) ?_ (ps.length) (S.next) (fun i => .box 29 (encV (getA ps v i)).cells) ?_ (fun i f => i ≤ ps.length ∧ f 6 = .v (.int .i64 (i : Nat)) ∧ ((getV (ps.take i) v).isSome = true)) ?_ ?_; (exact (by (repeat' first | assumption | refine St.WF.leave ?_ _ | refine St.WF.add ?_ _ | refine St.WF.set ?_ ?_ _ | refine St.WF.grow ?_ _ _ _ | refine St.WF.keep ?_ ?_ | (first | omega | (simp only [RowOk.lo, nx]; first | done | omega))))); (exact (by (first | (simp (disch := first | decide | omega | (simp only [nx]; first | done | omega)) only [go_sem, Nat.reduceMul]; first | done | rfl) | rfl))); (exact ⟨(by omega), (by (first | (simp (disch := first | decide | omega | (simp only [nx]; first | done | omega)) only [go_sem, Nat.reduceMul]; first | done | rfl) | rfl)), (rfl)⟩); intro i g tn hn hT hg hI; obtain ⟨le, q6, hs⟩ := hI; have q1 := hg 1 rfl; have q2 := hg 2 rfl; have q4 := hg 4 rfl; simp (disch := first | decide | omega | (simp only [nx]; first | done | omega)) only [go_sem, Nat.reduceMul] at q1 q2 q4; clear hg; have hn' := hn; try simp only [add_next, set_next, grow_next, leave_next, drop_next] at hn')
  obtain ⟨t, ht⟩ := Option.isSome_iff_exists.1 hs
  have hta : getA ps v i = t := by rw [getA, ht]; rfl
  have hnx0 := fun h => getA_succ (i := i) (ps := ps) (v := v) h hs
  have hto := getV_ok _ hok ht
  have htw := getV_wt _ ht
  rw [hta] at hnx0 hT
  rw [hta]
  by_cases hlt : i < ps.length
  · have b1 : decide ((i : Int) < (ps.length : Int)) = true := by simp; omega
    have w1 : IntKind.i64.wrap ((i : Int) + 1) = ((i + 1 : Nat) : Int) := IntWalk.i64_in _ ⟨by omega, by omega⟩
    have hnx := hnx0 hlt
    have hsn : S.next < tn := by omega
    have hsn1 : S.next + 1 < tn := by omega
    by_cases h0 : ps[i].1 = []
    · have b2 : (!(ps[i].1 == [])) = false := by simp [h0]
      (simp (disch := first | decide | omega | (simp only [nx]; first | done | omega)) only [go_sem, Nat.reduceMul, q1, q2, q4, q6, b1, b2]; (repeat (with_reducible refine And.intro (by first | omega | assumption | rfl) ?_)))
      refine ddraw_mk 8 (by kernel_rfl) ?_
      (simp (disch := first | decide | omega | (simp only [nx]; first | done | omega)) only [go_sem, Nat.reduceMul, q1, q2, q4, q6]; (repeat (with_reducible refine And.intro (by first | omega | assumption | rfl) ?_)))
      refine dqgo_mk (refElem_d t ps[i].2 (by omega)) ?_
      have hpo := stepG_id (v := t) h0
      by_cases hin : inP t ps[i]
      · have hpl : plN t ps[i] < t.parts.length := by have := hin.1; have := hin.2; unfold plN; omega
        have he : elemI t ps[i].2 = ((plN t ps[i] : Nat) : Int) := by rw [← hpo]; unfold plN; have := hin.1; omega
        have b3 : decide (((plN t ps[i] : Nat) : Int) < 0) = false := by simp
        have b4 : decide ((t.parts.length : Int) ≤ ((plN t ps[i] : Nat) : Int)) = false := by simp; omega
        have g1 := getD_map encV t.parts _ hpl
        have hs1 : getV (ps.take (i + 1)) v = some t.parts[plN t ps[i]] := by rw [hnx, stepG_eq, if_pos hin, getD_at hpl]
        have hta1 : getA ps v (i + 1) = t.parts[plN t ps[i]] := by rw [getA, hs1]; rfl
        (simp (disch := first | decide | omega | (simp only [nx]; first | done | omega)) only [go_sem, Nat.reduceMul, q1, q2, q4, q6, he, b3, b4, g1, w1]; (repeat (with_reducible refine And.intro (by first | omega | assumption | rfl) ?_)))
        (refine ⟨by omega, St.Sub.upd hn (by simp only [hta1]) (by (repeat' first | assumption | exact St.Sub.refl _ | exact RowOk.sub (by assumption) (by assumption) | refine St.Sub.trans ?_ (RowOk.sub (by assumption) (by assumption)) | refine St.Sub.add ?_ ?_ _ | refine St.Sub.set ?_ ?_ ?_ _ | refine St.Sub.keep ?_ ?_ | refine St.WF.leave ?_ _ | refine St.WF.add ?_ _ | refine St.WF.set ?_ ?_ _ | refine St.WF.grow ?_ _ _ _ | refine St.WF.keep ?_ ?_ | (first | omega | (simp only [RowOk.lo, nx]; first | done | omega)))), ?_⟩; refine ⟨by omega, ?_, ?_⟩; all_goals (try (first | (simp (disch := first | decide | omega | (simp only [nx]; first | done | omega)) only [go_sem, Nat.reduceMul, w1]; first | done | rfl) | rfl)))
        rw [hs1]; rfl
      · have hn : getV ps v = none := getV_none (i := i + 1) (by rw [hnx, stepG_eq, if_neg hin])
        have b34 : decide (elemI t ps[i].2 < 0) = true ∨ (decide (elemI t ps[i].2 < 0) = false ∧ decide ((t.parts.length : Int) ≤ elemI t ps[i].2) = true) := by
          rw [← hpo]
          by_cases hneg : placeOf t ps[i] < 0
          · exact .inl (decide_eq_true hneg)
          · exact .inr ⟨decide_eq_false hneg, decide_eq_true (by
              by_cases hc : (t.parts.length : Int) ≤ placeOf t ps[i]
              · exact hc
              · exact absurd ⟨by omega, by omega⟩ hin)⟩
        rcases b34 with b3 | ⟨b3, b4⟩
        · (simp (disch := first | decide | omega | (simp only [nx]; first | done | omega)) only [go_sem, Nat.reduceMul, q1, q2, q4, q6, b3]; (repeat (with_reducible refine And.intro (by first | omega | assumption | rfl) ?_)))
          refine ⟨?_, (by (repeat' first | assumption | exact St.Sub.refl _ | exact RowOk.sub (by assumption) (by assumption) | refine St.Sub.trans ?_ (RowOk.sub (by assumption) (by assumption)) | refine St.Sub.add ?_ ?_ _ | refine St.Sub.set ?_ ?_ ?_ _ | refine St.Sub.keep ?_ ?_ | refine St.WF.leave ?_ _ | refine St.WF.add ?_ _ | refine St.WF.set ?_ ?_ _ | refine St.WF.grow ?_ _ _ _ | refine St.WF.keep ?_ ?_ | (first | omega | (simp only [RowOk.lo, nx]; first | done | omega))))⟩
          rw [getD_, hn]; rfl
        · (simp (disch := first | decide | omega | (simp only [nx]; first | done | omega)) only [go_sem, Nat.reduceMul, q1, q2, q4, q6, b3, b4]; (repeat (with_reducible refine And.intro (by first | omega | assumption | rfl) ?_)))
          refine ⟨?_, (by (repeat' first | assumption | exact St.Sub.refl _ | exact RowOk.sub (by assumption) (by assumption) | refine St.Sub.trans ?_ (RowOk.sub (by assumption) (by assumption)) | refine St.Sub.add ?_ ?_ _ | refine St.Sub.set ?_ ?_ ?_ _ | refine St.Sub.keep ?_ ?_ | refine St.WF.leave ?_ _ | refine St.WF.add ?_ _ | refine St.WF.set ?_ ?_ _ | refine St.WF.grow ?_ _ _ _ | refine St.WF.keep ?_ ?_ | (first | omega | (simp only [RowOk.lo, nx]; first | done | omega))))⟩
          rw [getD_, hn]; rfl
    · have b2 : (!(ps[i].1 == [])) = true := by simp [h0]
      (simp (disch := first | decide | omega | (simp only [nx]; first | done | omega)) only [go_sem, Nat.reduceMul, q1, q2, q4, q6, b1, b2]; (repeat (with_reducible refine And.intro (by first | omega | assumption | rfl) ?_)))
      have hfe := stepG_name (v := t) h0
      cases hst : stepG t ps[i] with
      | none =>
        rw [hst] at hfe
        have hn : getV ps v = none := getV_none (i := i + 1) (by rw [hnx, hst])
        (refine ddraw_any (fun S' => S'.ob S.next = some (.box 29 (encV t).cells)) 13 (by (first | (simp (disch := first | decide | omega | (simp only [nx]; first | done | omega)) only [go_sem, Nat.reduceMul, q1, q2, q6, hfe, Option.getD_none, Option.isSome_none]; first | done | rfl) | rfl)) (by kernel_rfl) ?_; refine s_take 0 rfl (by kernel_rfl) (by kernel_rfl) (v := ?v1) (fun S' hz => dquietR_of ?h1) <| s_take 1 rfl (by kernel_rfl) (by kernel_rfl) (v := ?v2) (fun S' hz => dquietR_of ?h2) <| s_take 2 rfl (by kernel_rfl) (by kernel_rfl) (v := ?v3) (fun S' hz => dquietR_of ?h3) <| s_take 3 rfl (by kernel_rfl) (by kernel_rfl) (v := ?v4) (fun S' hz => dquietR_of ?h4) <| s_take 4 rfl (by kernel_rfl) (by kernel_rfl) (v := ?v5) (fun S' hz => dquietR_of ?h5) <| s_take 5 rfl (by kernel_rfl) (by kernel_rfl) (v := ?v6) (fun S' hz => dquietR_of ?h6) <| ?k6; (case h1 | h2 | h3 | h4 | h5 | h6 => ((simp (disch := first | decide | omega | (simp only [nx]; first | done | omega)) only [go_sem, Nat.reduceMul, q1, q2, q6, hfe, Option.getD_none, Option.isSome_none, hz]; (repeat (with_reducible refine And.intro (by first | omega | assumption | rfl) ?_))); first | done | exact rfl | omega)); refine s_take 6 rfl (by kernel_rfl) (by kernel_rfl) (v := ?v7) (fun S' hz => dquietR_of ?h7) ?k7; (case h7 => ((simp (disch := first | decide | omega | (simp only [nx]; first | done | omega)) only [go_sem, Nat.reduceMul, q1, q2, q6, hfe, Option.getD_none, Option.isSome_none, hz]; (repeat (with_reducible refine And.intro (by first | omega | assumption | rfl) ?_))); refine dqgo_mk (refFieldV_d t ps[i].1 (by omega)) ?_; exact rfl)); refine s_take 7 rfl (by kernel_rfl) (by kernel_rfl) (v := ?v8) (fun S' hz => dquietR_of ?h8) <| s_take 8 rfl (by kernel_rfl) (by kernel_rfl) (v := ?v9) (fun S' hz => dquietR_of ?h9) <| s_take 9 rfl (by kernel_rfl) (by kernel_rfl) (v := ?v10) (fun S' hz => dquietR_of ?h10) <| ?k10; (case h8 | h9 | h10 => ((simp (disch := first | decide | omega | (simp only [nx]; first | done | omega)) only [go_sem, Nat.reduceMul, q1, q2, q6, hfe, Option.getD_none, Option.isSome_none, hz]; (repeat (with_reducible refine And.intro (by first | omega | assumption | rfl) ?_))); first | done | exact rfl | omega)); refine s_split [10] (by kernel_rfl) (by simp) ?_; intro j_ hj_; obtain rfl : j_ = 10 := (by simpa using hj_); clear hj_; refine s_op rfl ?_; (simp (disch := first | decide | omega | (simp only [nx]; first | done | omega)) only [go_sem, Nat.reduceMul, q1, q2, q6, hfe, Option.getD_none, Option.isSome_none]; (repeat (with_reducible refine And.intro (by first | omega | assumption | rfl) ?_))); refine s_split [11] (by kernel_rfl) (by simp) ?_; intro j_ hj_; obtain rfl : j_ = 11 := (by simpa using hj_); clear hj_; refine s_op rfl ?_; (simp (disch := first | decide | omega | (simp only [nx]; first | done | omega)) only [go_sem, Nat.reduceMul, q1, q2, q6, hfe, Option.getD_none, Option.isSome_none]; (repeat (with_reducible refine And.intro (by first | omega | assumption | rfl) ?_))); refine s_take 12 rfl (by kernel_rfl) (by kernel_rfl) (v := ?v11) (fun S' hz => dquietR_of ?h11) ?k11; (case h11 => ((simp (disch := first | decide | omega | (simp only [nx]; first | done | omega)) only [go_sem, Nat.reduceMul, q1, q2, q6, hfe, Option.getD_none, Option.isSome_none, hz]; (repeat (with_reducible refine And.intro (by first | omega | assumption | rfl) ?_))); first | done | exact rfl | omega)); refine s_done (by kernel_rfl) ?_; (simp (disch := first | decide | omega | (simp only [nx]; first | done | omega)) only [go_sem, Nat.reduceMul, q1, q2, q6, hfe, Option.getD_none, Option.isSome_none]; (repeat (with_reducible refine And.intro (by first | omega | assumption | rfl) ?_))))
        (simp (disch := first | decide | omega | (simp only [nx]; first | done | omega)) only [go_sem, Nat.reduceMul, q1, q2, q4, q6]; (repeat (with_reducible refine And.intro (by first | omega | assumption | rfl) ?_)))
        refine ⟨?_, (by (repeat' first | assumption | exact St.Sub.refl _ | exact RowOk.sub (by assumption) (by assumption) | refine St.Sub.trans ?_ (RowOk.sub (by assumption) (by assumption)) | refine St.Sub.add ?_ ?_ _ | refine St.Sub.set ?_ ?_ ?_ _ | refine St.Sub.keep ?_ ?_ | refine St.WF.leave ?_ _ | refine St.WF.add ?_ _ | refine St.WF.set ?_ ?_ _ | refine St.WF.grow ?_ _ _ _ | refine St.WF.keep ?_ ?_ | (first | omega | (simp only [RowOk.lo, nx]; first | done | omega))))⟩
        rw [getD_, hn]; rfl
      | some u =>
        rw [hst] at hfe
        have hs1 : getV (ps.take (i + 1)) v = some u := by rw [hnx, hst]
        have hta1 : getA ps v (i + 1) = u := by rw [getA, hs1]; rfl
        (refine ddraw_any (fun S' => S'.ob S.next = some (.box 29 (encV t).cells)) 13 (by (first | (simp (disch := first | decide | omega | (simp only [nx]; first | done | omega)) only [go_sem, Nat.reduceMul, q1, q2, q6, hfe, Option.getD_some, Option.isSome_some]; first | done | rfl) | rfl)) (by kernel_rfl) ?_; refine s_take 0 rfl (by kernel_rfl) (by kernel_rfl) (v := ?v12) (fun S' hz => dquietR_of ?h12) <| s_take 1 rfl (by kernel_rfl) (by kernel_rfl) (v := ?v13) (fun S' hz => dquietR_of ?h13) <| s_take 2 rfl (by kernel_rfl) (by kernel_rfl) (v := ?v14) (fun S' hz => dquietR_of ?h14) <| s_take 3 rfl (by kernel_rfl) (by kernel_rfl) (v := ?v15) (fun S' hz => dquietR_of ?h15) <| s_take 4 rfl (by kernel_rfl) (by kernel_rfl) (v := ?v16) (fun S' hz => dquietR_of ?h16) <| s_take 5 rfl (by kernel_rfl) (by kernel_rfl) (v := ?v17) (fun S' hz => dquietR_of ?h17) <| ?k17; (case h12 | h13 | h14 | h15 | h16 | h17 => ((simp (disch := first | decide | omega | (simp only [nx]; first | done | omega)) only [go_sem, Nat.reduceMul, q1, q2, q6, hfe, Option.getD_some, Option.isSome_some, hz]; (repeat (with_reducible refine And.intro (by first | omega | assumption | rfl) ?_))); first | done | exact rfl | omega)); refine s_take 6 rfl (by kernel_rfl) (by kernel_rfl) (v := ?v18) (fun S' hz => dquietR_of ?h18) ?k18; (case h18 => ((simp (disch := first | decide | omega | (simp only [nx]; first | done | omega)) only [go_sem, Nat.reduceMul, q1, q2, q6, hfe, Option.getD_some, Option.isSome_some, hz]; (repeat (with_reducible refine And.intro (by first | omega | assumption | rfl) ?_))); refine dqgo_mk (refFieldV_d t ps[i].1 (by omega)) ?_; exact rfl)); refine s_take 7 rfl (by kernel_rfl) (by kernel_rfl) (v := ?v19) (fun S' hz => dquietR_of ?h19) <| s_take 8 rfl (by kernel_rfl) (by kernel_rfl) (v := ?v20) (fun S' hz => dquietR_of ?h20) <| s_take 9 rfl (by kernel_rfl) (by kernel_rfl) (v := ?v21) (fun S' hz => dquietR_of ?h21) <| ?k21; (case h19 | h20 | h21 => ((simp (disch := first | decide | omega | (simp only [nx]; first | done | omega)) only [go_sem, Nat.reduceMul, q1, q2, q6, hfe, Option.getD_some, Option.isSome_some, hz]; (repeat (with_reducible refine And.intro (by first | omega | assumption | rfl) ?_))); first | done | exact rfl | omega)); refine s_split [10] (by kernel_rfl) (by simp) ?_; intro j_ hj_; obtain rfl : j_ = 10 := (by simpa using hj_); clear hj_; refine s_op rfl ?_; (simp (disch := first | decide | omega | (simp only [nx]; first | done | omega)) only [go_sem, Nat.reduceMul, q1, q2, q6, hfe, Option.getD_some, Option.isSome_some]; (repeat (with_reducible refine And.intro (by first | omega | assumption | rfl) ?_))); refine s_split [11] (by kernel_rfl) (by simp) ?_; intro j_ hj_; obtain rfl : j_ = 11 := (by simpa using hj_); clear hj_; refine s_op rfl ?_; (simp (disch := first | decide | omega | (simp only [nx]; first | done | omega)) only [go_sem, Nat.reduceMul, q1, q2, q6, hfe, Option.getD_some, Option.isSome_some]; (repeat (with_reducible refine And.intro (by first | omega | assumption | rfl) ?_))); refine s_take 12 rfl (by kernel_rfl) (by kernel_rfl) (v := ?v22) (fun S' hz => dquietR_of ?h22) ?k22; (case h22 => ((simp (disch := first | decide | omega | (simp only [nx]; first | done | omega)) only [go_sem, Nat.reduceMul, q1, q2, q6, hfe, Option.getD_some, Option.isSome_some, hz]; (repeat (with_reducible refine And.intro (by first | omega | assumption | rfl) ?_))); first | done | exact rfl | omega)); refine s_done (by kernel_rfl) ?_; (simp (disch := first | decide | omega | (simp only [nx]; first | done | omega)) only [go_sem, Nat.reduceMul, q1, q2, q6, hfe, Option.getD_some, Option.isSome_some]; (repeat (with_reducible refine And.intro (by first | omega | assumption | rfl) ?_))))
        (simp (disch := first | decide | omega | (simp only [nx]; first | done | omega)) only [go_sem, Nat.reduceMul, q1, q2, q4, q6, w1]; (repeat (with_reducible refine And.intro (by first | omega | assumption | rfl) ?_)))
        (refine ⟨by omega, St.Sub.upd hn (by simp only [hta1]) (by (repeat' first | assumption | exact St.Sub.refl _ | exact RowOk.sub (by assumption) (by assumption) | refine St.Sub.trans ?_ (RowOk.sub (by assumption) (by assumption)) | refine St.Sub.add ?_ ?_ _ | refine St.Sub.set ?_ ?_ ?_ _ | refine St.Sub.keep ?_ ?_ | refine St.WF.leave ?_ _ | refine St.WF.add ?_ _ | refine St.WF.set ?_ ?_ _ | refine St.WF.grow ?_ _ _ _ | refine St.WF.keep ?_ ?_ | (first | omega | (simp only [RowOk.lo, nx]; first | done | omega)))), ?_⟩; refine ⟨by omega, ?_, ?_⟩; all_goals (try (first | (simp (disch := first | decide | omega | (simp only [nx]; first | done | omega)) only [go_sem, Nat.reduceMul, w1]; first | done | rfl) | rfl)))
        rw [hs1]; rfl
  · have b1 : decide ((i : Int) < (ps.length : Int)) = false := by simp; omega
    (simp (disch := first | decide | omega | (simp only [nx]; first | done | omega)) only [go_sem, Nat.reduceMul, q1, q2, q4, q6, b1]; (repeat (with_reducible refine And.intro (by first | omega | assumption | rfl) ?_)))
    refine ⟨?_, (by (repeat' first | assumption | exact St.Sub.refl _ | exact RowOk.sub (by assumption) (by assumption) | refine St.Sub.trans ?_ (RowOk.sub (by assumption) (by assumption)) | refine St.Sub.add ?_ ?_ _ | refine St.Sub.set ?_ ?_ ?_ _ | refine St.Sub.keep ?_ ?_ | refine St.WF.leave ?_ _ | refine St.WF.add ?_ _ | refine St.WF.set ?_ ?_ _ | refine St.WF.grow ?_ _ _ _ | refine St.WF.keep ?_ ?_ | (first | omega | (simp only [RowOk.lo, nx]; first | done | omega))))⟩
    rw [show ps.take i = ps from List.take_of_length_le (by omega)] at ht
    rw [getD_, ht, getD_frz]; rfl
end Go.Proofs.YtjjhjhjphhpeiaaGreat
