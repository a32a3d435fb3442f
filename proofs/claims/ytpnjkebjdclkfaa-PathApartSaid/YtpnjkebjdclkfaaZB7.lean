/- Texts of a proof, part 7. Conditions: none. -/
import Derived.Test.YtpnjkebjdclkfaaZB6
set_option linter.unusedVariables false
set_option linter.unusedSimpArgs false
/- Whether a value fits a schema, walked: the program's. Conditions: none. -/
namespace Go.Proofs.Ytpnjkebjdclkfaa
open Go.RowKit
set_option linter.unusedSimpArgs false
theorem sne1_2 (n : Nat) : (n + 1 = n + 2) = False := eq_false (by omega)
theorem sne1_3 (n : Nat) : (n + 1 = n + 3) = False := eq_false (by omega)
theorem sne1_4 (n : Nat) : (n + 1 = n + 4) = False := eq_false (by omega)
theorem sne2_1 (n : Nat) : (n + 2 = n + 1) = False := eq_false (by omega)
theorem sne2_3 (n : Nat) : (n + 2 = n + 3) = False := eq_false (by omega)
theorem sne2_4 (n : Nat) : (n + 2 = n + 4) = False := eq_false (by omega)
theorem sne3_1 (n : Nat) : (n + 3 = n + 1) = False := eq_false (by omega)
theorem sne3_2 (n : Nat) : (n + 3 = n + 2) = False := eq_false (by omega)
theorem sne3_4 (n : Nat) : (n + 3 = n + 4) = False := eq_false (by omega)
theorem sne4_1 (n : Nat) : (n + 4 = n + 1) = False := eq_false (by omega)
theorem sne4_2 (n : Nat) : (n + 4 = n + 2) = False := eq_false (by omega)
theorem sne4_3 (n : Nat) : (n + 4 = n + 3) = False := eq_false (by omega)
theorem sne1_0 (n : Nat) : (n + 1 = n) = False := eq_false (by omega)
theorem sne0_1 (n : Nat) : (n = n + 1) = False := eq_false (by omega)
theorem sne2_0 (n : Nat) : (n + 2 = n) = False := eq_false (by omega)
theorem sne0_2 (n : Nat) : (n = n + 2) = False := eq_false (by omega)
theorem sne3_0 (n : Nat) : (n + 3 = n) = False := eq_false (by omega)
theorem sne0_3 (n : Nat) : (n = n + 3) = False := eq_false (by omega)
theorem sne4_0 (n : Nat) : (n + 4 = n) = False := eq_false (by omega)
theorem sne0_4 (n : Nat) : (n = n + 4) = False := eq_false (by omega)
attribute [go_sem] sne1_2 sne1_3 sne1_4 sne2_1 sne2_3 sne2_4 sne3_1 sne3_2 sne3_4 sne4_1 sne4_2 sne4_3 sne1_0 sne0_1 sne2_0 sne0_2 sne3_0 sne0_3 sne4_0 sne0_4
/-- Sound at any depth. -/
def RV (v : DVal) : Prop := ∃ m, v.depth ≤ m ∧ soundV m v = true
def RS (s : DSch) : Prop := ∃ m, s.depth ≤ m ∧ soundS m s = true
theorem RV.part {v p : DVal} (h : RV v) (hp : p ∈ v.parts) : RV p := by
  obtain ⟨m, h1, h2⟩ := h
  obtain ⟨m, rfl⟩ : ∃ n, m = n + 1 := ⟨m - 1, by have := v.depth_pos; omega⟩
  rw [soundV, Bool.and_eq_true] at h2
  exact ⟨m, by have := DVal.depth_part hp; omega, List.all_eq_true.1 h2.2 p hp⟩
theorem RS.part {v p : DSch} (h : RS v) (hp : p ∈ v.parts) : RS p := by
  obtain ⟨m, h1, h2⟩ := h
  obtain ⟨m, rfl⟩ : ∃ n, m = n + 1 := ⟨m - 1, by have := v.depth_pos; omega⟩
  rw [soundS, Bool.and_eq_true] at h2
  exact ⟨m, by have := DSch.depth_part hp; omega, List.all_eq_true.1 h2.2 p hp⟩
theorem RV.here {v : DVal} (h : RV v) : (v.kind ≠ 5 → v.names.length = 0) ∧ (v.kind ≠ 6 → v.ids.length = 0) ∧ v.parts.length = v.names.length + v.ids.length := by
  obtain ⟨m, h1, h2⟩ := h
  obtain ⟨m, rfl⟩ : ∃ n, m = n + 1 := ⟨m - 1, by have := v.depth_pos; omega⟩
  rw [soundV, Bool.and_eq_true, hereV, Bool.and_eq_true, Bool.and_eq_true, Bool.not_eq_true', Bool.not_eq_true', decide_eq_false_iff_not, decide_eq_false_iff_not] at h2
  have h3 := h2.1.1.1
  have h4 := h2.1.1.2
  unfold bad1 at h3
  unfold bad2 at h4
  omega
theorem RS.here {s : DSch} (h : RS s) : (s.kind = 5 → s.parts.length = s.words.length) ∧ (s.kind = 6 → s.parts.length = 1) := by
  obtain ⟨m, h1, h2⟩ := h
  obtain ⟨m, rfl⟩ : ∃ n, m = n + 1 := ⟨m - 1, by have := s.depth_pos; omega⟩
  rw [soundS, Bool.and_eq_true, hereS, Bool.and_eq_true, Bool.and_eq_true, decide_eq_true_eq] at h2
  have h3 := h2.1.2.1
  unfold wantS at h3
  exact ⟨fun h => by rw [if_pos h] at h3; exact h3, fun h => by rw [if_neg (by omega), if_pos h] at h3; exact h3⟩
def headF (v : DVal) (s : DSch) : Bool := decide (v.kind = s.kind) && ((!decide (v.kind = 4) || decide (v.s ∈ s.words)) && (!decide (v.kind = 5) || decide (v.names = s.words)))
def atF (s : DSch) (i : Nat) : Nat := if s.kind = 6 then 0 else i
def fitsV : Nat → DVal → DSch → Bool
  | 0, _, _ => true
  | k + 1, v, s => headF v s && (List.range v.parts.length).all fun i => fitsV k (v.parts.getD i default) (s.parts.getD (atF s i) default)
theorem atF_lt {v : DVal} {s : DSch} (hv : RV v) (hs : RS s) (h : headF v s = true) {i : Nat} (hi : i < v.parts.length) : atF s i < s.parts.length := by
  have h1 := hv.here
  have h2 := hs.here
  rw [headF, Bool.and_eq_true, decide_eq_true_eq, Bool.and_eq_true] at h
  obtain ⟨hk, _, hn⟩ := h
  unfold atF
  by_cases h6 : s.kind = 6
  · rw [if_pos h6, h2.2 h6]; omega
  · rw [if_neg h6]
    by_cases h5 : v.kind = 5
    · rw [h5] at hn
      have : v.names = s.words := by simpa using hn
      rw [h2.1 (by omega), ← this]; omega
    · omega
theorem strArg {P : Program} {w : World} {η : Names} {X : Nat → Nat → Prop} {own : Own} {l : List Str} {y : Value} (h : Rep P w η X (.sl own (l.map strD)) y) : ∃ A c, y = .slice A l.length c ∧ l.length ≤ c ∧ RF w (· < w.heap.size) 1 A l.length (l.map sv) := scalars_of_rep sv h
theorem strContains_d (own : Own) (l : List Str) (x : Str) (hn : l.length ≤ 140737488351232) : DPure Try.prog 101 [.sl own (l.map strD), .v (sv x)] (.v (.bool (decide (x ∈ l)))) :=
  dpure_of_gives (fun _ _ => by kernel_rfl) fun w η X vs hr => by
    simp only [RepL] at hr
    obtain ⟨y, ys, rfl, h1, z, zs, rfl, h2, rfl⟩ := hr
    obtain ⟨A, c, rfl, hc, hf⟩ := strArg h1
    simp only [Rep] at h2
    subst h2
    exact (strContains_calls l x A c w hf hn).mono fun e w' ⟨he, hw⟩ => ⟨he, hw ▸ Below.refl _ _⟩
theorem strEqual_d (own own2 : Own) (l m : List Str) (hn : l.length ≤ 140737488351232) (hm : m.length ≤ 140737488351232) : DPure Try.prog 61 [.sl own (l.map strD), .sl own2 (m.map strD)] (.v (.bool (decide (l = m)))) :=
  dpure_of_gives (fun _ _ => by kernel_rfl) fun w η X vs hr => by
    simp only [RepL] at hr
    obtain ⟨y, ys, rfl, h1, z, zs, rfl, h2, rfl⟩ := hr
    obtain ⟨A, c, rfl, hc, hf⟩ := strArg h1
    obtain ⟨A2, c2, rfl, hc2, hf2⟩ := strArg h2
    exact strEqual_calls l m A A2 c c2 w hf hf2 hn hm
def fitsSt (v : DVal) (s : DSch) (S : St) : St := (S.add (.box 31 [.v (.int .i64 v.kind), .v (.int .i64 v.n), strD v.s, .sl .no (v.names.map strD), .sl .no (v.ids.map u64D), .sl .no (v.parts.map encV)])).add (.box 25 [.v (.int .i64 s.kind), .sl .no (s.words.map strD), .sl .no (s.parts.map encS)])
theorem fits_sub {S : St} (hS : S.WF) (v : DVal) (s : DSch) {n : Nat} (hn : S.next + 2 ≤ n) : S.Sub ⟨n, (fitsSt v s S).ob⟩ :=
  ⟨by show S.next ≤ n; omega, (((St.Sub.refl S).add hS _).add hS _).ob⟩
theorem fits_back {S : St} (hS : S.WF) (v : DVal) (s : DSch) {n : Nat} (hn : S.next + 2 ≤ n) (o o2 : Ob) : ∀ k o', (fitsSt v s S).ob k = some o' → ((St.add ⟨n, (fitsSt v s S).ob⟩ o).set n o2).ob k = some o' := fun k o' h => by
  have hk : k ≠ n := fun e => by
    subst e
    simp only [fitsSt, add_ob, add_next] at h
    rw [if_neg (by omega), if_neg (by omega), hS k (by omega)] at h
    cases h
  simp only [set_ob, add_ob]
  rw [if_neg hk, if_neg hk]
  exact h
structure FCut (v : DVal) (s : DSch) (S : St) (f : Fm) (T : St) : Prop where
  st : T = fitsSt v s S
  s2 : f 2 = .loc S.next 0
  s3 : f 3 = .loc (S.next + 1) 0
  s38 : f 38 = .v (.bool (!headF v s))
structure LF (k : Nat) (v : DVal) (s : DSch) (S : St) (f : Fm) (T : St) (i : Nat) : Prop where
  st : T.ob = (fitsSt v s S).ob
  nx : S.next + 2 ≤ T.next
  s2 : f 2 = .loc S.next 0
  s3 : f 3 = .loc (S.next + 1) 0
  s40 : f 40 = .sl .no (v.parts.map encV)
  s41 : f 41 = .v (.int .i64 v.parts.length)
  s42 : f 42 = .v (.int .i64 i)
  le : i ≤ v.parts.length
  ok : ∀ j, j < i → fitsV k (v.parts.getD j default) (s.parts.getD (atF s j) default) = true
def LFE (k : Nat) (v : DVal) (s : DSch) (S : St) (f : Fm) (T : St) : Prop := ∃ i, LF k v s S f T i
set_option maxRecDepth 200000 in
set_option maxHeartbeats 8000000 in
theorem fits_d (k : Nat) : ∀ (v : DVal) (s : DSch), v.depth ≤ k → okV v → okS s → RV v → RS s → DPure Try.prog 69 [encV v, encS s] (.v (.bool (fitsV k v s))) := by
  induction k with
  | zero => intro v s h; have := v.depth_pos; omega
  | succ k ih =>
    intro v s hk hov hos hv hs
    obtain ⟨o1, o2, o3, o4, o5, o6, o7, o8, o9⟩ := (okV_eq v).1 hov
    obtain ⟨p1, p2, p3, p4, p5⟩ := (okS_eq s).1 hos
    refine dpure_of_dwp mixed Try.func69 rfl (fun _ _ => by kernel_rfl) (rs := [.tmp 4]) rfl (by kernel_rfl) trivial (fun S hS => ?_)
    simp only [go_sem, ↓reduceIte, Nat.reduceBEq, Nat.reduceAdd, Nat.reduceLeDiff, Nat.reduceEqDiff, Nat.reduceLT, add_ob, set_ob, encV_eq v, encS_eq s]
    refine cut_guard (FCut v s S) rfl ?_ ?_
    · intro f T h
      obtain rfl := h.st
      cases hh : headF v s with
      | false =>
        simp only [go_sem, ↓reduceIte, Nat.reduceBEq, Nat.reduceAdd, Nat.reduceLeDiff, Nat.reduceEqDiff, Nat.reduceLT, add_ob, set_ob, h.s38, hh]
        exact ⟨by rw [fitsV, hh]; rfl, ((St.Sub.refl S).add hS _).add hS _⟩
      | true =>
        simp only [go_sem, ↓reduceIte, Nat.reduceBEq, Nat.reduceAdd, Nat.reduceLeDiff, Nat.reduceEqDiff, Nat.reduceLT, add_ob, set_ob, h.s38, hh, h.s2, h.s3, fitsSt]
        refine dloop_mk (LFE k v s S) (fun f _ => v.parts.length - slotN (f 42)) ⟨0, ⟨rfl, Nat.le_refl _, by simp only [go_sem, ↓reduceIte, Nat.reduceBEq, Nat.reduceAdd, Nat.reduceLeDiff, Nat.reduceEqDiff, Nat.reduceLT, add_ob, set_ob, h.s2], by simp only [go_sem, ↓reduceIte, Nat.reduceBEq, Nat.reduceAdd, Nat.reduceLeDiff, Nat.reduceEqDiff, Nat.reduceLT, add_ob, set_ob, h.s3], by simp only [go_sem, ↓reduceIte, Nat.reduceBEq, Nat.reduceAdd, Nat.reduceLeDiff, Nat.reduceEqDiff, Nat.reduceLT, add_ob, set_ob], by simp only [go_sem, ↓reduceIte, Nat.reduceBEq, Nat.reduceAdd, Nat.reduceLeDiff, Nat.reduceEqDiff, Nat.reduceLT, add_ob, set_ob], by simp only [go_sem, ↓reduceIte, Nat.reduceBEq, Nat.reduceAdd, Nat.reduceLeDiff, Nat.reduceEqDiff, Nat.reduceLT, add_ob, set_ob]; rfl, by omega, fun j hj => by omega⟩⟩ ?_
        rintro g ⟨tn, tob⟩ ⟨i, q⟩
        obtain rfl : tob = (fitsSt v s S).ob := q.st
        have nx : S.next + 2 ≤ tn := q.nx
        have e1 : (S.next = tn) = False := eq_false (by omega)
        have e2 : (S.next + 1 = tn) = False := eq_false (by omega)
        have e3 : (tn = S.next) = False := eq_false (by omega)
        have e4 : (tn = S.next + 1) = False := eq_false (by omega)
        by_cases hlt : i < v.parts.length
        · have b1 : decide ((i : Int) < (v.parts.length : Int)) = true := by simp; omega
          have hx := getD_map encV v.parts i hlt
          have c1 : (0 : Int) ≤ (i : Int) := by omega
          have c2 : (i : Int) < (v.parts.length : Int) := by omega
          have w1 : IntKind.i64.wrap ((i : Int) + 1) = (i : Int) + 1 := IntWalk.i64_in _ ⟨by omega, by omega⟩
          have hat := atF_lt hv hs hh hlt
          have hy := getD_map encS s.parts (atF s i) hat
          have c3 : (0 : Int) ≤ (atF s i : Int) := by omega
          have c4 : (atF s i : Int) < (s.parts.length : Int) := by omega
          have hd := DVal.depth_part (List.getElem_mem hlt)
          have hfit : fitsV k (v.parts.getD i default) (s.parts.getD (atF s i) default) = fitsV k v.parts[i] s.parts[atF s i] := by rw [getD_at hlt, getD_at hat]
          have hcall := ih v.parts[i] s.parts[atF s i] (by omega) (o9 _ (List.getElem_mem hlt)) (p5 _ (List.getElem_mem hat)) (hv.part (List.getElem_mem hlt)) (hs.part (List.getElem_mem hat))
          have hsub := fits_sub hS v s nx
          have hback := fits_back hS v s nx
          have next : fitsV k v.parts[i] s.parts[atF s i] = true → ∀ j, j < i + 1 → fitsV k (v.parts.getD j default) (s.parts.getD (atF s j) default) = true := fun hh j hj => by
            by_cases e : j = i
            · rw [e, hfit]; exact hh
            · exact q.ok j (by omega)
          have bad : fitsV k v.parts[i] s.parts[atF s i] = false → fitsV (k + 1) v s = false := fun hb => by
            simp only [fitsV]
            rw [all_not (p := fun i => fitsV k (v.parts.getD i default) (s.parts.getD (atF s i) default)) hlt (by rw [hfit]; exact hb), Bool.and_false]
          by_cases h6 : s.kind = 6
          · have b6 : (s.kind == 6) = true := by simp [h6]
            have ha : atF s i = 0 := by unfold atF; rw [if_pos h6]
            simp only [go_sem, ↓reduceIte, Nat.reduceBEq, Nat.reduceAdd, Nat.reduceLeDiff, Nat.reduceEqDiff, Nat.reduceLT, add_ob, set_ob, q.s2, q.s3, q.s40, q.s41, q.s42, b1, hx, c1, c2, fitsSt, e1, e2, e3, e4, b6]
            have hy0 : (s.parts.map encS).getD 0 undefD = encS s.parts[atF s i] := by rw [← hy, ha]
            have c5 : (0 : Int) < (s.parts.length : Int) := by omega
            have c6 : (0 : Int) ≤ 0 := Int.le_refl _
            refine ddraw_mk 8 (by kernel_rfl) ?_
            simp only [go_sem, ↓reduceIte, Nat.reduceBEq, Nat.reduceAdd, Nat.reduceLeDiff, Nat.reduceEqDiff, Nat.reduceLT, add_ob, set_ob, q.s3, e1, e2, e3, e4, hy0, c5, c6, Int.toNat_zero]
            refine dqgo_mk hcall ?_
            cases hf : fitsV k v.parts[i] s.parts[atF s i] with
            | false =>
              simp only [go_sem, ↓reduceIte, Nat.reduceBEq, Nat.reduceAdd, Nat.reduceLeDiff, Nat.reduceEqDiff, Nat.reduceLT, add_ob, set_ob, hf]
              exact ⟨by rw [bad hf]; rfl, (hsub.add hS _).set hS (by omega) _⟩
            | true =>
              simp only [go_sem, ↓reduceIte, Nat.reduceBEq, Nat.reduceAdd, Nat.reduceLeDiff, Nat.reduceEqDiff, Nat.reduceLT, add_ob, set_ob, hf, q.s42, w1]
              exact round_back (fitsSt v s S).ob (hback _ _) ⟨i + 1, ⟨rfl, Nat.le_succ_of_le nx, by simp only [go_sem, ↓reduceIte, Nat.reduceBEq, Nat.reduceAdd, Nat.reduceLeDiff, Nat.reduceEqDiff, Nat.reduceLT, add_ob, set_ob, q.s2], by simp only [go_sem, ↓reduceIte, Nat.reduceBEq, Nat.reduceAdd, Nat.reduceLeDiff, Nat.reduceEqDiff, Nat.reduceLT, add_ob, set_ob, q.s3], by simp only [go_sem, ↓reduceIte, Nat.reduceBEq, Nat.reduceAdd, Nat.reduceLeDiff, Nat.reduceEqDiff, Nat.reduceLT, add_ob, set_ob, q.s40], by simp only [go_sem, ↓reduceIte, Nat.reduceBEq, Nat.reduceAdd, Nat.reduceLeDiff, Nat.reduceEqDiff, Nat.reduceLT, add_ob, set_ob, q.s41], by simp only [go_sem, ↓reduceIte, Nat.reduceBEq, Nat.reduceAdd, Nat.reduceLeDiff, Nat.reduceEqDiff, Nat.reduceLT, add_ob, set_ob]; rfl, by omega, next hf⟩⟩ (by simp only [go_sem, ↓reduceIte, Nat.reduceBEq, Nat.reduceAdd, Nat.reduceLeDiff, Nat.reduceEqDiff, Nat.reduceLT, add_ob, set_ob]; omega)
          · have b6 : (s.kind == 6) = false := by simp [h6]
            have ha : atF s i = i := by unfold atF; rw [if_neg h6]
            have hy0 : (s.parts.map encS).getD i undefD = encS s.parts[atF s i] := by rw [← hy, ha]
            have c5 : (i : Int) < (s.parts.length : Int) := by omega
            simp only [go_sem, ↓reduceIte, Nat.reduceBEq, Nat.reduceAdd, Nat.reduceLeDiff, Nat.reduceEqDiff, Nat.reduceLT, add_ob, set_ob, q.s2, q.s3, q.s40, q.s41, q.s42, b1, hx, c1, c2, fitsSt, e1, e2, e3, e4, b6]
            refine ddraw_mk 8 (by kernel_rfl) ?_
            simp only [go_sem, ↓reduceIte, Nat.reduceBEq, Nat.reduceAdd, Nat.reduceLeDiff, Nat.reduceEqDiff, Nat.reduceLT, add_ob, set_ob, q.s3, e1, e2, e3, e4, hy0, c1, c5]
            refine dqgo_mk hcall ?_
            cases hf : fitsV k v.parts[i] s.parts[atF s i] with
            | false =>
              simp only [go_sem, ↓reduceIte, Nat.reduceBEq, Nat.reduceAdd, Nat.reduceLeDiff, Nat.reduceEqDiff, Nat.reduceLT, add_ob, set_ob, hf]
              exact ⟨by rw [bad hf]; rfl, (hsub.add hS _).set hS (by omega) _⟩
            | true =>
              simp only [go_sem, ↓reduceIte, Nat.reduceBEq, Nat.reduceAdd, Nat.reduceLeDiff, Nat.reduceEqDiff, Nat.reduceLT, add_ob, set_ob, hf, q.s42, w1]
              exact round_back (fitsSt v s S).ob (hback _ _) ⟨i + 1, ⟨rfl, Nat.le_succ_of_le nx, by simp only [go_sem, ↓reduceIte, Nat.reduceBEq, Nat.reduceAdd, Nat.reduceLeDiff, Nat.reduceEqDiff, Nat.reduceLT, add_ob, set_ob, q.s2], by simp only [go_sem, ↓reduceIte, Nat.reduceBEq, Nat.reduceAdd, Nat.reduceLeDiff, Nat.reduceEqDiff, Nat.reduceLT, add_ob, set_ob, q.s3], by simp only [go_sem, ↓reduceIte, Nat.reduceBEq, Nat.reduceAdd, Nat.reduceLeDiff, Nat.reduceEqDiff, Nat.reduceLT, add_ob, set_ob, q.s40], by simp only [go_sem, ↓reduceIte, Nat.reduceBEq, Nat.reduceAdd, Nat.reduceLeDiff, Nat.reduceEqDiff, Nat.reduceLT, add_ob, set_ob, q.s41], by simp only [go_sem, ↓reduceIte, Nat.reduceBEq, Nat.reduceAdd, Nat.reduceLeDiff, Nat.reduceEqDiff, Nat.reduceLT, add_ob, set_ob]; rfl, by omega, next hf⟩⟩ (by simp only [go_sem, ↓reduceIte, Nat.reduceBEq, Nat.reduceAdd, Nat.reduceLeDiff, Nat.reduceEqDiff, Nat.reduceLT, add_ob, set_ob]; omega)
        · have b1 : decide ((i : Int) < (v.parts.length : Int)) = false := by simp; omega
          simp only [go_sem, ↓reduceIte, Nat.reduceBEq, Nat.reduceAdd, Nat.reduceLeDiff, Nat.reduceEqDiff, Nat.reduceLT, add_ob, set_ob, q.s2, q.s3, q.s40, q.s41, q.s42, b1]
          refine ⟨?_, fits_sub hS v s nx⟩
          rw [show fitsV (k + 1) v s = true by
            simp only [fitsV, hh, Bool.true_and]
            exact all_of fun j hj => q.ok j (by omega)]
          rfl
    · have hbad : headF v s = (decide (v.kind = s.kind) && ((!decide (v.kind = 4) || decide (v.s ∈ s.words)) && (!decide (v.kind = 5) || decide (v.names = s.words)))) := rfl
      by_cases hk1 : v.kind = s.kind
      · have b1 : (v.kind != s.kind) = false := by simp [hk1]
        by_cases hk4 : v.kind = 4
        · have b4 : (v.kind == 4) = true := by simp [hk4]
          have b5 : (v.kind == 5) = false := by simp [hk4]
          simp only [go_sem, ↓reduceIte, Nat.reduceBEq, Nat.reduceAdd, Nat.reduceLeDiff, Nat.reduceEqDiff, Nat.reduceLT, add_ob, set_ob, b1, b4, b5]
          refine DCalls.of_pure (strContains_d .no s.words v.s p3) ?_
          have hb2 : headF v s = decide (v.s ∈ s.words) := by rw [hbad, decide_eq_true hk1, decide_eq_true hk4, decide_eq_false (show ¬ v.kind = 5 by omega)]; simp
          cases hm : decide (v.s ∈ s.words) with
          | false => simp only [go_sem, ↓reduceIte, Nat.reduceBEq, Nat.reduceAdd, Nat.reduceLeDiff, Nat.reduceEqDiff, Nat.reduceLT, add_ob, set_ob, b5]; exact ⟨rfl, by simp only [go_sem, ↓reduceIte, Nat.reduceBEq, Nat.reduceAdd, Nat.reduceLeDiff, Nat.reduceEqDiff, Nat.reduceLT, add_ob, set_ob], by simp only [go_sem, ↓reduceIte, Nat.reduceBEq, Nat.reduceAdd, Nat.reduceLeDiff, Nat.reduceEqDiff, Nat.reduceLT, add_ob, set_ob], by simp only [go_sem, ↓reduceIte, Nat.reduceBEq, Nat.reduceAdd, Nat.reduceLeDiff, Nat.reduceEqDiff, Nat.reduceLT, add_ob, set_ob, hb2, hm]⟩
          | true => simp only [go_sem, ↓reduceIte, Nat.reduceBEq, Nat.reduceAdd, Nat.reduceLeDiff, Nat.reduceEqDiff, Nat.reduceLT, add_ob, set_ob, b5]; exact ⟨rfl, by simp only [go_sem, ↓reduceIte, Nat.reduceBEq, Nat.reduceAdd, Nat.reduceLeDiff, Nat.reduceEqDiff, Nat.reduceLT, add_ob, set_ob], by simp only [go_sem, ↓reduceIte, Nat.reduceBEq, Nat.reduceAdd, Nat.reduceLeDiff, Nat.reduceEqDiff, Nat.reduceLT, add_ob, set_ob], by simp only [go_sem, ↓reduceIte, Nat.reduceBEq, Nat.reduceAdd, Nat.reduceLeDiff, Nat.reduceEqDiff, Nat.reduceLT, add_ob, set_ob, hb2, hm]⟩
        · have b4 : (v.kind == 4) = false := by simp [hk4]
          by_cases hk5 : v.kind = 5
          · have b5 : (v.kind == 5) = true := by simp [hk5]
            simp only [go_sem, ↓reduceIte, Nat.reduceBEq, Nat.reduceAdd, Nat.reduceLeDiff, Nat.reduceEqDiff, Nat.reduceLT, add_ob, set_ob, b1, b4, b5]
            refine DCalls.of_pure (strEqual_d .no .no v.names s.words o5 p3) ?_
            have hb2 : headF v s = decide (v.names = s.words) := by rw [hbad, decide_eq_true hk1, decide_eq_false hk4, decide_eq_true hk5]; simp
            cases hm : decide (v.names = s.words) with
            | false => simp only [go_sem, ↓reduceIte, Nat.reduceBEq, Nat.reduceAdd, Nat.reduceLeDiff, Nat.reduceEqDiff, Nat.reduceLT, add_ob, set_ob]; exact ⟨rfl, by simp only [go_sem, ↓reduceIte, Nat.reduceBEq, Nat.reduceAdd, Nat.reduceLeDiff, Nat.reduceEqDiff, Nat.reduceLT, add_ob, set_ob], by simp only [go_sem, ↓reduceIte, Nat.reduceBEq, Nat.reduceAdd, Nat.reduceLeDiff, Nat.reduceEqDiff, Nat.reduceLT, add_ob, set_ob], by simp only [go_sem, ↓reduceIte, Nat.reduceBEq, Nat.reduceAdd, Nat.reduceLeDiff, Nat.reduceEqDiff, Nat.reduceLT, add_ob, set_ob, hb2, hm]⟩
            | true => simp only [go_sem, ↓reduceIte, Nat.reduceBEq, Nat.reduceAdd, Nat.reduceLeDiff, Nat.reduceEqDiff, Nat.reduceLT, add_ob, set_ob]; exact ⟨rfl, by simp only [go_sem, ↓reduceIte, Nat.reduceBEq, Nat.reduceAdd, Nat.reduceLeDiff, Nat.reduceEqDiff, Nat.reduceLT, add_ob, set_ob], by simp only [go_sem, ↓reduceIte, Nat.reduceBEq, Nat.reduceAdd, Nat.reduceLeDiff, Nat.reduceEqDiff, Nat.reduceLT, add_ob, set_ob], by simp only [go_sem, ↓reduceIte, Nat.reduceBEq, Nat.reduceAdd, Nat.reduceLeDiff, Nat.reduceEqDiff, Nat.reduceLT, add_ob, set_ob, hb2, hm]⟩
          · have b5 : (v.kind == 5) = false := by simp [hk5]
            have hb2 : headF v s = true := by rw [hbad, decide_eq_true hk1, decide_eq_false hk4, decide_eq_false hk5]; simp
            simp only [go_sem, ↓reduceIte, Nat.reduceBEq, Nat.reduceAdd, Nat.reduceLeDiff, Nat.reduceEqDiff, Nat.reduceLT, add_ob, set_ob, b1, b4, b5]
            exact ⟨rfl, by simp only [go_sem, ↓reduceIte, Nat.reduceBEq, Nat.reduceAdd, Nat.reduceLeDiff, Nat.reduceEqDiff, Nat.reduceLT, add_ob, set_ob], by simp only [go_sem, ↓reduceIte, Nat.reduceBEq, Nat.reduceAdd, Nat.reduceLeDiff, Nat.reduceEqDiff, Nat.reduceLT, add_ob, set_ob], by simp only [go_sem, ↓reduceIte, Nat.reduceBEq, Nat.reduceAdd, Nat.reduceLeDiff, Nat.reduceEqDiff, Nat.reduceLT, add_ob, set_ob, hb2]⟩
      · have b1 : (v.kind != s.kind) = true := by simp [hk1]
        have hb2 : headF v s = false := by rw [hbad, decide_eq_false hk1]; rfl
        simp only [go_sem, ↓reduceIte, Nat.reduceBEq, Nat.reduceAdd, Nat.reduceLeDiff, Nat.reduceEqDiff, Nat.reduceLT, add_ob, set_ob, b1]
        exact ⟨rfl, by simp only [go_sem, ↓reduceIte, Nat.reduceBEq, Nat.reduceAdd, Nat.reduceLeDiff, Nat.reduceEqDiff, Nat.reduceLT, add_ob, set_ob], by simp only [go_sem, ↓reduceIte, Nat.reduceBEq, Nat.reduceAdd, Nat.reduceLeDiff, Nat.reduceEqDiff, Nat.reduceLT, add_ob, set_ob], by simp only [go_sem, ↓reduceIte, Nat.reduceBEq, Nat.reduceAdd, Nat.reduceLeDiff, Nat.reduceEqDiff, Nat.reduceLT, add_ob, set_ob, hb2]⟩
end Go.Proofs.Ytpnjkebjdclkfaa

/- Whether a value fits a schema, walked: the document's. Conditions: none. -/
namespace Go.Proofs.Ytpnjkebjdclkfaa
open Go.RowKit
set_option linter.unusedSimpArgs false
structure RW (v : DVal) (s : DSch) (S : St) (f : Fm) (T : St) (i : Nat) : Prop where
  st : T = fitsSt v s S
  s2 : f 2 = .loc S.next 0
  s3 : f 3 = .loc (S.next + 1) 0
  s5 : f 5 = .v (.int .i64 i)
  le : i ≤ s.words.length
  no : ∀ j (h : j < s.words.length), j < i → s.words[j] ≠ v.s
def RWE (v : DVal) (s : DSch) (S : St) (f : Fm) (T : St) : Prop := ∃ i, RW v s S f T i
structure RN (k : Nat) (v : DVal) (s : DSch) (S : St) (f : Fm) (T : St) (i : Nat) : Prop where
  st : T = fitsSt v s S
  s2 : f 2 = .loc S.next 0
  s3 : f 3 = .loc (S.next + 1) 0
  s6 : f 6 = .v (.int .i64 i)
  le : i ≤ v.names.length
  eq : ∀ j (h : j < v.names.length) (h2 : j < s.words.length), j < i → v.names[j] = s.words[j]
  ok : ∀ j, j < i → fitsV k (v.parts.getD j default) (s.parts.getD (atF s j) default) = true
def RNE (k : Nat) (v : DVal) (s : DSch) (S : St) (f : Fm) (T : St) : Prop := ∃ i, RN k v s S f T i
structure RJ (k : Nat) (v : DVal) (s : DSch) (S : St) (f : Fm) (T : St) : Prop where
  st : T = fitsSt v s S
  s2 : f 2 = .loc S.next 0
  s3 : f 3 = .loc (S.next + 1) 0
  eq : v.names = s.words
  ok : ∀ j, j < v.parts.length → fitsV k (v.parts.getD j default) (s.parts.getD (atF s j) default) = true
structure RP (k : Nat) (v : DVal) (s : DSch) (S : St) (f : Fm) (T : St) (i : Nat) : Prop where
  st : T = fitsSt v s S
  s2 : f 2 = .loc S.next 0
  s3 : f 3 = .loc (S.next + 1) 0
  s7 : f 7 = .v (.int .i64 i)
  le : i ≤ v.parts.length
  ok : ∀ j, j < i → fitsV k (v.parts.getD j default) (s.parts.getD (atF s j) default) = true
def RPE (k : Nat) (v : DVal) (s : DSch) (S : St) (f : Fm) (T : St) : Prop := ∃ i, RP k v s S f T i
set_option maxRecDepth 200000 in
set_option maxHeartbeats 8000000 in
theorem refFits_d (k : Nat) : ∀ (v : DVal) (s : DSch), v.depth ≤ k → okV v → okS s → RV v → RS s → DPure Try.prog 70 [encV v, encS s] (.v (.bool (fitsV k v s))) := by
  induction k with
  | zero => intro v s h; have := v.depth_pos; omega
  | succ k ih =>
    intro v s hk hov hos hv hs
    obtain ⟨o1, o2, o3, o4, o5, o6, o7, o8, o9⟩ := (okV_eq v).1 hov
    obtain ⟨p1, p2, p3, p4, p5⟩ := (okS_eq s).1 hos
    have hvh := hv.here
    have hsh := hs.here
    have hbad : headF v s = (decide (v.kind = s.kind) && ((!decide (v.kind = 4) || decide (v.s ∈ s.words)) && (!decide (v.kind = 5) || decide (v.names = s.words)))) := rfl
    refine dpure_of_dwp mixed Try.func70 rfl (fun _ _ => by kernel_rfl) (rs := [.tmp 4]) rfl (by kernel_rfl) trivial (fun S hS => ?_)
    have hsub : S.Sub (fitsSt v s S) := ((St.Sub.refl S).add hS _).add hS _
    by_cases hk1 : v.kind = s.kind
    · have b1 : (v.kind != s.kind) = false := by simp [hk1]
      by_cases hk4 : v.kind = 4
      · have b4 : (v.kind == 4) = true := by simp [hk4]
        have hb2 : headF v s = decide (v.s ∈ s.words) := by rw [hbad, decide_eq_true hk1, decide_eq_true hk4, decide_eq_false (show ¬ v.kind = 5 by omega)]; simp
        have hp0 : v.parts.length = 0 := by omega
        have hfit : fitsV (k + 1) v s = decide (v.s ∈ s.words) := by rw [fitsV, hb2, hp0]; simp
        simp only [go_sem, ↓reduceIte, Nat.reduceBEq, Nat.reduceAdd, Nat.reduceLeDiff, Nat.reduceEqDiff, Nat.reduceLT, add_ob, set_ob, encV_eq v, encS_eq s, b1, b4]
        refine dloop_mk (RWE v s S) (fun f _ => s.words.length - slotN (f 5)) ⟨0, ⟨rfl, by simp only [go_sem, ↓reduceIte, Nat.reduceBEq, Nat.reduceAdd, Nat.reduceLeDiff, Nat.reduceEqDiff, Nat.reduceLT, add_ob, set_ob], by simp only [go_sem, ↓reduceIte, Nat.reduceBEq, Nat.reduceAdd, Nat.reduceLeDiff, Nat.reduceEqDiff, Nat.reduceLT, add_ob, set_ob], by simp only [go_sem, ↓reduceIte, Nat.reduceBEq, Nat.reduceAdd, Nat.reduceLeDiff, Nat.reduceEqDiff, Nat.reduceLT, add_ob, set_ob]; rfl, by omega, fun j _ hj => by omega⟩⟩ ?_
        rintro g T ⟨i, q⟩
        obtain rfl := q.st
        by_cases hlt : i < s.words.length
        · have b2 : decide ((i : Int) < (s.words.length : Int)) = true := by simp; omega
          have hx := getD_map strD s.words i hlt
          have c1 : (0 : Int) ≤ (i : Int) := by omega
          have c2 : (i : Int) < (s.words.length : Int) := by omega
          have w1 : IntKind.i64.wrap ((i : Int) + 1) = (i : Int) + 1 := IntWalk.i64_in _ ⟨by omega, by omega⟩
          simp only [go_sem, ↓reduceIte, Nat.reduceBEq, Nat.reduceAdd, Nat.reduceLeDiff, Nat.reduceEqDiff, Nat.reduceLT, add_ob, set_ob, q.s2, q.s3, q.s5, b2, fitsSt]
          refine ddraw_mk 8 (by kernel_rfl) ?_
          simp only [go_sem, ↓reduceIte, Nat.reduceBEq, Nat.reduceAdd, Nat.reduceLeDiff, Nat.reduceEqDiff, Nat.reduceLT, add_ob, set_ob, q.s2, q.s3, q.s5, hx, c1, c2]
          by_cases he : s.words[i] = v.s
          · have b3 : (s.words[i] == v.s) = true := by simp [he]
            simp only [go_sem, ↓reduceIte, Nat.reduceBEq, Nat.reduceAdd, Nat.reduceLeDiff, Nat.reduceEqDiff, Nat.reduceLT, add_ob, set_ob, b3]
            exact ⟨by rw [hfit, decide_eq_true (show v.s ∈ s.words from he ▸ List.getElem_mem hlt)]; rfl, hsub⟩
          · have b3 : (s.words[i] == v.s) = false := by simp [he]
            simp only [go_sem, ↓reduceIte, Nat.reduceBEq, Nat.reduceAdd, Nat.reduceLeDiff, Nat.reduceEqDiff, Nat.reduceLT, add_ob, set_ob, b3, q.s5, w1]
            exact round_end ⟨i + 1, ⟨rfl, by simp only [go_sem, ↓reduceIte, Nat.reduceBEq, Nat.reduceAdd, Nat.reduceLeDiff, Nat.reduceEqDiff, Nat.reduceLT, add_ob, set_ob, q.s2], by simp only [go_sem, ↓reduceIte, Nat.reduceBEq, Nat.reduceAdd, Nat.reduceLeDiff, Nat.reduceEqDiff, Nat.reduceLT, add_ob, set_ob, q.s3], by simp only [go_sem, ↓reduceIte, Nat.reduceBEq, Nat.reduceAdd, Nat.reduceLeDiff, Nat.reduceEqDiff, Nat.reduceLT, add_ob, set_ob]; rfl, by omega, fun j hj hji => by
              by_cases e : j = i
              · subst e; exact he
              · exact q.no j hj (by omega)⟩⟩ (by simp only [go_sem, ↓reduceIte, Nat.reduceBEq, Nat.reduceAdd, Nat.reduceLeDiff, Nat.reduceEqDiff, Nat.reduceLT, add_ob, set_ob]; omega)
        · have b2 : decide ((i : Int) < (s.words.length : Int)) = false := by simp; omega
          simp only [go_sem, ↓reduceIte, Nat.reduceBEq, Nat.reduceAdd, Nat.reduceLeDiff, Nat.reduceEqDiff, Nat.reduceLT, add_ob, set_ob, q.s2, q.s3, q.s5, b2, fitsSt]
          exact ⟨by rw [hfit, decide_eq_false (fun hm => by
            obtain ⟨j, hj, e⟩ := List.getElem_of_mem hm
            exact q.no j hj (by omega) e)]; rfl, hsub⟩
      · have b4 : (v.kind == 4) = false := by simp [hk4]
        by_cases hk5 : v.kind = 5
        · have b5 : (v.kind == 5) = true := by simp [hk5]
          have b6 : (v.kind == 6) = false := by simp [hk5]
          have hb2 : headF v s = decide (v.names = s.words) := by rw [hbad, decide_eq_true hk1, decide_eq_false hk4, decide_eq_true hk5]; simp
          have hpl : v.parts.length = v.names.length := by omega
          have hsl : s.parts.length = s.words.length := hsh.1 (by omega)
          have ha : ∀ j, atF s j = j := fun j => by unfold atF; rw [if_neg (by omega)]
          by_cases hnl : v.names.length = s.words.length
          · have b7 : ((v.names.length : Int) != (s.words.length : Int)) = false := by simp [hnl]
            simp only [go_sem, ↓reduceIte, Nat.reduceBEq, Nat.reduceAdd, Nat.reduceLeDiff, Nat.reduceEqDiff, Nat.reduceLT, add_ob, set_ob, encV_eq v, encS_eq s, b1, b4, b5, b7]
            refine loop_cut (RJ k v s S) ?_ ?_
            · refine dloop_mk (RNE k v s S) (fun f _ => v.names.length - slotN (f 6)) ⟨0, ⟨rfl, by simp only [go_sem, ↓reduceIte, Nat.reduceBEq, Nat.reduceAdd, Nat.reduceLeDiff, Nat.reduceEqDiff, Nat.reduceLT, add_ob, set_ob], by simp only [go_sem, ↓reduceIte, Nat.reduceBEq, Nat.reduceAdd, Nat.reduceLeDiff, Nat.reduceEqDiff, Nat.reduceLT, add_ob, set_ob], by simp only [go_sem, ↓reduceIte, Nat.reduceBEq, Nat.reduceAdd, Nat.reduceLeDiff, Nat.reduceEqDiff, Nat.reduceLT, add_ob, set_ob]; rfl, by omega, fun j _ _ hj => by omega, fun j hj => by omega⟩⟩ ?_
              rintro g T ⟨i, q⟩
              obtain rfl := q.st
              by_cases hlt : i < v.names.length
              · have b2 : decide ((i : Int) < (v.names.length : Int)) = true := by simp; omega
                have hlw : i < s.words.length := by omega
                have hlp : i < v.parts.length := by omega
                have hls : i < s.parts.length := by omega
                have hx1 := getD_map strD v.names i hlt
                have hx2 := getD_map strD s.words i hlw
                have hx3 := getD_map encV v.parts i hlp
                have hx4 := getD_map encS s.parts i hls
                have c0 : (0 : Int) ≤ (i : Int) := by omega
                have c1 : (i : Int) < (v.names.length : Int) := by omega
                have c2 : (i : Int) < (s.words.length : Int) := by omega
                have c3 : (i : Int) < (v.parts.length : Int) := by omega
                have c4 : (i : Int) < (s.parts.length : Int) := by omega
                have w1 : IntKind.i64.wrap ((i : Int) + 1) = (i : Int) + 1 := IntWalk.i64_in _ ⟨by omega, by omega⟩
                have hd := DVal.depth_part (List.getElem_mem hlp)
                have hat : fitsV k (v.parts.getD i default) (s.parts.getD (atF s i) default) = fitsV k v.parts[i] s.parts[i] := by rw [ha, getD_at hlp, getD_at hls]
                have hcall := ih v.parts[i] s.parts[i] (by omega) (o9 _ (List.getElem_mem hlp)) (p5 _ (List.getElem_mem hls)) (hv.part (List.getElem_mem hlp)) (hs.part (List.getElem_mem hls))
                simp only [go_sem, ↓reduceIte, Nat.reduceBEq, Nat.reduceAdd, Nat.reduceLeDiff, Nat.reduceEqDiff, Nat.reduceLT, add_ob, set_ob, q.s2, q.s3, q.s6, b2, fitsSt]
                refine ddraw_mk 25 (by kernel_rfl) ?_
                by_cases he : v.names[i] = s.words[i]
                · have b3 : (v.names[i] == s.words[i]) = true := by simp [he]
                  simp only [go_sem, ↓reduceIte, Nat.reduceBEq, Nat.reduceAdd, Nat.reduceLeDiff, Nat.reduceEqDiff, Nat.reduceLT, add_ob, set_ob, q.s2, q.s3, q.s6, hx1, hx2, hx3, hx4, c0, c1, c2, c3, c4, b3]
                  refine dqgo_mk hcall ?_
                  cases hf : fitsV k v.parts[i] s.parts[i] with
                  | false =>
                    simp only [go_sem, ↓reduceIte, Nat.reduceBEq, Nat.reduceAdd, Nat.reduceLeDiff, Nat.reduceEqDiff, Nat.reduceLT, add_ob, set_ob, hf]
                    exact ⟨by rw [show fitsV (k + 1) v s = false by
                      simp only [fitsV]
                      rw [all_not (p := fun i => fitsV k (v.parts.getD i default) (s.parts.getD (atF s i) default)) hlp (by rw [hat]; exact hf), Bool.and_false]]; rfl, hsub⟩
                  | true =>
                    simp only [go_sem, ↓reduceIte, Nat.reduceBEq, Nat.reduceAdd, Nat.reduceLeDiff, Nat.reduceEqDiff, Nat.reduceLT, add_ob, set_ob, hf, q.s6, w1]
                    exact round_end ⟨i + 1, ⟨rfl, by simp only [go_sem, ↓reduceIte, Nat.reduceBEq, Nat.reduceAdd, Nat.reduceLeDiff, Nat.reduceEqDiff, Nat.reduceLT, add_ob, set_ob, q.s2], by simp only [go_sem, ↓reduceIte, Nat.reduceBEq, Nat.reduceAdd, Nat.reduceLeDiff, Nat.reduceEqDiff, Nat.reduceLT, add_ob, set_ob, q.s3], by simp only [go_sem, ↓reduceIte, Nat.reduceBEq, Nat.reduceAdd, Nat.reduceLeDiff, Nat.reduceEqDiff, Nat.reduceLT, add_ob, set_ob]; rfl, by omega, fun j hj hj2 hji => by
                      by_cases e : j = i
                      · subst e; exact he
                      · exact q.eq j hj hj2 (by omega), fun j hji => by
                      by_cases e : j = i
                      · rw [e, hat]; exact hf
                      · exact q.ok j (by omega)⟩⟩ (by simp only [go_sem, ↓reduceIte, Nat.reduceBEq, Nat.reduceAdd, Nat.reduceLeDiff, Nat.reduceEqDiff, Nat.reduceLT, add_ob, set_ob]; omega)
                · have b3 : (v.names[i] == s.words[i]) = false := by simp [he]
                  simp only [go_sem, ↓reduceIte, Nat.reduceBEq, Nat.reduceAdd, Nat.reduceLeDiff, Nat.reduceEqDiff, Nat.reduceLT, add_ob, set_ob, q.s2, q.s3, q.s6, hx1, hx2, hx3, hx4, c0, c1, c2, c3, c4, b3]
                  exact ⟨by rw [show fitsV (k + 1) v s = false by
                    simp only [fitsV]
                    rw [hb2, decide_eq_false (fun e => he (by simp only [e])), Bool.false_and]]; rfl, hsub⟩
              · have b2 : decide ((i : Int) < (v.names.length : Int)) = false := by simp; omega
                simp only [go_sem, ↓reduceIte, Nat.reduceBEq, Nat.reduceAdd, Nat.reduceLeDiff, Nat.reduceEqDiff, Nat.reduceLT, add_ob, set_ob, q.s2, q.s3, q.s6, b2, fitsSt]
                exact ⟨rfl, by simp only [go_sem, ↓reduceIte, Nat.reduceBEq, Nat.reduceAdd, Nat.reduceLeDiff, Nat.reduceEqDiff, Nat.reduceLT, add_ob, set_ob, q.s2], by simp only [go_sem, ↓reduceIte, Nat.reduceBEq, Nat.reduceAdd, Nat.reduceLeDiff, Nat.reduceEqDiff, Nat.reduceLT, add_ob, set_ob, q.s3], List.ext_getElem hnl fun j h1 h2 => q.eq j h1 h2 (by omega), fun j hj => q.ok j (by omega)⟩
            · intro f T h
              obtain rfl := h.st
              simp only [go_sem, ↓reduceIte, Nat.reduceBEq, Nat.reduceAdd, Nat.reduceLeDiff, Nat.reduceEqDiff, Nat.reduceLT, add_ob, set_ob, h.s2, h.s3, b6, fitsSt]
              exact ⟨by rw [show fitsV (k + 1) v s = true by
                simp only [fitsV]
                rw [hb2, decide_eq_true h.eq, Bool.true_and]
                exact all_of fun j hj => h.ok j hj]; rfl, hsub⟩
          · have b7 : ((v.names.length : Int) != (s.words.length : Int)) = true := by simp; omega
            simp only [go_sem, ↓reduceIte, Nat.reduceBEq, Nat.reduceAdd, Nat.reduceLeDiff, Nat.reduceEqDiff, Nat.reduceLT, add_ob, set_ob, encV_eq v, encS_eq s, b1, b4, b5, b7]
            exact ⟨by rw [show fitsV (k + 1) v s = false by
              simp only [fitsV]
              rw [hb2, decide_eq_false (fun e => hnl (by rw [e])), Bool.false_and]]; rfl, hsub⟩
        · have b5 : (v.kind == 5) = false := by simp [hk5]
          have hb2 : headF v s = true := by rw [hbad, decide_eq_true hk1, decide_eq_false hk4, decide_eq_false hk5]; simp
          by_cases hk6 : v.kind = 6
          · have b6 : (v.kind == 6) = true := by simp [hk6]
            have hsl : s.parts.length = 1 := hsh.2 (by omega)
            have ha : ∀ j, atF s j = 0 := fun j => by unfold atF; rw [if_pos (by omega)]
            simp only [go_sem, ↓reduceIte, Nat.reduceBEq, Nat.reduceAdd, Nat.reduceLeDiff, Nat.reduceEqDiff, Nat.reduceLT, add_ob, set_ob, encV_eq v, encS_eq s, b1, b4, b5, b6]
            refine dloop_mk (RPE k v s S) (fun f _ => v.parts.length - slotN (f 7)) ⟨0, ⟨rfl, by simp only [go_sem, ↓reduceIte, Nat.reduceBEq, Nat.reduceAdd, Nat.reduceLeDiff, Nat.reduceEqDiff, Nat.reduceLT, add_ob, set_ob], by simp only [go_sem, ↓reduceIte, Nat.reduceBEq, Nat.reduceAdd, Nat.reduceLeDiff, Nat.reduceEqDiff, Nat.reduceLT, add_ob, set_ob], by simp only [go_sem, ↓reduceIte, Nat.reduceBEq, Nat.reduceAdd, Nat.reduceLeDiff, Nat.reduceEqDiff, Nat.reduceLT, add_ob, set_ob]; rfl, by omega, fun j hj => by omega⟩⟩ ?_
            rintro g T ⟨i, q⟩
            obtain rfl := q.st
            by_cases hlt : i < v.parts.length
            · have b2 : decide ((i : Int) < (v.parts.length : Int)) = true := by simp; omega
              have hls : 0 < s.parts.length := by omega
              have hx3 := getD_map encV v.parts i hlt
              have hx4 := getD_map encS s.parts 0 hls
              have c0 : (0 : Int) ≤ (i : Int) := by omega
              have c3 : (i : Int) < (v.parts.length : Int) := by omega
              have c4 : (0 : Int) < (s.parts.length : Int) := by omega
              have c5 : (0 : Int) ≤ 0 := Int.le_refl _
              have w1 : IntKind.i64.wrap ((i : Int) + 1) = (i : Int) + 1 := IntWalk.i64_in _ ⟨by omega, by omega⟩
              have hd := DVal.depth_part (List.getElem_mem hlt)
              have hat : fitsV k (v.parts.getD i default) (s.parts.getD (atF s i) default) = fitsV k v.parts[i] s.parts[0] := by rw [ha, getD_at hlt, getD_at hls]
              have hcall := ih v.parts[i] s.parts[0] (by omega) (o9 _ (List.getElem_mem hlt)) (p5 _ (List.getElem_mem hls)) (hv.part (List.getElem_mem hlt)) (hs.part (List.getElem_mem hls))
              simp only [go_sem, ↓reduceIte, Nat.reduceBEq, Nat.reduceAdd, Nat.reduceLeDiff, Nat.reduceEqDiff, Nat.reduceLT, add_ob, set_ob, q.s2, q.s3, q.s7, b2, fitsSt]
              refine ddraw_mk 11 (by kernel_rfl) ?_
              simp only [go_sem, ↓reduceIte, Nat.reduceBEq, Nat.reduceAdd, Nat.reduceLeDiff, Nat.reduceEqDiff, Nat.reduceLT, add_ob, set_ob, q.s2, q.s3, q.s7, hx3, hx4, c0, c3, c4, c5, Int.toNat_zero]
              refine dqgo_mk hcall ?_
              cases hf : fitsV k v.parts[i] s.parts[0] with
              | false =>
                simp only [go_sem, ↓reduceIte, Nat.reduceBEq, Nat.reduceAdd, Nat.reduceLeDiff, Nat.reduceEqDiff, Nat.reduceLT, add_ob, set_ob, hf]
                exact ⟨by rw [show fitsV (k + 1) v s = false by
                  simp only [fitsV]
                  rw [all_not (p := fun i => fitsV k (v.parts.getD i default) (s.parts.getD (atF s i) default)) hlt (by rw [hat]; exact hf), Bool.and_false]]; rfl, hsub⟩
              | true =>
                simp only [go_sem, ↓reduceIte, Nat.reduceBEq, Nat.reduceAdd, Nat.reduceLeDiff, Nat.reduceEqDiff, Nat.reduceLT, add_ob, set_ob, hf, q.s7, w1]
                exact round_end ⟨i + 1, ⟨rfl, by simp only [go_sem, ↓reduceIte, Nat.reduceBEq, Nat.reduceAdd, Nat.reduceLeDiff, Nat.reduceEqDiff, Nat.reduceLT, add_ob, set_ob, q.s2], by simp only [go_sem, ↓reduceIte, Nat.reduceBEq, Nat.reduceAdd, Nat.reduceLeDiff, Nat.reduceEqDiff, Nat.reduceLT, add_ob, set_ob, q.s3], by simp only [go_sem, ↓reduceIte, Nat.reduceBEq, Nat.reduceAdd, Nat.reduceLeDiff, Nat.reduceEqDiff, Nat.reduceLT, add_ob, set_ob]; rfl, by omega, fun j hji => by
                  by_cases e : j = i
                  · rw [e, hat]; exact hf
                  · exact q.ok j (by omega)⟩⟩ (by simp only [go_sem, ↓reduceIte, Nat.reduceBEq, Nat.reduceAdd, Nat.reduceLeDiff, Nat.reduceEqDiff, Nat.reduceLT, add_ob, set_ob]; omega)
            · have b2 : decide ((i : Int) < (v.parts.length : Int)) = false := by simp; omega
              simp only [go_sem, ↓reduceIte, Nat.reduceBEq, Nat.reduceAdd, Nat.reduceLeDiff, Nat.reduceEqDiff, Nat.reduceLT, add_ob, set_ob, q.s2, q.s3, q.s7, b2, fitsSt]
              exact ⟨by rw [show fitsV (k + 1) v s = true by
                simp only [fitsV]
                rw [hb2, Bool.true_and]
                exact all_of fun j hj => q.ok j (by omega)]; rfl, hsub⟩
          · have b6 : (v.kind == 6) = false := by simp [hk6]
            have hp0 : v.parts.length = 0 := by omega
            simp only [go_sem, ↓reduceIte, Nat.reduceBEq, Nat.reduceAdd, Nat.reduceLeDiff, Nat.reduceEqDiff, Nat.reduceLT, add_ob, set_ob, encV_eq v, encS_eq s, b1, b4, b5, b6]
            exact ⟨by rw [show fitsV (k + 1) v s = true by simp only [fitsV]; rw [hb2, hp0]; rfl]; rfl, hsub⟩
    · have b1 : (v.kind != s.kind) = true := by simp [hk1]
      have hb2 : headF v s = false := by rw [hbad, decide_eq_false hk1]; rfl
      simp only [go_sem, ↓reduceIte, Nat.reduceBEq, Nat.reduceAdd, Nat.reduceLeDiff, Nat.reduceEqDiff, Nat.reduceLT, add_ob, set_ob, encV_eq v, encS_eq s, b1]
      exact ⟨by rw [show fitsV (k + 1) v s = false by simp only [fitsV]; rw [hb2]; rfl]; rfl, hsub⟩
end Go.Proofs.Ytpnjkebjdclkfaa

/- Fits, by the program and by the document; the default of a right schema fits it. Conditions: none. -/
namespace Go.Proofs.Ytpnjkebjdclkfaa
open Go.RowKit
set_option linter.unusedSimpArgs false
theorem defV_kind : ∀ (k : Nat) (s : DSch), (defV k s).kind = s.kind
  | 0, _ => rfl
  | _ + 1, _ => rfl
theorem defV_depth : ∀ (k : Nat) (s : DSch), (defV k s).depth ≤ s.depth
  | 0, s => by have := s.depth_pos; simp [defV, DVal.depth_eq, DVal.parts, DVal.depths]; omega
  | k + 1, s => by
    have h := s.depth_eq
    rw [DVal.depth_eq]
    have : DVal.depths (defV (k + 1) s).parts ≤ DSch.depths s.parts := by
      rw [depthsV_all]
      intro p hp
      have hp' : p ∈ (if s.kind = 5 then s.parts.map (defV k) else []) := hp
      by_cases h5 : s.kind = 5
      · rw [if_pos h5] at hp'
        obtain ⟨q, hq, rfl⟩ := List.mem_map.1 hp'
        exact Nat.le_trans (defV_depth k q) ((depths_all s.parts _).1 (Nat.le_refl _) q hq)
      · rw [if_neg h5] at hp'; cases hp'
    omega
theorem i64_0 : I64 0 := WalkArith.wf_i64 (by omega)
theorem defV_ok : ∀ (k : Nat) (s : DSch), okS s → okV (defV k s)
  | 0, s, h => by
    obtain ⟨p1, _⟩ := (okS_eq s).1 h
    rw [okV_eq]
    exact ⟨p1, i64_0, by simp [defV, DVal.s], by simp [defV, DVal.names], by simp [defV, DVal.names], by simp [defV, DVal.ids], by simp [defV, DVal.ids], by simp [defV, DVal.parts], by simp [defV, DVal.parts]⟩
  | k + 1, s, h => by
    obtain ⟨p1, p2, p3, p4, p5⟩ := (okS_eq s).1 h
    rw [okV_eq]
    refine ⟨p1, i64_0, ?_, ?_, ?_, by simp [defV, DVal.ids], by simp [defV, DVal.ids], ?_, ?_⟩
    · show (if s.kind = 4 then s.words.getD 0 [] else []).length ≤ maxLen
      by_cases h4 : s.kind = 4
      · rw [if_pos h4]
        by_cases h0 : 0 < s.words.length
        · rw [getD_at h0]; exact p2 _ (List.getElem_mem h0)
        · rw [List.getD_eq_getElem?_getD, List.getElem?_eq_none (by omega)]; simp
      · rw [if_neg h4]; simp
    · show ∀ x ∈ (if s.kind = 5 then s.words else []), x.length ≤ maxLen
      by_cases h5 : s.kind = 5
      · rw [if_pos h5]; exact p2
      · rw [if_neg h5]; simp
    · show (if s.kind = 5 then s.words else []).length ≤ _
      by_cases h5 : s.kind = 5
      · rw [if_pos h5]; exact p3
      · rw [if_neg h5]; simp
    · show (if s.kind = 5 then s.parts.map (defV k) else []).length ≤ _
      by_cases h5 : s.kind = 5
      · rw [if_pos h5, List.length_map]; exact p4
      · rw [if_neg h5]; simp
    · show ∀ p ∈ (if s.kind = 5 then s.parts.map (defV k) else []), okV p
      by_cases h5 : s.kind = 5
      · rw [if_pos h5]
        intro p hp
        obtain ⟨q, hq, rfl⟩ := List.mem_map.1 hp
        exact defV_ok k q (p5 q hq)
      · rw [if_neg h5]; simp
theorem zeroV_ok : okV zeroV := by rw [okV_eq]; exact ⟨i64_0, i64_0, by simp [zeroV, DVal.s], by simp [zeroV, DVal.names], by simp [zeroV, DVal.names], by simp [zeroV, DVal.ids], by simp [zeroV, DVal.ids], by simp [zeroV, DVal.parts], by simp [zeroV, DVal.parts]⟩
/-- Words that stand in order. -/
theorem rise_words {l : List Str} (h : (List.range l.length).all (wordOk 5 l) = true) : (List.range l.length).all (riseOk l) = true := by
  obtain ⟨h1, h2⟩ := (words_iff 5 l).1 h
  refine all_of fun i hi => ?_
  rw [riseOk, h1 i hi, Bool.true_and]
  by_cases h0 : i = 0
  · rw [decide_eq_true h0]; rfl
  · have := (clash_f _ _ _).1 (h2 i hi (i - 1) (by omega))
    rw [sLt_total (this.2 rfl) this.1, Bool.or_true]
theorem names_words {kd : Int} {l : List Str} (h : (List.range l.length).all (wordOk kd l) = true) {i : Nat} (hi : i < l.length) : nameB (l.getD i []) = true := ((words_iff kd l).1 h).1 i hi
/-- The default is sound, and it fits. -/
theorem defV_sound : ∀ (k m : Nat) (s : DSch), s.depth ≤ k → soundS k s = true → soundV m (defV k s) = true ∧ fitsV m (defV k s) s = true
  | _, 0, _, _, _ => ⟨rfl, rfl⟩
  | 0, m + 1, s, h, _ => by have := s.depth_pos; omega
  | k + 1, m + 1, s, hd, h => by
    rw [soundS, Bool.and_eq_true, hereS, Bool.and_eq_true, Bool.and_eq_true, Bool.not_eq_true', decide_eq_false_iff_not, decide_eq_true_eq] at h
    obtain ⟨⟨hb, hp, hw⟩, hps⟩ := h
    unfold badHead at hb
    unfold wantS at hp
    have hparts : ∀ i (hi : i < s.parts.length), soundV m (defV k s.parts[i]) = true ∧ fitsV m (defV k s.parts[i]) s.parts[i] = true := fun i hi =>
      defV_sound k m s.parts[i] (by have := DSch.depth_part (List.getElem_mem hi); omega) (List.all_eq_true.1 hps _ (List.getElem_mem hi))
    have e1 : (defV (k + 1) s).kind = s.kind := rfl
    have e2 : (defV (k + 1) s).n = 0 := rfl
    have e3 : (defV (k + 1) s).s = if s.kind = 4 then s.words.getD 0 [] else [] := rfl
    have e4 : (defV (k + 1) s).names = if s.kind = 5 then s.words else [] := rfl
    have e5 : (defV (k + 1) s).ids = [] := rfl
    have e6 : (defV (k + 1) s).parts = if s.kind = 5 then s.parts.map (defV k) else [] := rfl
    by_cases h5 : s.kind = 5
    · rw [if_neg (show ¬ s.kind = 4 by omega)] at e3
      rw [if_pos h5] at e4 e6 hp
      rw [h5] at hw
      have r1 : hereV (defV (k + 1) s) = true := by
        rw [hereV, e1, e2, e3, e4, e5, e6, rise_words hw]
        rw [decide_eq_false (show ¬ bad1 _ _ _ _ _ by unfold bad1; simp [h5]), decide_eq_false (show ¬ bad2 _ _ _ _ _ _ _ by unfold bad2; simp [h5]; omega)]
        rfl
      constructor
      · rw [soundV, r1, Bool.true_and, e6]
        refine List.all_eq_true.2 fun p hpm => ?_
        obtain ⟨q, hq, rfl⟩ := List.mem_map.1 hpm
        obtain ⟨i, hi, rfl⟩ := List.getElem_of_mem hq
        exact (hparts i hi).1
      · have r2 : headF (defV (k + 1) s) s = true := by
          rw [headF, e1, e4]; simp [h5]
        rw [fitsV, r2, Bool.true_and, e6, List.length_map]
        refine all_of fun j hj => ?_
        have ha : atF s j = j := by unfold atF; rw [if_neg (by omega)]
        rw [ha, getD_at (show j < (s.parts.map (defV k)).length by simpa using hj), getD_at hj, List.getElem_map]
        exact (hparts j hj).2
    · rw [if_neg h5] at e4 e6
      by_cases h4 : s.kind = 4
      · rw [if_pos h4] at e3
        have h0 : 0 < s.words.length := by omega
        have hn := names_words hw h0
        have r1 : hereV (defV (k + 1) s) = true := by
          rw [hereV, e1, e2, e3, e4, e5, e6, hn]
          rw [decide_eq_false (show ¬ bad1 _ _ _ _ _ by unfold bad1; simp [h4]), decide_eq_false (show ¬ bad2 _ _ _ _ _ _ _ by unfold bad2; simp [h4])]
          rfl
        constructor
        · rw [soundV, r1, Bool.true_and, e6]; rfl
        · have r2 : headF (defV (k + 1) s) s = true := by
            rw [headF, e1, e3, getD_at h0]
            simp [h4]
          rw [fitsV, r2, Bool.true_and, e6]; rfl
      · rw [if_neg h4] at e3
        have r1 : hereV (defV (k + 1) s) = true := by
          rw [hereV, e1, e2, e3, e4, e5, e6]
          rw [decide_eq_false (show ¬ bad1 _ _ _ _ _ by unfold bad1; simp; omega), decide_eq_false (show ¬ bad2 _ _ _ _ _ _ _ by unfold bad2; simp [h4])]
          rfl
        constructor
        · rw [soundV, r1, Bool.true_and, e6]; rfl
        · have r2 : headF (defV (k + 1) s) s = true := by
            rw [headF, e1]; simp [h4, h5]
          rw [fitsV, r2, Bool.true_and, e6]; rfl
theorem RV.of_right {v : DVal} (h : rightV 5 v = true) : RV v := ⟨v.depth, Nat.le_refl _, by
  have := right_soundV 5 v v.depth (Nat.le_refl _)
  rw [h] at this
  exact (Bool.and_eq_true _ _ ▸ this.symm).2⟩
theorem RS.of_right {v : DSch} (h : rightS 5 v = true) : soundS v.depth v = true := by
  have := right_sound 5 v v.depth (Nat.le_refl _)
  rw [h] at this
  exact (Bool.and_eq_true _ _ ▸ this.symm).2
def fitsTop (v : DVal) (s : DSch) : Bool := rightV 5 v && (rightS 5 s && fitsV v.depth v s)
def theDef (s : DSch) : DVal := if rightS 5 s then defV s.depth s else zeroV
theorem theDef_ok {s : DSch} (h : okS s) : okV (theDef s) := by
  unfold theDef
  split
  · exact defV_ok _ s h
  · exact zeroV_ok
theorem theDef_fits (s : DSch) : fitsTop (theDef s) s = rightS 5 s := by
  unfold fitsTop theDef
  cases h : rightS 5 s with
  | false => simp
  | true =>
    have hs := RS.of_right h
    have hd : s.depth ≤ 5 := by
      have := right_sound 5 s s.depth (Nat.le_refl _)
      rw [h] at this
      exact of_decide_eq_true (Bool.and_eq_true _ _ ▸ this.symm).1
    have h2 := defV_depth s.depth s
    rw [if_pos rfl, right_soundV 5 _ _ (Nat.le_refl _), (defV_sound s.depth _ s (Nat.le_refl _) hs).1, (defV_sound s.depth _ s (Nat.le_refl _) hs).2, decide_eq_true (by omega)]
    rfl
end Go.Proofs.Ytpnjkebjdclkfaa

/- SchemaFits, walked. Conditions: none. -/
namespace Go.Proofs.Ytpnjkebjdclkfaa
open Go.RowKit
set_option linter.unusedSimpArgs false
theorem bin_beql {x y : Operand} (a b : Bool) : dbin Try.prog .eql 4 x y (.v (.bool a)) (.v (.bool b)) = some (True, .v (.bool (a == b))) := by
  cases a <;> cases b <;> kernel_rfl
attribute [go_sem] bin_beql
theorem greatS_d (v : DSch) (hok : okS v) : DPure Try.prog 11 [encS v] (.v (.bool (decide (roomS 12 v 300 < 0)))) := dpure_sch hok (fun _ _ => by kernel_rfl) fun w cs h => greatS_calls v cs w h
theorem schRight_d (v : DSch) (hok : okS v) : DPure Try.prog 15 [encS v] (.v (.bool (rightS 5 v))) := dpure_sch hok (fun _ _ => by kernel_rfl) fun w cs h => schRightP_calls v cs w h
theorem refSchRight_d (v : DSch) (hok : okS v) (hd : v.depth ≤ 1000000) : DPure Try.prog 13 [encS v] (.v (.bool (rightS 5 v))) := dpure_sch hok (fun _ _ => by kernel_rfl) fun w cs h => refRight_calls 1000000 v cs w hd (Nat.le_refl _) h
theorem schDefault_d (s : DSch) (hok : okS s) (hw : s.weight ≤ 1000000) : DPure Try.prog 22 [encS s] (encV (theDef s)) :=
  dpure_of_new (fun _ _ => by kernel_rfl) fun w η X vs hr => by
    obtain ⟨cs, rfl, hv⟩ := arg_sch hok hr
    exact schDefault_calls s.depth s cs w (Nat.le_refl _) hw (fun h => defOk_sound _ _ (RS.of_right h)) hv
theorem awake09_d : DPure Try.prog 12 [] (.v (.bool true)) :=
  dpure_of_gives (fun _ _ => by kernel_rfl) fun w η X vs hr => by
    simp only [RepL] at hr
    subst hr
    exact awake09_calls w
set_option maxRecDepth 200000 in
set_option maxHeartbeats 4000000 in
theorem fitsTop_d (v : DVal) (s : DSch) (hov : okV v) (hos : okS s) : DPure Try.prog 31 [encV v, encS s] (.v (.bool (fitsTop v s))) := by
  refine dpure_of_dwp mixed Try.func31 rfl (fun _ _ => by kernel_rfl) (rs := [.tmp 4]) rfl (by kernel_rfl) trivial (fun S hS => ?_)
  have hsub := fun o o2 => ((St.Sub.refl S).add hS o).add hS o2
  simp only [go_sem, ↓reduceIte, Nat.reduceBEq, Nat.reduceAdd, Nat.reduceLeDiff, Nat.reduceEqDiff, Nat.reduceLT, add_ob, set_ob]
  refine DCalls.of_pure (valRight_d v hov) ?_
  cases h1 : rightV 5 v with
  | false =>
    simp only [go_sem, ↓reduceIte, Nat.reduceBEq, Nat.reduceAdd, Nat.reduceLeDiff, Nat.reduceEqDiff, Nat.reduceLT, add_ob, set_ob]
    exact ⟨by rw [fitsTop, h1]; rfl, hsub _ _⟩
  | true =>
    simp only [go_sem, ↓reduceIte, Nat.reduceBEq, Nat.reduceAdd, Nat.reduceLeDiff, Nat.reduceEqDiff, Nat.reduceLT, add_ob, set_ob]
    refine DCalls.of_pure (schRight_d s hos) ?_
    cases h2 : rightS 5 s with
    | false =>
      simp only [go_sem, ↓reduceIte, Nat.reduceBEq, Nat.reduceAdd, Nat.reduceLeDiff, Nat.reduceEqDiff, Nat.reduceLT, add_ob, set_ob]
      exact ⟨by rw [fitsTop, h1, h2]; rfl, hsub _ _⟩
    | true =>
      simp only [go_sem, ↓reduceIte, Nat.reduceBEq, Nat.reduceAdd, Nat.reduceLeDiff, Nat.reduceEqDiff, Nat.reduceLT, add_ob, set_ob]
      refine DCalls.of_pure (fits_d v.depth v s (Nat.le_refl _) hov hos (RV.of_right h1) ⟨_, Nat.le_refl _, RS.of_right h2⟩) ?_
      simp only [go_sem, ↓reduceIte, Nat.reduceBEq, Nat.reduceAdd, Nat.reduceLeDiff, Nat.reduceEqDiff, Nat.reduceLT, add_ob, set_ob]
      exact ⟨by rw [fitsTop, h1, h2]; rfl, hsub _ _⟩
set_option maxRecDepth 200000 in
set_option maxHeartbeats 4000000 in
theorem refFitsTop_d (v : DVal) (s : DSch) (hov : okV v) (hos : okS s) (hd : v.depth ≤ 1000000) (hd2 : s.depth ≤ 1000000) : DPure Try.prog 32 [encV v, encS s] (.v (.bool (fitsTop v s))) := by
  refine dpure_of_dwp mixed Try.func32 rfl (fun _ _ => by kernel_rfl) (rs := [.tmp 4]) rfl (by kernel_rfl) trivial (fun S hS => ?_)
  have hsub := fun o o2 => ((St.Sub.refl S).add hS o).add hS o2
  simp only [go_sem, ↓reduceIte, Nat.reduceBEq, Nat.reduceAdd, Nat.reduceLeDiff, Nat.reduceEqDiff, Nat.reduceLT, add_ob, set_ob]
  refine DCalls.of_pure (refValRight_d v hov hd) ?_
  cases h1 : rightV 5 v with
  | false =>
    simp only [go_sem, ↓reduceIte, Nat.reduceBEq, Nat.reduceAdd, Nat.reduceLeDiff, Nat.reduceEqDiff, Nat.reduceLT, add_ob, set_ob]
    exact ⟨by rw [fitsTop, h1]; rfl, hsub _ _⟩
  | true =>
    simp only [go_sem, ↓reduceIte, Nat.reduceBEq, Nat.reduceAdd, Nat.reduceLeDiff, Nat.reduceEqDiff, Nat.reduceLT, add_ob, set_ob]
    refine DCalls.of_pure (refSchRight_d s hos hd2) ?_
    cases h2 : rightS 5 s with
    | false =>
      simp only [go_sem, ↓reduceIte, Nat.reduceBEq, Nat.reduceAdd, Nat.reduceLeDiff, Nat.reduceEqDiff, Nat.reduceLT, add_ob, set_ob]
      exact ⟨by rw [fitsTop, h1, h2]; rfl, hsub _ _⟩
    | true =>
      simp only [go_sem, ↓reduceIte, Nat.reduceBEq, Nat.reduceAdd, Nat.reduceLeDiff, Nat.reduceEqDiff, Nat.reduceLT, add_ob, set_ob]
      refine DCalls.of_pure (refFits_d v.depth v s (Nat.le_refl _) hov hos (RV.of_right h1) ⟨_, Nat.le_refl _, RS.of_right h2⟩) ?_
      simp only [go_sem, ↓reduceIte, Nat.reduceBEq, Nat.reduceAdd, Nat.reduceLeDiff, Nat.reduceEqDiff, Nat.reduceLT, add_ob, set_ob]
      exact ⟨by rw [fitsTop, h1, h2]; rfl, hsub _ _⟩
set_option maxRecDepth 200000 in
set_option maxHeartbeats 4000000 in
theorem schemaFits_d (v : DVal) (s : DSch) (hov : okV v) (hos : okS s) : DPure Try.prog 5 [encV v, encS s] (.v (.bool true)) := by
  refine dpure_of_dwp mixed Try.func5 rfl (fun _ _ => by kernel_rfl) (rs := [.tmp 4]) rfl (by kernel_rfl) trivial (fun S hS => ?_)
  have hsub := fun o o2 => ((St.Sub.refl S).add hS o).add hS o2
  simp only [go_sem, ↓reduceIte, Nat.reduceBEq, Nat.reduceAdd, Nat.reduceLeDiff, Nat.reduceEqDiff, Nat.reduceLT, add_ob, set_ob]
  refine DCalls.of_pure (greatS_d s hos) ?_
  cases g1 : decide (roomS 12 s 300 < 0) with
  | true =>
    simp only [go_sem, ↓reduceIte, Nat.reduceBEq, Nat.reduceAdd, Nat.reduceLeDiff, Nat.reduceEqDiff, Nat.reduceLT, add_ob, set_ob]
    refine DCalls.of_pure awake09_d ?_
    simp only [go_sem, ↓reduceIte, Nat.reduceBEq, Nat.reduceAdd, Nat.reduceLeDiff, Nat.reduceEqDiff, Nat.reduceLT, add_ob, set_ob]
    exact ⟨rfl, hsub _ _⟩
  | false =>
    simp only [go_sem, ↓reduceIte, Nat.reduceBEq, Nat.reduceAdd, Nat.reduceLeDiff, Nat.reduceEqDiff, Nat.reduceLT, add_ob, set_ob]
    refine DCalls.of_pure (greatV_d v hov) ?_
    cases g2 : decide (roomV 12 v 300 < 0) with
    | true =>
      simp only [go_sem, ↓reduceIte, Nat.reduceBEq, Nat.reduceAdd, Nat.reduceLeDiff, Nat.reduceEqDiff, Nat.reduceLT, add_ob, set_ob]
      refine DCalls.of_pure awake09_d ?_
      simp only [go_sem, ↓reduceIte, Nat.reduceBEq, Nat.reduceAdd, Nat.reduceLeDiff, Nat.reduceEqDiff, Nat.reduceLT, add_ob, set_ob]
      exact ⟨rfl, hsub _ _⟩
    | false =>
      have hw1 := (room_spec 12 s 300 (by have := of_decide_eq_false g1; omega)).1
      have hw2 := (roomV_spec 12 v 300 (by have := of_decide_eq_false g2; omega)).1
      have n1 := of_decide_eq_false g1
      have n2 := of_decide_eq_false g2
      have hd1 := DSch.depth_weight s.depth s (Nat.le_refl _)
      have hd2 := DVal.depth_weight v.depth v (Nat.le_refl _)
      simp only [go_sem, ↓reduceIte, Nat.reduceBEq, Nat.reduceAdd, Nat.reduceLeDiff, Nat.reduceEqDiff, Nat.reduceLT, add_ob, set_ob]
      refine ddraw_mk 20 (by kernel_rfl) ?_
      simp only [go_sem, ↓reduceIte, Nat.reduceBEq, Nat.reduceAdd, Nat.reduceLeDiff, Nat.reduceEqDiff, Nat.reduceLT, add_ob, set_ob]
      refine dqgo_mk (fitsTop_d v s hov hos) ?_
      simp only [go_sem, ↓reduceIte, Nat.reduceBEq, Nat.reduceAdd, Nat.reduceLeDiff, Nat.reduceEqDiff, Nat.reduceLT, add_ob, set_ob]
      refine dqgo_mk (refFitsTop_d v s hov hos (by omega) (by omega)) ?_
      simp only [go_sem, ↓reduceIte, Nat.reduceBEq, Nat.reduceAdd, Nat.reduceLeDiff, Nat.reduceEqDiff, Nat.reduceLT, add_ob, set_ob, beq_self_eq_true]
      refine dqgo_mk (schDefault_d s hos (by omega)) ?_
      simp only [go_sem, ↓reduceIte, Nat.reduceBEq, Nat.reduceAdd, Nat.reduceLeDiff, Nat.reduceEqDiff, Nat.reduceLT, add_ob, set_ob]
      refine dqgo_mk (fitsTop_d (theDef s) s (theDef_ok hos) hos) ?_
      simp only [go_sem, ↓reduceIte, Nat.reduceBEq, Nat.reduceAdd, Nat.reduceLeDiff, Nat.reduceEqDiff, Nat.reduceLT, add_ob, set_ob, theDef_fits]
      refine dqgo_mk (refSchRight_d s hos (by omega)) ?_
      simp only [go_sem, ↓reduceIte, Nat.reduceBEq, Nat.reduceAdd, Nat.reduceLeDiff, Nat.reduceEqDiff, Nat.reduceLT, add_ob, set_ob, theDef_fits, beq_self_eq_true]
      refine dqgo_mk awake09_d ?_
      simp only [go_sem, ↓reduceIte, Nat.reduceBEq, Nat.reduceAdd, Nat.reduceLeDiff, Nat.reduceEqDiff, Nat.reduceLT, add_ob, set_ob]
      exact ⟨rfl, hsub _ _⟩
theorem schemaFits_calls (v : DVal) (s : DSch) (cs ds : List Value) (w : World) (hv : IsVal w (· < w.heap.size) v cs) (hs : IsSch w (· < w.heap.size) s ds) :
    Calls Try.prog 5 #[.agg cs.toArray, .agg ds.toArray] w (Gives (.bool true) w) :=
  gives_of_dpure (vs := [.agg cs.toArray, .agg ds.toArray]) (schemaFits_d v s hv.ok hs.ok) (by
    simp only [RepL]
    exact ⟨_, _, rfl, rep_val (fun b i _ => fix_nil b i) hv, _, _, rfl, rep_sch (fun b i _ => fix_nil b i) hs, rfl⟩)
end Go.Proofs.Ytpnjkebjdclkfaa

/- Values, walked: copies. Conditions: none. -/
namespace Go.Proofs.Ytpnjkebjdclkfaa
open Go.RowKit
set_option linter.unusedSimpArgs false
/-- A result that lies in a variable. -/
def dcellR (P : Program) (S' : St) (t : TypeId) (x : D) (K : D → Prop) : Prop := match x with
  | .loc k off => match S'.ob k with
    | some (.box _ cs) => rdOk P t cs off ∧ K (rdVal P t cs off)
    | _ => False
  | _ => False
theorem onVal_cell {P : Program} {f : Fm} {S' : St} (x : Tmp) (t : TypeId) (K : D → Prop) : onVal (dres P f S' (.cell x t)) K = dcellR P S' t (f x) K := by
  show onVal (match f x with | .loc k off => (match S'.ob k with | some (.box _ cs) => some (rdOk P t cs off, rdVal P t cs off) | _ => none) | _ => none) K = _
  unfold dcellR
  cases f x with
  | loc k off =>
    show onVal (match S'.ob k with | some (.box _ cs) => some (rdOk P t cs off, rdVal P t cs off) | _ => none) K = (match S'.ob k with | some (.box _ cs) => rdOk P t cs off ∧ K (rdVal P t cs off) | _ => False)
    cases S'.ob k with
    | none => rfl
    | some o => cases o <;> rfl
  | _ => rfl
theorem pfin_cell_normal {P : Program} {S : St} {f : Fm} (x : Tmp) (t : TypeId) (S' : St) (d : D) : DQ.pfin P [.cell x t] S d .normal f S' = dcellR P S' t (f x) (fun r => PFin S S' r d) := onVal_cell x t _
theorem pfin_cell_ret {P : Program} {S : St} {f : Fm} (x : Tmp) (t : TypeId) (S' : St) (d : D) : DQ.pfin P [.cell x t] S d .ret f S' = dcellR P S' t (f x) (fun r => PFin S S' r d) := onVal_cell x t _
attribute [go_sem] pfin_cell_normal pfin_cell_ret dcellR
/-- What is known of the memory at a round's head: the row that grows. -/
def rowOb (S : St) (own : Own) (e : TypeId) (n : Nat) : Nat → Option Ob := fun k => match own with
  | .row g => if k = g then some (.row e n) else S.ob k
  | _ => S.ob k
theorem row_sub {S : St} (hS : S.WF) {e : TypeId} {own : Own} {i n : Nat} (h : (i = 0 ∧ own = .full) ∨ (0 < i ∧ ∃ g, own = .row g ∧ S.next ≤ g ∧ g < n)) (hn : S.next ≤ n) : S.Sub ⟨n, rowOb S own e i⟩ := ⟨hn, fun k o hk => by
  rcases h with ⟨_, rfl⟩ | ⟨_, g, rfl, h1, _⟩
  · exact hk
  · have := hS.lt hk
    show (if k = g then _ else _) = _
    rw [if_neg (by omega)]
    exact hk⟩
theorem closed_slV (l : List DVal) : (D.sl .no (l.map encV)).closed := by
  simp only [D.closed, D.all, Own.all]
  exact ⟨trivial, by rw [← encVs_map]; exact closed_encVs l⟩
theorem row_next {S : St} (hS : S.WF) {e : TypeId} {own : Own} {i n : Nat} (h : (i = 0 ∧ own = .full) ∨ (0 < i ∧ ∃ g, own = .row g ∧ S.next ≤ g ∧ g < n)) (hn : S.next ≤ n) (o1 o2 : Ob) (m : Nat) :
    ∀ k o, rowOb S (.row (n + 1)) e m k = some o → (((St.add ⟨n, rowOb S own e i⟩ o1).set n o2).grow own e m).ob k = some o := fun k o hk => by
  by_cases h1 : k = n + 1
  · subst h1
    simp only [rowOb, if_true] at hk
    rcases h with ⟨_, rfl⟩ | ⟨_, g, rfl, _, _⟩
    · rw [grow_full_ob, set_next, add_next, if_pos rfl, hk]
    · rw [grow_row_ob, set_next, add_next, if_pos rfl, hk]
  · simp only [rowOb, if_neg h1] at hk
    have h2 := hS.lt hk
    rcases h with ⟨_, rfl⟩ | ⟨_, g, rfl, h3, h4⟩
    · rw [grow_full_ob, set_next, add_next, if_neg h1, set_ob, add_ob, if_neg (by omega)]
      show (if k = n then _ else rowOb S .full e i k) = _
      rw [if_neg (by omega)]
      exact hk
    · rw [grow_row_ob, set_next, add_next, if_neg h1, if_neg (by omega), set_ob, add_ob, if_neg (by omega)]
      show (if k = n then _ else rowOb S (.row g) e i k) = _
      rw [if_neg (by omega)]
      show (if k = g then _ else _) = _
      rw [if_neg (by omega)]
      exact hk
structure LC (l : List DVal) (S : St) (f : Fm) (T : St) (i : Nat) (own : Own) : Prop where
  st : T.ob = rowOb S own 31 i
  nx : S.next ≤ T.next
  ow : (i = 0 ∧ own = .full) ∨ (0 < i ∧ ∃ g, own = .row g ∧ S.next ≤ g ∧ g < T.next)
  s1 : f 1 = .fn (.func 43) [] []
  s5 : f 5 = .sl own ((l.take i).map encV)
  s8 : f 8 = .sl .no (l.map encV)
  s9 : f 9 = .v (.int .i64 l.length)
  s10 : f 10 = .v (.int .i64 i)
  le : i ≤ l.length
def LCE (l : List DVal) (S : St) (f : Fm) (T : St) : Prop := ∃ i own, LC l S f T i own
set_option maxRecDepth 200000 in
set_option maxHeartbeats 4000000 in
theorem copyParts_d (l : List DVal) (hl : l.length ≤ 1000000) (h : ∀ p ∈ l, DPure Try.prog 43 [encV p] (encV p)) : DPure Try.prog 80 [.sl .no (l.map encV), .fn (.func 43) [] []] (.sl .no (l.map encV)) := by
  refine dpure_of_dwp mixed Try.func80 rfl (fun _ _ => by kernel_rfl) (rs := [.tmp 4]) rfl (by kernel_rfl) (closed_slV l) (fun S hS => ?_)
  simp only [go_sem, ↓reduceIte, Nat.reduceBEq, Nat.reduceAdd, Nat.reduceLeDiff, Nat.reduceEqDiff, Nat.reduceLT, add_ob, set_ob]
  refine dloop_mk (LCE l S) (fun f _ => l.length - slotN (f 10)) ⟨0, .full, ⟨rfl, Nat.le_refl _, .inl ⟨rfl, rfl⟩, by simp only [go_sem, ↓reduceIte, Nat.reduceBEq, Nat.reduceAdd, Nat.reduceLeDiff, Nat.reduceEqDiff, Nat.reduceLT, add_ob, set_ob], by simp only [go_sem, ↓reduceIte, Nat.reduceBEq, Nat.reduceAdd, Nat.reduceLeDiff, Nat.reduceEqDiff, Nat.reduceLT, add_ob, set_ob], by simp only [go_sem, ↓reduceIte, Nat.reduceBEq, Nat.reduceAdd, Nat.reduceLeDiff, Nat.reduceEqDiff, Nat.reduceLT, add_ob, set_ob], by simp only [go_sem, ↓reduceIte, Nat.reduceBEq, Nat.reduceAdd, Nat.reduceLeDiff, Nat.reduceEqDiff, Nat.reduceLT, add_ob, set_ob], by simp only [go_sem, ↓reduceIte, Nat.reduceBEq, Nat.reduceAdd, Nat.reduceLeDiff, Nat.reduceEqDiff, Nat.reduceLT, add_ob, set_ob]; rfl, by omega⟩⟩ ?_
  rintro g ⟨tn, tob⟩ ⟨i, own, q⟩
  obtain rfl : tob = rowOb S own 31 i := q.st
  have nx : S.next ≤ tn := q.nx
  by_cases hlt : i < l.length
  · have b1 : decide ((i : Int) < (l.length : Int)) = true := by simp; omega
    have hx := getD_map encV l i hlt
    have c1 : (0 : Int) ≤ (i : Int) := by omega
    have c2 : (i : Int) < (l.length : Int) := by omega
    have w1 : IntKind.i64.wrap ((i : Int) + 1) = (i : Int) + 1 := IntWalk.i64_in _ ⟨by omega, by omega⟩
    simp only [go_sem, ↓reduceIte, Nat.reduceBEq, Nat.reduceAdd, Nat.reduceLeDiff, Nat.reduceEqDiff, Nat.reduceLT, add_ob, set_ob, q.s1, q.s5, q.s8, q.s9, q.s10, b1, hx, c1, c2]
    refine DCalls.of_pure (h l[i] (List.getElem_mem hlt)) ?_
    simp only [go_sem, ↓reduceIte, Nat.reduceBEq, Nat.reduceAdd, Nat.reduceLeDiff, Nat.reduceEqDiff, Nat.reduceLT, add_ob, set_ob, q.s1, q.s5, q.s8, q.s9, q.s10, w1]
    refine ⟨⟨by rfl, by omega, fun d hd => by rw [List.mem_singleton] at hd; subst hd; exact ⟨okCell_encV _, cells_encV _⟩⟩, dapp_row ?_⟩
    simp only [go_sem, ↓reduceIte, Nat.reduceBEq, Nat.reduceAdd, Nat.reduceLeDiff, Nat.reduceEqDiff, Nat.reduceLT, add_ob, set_ob, q.s1, q.s5, q.s8, q.s9, q.s10, w1]
    have hlt2 : (l.take i).length = i := by rw [List.length_take]; omega
    have hsub0 : S.Sub ⟨tn, rowOb S own 31 i⟩ := row_sub hS q.ow nx
    refine ⟨rfl, fun d hd => ?_, fun d hd => ?_, ?_, by omega, by omega, ?_⟩
    · obtain ⟨p, _, rfl⟩ := List.mem_map.1 hd; exact cells_encV _
    · rw [List.mem_singleton] at hd; subst hd; exact cells_encV _
    · rcases q.ow with ⟨rfl, rfl⟩ | ⟨h0, g', rfl, hg1, hg2⟩
      · trivial
      · have e2 : (g' : Nat) ≠ tn := by have hg : g' < tn := hg2; omega
        simp only [e2, if_false, rowOb, if_true, hlt2]
    · refine round_back (rowOb S (.row (tn + 1)) 31 (i + 1)) ?_ ⟨i + 1, .row (tn + 1), ⟨rfl, ?_, .inr ⟨by omega, _, rfl, by omega, ?_⟩, by simp only [go_sem, ↓reduceIte, Nat.reduceBEq, Nat.reduceAdd, Nat.reduceLeDiff, Nat.reduceEqDiff, Nat.reduceLT, add_ob, set_ob, q.s1], ?_, by simp only [go_sem, ↓reduceIte, Nat.reduceBEq, Nat.reduceAdd, Nat.reduceLeDiff, Nat.reduceEqDiff, Nat.reduceLT, add_ob, set_ob, q.s8], by simp only [go_sem, ↓reduceIte, Nat.reduceBEq, Nat.reduceAdd, Nat.reduceLeDiff, Nat.reduceEqDiff, Nat.reduceLT, add_ob, set_ob, q.s9], by simp only [go_sem, ↓reduceIte, Nat.reduceBEq, Nat.reduceAdd, Nat.reduceLeDiff, Nat.reduceEqDiff, Nat.reduceLT, add_ob, set_ob]; rfl, by omega⟩⟩ (by simp only [go_sem, ↓reduceIte, Nat.reduceBEq, Nat.reduceAdd, Nat.reduceLeDiff, Nat.reduceEqDiff, Nat.reduceLT, add_ob, set_ob]; omega)
      · rw [hlt2]; exact row_next hS q.ow nx _ _ _
      · show S.next ≤ _
        simp only [grow_next, set_next, add_next]; omega
      · simp only [grow_next, set_next, add_next]; omega
      · simp only [go_sem, ↓reduceIte, Nat.reduceBEq, Nat.reduceAdd, Nat.reduceLeDiff, Nat.reduceEqDiff, Nat.reduceLT, add_ob, set_ob]
        rw [List.take_succ_eq_append_getElem hlt, List.map_append]
        rfl
  · have b1 : decide ((i : Int) < (l.length : Int)) = false := by simp; omega
    simp only [go_sem, ↓reduceIte, Nat.reduceBEq, Nat.reduceAdd, Nat.reduceLeDiff, Nat.reduceEqDiff, Nat.reduceLT, add_ob, set_ob, q.s1, q.s5, q.s8, q.s9, q.s10, b1]
    have hi : i = l.length := by have := q.le; omega
    exact ⟨by rw [hi, List.take_length]; simp only [D.frz, frz_mapV], row_sub hS q.ow nx⟩
theorem partsLen (v : DVal) : v.parts.length ≤ DVal.weights v.parts := by
  have : ∀ l : List DVal, l.length ≤ DVal.weights l := fun l => by
    induction l with
    | nil => exact Nat.zero_le _
    | cons p l ih => simp only [DVal.weights, List.length_cons]; have := p.weight_eq; omega
  exact this _
set_option maxRecDepth 200000 in
set_option maxHeartbeats 4000000 in
theorem copyV_d (k : Nat) : ∀ (v : DVal), v.depth ≤ k → v.weight ≤ 1000000 → DPure Try.prog 43 [encV v] (encV v) := by
  induction k with
  | zero => intro v h; have := v.depth_pos; omega
  | succ k ih =>
    intro v hk hw
    have hwe := v.weight_eq
    have hpl := partsLen v
    have hparts := copyParts_d v.parts (by omega) fun p hp => ih p (by have := DVal.depth_part hp; omega) (by have := DVal.weight_part hp; omega)
    refine dpure_of_dwp mixed Try.func43 rfl (fun _ _ => by kernel_rfl) (rs := [.cell 2 31]) rfl (by kernel_rfl) (closed_encV v) (fun S hS => ?_)
    simp only [go_sem, ↓reduceIte, Nat.reduceBEq, Nat.reduceAdd, Nat.reduceLeDiff, Nat.reduceEqDiff, Nat.reduceLT, add_ob, set_ob, encV_eq v]
    refine ddraw_mk 7 (by kernel_rfl) ?_
    simp only [go_sem, ↓reduceIte, Nat.reduceBEq, Nat.reduceAdd, Nat.reduceLeDiff, Nat.reduceEqDiff, Nat.reduceLT, add_ob, set_ob]
    refine ⟨⟨rfl, (fun d hd => by cases hd), (fun d hd => by obtain ⟨p, _, rfl⟩ := List.mem_map.1 hd; rfl), by omega, by omega⟩, ⟨rfl, (fun d hd => by cases hd), (fun d hd => by obtain ⟨p, _, rfl⟩ := List.mem_map.1 hd; rfl), by omega, by omega⟩, ?_⟩
    refine DCalls.of_pure hparts ?_
    simp only [go_sem, ↓reduceIte, Nat.reduceBEq, Nat.reduceAdd, Nat.reduceLeDiff, Nat.reduceEqDiff, Nat.reduceLT, add_ob, set_ob]
    refine ⟨?_, ?_⟩
    · simp only [D.frz, frzL, frz_strs, frz_u64s, frz_mapV, strD]
    · exact ((((((St.Sub.refl S).add hS _).add hS _).set hS (Nat.le_refl _) _).set hS (Nat.le_refl _) _).set hS (Nat.le_refl _) _).set hS (by omega) _
end Go.Proofs.Ytpnjkebjdclkfaa

/- Values, walked: sizes, depths. Conditions: none. -/
namespace Go.Proofs.Ytpnjkebjdclkfaa
open Go.RowKit
set_option linter.unusedSimpArgs false
def sizeV : Nat → DVal → Int
  | 0, _ => 1
  | k + 1, v => v.parts.foldl (fun a p => IntKind.i64.wrap (a + sizeV k p)) 1
def sizeA (k : Nat) (l : List DVal) (i : Nat) : Int := (l.take i).foldl (fun a p => IntKind.i64.wrap (a + sizeV k p)) 1
theorem sizeA_succ {k : Nat} {l : List DVal} {i : Nat} (h : i < l.length) : sizeA k l (i + 1) = IntKind.i64.wrap (sizeA k l i + sizeV k l[i]) := by
  unfold sizeA
  rw [List.take_succ_eq_append_getElem h, List.foldl_append]
  rfl
theorem sizeA_all {k : Nat} {v : DVal} {i : Nat} (h : v.parts.length ≤ i) : sizeA k v.parts i = sizeV (k + 1) v := by
  unfold sizeA
  rw [List.take_of_length_le h]; rfl
def oneSt (v : DVal) (S : St) : St := S.add (.box 31 [.v (.int .i64 v.kind), .v (.int .i64 v.n), strD v.s, .sl .no (v.names.map strD), .sl .no (v.ids.map u64D), .sl .no (v.parts.map encV)])
theorem one_sub {S : St} (hS : S.WF) (v : DVal) {n : Nat} (hn : S.next + 1 ≤ n) : S.Sub ⟨n, (oneSt v S).ob⟩ :=
  ⟨by show S.next ≤ n; omega, ((St.Sub.refl S).add hS _).ob⟩
theorem one_back {S : St} (hS : S.WF) (v : DVal) {n : Nat} (hn : S.next + 1 ≤ n) (o o2 : Ob) : ∀ k o', (oneSt v S).ob k = some o' → ((St.add ⟨n, (oneSt v S).ob⟩ o).set n o2).ob k = some o' := fun k o' h => by
  have hk : k ≠ n := fun e => by
    subst e
    simp only [oneSt, add_ob] at h
    rw [if_neg (by omega), hS k (by omega)] at h
    cases h
  simp only [set_ob, add_ob]
  rw [if_neg hk, if_neg hk]
  exact h
structure LZ (k : Nat) (v : DVal) (S : St) (f : Fm) (T : St) (i : Nat) : Prop where
  st : T.ob = (oneSt v S).ob
  nx : S.next + 1 ≤ T.next
  s3 : f 3 = .v (.int .i64 (sizeA k v.parts i))
  s7 : f 7 = .sl .no (v.parts.map encV)
  s8 : f 8 = .v (.int .i64 v.parts.length)
  s9 : f 9 = .v (.int .i64 i)
  le : i ≤ v.parts.length
def LZE (k : Nat) (v : DVal) (S : St) (f : Fm) (T : St) : Prop := ∃ i, LZ k v S f T i
set_option maxRecDepth 200000 in
set_option maxHeartbeats 4000000 in
theorem sizeV_d (k : Nat) : ∀ (v : DVal), v.depth ≤ k → v.weight ≤ 1000000 → DPure Try.prog 47 [encV v] (.v (.int .i64 (sizeV k v))) := by
  induction k with
  | zero => intro v h; have := v.depth_pos; omega
  | succ k ih =>
    intro v hk hw
    have hwe := v.weight_eq
    have hpl := partsLen v
    refine dpure_of_dwp mixed Try.func47 rfl (fun _ _ => by kernel_rfl) (rs := [.tmp 2]) rfl (by kernel_rfl) trivial (fun S hS => ?_)
    simp only [go_sem, ↓reduceIte, Nat.reduceBEq, Nat.reduceAdd, Nat.reduceLeDiff, Nat.reduceEqDiff, Nat.reduceLT, add_ob, set_ob, encV_eq v]
    refine dloop_mk (LZE k v S) (fun f _ => v.parts.length - slotN (f 9)) ⟨0, ⟨rfl, Nat.le_refl _, by simp only [go_sem, ↓reduceIte, Nat.reduceBEq, Nat.reduceAdd, Nat.reduceLeDiff, Nat.reduceEqDiff, Nat.reduceLT, add_ob, set_ob]; rfl, by simp only [go_sem, ↓reduceIte, Nat.reduceBEq, Nat.reduceAdd, Nat.reduceLeDiff, Nat.reduceEqDiff, Nat.reduceLT, add_ob, set_ob], by simp only [go_sem, ↓reduceIte, Nat.reduceBEq, Nat.reduceAdd, Nat.reduceLeDiff, Nat.reduceEqDiff, Nat.reduceLT, add_ob, set_ob], by simp only [go_sem, ↓reduceIte, Nat.reduceBEq, Nat.reduceAdd, Nat.reduceLeDiff, Nat.reduceEqDiff, Nat.reduceLT, add_ob, set_ob]; rfl, by omega⟩⟩ ?_
    rintro g ⟨tn, tob⟩ ⟨i, q⟩
    obtain rfl : tob = (oneSt v S).ob := q.st
    have nx : S.next + 1 ≤ tn := q.nx
    by_cases hlt : i < v.parts.length
    · have b1 : decide ((i : Int) < (v.parts.length : Int)) = true := by simp; omega
      have hx := getD_map encV v.parts i hlt
      have c1 : (0 : Int) ≤ (i : Int) := by omega
      have c2 : (i : Int) < (v.parts.length : Int) := by omega
      have w1 : IntKind.i64.wrap ((i : Int) + 1) = (i : Int) + 1 := IntWalk.i64_in _ ⟨by omega, by omega⟩
      have hd := DVal.depth_part (List.getElem_mem hlt)
      have hww := DVal.weight_part (List.getElem_mem hlt)
      simp only [go_sem, ↓reduceIte, Nat.reduceBEq, Nat.reduceAdd, Nat.reduceLeDiff, Nat.reduceEqDiff, Nat.reduceLT, add_ob, set_ob, q.s3, q.s7, q.s8, q.s9, b1, hx, c1, c2]
      refine DCalls.of_pure (ih v.parts[i] (by omega) (by omega)) ?_
      simp only [go_sem, ↓reduceIte, Nat.reduceBEq, Nat.reduceAdd, Nat.reduceLeDiff, Nat.reduceEqDiff, Nat.reduceLT, add_ob, set_ob, q.s3, q.s9, w1]
      refine round_back (oneSt v S).ob (one_back hS v nx _ _) ⟨i + 1, ⟨rfl, Nat.le_succ_of_le nx, ?_, by simp only [go_sem, ↓reduceIte, Nat.reduceBEq, Nat.reduceAdd, Nat.reduceLeDiff, Nat.reduceEqDiff, Nat.reduceLT, add_ob, set_ob, q.s7], by simp only [go_sem, ↓reduceIte, Nat.reduceBEq, Nat.reduceAdd, Nat.reduceLeDiff, Nat.reduceEqDiff, Nat.reduceLT, add_ob, set_ob, q.s8], by simp only [go_sem, ↓reduceIte, Nat.reduceBEq, Nat.reduceAdd, Nat.reduceLeDiff, Nat.reduceEqDiff, Nat.reduceLT, add_ob, set_ob]; rfl, by omega⟩⟩ (by simp only [go_sem, ↓reduceIte, Nat.reduceBEq, Nat.reduceAdd, Nat.reduceLeDiff, Nat.reduceEqDiff, Nat.reduceLT, add_ob, set_ob]; omega)
      simp only [go_sem, ↓reduceIte, Nat.reduceBEq, Nat.reduceAdd, Nat.reduceLeDiff, Nat.reduceEqDiff, Nat.reduceLT, add_ob, set_ob, sizeA_succ hlt]
    · have b1 : decide ((i : Int) < (v.parts.length : Int)) = false := by simp; omega
      simp only [go_sem, ↓reduceIte, Nat.reduceBEq, Nat.reduceAdd, Nat.reduceLeDiff, Nat.reduceEqDiff, Nat.reduceLT, add_ob, set_ob, q.s3, q.s7, q.s8, q.s9, b1]
      exact ⟨by rw [sizeA_all (by omega)]; rfl, one_sub hS v nx⟩
structure LRZ (k : Nat) (v : DVal) (S : St) (f : Fm) (T : St) (i : Nat) : Prop where
  st : T = oneSt v S
  s1 : f 1 = .loc S.next 0
  s3 : f 3 = .v (.int .i64 (sizeA k v.parts i))
  s4 : f 4 = .v (.int .i64 i)
  le : i ≤ v.parts.length
def LRZE (k : Nat) (v : DVal) (S : St) (f : Fm) (T : St) : Prop := ∃ i, LRZ k v S f T i
set_option maxRecDepth 200000 in
set_option maxHeartbeats 4000000 in
theorem refSizeV_d (k : Nat) : ∀ (v : DVal), v.depth ≤ k → v.weight ≤ 1000000 → DPure Try.prog 48 [encV v] (.v (.int .i64 (sizeV k v))) := by
  induction k with
  | zero => intro v h; have := v.depth_pos; omega
  | succ k ih =>
    intro v hk hw
    have hwe := v.weight_eq
    have hpl := partsLen v
    refine dpure_of_dwp mixed Try.func48 rfl (fun _ _ => by kernel_rfl) (rs := [.tmp 2]) rfl (by kernel_rfl) trivial (fun S hS => ?_)
    simp only [go_sem, ↓reduceIte, Nat.reduceBEq, Nat.reduceAdd, Nat.reduceLeDiff, Nat.reduceEqDiff, Nat.reduceLT, add_ob, set_ob, encV_eq v]
    refine dloop_mk (LRZE k v S) (fun f _ => v.parts.length - slotN (f 4)) ⟨0, ⟨rfl, by simp only [go_sem, ↓reduceIte, Nat.reduceBEq, Nat.reduceAdd, Nat.reduceLeDiff, Nat.reduceEqDiff, Nat.reduceLT, add_ob, set_ob], by simp only [go_sem, ↓reduceIte, Nat.reduceBEq, Nat.reduceAdd, Nat.reduceLeDiff, Nat.reduceEqDiff, Nat.reduceLT, add_ob, set_ob]; rfl, by simp only [go_sem, ↓reduceIte, Nat.reduceBEq, Nat.reduceAdd, Nat.reduceLeDiff, Nat.reduceEqDiff, Nat.reduceLT, add_ob, set_ob]; rfl, by omega⟩⟩ ?_
    rintro g T ⟨i, q⟩
    obtain rfl := q.st
    by_cases hlt : i < v.parts.length
    · have b1 : decide ((i : Int) < (v.parts.length : Int)) = true := by simp; omega
      have hx := getD_map encV v.parts i hlt
      have c1 : (0 : Int) ≤ (i : Int) := by omega
      have c2 : (i : Int) < (v.parts.length : Int) := by omega
      have w1 : IntKind.i64.wrap ((i : Int) + 1) = (i : Int) + 1 := IntWalk.i64_in _ ⟨by omega, by omega⟩
      have hd := DVal.depth_part (List.getElem_mem hlt)
      have hww := DVal.weight_part (List.getElem_mem hlt)
      simp only [go_sem, ↓reduceIte, Nat.reduceBEq, Nat.reduceAdd, Nat.reduceLeDiff, Nat.reduceEqDiff, Nat.reduceLT, add_ob, set_ob, q.s1, q.s3, q.s4, b1, hx, c1, c2, oneSt]
      refine DCalls.of_pure (ih v.parts[i] (by omega) (by omega)) ?_
      simp only [go_sem, ↓reduceIte, Nat.reduceBEq, Nat.reduceAdd, Nat.reduceLeDiff, Nat.reduceEqDiff, Nat.reduceLT, add_ob, set_ob, q.s3, q.s4, w1]
      refine round_end ⟨i + 1, ⟨rfl, by simp only [go_sem, ↓reduceIte, Nat.reduceBEq, Nat.reduceAdd, Nat.reduceLeDiff, Nat.reduceEqDiff, Nat.reduceLT, add_ob, set_ob, q.s1], ?_, by simp only [go_sem, ↓reduceIte, Nat.reduceBEq, Nat.reduceAdd, Nat.reduceLeDiff, Nat.reduceEqDiff, Nat.reduceLT, add_ob, set_ob]; rfl, by omega⟩⟩ (by simp only [go_sem, ↓reduceIte, Nat.reduceBEq, Nat.reduceAdd, Nat.reduceLeDiff, Nat.reduceEqDiff, Nat.reduceLT, add_ob, set_ob]; omega)
      simp only [go_sem, ↓reduceIte, Nat.reduceBEq, Nat.reduceAdd, Nat.reduceLeDiff, Nat.reduceEqDiff, Nat.reduceLT, add_ob, set_ob, sizeA_succ hlt]
    · have b1 : decide ((i : Int) < (v.parts.length : Int)) = false := by simp; omega
      simp only [go_sem, ↓reduceIte, Nat.reduceBEq, Nat.reduceAdd, Nat.reduceLeDiff, Nat.reduceEqDiff, Nat.reduceLT, add_ob, set_ob, q.s1, q.s3, q.s4, b1, oneSt]
      exact ⟨by rw [sizeA_all (by omega)]; rfl, (St.Sub.refl S).add hS _⟩
theorem valDepth_d (v : DVal) (hok : okV v) (hd : v.depth ≤ 1000000) : DPure Try.prog 45 [encV v] (.v (.int .i64 v.depth)) := dpure_val hok (fun _ _ => by kernel_rfl) fun w cs h => valDepth_calls 1000000 v cs w hd (Nat.le_refl _) h
end Go.Proofs.Ytpnjkebjdclkfaa

/- Paths, walked: one step. Conditions: none. -/
namespace Go.Proofs.Ytpnjkebjdclkfaa
open Go.RowKit
set_option linter.unusedSimpArgs false
theorem fillD_nil (pl : Nat → Option (Nat × Nat)) (cs : List D) : fillD pl cs [] = (True, cs) := by unfold fillD; exact Eq.trans (Eq.refl _) (Eq.refl _)
def fillS (o : Option (Nat × Nat)) (pl : Nat → Option (Nat × Nat)) (cs : List D) (d : D) (r : List (Nat × D)) : Prop × List D := match o with
  | some (off, n) => (d.okCell = true ∧ d.width = n ∧ off + n ≤ cs.length ∧ (fillD pl (splice cs off d.cells) r).1, (fillD pl (splice cs off d.cells) r).2)
  | none => (False, cs)
theorem fillD_cons (pl : Nat → Option (Nat × Nat)) (cs : List D) (i : Nat) (d : D) (r : List (Nat × D)) : fillD pl cs ((i, d) :: r) = fillS (pl i) pl cs d r := by
  rw [fillD]; unfold fillS; cases pl i <;> rfl
theorem fillS_some (off n : Nat) (pl : Nat → Option (Nat × Nat)) (cs : List D) (d : D) (r : List (Nat × D)) : fillS (some (off, n)) pl cs d r = (d.okCell = true ∧ d.width = n ∧ off + n ≤ cs.length ∧ (fillD pl (splice cs off d.cells) r).1, (fillD pl (splice cs off d.cells) r).2) := Eq.trans (Eq.refl _) (Eq.refl _)
attribute [go_sem] fillD_nil fillD_cons fillS_some
/-- Where x stands first, or -1. -/
def ixN {α : Type} [DecidableEq α] (l : List α) (x : α) : Nat := l.idxOf x
def ixI {α : Type} [DecidableEq α] (l : List α) (x : α) : Int := if x ∈ l then (ixN l x : Int) else -1
theorem ix_lt {α : Type} [DecidableEq α] {l : List α} {x : α} (h : x ∈ l) : ixN l x < l.length := List.idxOf_lt_length_of_mem h
theorem idxP_ix {α : Type} [DecidableEq α] {l : List α} {x : α} {e : Ending} (h : IdxP (fun i => decide (l[i]? = some x)) l.length e) : e = .returned (.int .i64 (ixI l x)) := by
  rcases h with ⟨k, hk, rfl, h1, h2⟩ | ⟨rfl, h2⟩
  · have hx : l[k] = x := by
      have := of_decide_eq_true h1
      rw [List.getElem?_eq_getElem hk] at this
      exact Option.some.inj this
    have hm : x ∈ l := hx ▸ List.getElem_mem hk
    have hi : ixN l x = k := by
      show l.findIdx (· == x) = k
      rw [List.findIdx_eq hk]
      refine ⟨by simp [hx], fun j hj => ?_⟩
      have := of_decide_eq_false (h2 j hj)
      rw [List.getElem?_eq_getElem (by omega)] at this
      simp only [beq_eq_false_iff_ne, ne_eq]
      exact fun e => this (by rw [e])
    rw [ixI, if_pos hm, hi]
  · have hm : ¬ x ∈ l := fun hm => by
      obtain ⟨j, hj, e⟩ := List.getElem_of_mem hm
      have := of_decide_eq_false (h2 j hj)
      rw [List.getElem?_eq_getElem hj, e] at this
      exact this rfl
    rw [ixI, if_neg hm]
theorem strIndex_d (own : Own) (l : List Str) (x : Str) (hn : l.length ≤ 140737488351232) : DPure Try.prog 102 [.sl own (l.map strD), .v (sv x)] (.v (.int .i64 (ixI l x))) :=
  dpure_of_gives (fun _ _ => by kernel_rfl) fun w η X vs hr => by
    simp only [RepL] at hr
    obtain ⟨y, ys, rfl, h1, z, zs, rfl, h2, rfl⟩ := hr
    obtain ⟨A, c, rfl, hc, hf⟩ := strArg h1
    simp only [Rep] at h2
    subst h2
    exact (strIndex_calls l x A c w hf hn).mono fun e w' ⟨he, hw⟩ => ⟨idxP_ix he, hw ▸ Below.refl _ _⟩
theorem uIndex_d (own : Own) (l : List Nat) (x : Nat) (hn : l.length ≤ 140737488351232) : DPure Try.prog 78 [.sl own (l.map u64D), .v (uv x)] (.v (.int .i64 (ixI l x))) :=
  dpure_of_gives (fun _ _ => by kernel_rfl) fun w η X vs hr => by
    simp only [RepL] at hr
    obtain ⟨y, ys, rfl, h1, z, zs, rfl, h2, rfl⟩ := hr
    obtain ⟨A, c, rfl, hc, hf⟩ := scalars_of_rep uv h1
    simp only [Rep] at h2
    subst h2
    exact (uIndex_calls l x A c w hf hn).mono fun e w' ⟨he, hw⟩ => ⟨idxP_ix he, hw ▸ Below.refl _ _⟩
/-- Has the value each named part? -/
def wholeB (v : DVal) : Bool := decide (v.kind = 5) && decide (v.names.length ≤ v.parts.length)
set_option maxRecDepth 200000 in
set_option maxHeartbeats 4000000 in
theorem whole_d (v : DVal) : DPure Try.prog 107 [encV v] (.v (.bool (wholeB v))) := by
  refine dpure_of_dwp mixed Try.func107 rfl (fun _ _ => by kernel_rfl) (rs := [.tmp 2]) rfl (by kernel_rfl) trivial (fun S hS => ?_)
  by_cases h5 : v.kind = 5
  · have b5 : (v.kind == 5) = true := by simp [h5]
    simp only [go_sem, ↓reduceIte, Nat.reduceBEq, Nat.reduceAdd, Nat.reduceLeDiff, Nat.reduceEqDiff, Nat.reduceLT, add_ob, set_ob, encV_eq v, b5]
    refine ⟨?_, (St.Sub.refl S).add hS _⟩
    simp only [D.frz, wholeB, decide_eq_true h5, Bool.true_and]
    congr 3
    exact propext ⟨fun h => by omega, fun h => by omega⟩
  · have b5 : (v.kind == 5) = false := by simp [h5]
    simp only [go_sem, ↓reduceIte, Nat.reduceBEq, Nat.reduceAdd, Nat.reduceLeDiff, Nat.reduceEqDiff, Nat.reduceLT, add_ob, set_ob, encV_eq v, b5]
    exact ⟨by simp only [D.frz, wholeB, decide_eq_false h5, Bool.false_and], (St.Sub.refl S).add hS _⟩
def elemV (v : DVal) (x : Nat) : D := if v.kind = 6 ∧ x ∈ v.ids then .tup [.v (.int .i64 (ixN v.ids x : Int)), .v (.bool true)] else .tup [.v (.int .i64 0), .v (.bool false)]
theorem elemV_closed (v : DVal) (x : Nat) : (elemV v x).closed := by unfold elemV; split <;> simp [D.closed, D.all, allL]
set_option maxRecDepth 200000 in
set_option maxHeartbeats 4000000 in
theorem elem_d (v : DVal) (x : Nat) (hn : v.ids.length ≤ 140737488351232) : DPure Try.prog 40 [encV v, .v (uv x)] (elemV v x) := by
  refine dpure_of_dwp mixed Try.func40 rfl (fun _ _ => by kernel_rfl) (rs := [.tmp 4, .tmp 5]) rfl (by kernel_rfl) (elemV_closed v x) (fun S hS => ?_)
  simp only [go_sem, ↓reduceIte, Nat.reduceBEq, Nat.reduceAdd, Nat.reduceLeDiff, Nat.reduceEqDiff, Nat.reduceLT, add_ob, set_ob, encV_eq v]
  refine DCalls.of_pure (uIndex_d .no v.ids x hn) ?_
  by_cases h6 : v.kind = 6
  · have b6 : (v.kind != 6) = false := by simp [h6]
    by_cases hm : x ∈ v.ids
    · have b7 : decide (ixI v.ids x < 0) = false := by unfold ixI; rw [if_pos hm]; simp
      simp only [go_sem, ↓reduceIte, Nat.reduceBEq, Nat.reduceAdd, Nat.reduceLeDiff, Nat.reduceEqDiff, Nat.reduceLT, add_ob, set_ob, b6, b7]
      refine ⟨?_, (St.Sub.refl S).add hS _⟩
      simp only [D.frz, frzL, elemV, h6, hm, and_self, if_true, ixI]
    · have b7 : decide (ixI v.ids x < 0) = true := by unfold ixI; rw [if_neg hm]; decide
      simp only [go_sem, ↓reduceIte, Nat.reduceBEq, Nat.reduceAdd, Nat.reduceLeDiff, Nat.reduceEqDiff, Nat.reduceLT, add_ob, set_ob, b6, b7]
      refine ⟨?_, (St.Sub.refl S).add hS _⟩
      simp only [D.frz, frzL, elemV, hm, and_false, if_false]
  · have b6 : (v.kind != 6) = true := by simp [h6]
    simp only [go_sem, ↓reduceIte, Nat.reduceBEq, Nat.reduceAdd, Nat.reduceLeDiff, Nat.reduceEqDiff, Nat.reduceLT, add_ob, set_ob, b6]
    refine ⟨?_, (St.Sub.refl S).add hS _⟩
    simp only [D.frz, frzL, elemV, h6, false_and, if_false]
theorem pfin_cell_tmp_normal {P : Program} {S : St} {f : Fm} (x : Tmp) (t : TypeId) (u : Tmp) (S' : St) (d : D) : DQ.pfin P [.cell x t, .tmp u] S d .normal f S' = dcellR P S' t (f x) (fun r => PFin S S' (.tup [r, f u]) d) := by
  rw [← onVal_cell]
  simp [DQ.pfin, dresL, dres, onVal, one]
theorem pfin_cell_tmp_ret {P : Program} {S : St} {f : Fm} (x : Tmp) (t : TypeId) (u : Tmp) (S' : St) (d : D) : DQ.pfin P [.cell x t, .tmp u] S d .ret f S' = dcellR P S' t (f x) (fun r => PFin S S' (.tup [r, f u]) d) := by
  rw [← onVal_cell]
  simp [DQ.pfin, dresL, dres, onVal, one]
attribute [go_sem] pfin_cell_tmp_normal pfin_cell_tmp_ret
def fieldV (v : DVal) (x : Str) : D := if wholeB v = true ∧ x ∈ v.names then .tup [encV (v.parts.getD (ixN v.names x) default), .v (.bool true)] else .tup [encV zeroV, .v (.bool false)]
theorem fieldV_closed (v : DVal) (x : Str) : (fieldV v x).closed := by
  unfold fieldV
  split <;> (simp only [D.closed, D.all, allL, and_true]; exact closed_encV _)
set_option maxRecDepth 200000 in
set_option maxHeartbeats 4000000 in
theorem field_d (v : DVal) (x : Str) (hok : okV v) (hw : v.weight ≤ 1000000) : DPure Try.prog 128 [encV v, .v (sv x)] (fieldV v x) := by
  obtain ⟨o1, o2, o3, o4, o5, o6, o7, o8, o9⟩ := (okV_eq v).1 hok
  refine dpure_of_dwp mixed Try.func128 rfl (fun _ _ => by kernel_rfl) (rs := [.cell 4 31, .tmp 5]) rfl (by kernel_rfl) (fieldV_closed v x) (fun S hS => ?_)
  have hsub : ∀ a b c, S.Sub (((S.add a).add b).set (S.next + 1) c) := fun a b c => (((St.Sub.refl S).add hS _).add hS _).set hS (by omega) _
  simp only [go_sem, ↓reduceIte, Nat.reduceBEq, Nat.reduceAdd, Nat.reduceLeDiff, Nat.reduceEqDiff, Nat.reduceLT, add_ob, set_ob, encV_eq v]
  refine DCalls.of_pure (strIndex_d .no v.names x o5) ?_
  simp only [go_sem, ↓reduceIte, Nat.reduceBEq, Nat.reduceAdd, Nat.reduceLeDiff, Nat.reduceEqDiff, Nat.reduceLT, add_ob, set_ob]
  refine DCalls.of_pure (by have := whole_d v; rw [encV_eq v] at this; exact this) ?_
  cases hwb : wholeB v with
  | true =>
    by_cases hm : x ∈ v.names
    · have b7 : decide (ixI v.names x < 0) = false := by unfold ixI; rw [if_pos hm]; simp
      have hlt := ix_lt hm
      have hpl : ixN v.names x < v.parts.length := by
        simp only [wholeB, Bool.and_eq_true, decide_eq_true_eq] at hwb
        omega
      have hi : ixI v.names x = (ixN v.names x : Int) := by unfold ixI; rw [if_pos hm]
      have b8 : decide ((ixN v.names x : Int) < 0) = false := by simp
      have hx := getD_map encV v.parts _ hpl
      have c1 : (0 : Int) ≤ (ixN v.names x : Int) := by omega
      have c2 : (ixN v.names x : Int) < (v.parts.length : Int) := by omega
      simp only [go_sem, ↓reduceIte, Nat.reduceBEq, Nat.reduceAdd, Nat.reduceLeDiff, Nat.reduceEqDiff, Nat.reduceLT, add_ob, set_ob, hi, b8, hx, c1, c2]
      refine DCalls.of_pure (copyV_d _ v.parts[ixN v.names x] (Nat.le_refl _) (by have := DVal.weight_part (List.getElem_mem hpl); omega)) ?_
      simp only [go_sem, ↓reduceIte, Nat.reduceBEq, Nat.reduceAdd, Nat.reduceLeDiff, Nat.reduceEqDiff, Nat.reduceLT, add_ob, set_ob]
      refine ⟨?_, hsub _ _ _⟩
      simp only [D.frz, frzL, frz_encV, fieldV, hwb, hm, and_self, if_true, getD_at hpl]
    · have b7 : decide (ixI v.names x < 0) = true := by unfold ixI; rw [if_neg hm]; decide
      simp only [go_sem, ↓reduceIte, Nat.reduceBEq, Nat.reduceAdd, Nat.reduceLeDiff, Nat.reduceEqDiff, Nat.reduceLT, add_ob, set_ob, b7]
      refine ⟨?_, hsub _ _ _⟩
      simp only [D.frz, frzL, fieldV, hm, and_false, if_false]
      rfl
  | false =>
    simp only [go_sem, ↓reduceIte, Nat.reduceBEq, Nat.reduceAdd, Nat.reduceLeDiff, Nat.reduceEqDiff, Nat.reduceLT, add_ob, set_ob]
    refine ⟨?_, hsub _ _ _⟩
    simp only [D.frz, frzL, fieldV, hwb, Bool.false_eq_true, false_and, if_false]
    rfl
abbrev DStp := Str × Nat
def encP (p : DStp) : D := .agg [strD p.1, u64D p.2]
/-- Where a step leads. -/
def placeOf (v : DVal) (p : DStp) : Int := if p.1 = [] then (if v.kind = 6 ∧ p.2 ∈ v.ids then (ixN v.ids p.2 : Int) else -1) else if wholeB v = true ∧ p.1 ∈ v.names then (ixN v.names p.1 : Int) else -1
def partV (v : DVal) (p : DStp) : D := .tup [.v (.int .i64 (placeOf v p)), .v (.bool (decide (0 ≤ placeOf v p) && decide (placeOf v p < (v.parts.length : Int))))]
theorem part_end {v : DVal} {p : DStp} {S T : St} (hs : S.Sub T) {i : Int} (hi : i = placeOf v p) {b : Bool} (hb : b = (decide (0 ≤ placeOf v p) && decide (placeOf v p < (v.parts.length : Int)))) : PFin S T (.tup [.v (.int .i64 i), .v (.bool b)]) (partV v p) := ⟨by rw [hi, hb]; rfl, hs⟩
set_option maxRecDepth 200000 in
set_option maxHeartbeats 4000000 in
theorem part_d (v : DVal) (p : DStp) (hok : okV v) (hw : v.weight ≤ 1000000) : DPure Try.prog 100 [encV v, encP p] (partV v p) := by
  obtain ⟨o1, o2, o3, o4, o5, o6, o7, o8, o9⟩ := (okV_eq v).1 hok
  refine dpure_of_dwp mixed Try.func100 rfl (fun _ _ => by kernel_rfl) (rs := [.tmp 4, .tmp 5]) rfl (by kernel_rfl) (by simp [partV, D.closed, D.all, allL]) (fun S hS => ?_)
  simp only [go_sem, ↓reduceIte, Nat.reduceBEq, Nat.reduceAdd, Nat.reduceLeDiff, Nat.reduceEqDiff, Nat.reduceLT, add_ob, set_ob, encP]
  by_cases h0 : p.1 = []
  · have b1 : (p.1 == []) = true := by simp [h0]
    simp only [go_sem, ↓reduceIte, Nat.reduceBEq, Nat.reduceAdd, Nat.reduceLeDiff, Nat.reduceEqDiff, Nat.reduceLT, add_ob, set_ob, b1]
    refine DCalls.of_pure (elem_d v p.2 o7) ?_
    by_cases hc : v.kind = 6 ∧ p.2 ∈ v.ids
    · have he : elemV v p.2 = .tup [.v (.int .i64 (ixN v.ids p.2 : Int)), .v (.bool true)] := by unfold elemV; rw [if_pos hc]
      have hpl : placeOf v p = (ixN v.ids p.2 : Int) := by unfold placeOf; rw [if_pos h0, if_pos hc]
      have b2 : decide ((0 : Int) ≤ (ixN v.ids p.2 : Int)) = true := by simp
      simp only [go_sem, ↓reduceIte, Nat.reduceBEq, Nat.reduceAdd, Nat.reduceLeDiff, Nat.reduceEqDiff, Nat.reduceLT, add_ob, set_ob, he, b2]
      refine ddraw_mk 12 (by kernel_rfl) ?_
      simp only [go_sem, ↓reduceIte, Nat.reduceBEq, Nat.reduceAdd, Nat.reduceLeDiff, Nat.reduceEqDiff, Nat.reduceLT, add_ob, set_ob, b2, encV_eq v]
      exact part_end (((St.Sub.refl S).add hS _).add hS _) hpl.symm (by rw [hpl, b2, Bool.true_and])
    · have he : elemV v p.2 = .tup [.v (.int .i64 0), .v (.bool false)] := by unfold elemV; rw [if_neg hc]
      have hpl : placeOf v p = -1 := by unfold placeOf; rw [if_pos h0, if_neg hc]
      have b2 : decide ((0 : Int) ≤ -1) = false := by decide
      simp only [go_sem, ↓reduceIte, Nat.reduceBEq, Nat.reduceAdd, Nat.reduceLeDiff, Nat.reduceEqDiff, Nat.reduceLT, add_ob, set_ob, he, b2]
      refine ddraw_mk 12 (by kernel_rfl) ?_
      simp only [go_sem, ↓reduceIte, Nat.reduceBEq, Nat.reduceAdd, Nat.reduceLeDiff, Nat.reduceEqDiff, Nat.reduceLT, add_ob, set_ob, b2, encV_eq v]
      exact part_end (((St.Sub.refl S).add hS _).add hS _) hpl.symm (by rw [hpl, b2, Bool.false_and])
  · have b1 : (p.1 == []) = false := by simp [h0]
    simp only [go_sem, ↓reduceIte, Nat.reduceBEq, Nat.reduceAdd, Nat.reduceLeDiff, Nat.reduceEqDiff, Nat.reduceLT, add_ob, set_ob, b1]
    refine DCalls.of_pure (field_d v p.1 hok hw) ?_
    by_cases hc : wholeB v = true ∧ p.1 ∈ v.names
    · have he : fieldV v p.1 = .tup [encV (v.parts.getD (ixN v.names p.1) default), .v (.bool true)] := by unfold fieldV; rw [if_pos hc]
      have hi : ixI v.names p.1 = (ixN v.names p.1 : Int) := by unfold ixI; rw [if_pos hc.2]
      have hpl : placeOf v p = (ixN v.names p.1 : Int) := by unfold placeOf; rw [if_neg h0, if_pos hc]
      have b2 : decide ((0 : Int) ≤ (ixN v.names p.1 : Int)) = true := by simp
      simp only [go_sem, ↓reduceIte, Nat.reduceBEq, Nat.reduceAdd, Nat.reduceLeDiff, Nat.reduceEqDiff, Nat.reduceLT, add_ob, set_ob, he, b2, encV_eq v]
      refine DCalls.of_pure (strIndex_d .no v.names p.1 o5) ?_
      simp only [go_sem, ↓reduceIte, Nat.reduceBEq, Nat.reduceAdd, Nat.reduceLeDiff, Nat.reduceEqDiff, Nat.reduceLT, add_ob, set_ob, hi, b2]
      refine ddraw_mk 12 (by kernel_rfl) ?_
      simp only [go_sem, ↓reduceIte, Nat.reduceBEq, Nat.reduceAdd, Nat.reduceLeDiff, Nat.reduceEqDiff, Nat.reduceLT, add_ob, set_ob, b2, encV_eq v]
      exact part_end ((((St.Sub.refl S).add hS _).add hS _).add hS _ |>.set hS (by omega) _) hpl.symm (by rw [hpl, b2, Bool.true_and])
    · have he : fieldV v p.1 = .tup [encV zeroV, .v (.bool false)] := by unfold fieldV; rw [if_neg hc]
      have hpl : placeOf v p = -1 := by unfold placeOf; rw [if_neg h0, if_neg hc]
      have b2 : decide ((0 : Int) ≤ -1) = false := by decide
      simp only [go_sem, ↓reduceIte, Nat.reduceBEq, Nat.reduceAdd, Nat.reduceLeDiff, Nat.reduceEqDiff, Nat.reduceLT, add_ob, set_ob, he, b2]
      refine ddraw_mk 12 (by kernel_rfl) ?_
      simp only [go_sem, ↓reduceIte, Nat.reduceBEq, Nat.reduceAdd, Nat.reduceLeDiff, Nat.reduceEqDiff, Nat.reduceLT, add_ob, set_ob, b2, encV_eq v]
      exact part_end ((((St.Sub.refl S).add hS _).add hS _).add hS _ |>.set hS (by omega) _) hpl.symm (by rw [hpl, b2, Bool.false_and])
end Go.Proofs.Ytpnjkebjdclkfaa

/- Paths, walked: what Get's visitor does. Conditions: none. -/
namespace Go.Proofs.Ytpnjkebjdclkfaa
open Go.RowKit
set_option linter.unusedSimpArgs false
theorem fin_cell_normal {P : Program} {S : St} {f : Fm} {K : D → St → Prop} (x : Tmp) (t : TypeId) (S' : St) : DQ.fin P [.cell x t] S K .normal f S' = dcellR P S' t (f x) (fun r => DFinT P S S' r K) := onVal_cell x t _
theorem fin_cell_ret {P : Program} {S : St} {f : Fm} {K : D → St → Prop} (x : Tmp) (t : TypeId) (S' : St) : DQ.fin P [.cell x t] S K .ret f S' = dcellR P S' t (f x) (fun r => DFinT P S S' r K) := onVal_cell x t _
theorem fin_cell_tmp_normal {P : Program} {S : St} {f : Fm} {K : D → St → Prop} (x : Tmp) (t : TypeId) (u : Tmp) (S' : St) : DQ.fin P [.cell x t, .tmp u] S K .normal f S' = dcellR P S' t (f x) (fun r => DFinT P S S' (.tup [r, f u]) K) := by
  rw [← onVal_cell]
  simp [DQ.fin, dresL, dres, onVal, one]
theorem fin_cell_tmp_ret {P : Program} {S : St} {f : Fm} {K : D → St → Prop} (x : Tmp) (t : TypeId) (u : Tmp) (S' : St) : DQ.fin P [.cell x t, .tmp u] S K .ret f S' = dcellR P S' t (f x) (fun r => DFinT P S S' (.tup [r, f u]) K) := by
  rw [← onVal_cell]
  simp [DQ.fin, dresL, dres, onVal, one]
attribute [go_sem] fin_cell_normal fin_cell_ret fin_cell_tmp_normal fin_cell_tmp_ret
theorem allL_closed {l : List D} {n : Nat} (h : allL (fun _ => False) l) : allL (· < n) l := allL_mono (fun _ h => h.elim) h
theorem encV_cells_closed (v : DVal) : allL (fun _ => False) (encV v).cells := by
  have := closed_encV v
  rw [encV_eq] at this ⊢
  exact this
/-- The visitor keeps a copy of what it is given, in the variable that it caught, and gives it back. -/
theorem get1_fin {S T : St} {c : Nat} {cs : List D} {u : DVal} (hS : S.WF) (hc : S.ob c = some (.box 31 cs)) (hn : S.next ≤ T.next) (h1 : T.ob c = some (.box 31 (encV u).cells)) (h2 : ∀ k o, k ≠ c → S.ob k = some o → T.ob k = some o) {d : D} (hd : d = encV u) :
    DFin S T d (fun d S' => d = encV u ∧ S' = S.set c (.box 31 (encV u).cells)) := by
  subst hd
  refine ⟨encV u, S.set c (.box 31 (encV u).cells), DLe.refl _, D.all_mono (fun _ h => h.elim) (closed_encV u), hn, Nat.le_refl _, fun k o hk => ?_, rfl, rfl⟩
  simp only [set_ob] at hk
  by_cases e : k = c
  · subst e
    rw [if_pos rfl] at hk
    injection hk with hk
    subst hk
    refine ⟨h1, hS.lt hc, fun t cs' hb => .inr ?_⟩
    injection hb with hb1 hb2
    subst hb2
    exact allL_closed (encV_cells_closed u)
  · rw [if_neg e] at hk
    exact ⟨h2 k o e hk, hS.lt hk, fun _ _ _ => .inl hk⟩
set_option maxRecDepth 200000 in
set_option maxHeartbeats 4000000 in
theorem get1_d (S : St) (c : Nat) (cs : List D) (hc : S.ob c = some (.box 31 cs)) (hl : cs.length = 6) (u : DVal) (hw : u.weight ≤ 1000000) :
    DCalls Try.prog 68 [encV u, .loc c 0] S (fun d S' => d = encV u ∧ S' = S.set c (.box 31 (encV u).cells)) := by
  refine dcalls_of_dwp mixed Try.func68 rfl (fun _ _ => by kernel_rfl) (rs := [.cell 3 31]) rfl (by kernel_rfl) (fun hS => ?_)
  have hlt := hS.lt hc
  have e1 : (c = S.next) = False := eq_false (by omega)
  have e2 : (c = S.next + 1) = False := eq_false (by omega)
  have e3 : (S.next = c) = False := eq_false (by omega)
  have e4 : (S.next + 1 = c) = False := eq_false (by omega)
  have hd : cs.drop 6 = [] := List.drop_of_length_le (by omega)
  simp only [go_sem, ↓reduceIte, Nat.reduceBEq, Nat.reduceAdd, Nat.reduceLeDiff, Nat.reduceEqDiff, Nat.reduceLT, add_ob, set_ob]
  refine DCalls.of_pure (copyV_d _ u (Nat.le_refl _) hw) ?_
  simp only [go_sem, ↓reduceIte, Nat.reduceBEq, Nat.reduceAdd, Nat.reduceLeDiff, Nat.reduceEqDiff, Nat.reduceLT, add_ob, set_ob, e1, e2, e3, e4, hc, hl, hd]
  refine DFin.t (get1_fin hS hc (by simp only [set_next, add_next]; omega) ?_ (fun k o hk ho => ?_) rfl)
  · simp only [set_ob]
    rw [if_neg (by omega), if_pos trivial]
  · have := hS.lt ho
    simp only [set_ob, add_ob, add_next]
    rw [if_neg (by omega), if_neg hk, if_neg (by omega), if_neg (by omega)]
    exact ho
/-- What lies at the end of a path. -/
def getV : List DStp → DVal → Option DVal
  | [], v => some v
  | p :: ps, v => if 0 ≤ placeOf v p ∧ placeOf v p < (v.parts.length : Int) then getV ps (v.parts.getD (placeOf v p).toNat default) else none
/-- What the visitor leaves. -/
def leftOb (S : St) (c : Nat) : Option DVal → Nat → Option Ob
  | some u => (S.set c (.box 31 (encV u).cells)).ob
  | none => S.ob
/-- A path walked from value v, with the visitor that keeps what it is given: the answer, whether it led somewhere, and what is kept. -/
def ChangeK (S : St) (c : Nat) (r : Option DVal) (d : D) (S' : St) : Prop := ∃ x n, d = .tup [x, .v (.bool r.isSome)] ∧ x.okCell = true ∧ x.cells.length = 6 ∧ x.all (· < n) ∧ S.next ≤ n ∧ S' = ⟨n, leftOb S c r⟩
end Go.Proofs.Ytpnjkebjdclkfaa

/- Paths, walked: Clip, all paths. Conditions: none. -/
namespace Go.Proofs.Ytpnjkebjdclkfaa
open Go.RowKit
set_option linter.unusedSimpArgs false
theorem fin_tmp_normal {P : Program} {S : St} {f : Fm} {K : D → St → Prop} (t : Tmp) (S' : St) : DQ.fin P [.tmp t] S K .normal f S' = DFinT P S S' (f t) K := by simp [DQ.fin, dresL, dres, onVal, one]
theorem fin_tmp_ret {P : Program} {S : St} {f : Fm} {K : D → St → Prop} (t : Tmp) (S' : St) : DQ.fin P [.tmp t] S K .ret f S' = DFinT P S S' (f t) K := by simp [DQ.fin, dresL, dres, onVal, one]
attribute [go_sem] fin_tmp_normal fin_tmp_ret
theorem fin_pure {S T : St} (hS : S.WF) {d : D} (hc : d.closed) (hs : S.Sub T) : DFin S T d (fun d' T' => d' = d ∧ T' = S) :=
  ⟨d, S, DLe.refl _, D.all_mono (fun _ h => h.elim) hc, hs.next, Nat.le_refl _, fun k o hk => ⟨hs.ob k o hk, hS.lt hk, fun _ _ _ => .inl hk⟩, rfl, rfl⟩
theorem closed_steps (own : Own) (ho : own.all fun _ => False) (l : List DStp) : (D.sl own (l.map encP)).closed := by
  simp only [D.closed, D.all]
  refine ⟨ho, allL_iff.2 fun d hd => ?_⟩
  obtain ⟨p, _, rfl⟩ := List.mem_map.1 hd
  simp [encP, D.all, allL, strD, u64D]
theorem clip_d (own : Own) (l : List DStp) (hl : l.length ≤ 140737488351232) : DPure Try.prog 99 [.sl own (l.map encP)] (.sl .full (l.map encP)) := fun S => by
  refine dcalls_of_dwp mixed Try.func99 rfl (fun _ _ => by kernel_rfl) (rs := [.tmp 2]) rfl (by kernel_rfl) (fun hS => ?_)
  have c1 : (0 : Int) ≤ (l.length : Int) := by omega
  simp only [go_sem, ↓reduceIte, Nat.reduceBEq, Nat.reduceAdd, Nat.reduceLeDiff, Nat.reduceEqDiff, Nat.reduceLT, add_ob, set_ob, bnd, c1, Int.le_refl, List.take_length, List.length_map, Option.isSome_some, true_or, Int.toNat_natCast]
  have ht : (List.map encP l).take l.length = l.map encP := List.take_of_length_le (by simp)
  simp only [Int.toNat_zero, List.drop_zero, ht]
  exact (fin_pure hS (closed_steps .full trivial l) (St.Sub.refl S)).t
/-- All paths into a value, behind the one given: the program's order. -/
def allV : Nat → DVal → List DStp → List (List DStp)
  | 0, _, at_ => [at_]
  | k + 1, v, at_ => at_ :: (List.range v.parts.length).flatMap fun i => allV k (v.parts.getD i default) (at_ ++ [if v.kind = 5 then (v.names.getD i [], 0) else ([], v.ids.getD i 0)])
def encPs (l : List DStp) : D := .sl .no (l.map encP)
end Go.Proofs.Ytpnjkebjdclkfaa

/- Rules that shorten walks over trees: what a stretch of code leaves alone; loops by rounds. Conditions: none. -/
namespace Go.Proofs.Ytpnjkebjdclkfaa
open Go.RowKit

theorem ob_hit {S : St} {o : Ob} {k : Nat} (h : k = S.next) : (S.add o).ob k = some o := by rw [add_ob, if_pos h]
theorem ob_skip {S : St} {o : Ob} {k : Nat} (h : k ≠ S.next) : (S.add o).ob k = S.ob k := by rw [add_ob, if_neg h]
theorem ob_set {S : St} {o : Ob} {k j : Nat} (h : j = k) : (S.set k o).ob j = some o := by rw [set_ob, if_pos h]
theorem ob_old {S : St} {o : Ob} {k j : Nat} (h : j ≠ k) : (S.set k o).ob j = S.ob j := by rw [set_ob, if_neg h]
theorem int_zero : ((0 : Nat) : Int) = 0 := Eq.trans (Eq.refl _) (Eq.refl _)
theorem ddraw_cut {P : Program} {l : List Oper} {R : Fm → St → Prop} {f : Fm} {S : St} (J : Fm → St → Prop) (h : ddraw P l J f S) (hk : ∀ f' S', J f' S' → R f' S') : ddraw P l R f S := by
  rcases h with ⟨n, h1, h2⟩ | ⟨Zs, n, h1, h2, h3⟩
  · exact .inl ⟨n, h1, dhead_mono (fun f' S' hf' => dops_mono hk _ hf') _ h2⟩
  · exact .inr ⟨Zs, n, h1, h2, sAny_mono (fun f' S' hf' => dops_mono hk _ hf') _ _ h3⟩
theorem cells_win_ (k n : Nat) : (D.win k n).cells = [D.win k n] := Eq.trans (Eq.refl _) (Eq.refl _)
theorem okCell_win_ (k n : Nat) : (D.win k n).okCell = true := Eq.trans (Eq.refl _) (Eq.refl _)
attribute [go_sem] cells_win_ okCell_win_
/-! What is written. -/
def dstOk (W : Nat → Bool) : Option Tmp → Bool
  | none => true
  | some t => W t
def wrOk (W : Nat → Bool) : Code → Bool
  | .region _ ops _ => ops.all fun o => dstOk W o.dst
  | .seq x y => wrOk W x && wrOk W y
  | .cond _ x y => wrOk W x && wrOk W y
  | .block _ c => wrOk W c
  | .loop c => wrOk W c
  | _ => true
/-- f' is f, but for what may be written. -/
def Off (W : Nat → Bool) (f f' : Fm) : Prop := ∀ t, W t = false → f' t = f t
theorem Off.refl (W : Nat → Bool) (f : Fm) : Off W f f := fun _ _ => rfl
theorem Off.trans {W : Nat → Bool} {f g h : Fm} (a : Off W f g) (b : Off W g h) : Off W f h := fun t ht => (b t ht).trans (a t ht)
theorem Off.put {W : Nat → Bool} {f g : Fm} (a : Off W f g) {dst : Option Tmp} (hd : dstOk W dst = true) (d : D) : Off W f (put g dst d) := fun t ht => by
  rw [put_same (fun e => by subst e; simp only [dstOk] at hd; rw [hd] at ht; cases ht)]
  exact a t ht
theorem St.WF.add {S : St} (h : S.WF) (o : Ob) : (S.add o).WF := fun k hk => by
  have hk' : S.next + 1 ≤ k := hk
  simp only [St.add]
  rw [if_neg (by omega)]
  exact h k (by omega)
theorem St.WF.set {S : St} (h : S.WF) {k : Nat} (hk : k < S.next) (o : Ob) : (S.set k o).WF := fun j hj => by
  have hj' : S.next ≤ j := hj
  simp only [St.set]
  rw [if_neg (by omega)]
  exact h j hj'
theorem St.WF.drop {S : St} (h : S.WF) (g : Nat) : (S.drop g).WF := fun j hj => by
  have hj' : S.next ≤ j := hj
  simp only [St.drop]
  split
  · rfl
  · exact h j hj'
theorem St.WF.leave {S : St} (h : S.WF) (o : Own) : (S.leave o).WF := by
  cases o with
  | row g => exact h.drop g
  | no => exact h
  | full => exact h
theorem St.WF.grow {S : St} (h : S.WF) (o : Own) (e : TypeId) (n : Nat) : (S.grow o e n).WF := (h.leave o).add _
theorem St.WF.keep {S : St} (h : S.WF) {n : Nat} (hn : S.next ≤ n) : (St.mk n S.ob).WF := fun k hk => h k (Nat.le_trans hn hk)
theorem St.Sub.keep {S T : St} (h : S.Sub T) {n : Nat} (hn : T.next ≤ n) : S.Sub ⟨n, T.ob⟩ := ⟨Nat.le_trans h.next hn, h.ob⟩
theorem St.Sub.trans {A B C : St} (h : A.Sub B) (k : B.Sub C) : A.Sub C := ⟨Nat.le_trans h.next k.next, fun i o hi => k.ob i o (h.ob i o hi)⟩
theorem DCalls.wf {P : Program} {g : FuncId} {args : List D} {S : St} {K : D → St → Prop} (h : DCalls P g args S K) : DCalls P g args S fun d S' => K d S' ∧ S'.WF := fun base η w vs hM hr =>
  ⟨(h base η w vs hM hr).1, (h base η w vs hM hr).2.mono fun _ _ ⟨d, S', η', v, h1, h2, h3, h4⟩ => ⟨d, S', η', v, ⟨h1, h4.mem.fresh⟩, h2, h3, h4⟩⟩
theorem onVal_and {o : Option (Prop × D)} {K : D → Prop} {p : Prop} (hp : p) (h : onVal o K) : onVal o fun d => K d ∧ p := onVal_mono (fun _ hd => ⟨hd, hp⟩) h
section
variable {P : Program} {W : Nat → Bool}
theorem dop_more {f : Fm} {S : St} {ty : TypeId} {op : Op} {K : D → St → Prop} (hS : S.WF) (ho : dop P f S ty op K) : dop P f S ty op fun d S' => K d S' ∧ S'.WF := by
  cases op with
  | alloc t => simp only [dop] at *; exact ⟨ho.1, ho.2, hS.add _⟩
  | box t x => simp only [dop] at *; exact ⟨ho.1, ho.2, hS.add _⟩
  | store t x y =>
    simp only [dop] at *
    split at ho
    · split at ho
      · rename_i k off _ _ t' cs hk
        exact ⟨ho.1, ho.2.1, ho.2.2.1, ho.2.2.2.1, ho.2.2.2.2, hS.set (hS.lt hk) _⟩
      · exact ho
    · exact ho
  | call cl =>
    obtain ⟨callee, args, ts⟩ := cl
    cases callee with
    | value x =>
      simp only [dop] at *
      split at ho
      · exact ho.wf
      · exact ho
    | invoke r m => exact onVal_and (o := dval P f S ty (.call ⟨.invoke r m, args, ts⟩)) (K := fun d => K d S) hS ho
    | builtin b =>
      by_cases hb : b = .append
      · subst hb
        simp only [dop] at *
        split at ho
        · split at ho
          · rcases ho with ⟨k1, k2, k3, k4, k5, k6, k7, k8⟩ | ⟨k1, k2, k3, k4, k5, k6, k7, k8, k9, k10⟩
            · exact .inl ⟨k1, k2, k3, k4, k5, k6, k7, k8, hS.grow _ _ _⟩
            · exact .inr ⟨k1, k2, k3, k4, k5, k6, k7, k8, k9, fun zs => ⟨k10 zs, hS.add _⟩⟩
          · exact ho
        · exact ho
      · cases b <;> first | exact absurd rfl hb | (simp only [dop] at *; exact onVal_and hS ho)
  | _ => simp only [dop] at *; exact onVal_and hS ho
theorem dops_more {ops : Array Oper} {Q : Fm → St → Prop} : ∀ (l : List Oper), (∀ o ∈ l, dstOk W o.dst = true) → ∀ {f : Fm} {S : St}, S.WF → dops P ops Q l f S → dops P ops (fun f' S' => Q f' S' ∧ S'.WF ∧ Off W f f') l f S
  | [], _, f, S, hS, h => ⟨h, hS, Off.refl W f⟩
  | o :: l, hw, f, S, hS, h => by
    unfold dops at *
    have h1 := hw o (by simp)
    have h2 : ∀ o' ∈ l, dstOk W o'.dst = true := fun o' ho => hw o' (by simp [ho])
    refine dwanted_mono (fun hy => ?_) (fun hn => ?_) h
    · refine dop_mono (fun d S' hk => ?_) (dop_more hS hy)
      refine dops_mono (fun f' S'' hq => ?_) l (dops_more l h2 hk.2 hk.1)
      exact ⟨hq.1, hq.2.1, (Off.put (Off.refl W f) h1 d).trans hq.2.2⟩
    · refine dops_mono (fun f' S'' hq => ?_) l (dops_more l h2 hS hn)
      exact ⟨hq.1, hq.2.1, (Off.put (Off.refl W f) h1 _).trans hq.2.2⟩
theorem dhead_more {ops : Array Oper} {S : St} (hS : S.WF) {Q : Fm → St → Prop} : ∀ (l : List Oper), (∀ o ∈ l, dstOk W o.dst = true) → ∀ {f : Fm} {u : Option Ob}, dhead P ops S Q l f u → dhead P ops S (fun f' S' => Q f' S' ∧ S'.WF ∧ Off W f f') l f u
  | [], _, f, u, h => ⟨h, (by cases u with | none => exact hS | some b => exact hS.add b), Off.refl W f⟩
  | o :: l, hw, f, u, h => by
    unfold dhead at *
    have h1 := hw o (by simp)
    have h2 : ∀ o' ∈ l, dstOk W o'.dst = true := fun o' ho => hw o' (by simp [ho])
    have go : ∀ (d : D) (u' : Option Ob), dhead P ops S Q l (put f o.dst d) u' → dhead P ops S (fun f' S' => Q f' S' ∧ S'.WF ∧ Off W f f') l (put f o.dst d) u' := fun d u' hd =>
      dhead_mono (fun f' S' hq => ⟨hq.1, hq.2.1, (Off.put (Off.refl W f) h1 d).trans hq.2.2⟩) l (dhead_more hS l h2 hd)
    split at h
    · exact hop_mono (fun d u' hd => go d u' hd) h
    · exact dwanted_mono (fun hq => dquiet_mono (fun d hd => go d u hd) hq) (go _ u) h
theorem sAny_more {ops : Array Oper} {md : Region.Mode} {Zs : St → Prop} {Q : Fm → St → Prop} (hw : ∀ (j : Nat) (o : Oper), ops[j]? = some o → dstOk W o.dst = true) : ∀ (fuel : Nat) (L : Array Bool) {f : Fm} {S : St}, S.WF → sAny P md ops Zs Q fuel L f S → sAny P md ops Zs (fun f' S' => Q f' S' ∧ S'.WF ∧ Off W f f') fuel L f S
  | 0, _, f, _, hS, k => ⟨k.1, k.2, hS, Off.refl W f⟩
  | n + 1, L, f, S, hS, k => by
    refine ⟨fun e => ⟨k.1 e, hS, Off.refl W f⟩, fun i hi => ?_⟩
    have h2 := k.2 i hi
    unfold sOp at *
    cases ho : ops[i]? with
    | none => rw [ho] at h2; exact sAny_more hw n _ hS h2
    | some o =>
      rw [ho] at h2
      have h1 := hw i o ho
      have go : ∀ d (S' : St), S'.WF → sAny P md ops Zs Q n (L.setIfInBounds i true) (put f o.dst d) S' → sAny P md ops Zs (fun f' S' => Q f' S' ∧ S'.WF ∧ Off W f f') n (L.setIfInBounds i true) (put f o.dst d) S' := fun d S' hS' hk =>
        sAny_mono (fun f' S' hq => ⟨hq.1, hq.2.1, (Off.put (Off.refl W f) h1 d).trans hq.2.2⟩) _ _ (sAny_more hw n _ hS' hk)
      rcases h2 with ⟨d, e1, e2⟩ | ⟨e1, e2⟩
      · exact .inl ⟨d, e1, go d S hS e2⟩
      · exact .inr ⟨e1, dop_mono (fun d S' hk => ⟨hk.1.1, go d S' hk.2 hk.1.2⟩) (dop_more hS e2)⟩
theorem dwp_more : ∀ (c : Code) {Q : DQ} {f : Fm} {S : St}, wrOk W c = true → S.WF → dwp P c Q f S → dwp P c (fun e f' S' => Q e f' S' ∧ S'.WF ∧ Off W f f') f S := by
  intro c
  induction c with
  | region id ops draw =>
    intro Q f S hw hS h
    have hw' : ∀ o ∈ ops.toList, dstOk W o.dst = true := fun o ho => Array.all_eq_true_iff_forall_mem.1 hw o (by simpa using ho)
    cases draw with
    | false => exact dops_more _ hw' hS h
    | true =>
      rcases h with ⟨n, h1, h2⟩ | ⟨Zs, n, h1, h2, h3⟩
      rotate_left
      · refine .inr ⟨Zs, n, h1, h2, sAny_mono (fun f' S' hq => ?_) _ _ (sAny_more (W := W) (fun j o ho => hw' o (by
          have := List.mem_of_getElem? (show (ops.toList.take n)[j]? = some o by simpa using ho)
          exact List.mem_of_mem_take this)) _ _ hS h3)⟩
        refine dops_mono (fun f'' S'' hk => ?_) _ (dops_more (W := W) _ (fun o ho => hw' o (List.mem_of_mem_drop ho)) hq.2.1 hq.1)
        exact ⟨hk.1, hk.2.1, hq.2.2.trans hk.2.2⟩
      refine .inl ⟨n, h1, dhead_mono (fun f' S' hq => ?_) _ (dhead_more (W := W) hS _ (fun o ho => hw' o (List.mem_of_mem_take ho)) h2)⟩
      refine dops_mono (fun f'' S'' hk => ?_) _ (dops_more (W := W) _ (fun o ho => hw' o (List.mem_of_mem_drop ho)) hq.2.1 hq.1)
      exact ⟨hk.1, hk.2.1, hq.2.2.trans hk.2.2⟩
  | seq x y ihx ihy =>
    intro Q f S hw hS h
    simp only [wrOk, Bool.and_eq_true] at hw
    refine dwp_mono x (fun e f2 S2 hq => ?_) (ihx hw.1 hS h)
    cases e with
    | normal =>
      refine dwp_mono y (fun e3 f3 S3 h3 => ?_) (ihy (Q := Q) hw.2 hq.2.1 hq.1)
      exact ⟨h3.1, h3.2.1, hq.2.2.trans h3.2.2⟩
    | exit i => exact hq
    | ret => exact hq
  | cond g x y ihx ihy =>
    intro Q f S hw hS h
    simp only [wrOk, Bool.and_eq_true] at hw
    unfold dwp at h ⊢
    generalize ev f g = u at h ⊢
    cases u with
    | v u => cases u with
      | bool b => exact ⟨fun e => ihx hw.1 hS (h.1 e), fun e => ihy hw.2 hS (h.2 e)⟩
      | _ => exact h
    | _ => exact h
  | block id c ih =>
    intro Q f S hw hS h
    refine dwp_mono c (fun e f2 S2 hq => ?_) (ih hw hS h)
    cases e with
    | normal => exact hq
    | ret => exact hq
    | exit i =>
      simp only [DQ.block] at *
      cases hb : Nat.beq i id with
      | true => rw [hb] at hq; exact hq
      | false => rw [hb] at hq; exact hq
  | loop c ih =>
    intro Q f S hw hS h
    obtain ⟨I, μ, h0, hr⟩ := h
    refine ⟨fun g T => I g T ∧ T.WF ∧ Off W f g, μ, ⟨h0, hS, Off.refl W f⟩, fun g T ⟨hI, hT, hg⟩ => ?_⟩
    refine dwp_mono c (fun e f2 S2 hq => ?_) (ih hw hT (hr g T hI))
    obtain ⟨hq, hwf, hoff⟩ := hq
    cases e with
    | normal =>
      obtain ⟨S'', ⟨s1, s2⟩, s3, s4⟩ := hq
      refine ⟨S'', ⟨s1, s2⟩, ⟨s3, fun k hk => ?_, hg.trans hoff⟩, s4⟩
      cases ho : S''.ob k with
      | none => rfl
      | some o => have := s2 k o ho; rw [hwf k (by omega)] at this; cases this
    | exit i => exact ⟨hq, hwf, hg.trans hoff⟩
    | ret => exact ⟨hq, hwf, hg.trans hoff⟩
  | skip => intro Q f S _ hS k; exact ⟨k, hS, Off.refl W f⟩
  | label l => intro Q f S _ hS k; exact ⟨k, hS, Off.refl W f⟩
  | exit i => intro Q f S _ hS k; exact ⟨k, hS, Off.refl W f⟩
  | ret => intro Q f S _ hS k; exact ⟨k, hS, Off.refl W f⟩
  | rangeFunc x ps aa b _ _ => intro Q f S _ _ k; exact k.elim
  | scope c _ => intro Q f S _ _ k; exact k.elim
  | goto l => intro Q f S _ _ k; exact k.elim
  | refuse s => intro Q f S _ _ k; exact k.elim
/-- A round's end, by a number that goes down. -/
def dnextR (I : Nat → Fm → St → Prop) (m : Nat) (f' : Fm) (S' : St) : Prop := ∃ (m' : Nat) (ob : Nat → Option Ob), m' < m ∧ (∀ k o, ob k = some o → S'.ob k = some o) ∧ I m' f' ⟨S'.next, ob⟩
theorem least_of {p : Nat → Prop} (h : ∃ n, p n) : ∃ n, p n ∧ ∀ m, p m → n ≤ m := by
  obtain ⟨n, hn⟩ := h
  induction n using Nat.strongRecOn with
  | _ n ih =>
    by_cases hx : ∃ m, m < n ∧ p m
    · obtain ⟨m, h1, h2⟩ := hx
      exact ih m h1 h2
    · refine ⟨n, hn, fun m hm => ?_⟩
      rcases Nat.lt_or_ge m n with h1 | h1
      · exact absurd ⟨m, h1, hm⟩ hx
      · exact h1
theorem dloop_down {c : Code} {Q : DQ} {f : Fm} {S : St} (W : Nat → Bool) (hW : wrOk W c = true) (hS : S.WF) (I : Nat → Fm → St → Prop) (m : Nat) (h0 : I m f S)
    (hr : ∀ m g T, T.WF → Off W f g → I m g T → dwp P c (DQ.then (dnextR I m) Q) g T) : DLoop (dwp P c) Q f S := by
  classical
  let J : Fm → St → Nat → Prop := fun g T m => I m g T ∧ T.WF ∧ Off W f g
  refine ⟨fun g T => ∃ m, J g T m, fun g T => if h : ∃ m, J g T m then Classical.choose (least_of h) else 0, ⟨m, h0, hS, Off.refl W f⟩, fun g T hI => ?_⟩
  have hf := (Classical.choose_spec (least_of hI)).1
  obtain ⟨h1, h2, h3⟩ := hf
  refine dwp_mono c (fun e f2 S2 hq => ?_) (dwp_more (W := W) c hW h2 (hr _ g T h2 h3 h1))
  obtain ⟨hq, hwf, hoff⟩ := hq
  cases e with
  | normal =>
    obtain ⟨m', ob, k1, k2, k3⟩ := hq
    have hw2 : (St.mk S2.next ob).WF := fun k hk => by
      cases ho : ob k with
      | none => exact ho
      | some o => have := k2 k o ho; rw [hwf k hk] at this; cases this
    have hj : J f2 ⟨S2.next, ob⟩ m' := ⟨k3, hw2, h3.trans hoff⟩
    refine ⟨⟨S2.next, ob⟩, ⟨rfl, k2⟩, ⟨m', hj⟩, ?_⟩
    show (if h : ∃ m, J f2 ⟨S2.next, ob⟩ m then Classical.choose (least_of h) else 0) < (if h : ∃ m, J g T m then Classical.choose (least_of h) else 0)
    rw [dif_pos ⟨m', hj⟩, dif_pos hI]
    exact Nat.lt_of_le_of_lt ((Classical.choose_spec (least_of ⟨m', hj⟩)).2 m' hj) k1
  | exit i => exact hq
  | ret => exact hq
/-- A round's end, by an index that goes up. -/
def dnextU (I : Nat → Fm → St → Prop) (n i : Nat) (f' : Fm) (S' : St) : Prop := i < n ∧ ∃ ob : Nat → Option Ob, (∀ k o, ob k = some o → S'.ob k = some o) ∧ I (i + 1) f' ⟨S'.next, ob⟩
theorem dloop_up {c : Code} {Q : DQ} {f : Fm} {S : St} (W : Nat → Bool) (hW : wrOk W c = true) (hS : S.WF) (n : Nat) (I : Nat → Fm → St → Prop) (h0 : I 0 f S)
    (hr : ∀ i g T, T.WF → Off W f g → I i g T → dwp P c (DQ.then (dnextU I n i) Q) g T) : DLoop (dwp P c) Q f S := by
  refine dloop_down W hW hS (fun m g T => ∃ i, m = n - i ∧ I i g T) (n - 0) ⟨0, rfl, h0⟩ fun m g T hT hg ⟨i, hm, hI⟩ => ?_
  subst hm
  refine dwp_mono c (fun e f2 S2 hq => ?_) (hr i g T hT hg hI)
  cases e with
  | normal =>
    obtain ⟨k1, ob, k2, k3⟩ := hq
    exact ⟨n - (i + 1), ob, by omega, k2, i + 1, rfl, k3⟩
  | exit i => exact hq
  | ret => exact hq
/-- The names that were there stay as they were. -/
def dnextS (S : St) (I : Nat → Fm → Prop) (n i : Nat) (f' : Fm) (S' : St) : Prop := i < n ∧ S.Sub S' ∧ I (i + 1) f'
theorem dloop_st {c : Code} {Q : DQ} {f : Fm} {S : St} (W : Nat → Bool) (hW : wrOk W c = true) (hS : S.WF) (n : Nat) (I : Nat → Fm → Prop) (h0 : I 0 f)
    (hr : ∀ i g tn, S.next ≤ tn → (St.mk tn S.ob).WF → Off W f g → I i g → dwp P c (DQ.then (dnextS S I n i) Q) g ⟨tn, S.ob⟩) : DLoop (dwp P c) Q f S := by
  refine dloop_up W hW hS n (fun i g T => S.next ≤ T.next ∧ T.ob = S.ob ∧ I i g) ⟨Nat.le_refl _, rfl, h0⟩ fun i g T hT hg ⟨h1, h2, h3⟩ => ?_
  obtain ⟨tn, tob⟩ := T
  have h2' : tob = S.ob := h2
  subst h2'
  refine dwp_mono c (fun e f2 S2 hq => ?_) (hr i g tn h1 hT hg h3)
  cases e with
  | normal => exact ⟨hq.1, S.ob, hq.2.1.ob, hq.2.1.next, rfl, hq.2.2⟩
  | exit i => exact hq
  | ret => exact hq
/-- One variable changes from round to round. -/
def dnextV (S : St) (v : Nat) (b : Nat → Ob) (I : Nat → Fm → Prop) (n i : Nat) (f' : Fm) (S' : St) : Prop := i < n ∧ (S.set v (b (i + 1))).Sub S' ∧ I (i + 1) f'
theorem dloop_var {c : Code} {Q : DQ} {f : Fm} {S : St} (W : Nat → Bool) (hW : wrOk W c = true) (hS : S.WF) (n : Nat) (v : Nat) (b : Nat → Ob) (hv : S.ob v = some (b 0)) (I : Nat → Fm → Prop) (h0 : I 0 f)
    (hr : ∀ i g tn, S.next ≤ tn → (St.mk tn (S.set v (b i)).ob).WF → Off W f g → I i g → dwp P c (DQ.then (dnextV S v b I n i) Q) g ⟨tn, (S.set v (b i)).ob⟩) : DLoop (dwp P c) Q f S := by
  have hb : (S.set v (b 0)).ob = S.ob := by
    funext k
    simp only [St.set]
    split
    · rename_i h; rw [h, hv]
    · rfl
  refine dloop_up W hW hS n (fun i g T => S.next ≤ T.next ∧ T.ob = (S.set v (b i)).ob ∧ I i g) ⟨Nat.le_refl _, hb.symm, h0⟩ fun i g T hT hg ⟨h1, h2, h3⟩ => ?_
  obtain ⟨tn, tob⟩ := T
  have h2' : tob = (S.set v (b i)).ob := h2
  subst h2'
  refine dwp_mono c (fun e f2 S2 hq => ?_) (hr i g tn h1 hT hg h3)
  cases e with
  | normal => exact ⟨hq.1, (S.set v (b (i + 1))).ob, hq.2.1.ob, hq.2.1.next, rfl, hq.2.2⟩
  | exit i => exact hq
  | ret => exact hq
theorem St.Sub.upd {S X : St} {v tn : Nat} {b B B' : Ob} (hn : S.next ≤ tn) (hB : B' = B) (h : St.Sub ⟨tn, (S.set v b).ob⟩ X) : (S.set v B').Sub (X.set v B) := ⟨Nat.le_trans hn h.next, fun k o hk => by
  subst hB
  simp only [set_ob] at *
  split
  · rename_i e; rw [if_pos e] at hk; exact hk
  · rename_i e
    rw [if_neg e] at hk
    refine h.ob k o ?_
    show (S.set v b).ob k = _
    rw [set_ob, if_neg e]
    exact hk⟩
/-! A row that grows. -/
def rowOf (S : St) (own : Own) (e : TypeId) (n : Nat) : Nat → Option Ob := fun k => match own with
  | .row g => if k = g then some (.row e n) else S.ob k
  | _ => S.ob k
def RowOk (lo : Nat) (S : St) (own : Own) (n : Nat) : Prop := own = .full ∨ ∃ g, own = .row g ∧ lo ≤ g ∧ S.ob g = none ∧ g < n
theorem rowOf_lt {lo : Nat} {S : St} {own : Own} {n : Nat} (h : RowOk lo S own n) {e : TypeId} {m k : Nat} (hk : k < lo) : rowOf S own e m k = S.ob k := by
  rcases h with rfl | ⟨g, rfl, h1, _⟩
  · rfl
  · show (if k = g then _ else _) = _
    rw [if_neg (by omega)]
theorem rowOf_some {lo : Nat} {S : St} {own : Own} {n : Nat} (h : RowOk lo S own n) {e : TypeId} {m k : Nat} {o : Ob} (hk : S.ob k = some o) : rowOf S own e m k = some o := by
  rcases h with rfl | ⟨g, rfl, _, h1, _⟩
  · exact hk
  · have : k ≠ g := fun e => by subst e; rw [h1] at hk; cases hk
    show (if k = g then _ else _) = _
    rw [if_neg this]
    exact hk
theorem RowOk.sub {lo : Nat} {S : St} {own : Own} {e : TypeId} {m n : Nat} (h : RowOk lo S own n) (hn : S.next ≤ n) : S.Sub ⟨n, rowOf S own e m⟩ := ⟨hn, fun k o hk => rowOf_some h hk⟩
theorem RowOk.own {lo : Nat} {S : St} {own : Own} {e : TypeId} {m n : Nat} (h : RowOk lo S own n) : (match own with | .full => True | .row g => rowOf S own e m g = some (.row e m) | .no => False) := by
  rcases h with rfl | ⟨g, rfl, h1, _⟩
  · trivial
  · show (if g = g then _ else _) = _
    rw [if_pos rfl]
theorem RowOk.own_of {lo : Nat} {S X : St} {own : Own} {e : TypeId} {m n : Nat} (h : RowOk lo S own n) (hs : St.Sub ⟨n, rowOf S own e m⟩ X) : (match own with | .full => True | .row g => X.ob g = some (.row e m) | .no => False) := by
  have := h.own (e := e) (m := m)
  revert this
  cases own with
  | full => exact fun _ => trivial
  | no => exact fun h => h
  | row g => exact fun h => hs.ob _ _ h
theorem leave_next (S : St) (own : Own) : (S.leave own).next = S.next := by cases own <;> rfl
abbrev RowOk.lo {lo : Nat} {S : St} {own : Own} {n : Nat} (_ : RowOk lo S own n) : Nat := lo
theorem RowOk.entry {lo : Nat} {S X : St} {own : Own} {e : TypeId} {m n : Nat} (h : RowOk lo S own n) (hs : St.Sub ⟨n, rowOf S own e m⟩ X) : own = .full ∨ ∃ g, own = .row g ∧ lo ≤ g ∧ X.ob g = some (.row e m) := by
  have := h.own_of hs
  rcases h with rfl | ⟨g, rfl, h1, _⟩
  · exact .inl rfl
  · exact .inr ⟨g, rfl, h1, this⟩
/-- A variable, seen in a loop within a round. -/
theorem inner_ob {T : St} {own ownb : Own} {e e' t : TypeId} {m mb lo lo' n k : Nat} {cs : List D} (h1 : own = .full ∨ ∃ g, own = .row g ∧ lo' ≤ g ∧ T.ob g = some (.row e' m)) (hr : RowOk lo (T.leave own) ownb n) (hk : T.ob k = some (.box t cs)) : rowOf (T.leave own) ownb e mb k = some (.box t cs) := by
  refine rowOf_some hr ?_
  rcases h1 with rfl | ⟨g, rfl, _, h2⟩
  · exact hk
  · have : k ≠ g := fun e => by subst e; rw [hk] at h2; cases h2
    show (if k = g then none else T.ob k) = _
    rw [if_neg this]
    exact hk
/-- The row is the one that append leaves, or the one that was there. -/
structure RowNext (lo : Nat) (S : St) (own : Own) (e : TypeId) (m : Nat) (S' : St) : Prop where
  ok : RowOk lo S own S'.next
  next : S.next ≤ S'.next
  ob : ∀ k o, rowOf S own e m k = some o → S'.ob k = some o
theorem RowNext.same {lo : Nat} {S T : St} {own : Own} {e : TypeId} {m n : Nat} (h : RowOk lo S own n) (hn : S.next ≤ n) (hs : St.Sub ⟨n, rowOf S own e m⟩ T) : RowNext lo S own e m T :=
  ⟨by
    have := hs.next
    rcases h with rfl | ⟨g, rfl, h0, h1, h2⟩
    · exact .inl rfl
    · exact .inr ⟨g, rfl, h0, h1, Nat.lt_of_lt_of_le h2 this⟩, Nat.le_trans hn hs.next, hs.ob⟩
theorem RowNext.grow {lo : Nat} {S X T : St} (hS : S.WF) (hlo : lo ≤ S.next) {own : Own} {e : TypeId} {m m' n : Nat} (h : RowOk lo S own n) (hn : S.next ≤ n) (hs : St.Sub ⟨n, rowOf S own e m⟩ X) (hT : (X.grow own e m').Sub T) : RowNext lo S (.row X.next) e m' T := by
  have hXn : n ≤ X.next := hs.next
  have hg : (X.grow own e m').next = X.next + 1 := grow_next _ _ _ _
  have hTn := hT.next
  rw [hg] at hTn
  refine ⟨.inr ⟨X.next, rfl, by omega, hS _ (by omega), by omega⟩, by omega, fun k o hk => hT.ob k o ?_⟩
  simp only [rowOf] at hk
  by_cases h1 : k = X.next
  · rw [if_pos h1] at hk
    rcases h with rfl | ⟨g, rfl, _, _⟩
    · rw [grow_full_ob, if_pos h1, hk]
    · rw [grow_row_ob, if_pos h1, hk]
  · rw [if_neg h1] at hk
    have h2 := hs.ob k o (rowOf_some h hk)
    rcases h with rfl | ⟨g, rfl, h3, h4, h5⟩
    · rw [grow_full_ob, if_neg h1]
      exact h2
    · have hkg : k ≠ g := fun e => by subst e; rw [h4] at hk; cases hk
      rw [grow_row_ob, if_neg h1, if_neg hkg]
      exact h2
/-- Behind a loop within a round, which grew the row. -/
theorem RowNext.inner {lo : Nat} {S T1 T : St} {own own' : Own} {e : TypeId} {m m' n n' : Nat} (h : RowOk lo S own n) (hn : S.next ≤ n) (hs : St.Sub ⟨n, rowOf S own e m⟩ T1) (h' : RowOk lo (T1.leave own) own' n') (hn'' : (T1.leave own).next ≤ n') (hT : St.Sub ⟨n', rowOf (T1.leave own) own' e m'⟩ T) : RowNext lo S own' e m' T := by
  have hsub : ∀ k o, S.ob k = some o → (T1.leave own).ob k = some o := fun k o hk => by
    have h2 := hs.ob k o (rowOf_some h hk)
    rcases h with rfl | ⟨g, rfl, h3, h4, h5⟩
    · exact h2
    · have hkg : k ≠ g := fun e => by subst e; rw [h4] at hk; cases hk
      show (if k = g then none else T1.ob k) = _
      rw [if_neg hkg]
      exact h2
  have hTn := hT.next
  have hT1 := hs.next
  have hn' : T1.next ≤ n' := leave_next T1 own ▸ hn''
  refine ⟨?_, by have h1 : n ≤ T1.next := hT1; have h2 : n' ≤ T.next := hTn; omega, fun k o hk => hT.ob k o ?_⟩
  · rcases h' with rfl | ⟨g, rfl, h3, h4, h5⟩
    · exact .inl rfl
    · refine .inr ⟨g, rfl, h3, ?_, Nat.lt_of_lt_of_le h5 hTn⟩
      cases ho : S.ob g with
      | none => rfl
      | some o => have := hsub g o ho; rw [h4] at this; cases this
  · cases own' with
    | row g' =>
      simp only [rowOf] at *
      split
      · rename_i e1; rw [if_pos e1] at hk; exact hk
      · rename_i e1; rw [if_neg e1] at hk; exact hsub k o hk
    | full => exact hsub k o hk
    | no => exact hsub k o hk
def dnextG (lo : Nat) (S : St) (e : TypeId) (I : Nat → Own → Nat → Fm → Prop) (n i : Nat) (f' : Fm) (S' : St) : Prop := i < n ∧ ∃ own m, RowNext lo S own e m S' ∧ I (i + 1) own m f'
theorem dloop_rowI {c : Code} {Q : DQ} {f : Fm} {S : St} (W : Nat → Bool) (hW : wrOk W c = true) (hS : S.WF) (n : Nat) (e : TypeId) (lo : Nat) (own0 : Own) (m0 : Nat) (h1 : own0 = .full ∨ ∃ g, own0 = .row g ∧ lo ≤ g ∧ S.ob g = some (.row e m0)) (I : Nat → Own → Nat → Fm → Prop) (h0 : I 0 own0 m0 f)
    (hr : ∀ i g tn own m, (S.leave own0).next ≤ tn → RowOk lo (S.leave own0) own tn → (St.mk tn (rowOf (S.leave own0) own e m)).WF → Off W f g → I i own m g → dwp P c (DQ.then (dnextG lo (S.leave own0) e I n i) Q) g ⟨tn, rowOf (S.leave own0) own e m⟩) : DLoop (dwp P c) Q f S := by
  have hob : S.ob = rowOf (S.leave own0) own0 e m0 := by
    rcases h1 with rfl | ⟨g, rfl, _, h2⟩
    · rfl
    · funext k
      show S.ob k = if k = g then _ else (if k = g then none else S.ob k)
      split
      · rename_i e1; rw [e1, h2]
      · rfl
  have hok : RowOk lo (S.leave own0) own0 S.next := by
    rcases h1 with rfl | ⟨g, rfl, h3, h2⟩
    · exact .inl rfl
    · refine .inr ⟨g, rfl, h3, ?_, hS.lt h2⟩
      show (if g = g then none else S.ob g) = none
      rw [if_pos rfl]
  have hnx : (S.leave own0).next = S.next := by cases own0 <;> rfl
  refine dloop_up W hW hS n (fun i g T => S.next ≤ T.next ∧ ∃ own m, RowOk lo (S.leave own0) own T.next ∧ T.ob = rowOf (S.leave own0) own e m ∧ I i own m g) ⟨Nat.le_refl _, own0, m0, hok, hob, h0⟩ fun i g T hT hg ⟨h1, own, m, h4, h2, h3⟩ => ?_
  obtain ⟨tn, tob⟩ := T
  have h2' : tob = rowOf (S.leave own0) own e m := h2
  subst h2'
  refine dwp_mono c (fun e f2 S2 hq => ?_) (hr i g tn own m (by rw [hnx]; exact h1) h4 hT hg h3)
  cases e with
  | normal =>
    obtain ⟨k1, own', m', k2, k3⟩ := hq
    exact ⟨k1, rowOf (S.leave own0) own' _ m', k2.ob, hnx ▸ k2.next, own', m', k2.ok, rfl, k3⟩
  | exit i => exact hq
  | ret => exact hq
theorem dloop_row {c : Code} {Q : DQ} {f : Fm} {S : St} (W : Nat → Bool) (hW : wrOk W c = true) (hS : S.WF) (n : Nat) (e : TypeId) (I : Nat → Own → Nat → Fm → Prop) (h0 : I 0 .full 0 f)
    (hr : ∀ i g tn own m, S.next ≤ tn → RowOk S.next S own tn → (St.mk tn (rowOf S own e m)).WF → Off W f g → I i own m g → dwp P c (DQ.then (dnextG S.next S e I n i) Q) g ⟨tn, rowOf S own e m⟩) : DLoop (dwp P c) Q f S :=
  dloop_rowI W hW hS n e S.next .full 0 (.inl rfl) I h0 hr
/-- A slice that grows in a loop is appended to. -/
theorem dapp_grow {P : Program} {S1 S : St} {t tx e : TypeId} {own o2 : Own} {es es2 : List D} {K : D → St → Prop} {lo n m : Nat} (he : elT P t = some e) (hx : (elT P tx).isSome = true) (hz : zeroT P e = true) (h1 : ∀ d ∈ es, d.width = szOf P e) (h2 : ∀ d ∈ es2, d.width = szOf P e) (hr : RowOk lo S own n) (hs : St.Sub ⟨n, rowOf S own e m⟩ S1) (hm : own = .full ∨ m = es.length)
    (hb : es.length + es2.length ≤ 140737488355328) (hb2 : (es.length + es2.length) * bytesOf P e ≤ 140737488355328) (k : K (.sl (.row S1.next) (es ++ es2)) (S1.grow own e (es.length + es2.length))) : dapp P S1 t tx (.sl own es) (.sl o2 es2) K := by
  refine dapp_row ?_
  simp only [dappend, he]
  refine ⟨hx, hz, h1, h2, ?_, hb, hb2, k⟩
  rcases hm with rfl | hm
  · trivial
  · rw [← hm]
    have key := hr.own_of hs
    cases own <;> exact key
end
end Go.Proofs.Ytpnjkebjdclkfaa

/- Variables that are given up: a slice over a variable of the call's own becomes a plain one. Conditions: none. -/
namespace Go.Proofs.Ytpnjkebjdclkfaa
open Go.RowKit

mutual
def D.thaw (k : Nat) (es : List D) : D → D
  | .agg cs => .agg (thawL k es cs)
  | .tup cs => .tup (thawL k es cs)
  | .win j n => bif Nat.beq j k && Nat.beq n es.length then .sl .no es else .win j n
  | .v x => .v x
  | .fn f fs cs => .fn f fs cs
  | .ifc t d => .ifc t d
  | .loc j o => .loc j o
  | .rd cs o => .rd cs o
  | .sl o l => .sl o l
def thawL (k : Nat) (es : List D) : List D → List D
  | [] => []
  | d :: l => d.thaw k es :: thawL k es l
end
section
variable {P : Program} {base : Nat} {S : St} {η : Names} {w : World}
theorem win_cells (hM : Mem P base S η w) {k b : Nat} {e : TypeId} {es zs : List D} (hk : S.ob k = some (.box e (flat es ++ zs))) (hb : η k = some (some b)) (hw : ∀ d ∈ es, d.width = szOf P e) {X : Nat → Nat → Prop} (hX : ∀ i, X b i) {w' : World} {η' : Names} (hE : w' = w) (hK : ∀ {l : List D} {vs : List Value}, RepL P w η (Fix P S η) l vs → RepL P w' η' X l vs) : RepE P w' η' X (szOf P e) es b 0 := by
  subst hE
  obtain ⟨vs, h1, h2, h3⟩ := hM.box k e _ b hk hb
  refine RepE.of_flat hw ?_
  have h4 := RepC.mk (b := b) (o := 0) (hK h2) (fun j v hj => by
    rw [Nat.zero_add]
    have : w'.cell? ⟨b, j, none⟩ = vs.toArray[j]? := by simp [World.cell?, h1]
    rw [this]; simpa using hj) (fun j _ => hX _) h3
  exact h4.left.1
mutual
theorem Rep.thaw (hM : Mem P base S η w) {k : Nat} {e : TypeId} {es zs : List D} (hk : S.ob k = some (.box e (flat es ++ zs))) (hz : 0 < szOf P e) (hw : ∀ d ∈ es, d.width = szOf P e) : ∀ {d : D} {v : Value}, Rep P w η (Fix P S η) d v → Rep P w η (Fix P (S.drop k) η) (d.thaw k es) v
  | .v x, v, h => by simp only [D.thaw]; exact (goes_drop hM k).rep h
  | .fn f fs cs, v, h => by simp only [D.thaw]; exact (goes_drop hM k).rep h
  | .ifc t d, v, h => by simp only [D.thaw]; exact (goes_drop hM k).rep h
  | .loc j o, v, h => by simp only [D.thaw]; exact (goes_drop hM k).rep h
  | .rd cs o, v, h => by simp only [D.thaw]; exact (goes_drop hM k).rep h
  | .sl o l, v, h => by simp only [D.thaw]; exact (goes_drop hM k).rep h
  | .agg cs, v, h => by
    simp only [D.thaw, Rep] at *
    obtain ⟨vs, h1, h2, h3⟩ := h
    exact ⟨vs, h1, RepL.thaw hM hk hz hw h2, h3⟩
  | .tup cs, v, h => by
    simp only [D.thaw, Rep] at *
    obtain ⟨vs, h1, h2⟩ := h
    exact ⟨vs, h1, RepL.thaw hM hk hz hw h2⟩
  | .win j n, v, h => by
    cases hb : (Nat.beq j k && Nat.beq n es.length) with
    | false =>
      have e1 : (D.win j n).thaw k es = .win j n := by simp only [D.thaw, hb, cond_false]
      rw [e1]
      exact (goes_drop hM k).rep h
    | true =>
      rw [Bool.and_eq_true] at hb
      have e1 : j = k := Nat.eq_of_beq_eq_true hb.1
      have e2 : n = es.length := Nat.eq_of_beq_eq_true hb.2
      subst e1 e2
      have e3 : (D.win j es.length).thaw j es = .sl .no es := by simp [D.thaw]
      rw [e3]
      simp only [Rep] at *
      obtain ⟨b, c, h1, h2, h3, h4⟩ := h
      refine ⟨some ⟨b, 0, none⟩, c, h2, h3, h4, trivial, fun _ => ⟨b, 0, szOf P e, rfl, hz, ?_⟩⟩
      refine win_cells hM hk h1 hw (fun i k' o hk' ho => ?_) rfl (fun hr => (goes_drop hM j).repL hr)
      by_cases hkj : k' = j
      · subst hkj
        simp [St.drop] at ho
      · simp only [St.drop, if_neg hkj] at ho
        exact absurd (hM.inj k' j b hk' h1 (by rw [ho]; rfl) (by rw [hk]; rfl)) hkj
theorem RepL.thaw (hM : Mem P base S η w) {k : Nat} {e : TypeId} {es zs : List D} (hk : S.ob k = some (.box e (flat es ++ zs))) (hz : 0 < szOf P e) (hw : ∀ d ∈ es, d.width = szOf P e) : ∀ {l : List D} {vs : List Value}, RepL P w η (Fix P S η) l vs → RepL P w η (Fix P (S.drop k) η) (thawL k es l) vs
  | [], vs, h => by simp only [thawL, RepL] at *; exact h
  | d :: l, vs, h => by
    simp only [thawL, RepL] at *
    obtain ⟨x, xs, h1, h2, h3⟩ := h
    exact ⟨x, xs, h1, Rep.thaw hM hk hz hw h2, RepL.thaw hM hk hz hw h3⟩
end
/-- The variable behind a slice is given up. -/
theorem thaw_win {P : Program} {S : St} {k : Nat} {e : TypeId} {es zs : List D} (hk : S.ob k = some (.box e (flat es ++ zs))) (hz : 0 < szOf P e) (hw : ∀ d ∈ es, d.width = szOf P e) {d d1 : D} (hd : d.thaw k es = d1) : Thaw P S d (S.drop k) d1 := fun base η w v hM hr =>
  ⟨goes_drop hM k, hd ▸ Rep.thaw hM hk hz hw hr⟩
end
/-- A call whose arguments may say more than its contract asks. -/
theorem DPure.weak {P : Program} {g : FuncId} {args args' : List D} {d : D} (k : DPure P g args' d) (h : frzL args = args') : DPure P g args d := fun S base η w vs hM hr => k S base η w vs hM (h ▸ RepL.frz hr)
theorem flat_cons (d : D) (l : List D) : flat (d :: l) = d.cells ++ flat l := by simp [flat]
/-- An element is overwritten. -/
theorem splice_flat : ∀ {es : List D} {zs : List D} {z : Nat} (i : Nat) {y : D}, i < es.length → (∀ d ∈ es, d.width = z) → y.width = z → splice (flat es ++ zs) (0 + i * z) y.cells = flat (es.set i y) ++ zs
  | [], _, _, i, _, h, _, _ => by simp at h
  | d :: es, zs, z, 0, y, _, hw, hy => by
    have h1 : d.cells.length = z := hw d (by simp)
    have h2 : y.cells.length = z := hy
    simp only [List.set_cons_zero, flat_cons, splice, Nat.zero_mul, Nat.add_zero, List.take_zero, List.nil_append, Nat.zero_add, h2, List.append_assoc]
    rw [List.drop_append, List.drop_of_length_le (by omega), h1, Nat.sub_self, List.drop_zero, List.nil_append]
  | d :: es, zs, z, i + 1, y, hi, hw, hy => by
    have h1 : d.cells.length = z := hw d (by simp)
    have ih := splice_flat (es := es) (zs := zs) (z := z) i (y := y) (by simpa using hi) (fun d' hd' => hw d' (by simp [hd'])) hy
    simp only [List.set_cons_succ, flat_cons, List.append_assoc]
    rw [← ih]
    simp only [splice, Nat.zero_add]
    have e1 : (i + 1) * z = z + i * z := by rw [Nat.add_mul]; omega
    rw [e1, List.take_append, List.drop_append, h1]
    rw [List.take_of_length_le (l := d.cells) (by omega), List.drop_of_length_le (l := d.cells) (by omega)]
    rw [show z + i * z - z = i * z by omega, show z + i * z + y.cells.length - z = i * z + y.cells.length by omega]
    simp [List.append_assoc]
theorem splice_flat' {es zs : List D} {z i : Nat} {y : D} (hi : i < es.length) (hw : ∀ d ∈ es, d.width = z) (hy : y.width = z) : List.take (i * z) (flat es ++ zs) ++ y.cells ++ List.drop (i * z + z) (flat es ++ zs) = flat (es.set i y) ++ zs := by
  have := splice_flat (zs := zs) i hi hw hy
  rw [← this]
  simp only [splice, Nat.zero_add]
  rw [show y.cells.length = z from hy]
end Go.Proofs.Ytpnjkebjdclkfaa
