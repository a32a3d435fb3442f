/- Whether a value fits a schema, walked: the program's. Conditions: none. -/
import Derived.Test.YtpnjkebjdclkfaaVp
namespace Go.Proofs.Ytpnjkebjdclkfaa
open Go.RowKit
set_option linter.unusedSimpArgs false
theorem sne1_2 (n : Nat) : (n + 1 = n + 2) = False := eq_false (by omega)
theorem sne1_3 (n : Nat) : (n + 1 = n + 3) = False := eq_false (by omega)
theorem sne1_4 (n : Nat) : (n + 1 = n + 4) = False := eq_false (by omega)
theorem sne2_1 (n : Nat) : (n + 2 = n + 1) = False := eq_false (by omega)
theorem sne2_3 (n : Nat) : (n + 2 = n + 3) = False := eq_false (by omega)
theorem sne2_4 (n : Nat) : (n + 2 = n + 4) = False := eq_false (by omega)
theorem sne3_1 (n : Nat) : (n + 3 = n + 1) = False := eq_false (by omega)
theorem sne3_2 (n : Nat) : (n + 3 = n + 2) = False := eq_false (by omega)
theorem sne3_4 (n : Nat) : (n + 3 = n + 4) = False := eq_false (by omega)
theorem sne4_1 (n : Nat) : (n + 4 = n + 1) = False := eq_false (by omega)
theorem sne4_2 (n : Nat) : (n + 4 = n + 2) = False := eq_false (by omega)
theorem sne4_3 (n : Nat) : (n + 4 = n + 3) = False := eq_false (by omega)
theorem sne1_0 (n : Nat) : (n + 1 = n) = False := eq_false (by omega)
theorem sne0_1 (n : Nat) : (n = n + 1) = False := eq_false (by omega)
theorem sne2_0 (n : Nat) : (n + 2 = n) = False := eq_false (by omega)
theorem sne0_2 (n : Nat) : (n = n + 2) = False := eq_false (by omega)
theorem sne3_0 (n : Nat) : (n + 3 = n) = False := eq_false (by omega)
theorem sne0_3 (n : Nat) : (n = n + 3) = False := eq_false (by omega)
theorem sne4_0 (n : Nat) : (n + 4 = n) = False := eq_false (by omega)
theorem sne0_4 (n : Nat) : (n = n + 4) = False := eq_false (by omega)
attribute [go_sem] sne1_2 sne1_3 sne1_4 sne2_1 sne2_3 sne2_4 sne3_1 sne3_2 sne3_4 sne4_1 sne4_2 sne4_3 sne1_0 sne0_1 sne2_0 sne0_2 sne3_0 sne0_3 sne4_0 sne0_4
/-- Sound at any depth. -/
def RV (v : DVal) : Prop := ∃ m, v.depth ≤ m ∧ soundV m v = true
def RS (s : DSch) : Prop := ∃ m, s.depth ≤ m ∧ soundS m s = true
theorem RV.part {v p : DVal} (h : RV v) (hp : p ∈ v.parts) : RV p := by
  obtain ⟨m, h1, h2⟩ := h
  obtain ⟨m, rfl⟩ : ∃ n, m = n + 1 := ⟨m - 1, by have := v.depth_pos; omega⟩
  rw [soundV, Bool.and_eq_true] at h2
  exact ⟨m, by have := DVal.depth_part hp; omega, List.all_eq_true.1 h2.2 p hp⟩
theorem RS.part {v p : DSch} (h : RS v) (hp : p ∈ v.parts) : RS p := by
  obtain ⟨m, h1, h2⟩ := h
  obtain ⟨m, rfl⟩ : ∃ n, m = n + 1 := ⟨m - 1, by have := v.depth_pos; omega⟩
  rw [soundS, Bool.and_eq_true] at h2
  exact ⟨m, by have := DSch.depth_part hp; omega, List.all_eq_true.1 h2.2 p hp⟩
theorem RV.here {v : DVal} (h : RV v) : (v.kind ≠ 5 → v.names.length = 0) ∧ (v.kind ≠ 6 → v.ids.length = 0) ∧ v.parts.length = v.names.length + v.ids.length := by
  obtain ⟨m, h1, h2⟩ := h
  obtain ⟨m, rfl⟩ : ∃ n, m = n + 1 := ⟨m - 1, by have := v.depth_pos; omega⟩
  rw [soundV, Bool.and_eq_true, hereV, Bool.and_eq_true, Bool.and_eq_true, Bool.not_eq_true', Bool.not_eq_true', decide_eq_false_iff_not, decide_eq_false_iff_not] at h2
  have h3 := h2.1.1.1
  have h4 := h2.1.1.2
  unfold bad1 at h3
  unfold bad2 at h4
  omega
theorem RS.here {s : DSch} (h : RS s) : (s.kind = 5 → s.parts.length = s.words.length) ∧ (s.kind = 6 → s.parts.length = 1) := by
  obtain ⟨m, h1, h2⟩ := h
  obtain ⟨m, rfl⟩ : ∃ n, m = n + 1 := ⟨m - 1, by have := s.depth_pos; omega⟩
  rw [soundS, Bool.and_eq_true, hereS, Bool.and_eq_true, Bool.and_eq_true, decide_eq_true_eq] at h2
  have h3 := h2.1.2.1
  unfold wantS at h3
  exact ⟨fun h => by rw [if_pos h] at h3; exact h3, fun h => by rw [if_neg (by omega), if_pos h] at h3; exact h3⟩
def headF (v : DVal) (s : DSch) : Bool := decide (v.kind = s.kind) && ((!decide (v.kind = 4) || decide (v.s ∈ s.words)) && (!decide (v.kind = 5) || decide (v.names = s.words)))
def atF (s : DSch) (i : Nat) : Nat := if s.kind = 6 then 0 else i
def fitsV : Nat → DVal → DSch → Bool
  | 0, _, _ => true
  | k + 1, v, s => headF v s && (List.range v.parts.length).all fun i => fitsV k (v.parts.getD i default) (s.parts.getD (atF s i) default)
theorem atF_lt {v : DVal} {s : DSch} (hv : RV v) (hs : RS s) (h : headF v s = true) {i : Nat} (hi : i < v.parts.length) : atF s i < s.parts.length := by
  have h1 := hv.here
  have h2 := hs.here
  rw [headF, Bool.and_eq_true, decide_eq_true_eq, Bool.and_eq_true] at h
  obtain ⟨hk, _, hn⟩ := h
  unfold atF
  by_cases h6 : s.kind = 6
  · rw [if_pos h6, h2.2 h6]; omega
  · rw [if_neg h6]
    by_cases h5 : v.kind = 5
    · rw [h5] at hn
      have : v.names = s.words := by simpa using hn
      rw [h2.1 (by omega), ← this]; omega
    · omega
theorem strArg {P : Program} {w : World} {η : Names} {X : Nat → Nat → Prop} {own : Own} {l : List Str} {y : Value} (h : Rep P w η X (.sl own (l.map strD)) y) : ∃ A c, y = .slice A l.length c ∧ l.length ≤ c ∧ RF w (· < w.heap.size) 1 A l.length (l.map sv) := scalars_of_rep sv h
theorem strContains_d (own : Own) (l : List Str) (x : Str) (hn : l.length ≤ 140737488351232) : DPure Try.prog 101 [.sl own (l.map strD), .v (sv x)] (.v (.bool (decide (x ∈ l)))) :=
  dpure_of_gives (fun _ _ => by kernel_rfl) fun w η X vs hr => by
    simp only [RepL] at hr
    obtain ⟨y, ys, rfl, h1, z, zs, rfl, h2, rfl⟩ := hr
    obtain ⟨A, c, rfl, hc, hf⟩ := strArg h1
    simp only [Rep] at h2
    subst h2
    exact (strContains_calls l x A c w hf hn).mono fun e w' ⟨he, hw⟩ => ⟨he, hw ▸ Below.refl _ _⟩
theorem strEqual_d (own own2 : Own) (l m : List Str) (hn : l.length ≤ 140737488351232) (hm : m.length ≤ 140737488351232) : DPure Try.prog 61 [.sl own (l.map strD), .sl own2 (m.map strD)] (.v (.bool (decide (l = m)))) :=
  dpure_of_gives (fun _ _ => by kernel_rfl) fun w η X vs hr => by
    simp only [RepL] at hr
    obtain ⟨y, ys, rfl, h1, z, zs, rfl, h2, rfl⟩ := hr
    obtain ⟨A, c, rfl, hc, hf⟩ := strArg h1
    obtain ⟨A2, c2, rfl, hc2, hf2⟩ := strArg h2
    exact strEqual_calls l m A A2 c c2 w hf hf2 hn hm
def fitsSt (v : DVal) (s : DSch) (S : St) : St := (S.add (.box 31 [.v (.int .i64 v.kind), .v (.int .i64 v.n), strD v.s, .sl .no (v.names.map strD), .sl .no (v.ids.map u64D), .sl .no (v.parts.map encV)])).add (.box 25 [.v (.int .i64 s.kind), .sl .no (s.words.map strD), .sl .no (s.parts.map encS)])
theorem fits_sub {S : St} (hS : S.WF) (v : DVal) (s : DSch) {n : Nat} (hn : S.next + 2 ≤ n) : S.Sub ⟨n, (fitsSt v s S).ob⟩ :=
  ⟨by show S.next ≤ n; omega, (((St.Sub.refl S).add hS _).add hS _).ob⟩
theorem fits_back {S : St} (hS : S.WF) (v : DVal) (s : DSch) {n : Nat} (hn : S.next + 2 ≤ n) (o o2 : Ob) : ∀ k o', (fitsSt v s S).ob k = some o' → ((St.add ⟨n, (fitsSt v s S).ob⟩ o).set n o2).ob k = some o' := fun k o' h => by
  have hk : k ≠ n := fun e => by
    subst e
    simp only [fitsSt, add_ob, add_next] at h
    rw [if_neg (by omega), if_neg (by omega), hS k (by omega)] at h
    cases h
  simp only [set_ob, add_ob]
  rw [if_neg hk, if_neg hk]
  exact h
structure FCut (v : DVal) (s : DSch) (S : St) (f : Fm) (T : St) : Prop where
  st : T = fitsSt v s S
  s2 : f 2 = .loc S.next 0
  s3 : f 3 = .loc (S.next + 1) 0
  s38 : f 38 = .v (.bool (!headF v s))
structure LF (k : Nat) (v : DVal) (s : DSch) (S : St) (f : Fm) (T : St) (i : Nat) : Prop where
  st : T.ob = (fitsSt v s S).ob
  nx : S.next + 2 ≤ T.next
  s2 : f 2 = .loc S.next 0
  s3 : f 3 = .loc (S.next + 1) 0
  s40 : f 40 = .sl .no (v.parts.map encV)
  s41 : f 41 = .v (.int .i64 v.parts.length)
  s42 : f 42 = .v (.int .i64 i)
  le : i ≤ v.parts.length
  ok : ∀ j, j < i → fitsV k (v.parts.getD j default) (s.parts.getD (atF s j) default) = true
def LFE (k : Nat) (v : DVal) (s : DSch) (S : St) (f : Fm) (T : St) : Prop := ∃ i, LF k v s S f T i
set_option maxRecDepth 200000 in
set_option maxHeartbeats 8000000 in
theorem fits_d (k : Nat) : ∀ (v : DVal) (s : DSch), v.depth ≤ k → okV v → okS s → RV v → RS s → DPure Try.prog 69 [encV v, encS s] (.v (.bool (fitsV k v s))) := by
  induction k with
  | zero => intro v s h; have := v.depth_pos; omega
  | succ k ih =>
    intro v s hk hov hos hv hs
    obtain ⟨o1, o2, o3, o4, o5, o6, o7, o8, o9⟩ := (okV_eq v).1 hov
    obtain ⟨p1, p2, p3, p4, p5⟩ := (okS_eq s).1 hos
    refine dpure_of_dwp mixed Try.func69 rfl (fun _ _ => by kernel_rfl) (rs := [.tmp 4]) rfl (by kernel_rfl) trivial (fun S hS => ?_)
    simp only [go_sem, ↓reduceIte, Nat.reduceBEq, Nat.reduceAdd, Nat.reduceLeDiff, Nat.reduceEqDiff, Nat.reduceLT, encV_eq v, encS_eq s]
    refine cut_guard (FCut v s S) rfl ?_ ?_
    · intro f T h
      obtain rfl := h.st
      cases hh : headF v s with
      | false =>
        simp only [go_sem, ↓reduceIte, Nat.reduceBEq, Nat.reduceAdd, Nat.reduceLeDiff, Nat.reduceEqDiff, Nat.reduceLT, h.s38, hh]
        exact ⟨by rw [fitsV, hh]; rfl, ((St.Sub.refl S).add hS _).add hS _⟩
      | true =>
        simp only [go_sem, ↓reduceIte, Nat.reduceBEq, Nat.reduceAdd, Nat.reduceLeDiff, Nat.reduceEqDiff, Nat.reduceLT, h.s38, hh, h.s2, h.s3, fitsSt]
        refine dloop_mk (LFE k v s S) (fun f _ => v.parts.length - slotN (f 42)) ⟨0, ⟨rfl, Nat.le_refl _, by simp only [go_sem, ↓reduceIte, Nat.reduceBEq, Nat.reduceAdd, Nat.reduceLeDiff, Nat.reduceEqDiff, Nat.reduceLT, h.s2], by simp only [go_sem, ↓reduceIte, Nat.reduceBEq, Nat.reduceAdd, Nat.reduceLeDiff, Nat.reduceEqDiff, Nat.reduceLT, h.s3], by simp only [go_sem, ↓reduceIte, Nat.reduceBEq, Nat.reduceAdd, Nat.reduceLeDiff, Nat.reduceEqDiff, Nat.reduceLT], by simp only [go_sem, ↓reduceIte, Nat.reduceBEq, Nat.reduceAdd, Nat.reduceLeDiff, Nat.reduceEqDiff, Nat.reduceLT], by simp only [go_sem, ↓reduceIte, Nat.reduceBEq, Nat.reduceAdd, Nat.reduceLeDiff, Nat.reduceEqDiff, Nat.reduceLT]; rfl, by omega, fun j hj => by omega⟩⟩ ?_
        rintro g ⟨tn, tob⟩ ⟨i, q⟩
        obtain rfl : tob = (fitsSt v s S).ob := q.st
        have nx : S.next + 2 ≤ tn := q.nx
        have e1 : (S.next = tn) = False := eq_false (by omega)
        have e2 : (S.next + 1 = tn) = False := eq_false (by omega)
        have e3 : (tn = S.next) = False := eq_false (by omega)
        have e4 : (tn = S.next + 1) = False := eq_false (by omega)
        by_cases hlt : i < v.parts.length
        · have b1 : decide ((i : Int) < (v.parts.length : Int)) = true := by simp; omega
          have hx := getD_map encV v.parts i hlt
          have c1 : (0 : Int) ≤ (i : Int) := by omega
          have c2 : (i : Int) < (v.parts.length : Int) := by omega
          have w1 : IntKind.i64.wrap ((i : Int) + 1) = (i : Int) + 1 := IntWalk.i64_in _ ⟨by omega, by omega⟩
          have hat := atF_lt hv hs hh hlt
          have hy := getD_map encS s.parts (atF s i) hat
          have c3 : (0 : Int) ≤ (atF s i : Int) := by omega
          have c4 : (atF s i : Int) < (s.parts.length : Int) := by omega
          have hd := DVal.depth_part (List.getElem_mem hlt)
          have hfit : fitsV k (v.parts.getD i default) (s.parts.getD (atF s i) default) = fitsV k v.parts[i] s.parts[atF s i] := by rw [getD_at hlt, getD_at hat]
          have hcall := ih v.parts[i] s.parts[atF s i] (by omega) (o9 _ (List.getElem_mem hlt)) (p5 _ (List.getElem_mem hat)) (hv.part (List.getElem_mem hlt)) (hs.part (List.getElem_mem hat))
          have hsub := fits_sub hS v s nx
          have hback := fits_back hS v s nx
          have next : fitsV k v.parts[i] s.parts[atF s i] = true → ∀ j, j < i + 1 → fitsV k (v.parts.getD j default) (s.parts.getD (atF s j) default) = true := fun hh j hj => by
            by_cases e : j = i
            · rw [e, hfit]; exact hh
            · exact q.ok j (by omega)
          have bad : fitsV k v.parts[i] s.parts[atF s i] = false → fitsV (k + 1) v s = false := fun hb => by
            simp only [fitsV]
            rw [all_not (p := fun i => fitsV k (v.parts.getD i default) (s.parts.getD (atF s i) default)) hlt (by rw [hfit]; exact hb), Bool.and_false]
          by_cases h6 : s.kind = 6
          · have b6 : (s.kind == 6) = true := by simp [h6]
            have ha : atF s i = 0 := by unfold atF; rw [if_pos h6]
            simp only [go_sem, ↓reduceIte, Nat.reduceBEq, Nat.reduceAdd, Nat.reduceLeDiff, Nat.reduceEqDiff, Nat.reduceLT, q.s2, q.s3, q.s40, q.s41, q.s42, b1, hx, c1, c2, fitsSt, e1, e2, e3, e4, b6]
            have hy0 : (s.parts.map encS).getD 0 undefD = encS s.parts[atF s i] := by rw [← hy, ha]
            have c5 : (0 : Int) < (s.parts.length : Int) := by omega
            have c6 : (0 : Int) ≤ 0 := Int.le_refl _
            refine ddraw_mk 8 (by kernel_rfl) ?_
            simp only [go_sem, ↓reduceIte, Nat.reduceBEq, Nat.reduceAdd, Nat.reduceLeDiff, Nat.reduceEqDiff, Nat.reduceLT, q.s3, e1, e2, e3, e4, hy0, c5, c6, Int.toNat_zero]
            refine dqgo_mk hcall ?_
            cases hf : fitsV k v.parts[i] s.parts[atF s i] with
            | false =>
              simp only [go_sem, ↓reduceIte, Nat.reduceBEq, Nat.reduceAdd, Nat.reduceLeDiff, Nat.reduceEqDiff, Nat.reduceLT, hf]
              exact ⟨by rw [bad hf]; rfl, (hsub.add hS _).set hS (by omega) _⟩
            | true =>
              simp only [go_sem, ↓reduceIte, Nat.reduceBEq, Nat.reduceAdd, Nat.reduceLeDiff, Nat.reduceEqDiff, Nat.reduceLT, hf, q.s42, w1]
              exact round_back (fitsSt v s S).ob (hback _ _) ⟨i + 1, ⟨rfl, Nat.le_succ_of_le nx, by simp only [go_sem, ↓reduceIte, Nat.reduceBEq, Nat.reduceAdd, Nat.reduceLeDiff, Nat.reduceEqDiff, Nat.reduceLT, q.s2], by simp only [go_sem, ↓reduceIte, Nat.reduceBEq, Nat.reduceAdd, Nat.reduceLeDiff, Nat.reduceEqDiff, Nat.reduceLT, q.s3], by simp only [go_sem, ↓reduceIte, Nat.reduceBEq, Nat.reduceAdd, Nat.reduceLeDiff, Nat.reduceEqDiff, Nat.reduceLT, q.s40], by simp only [go_sem, ↓reduceIte, Nat.reduceBEq, Nat.reduceAdd, Nat.reduceLeDiff, Nat.reduceEqDiff, Nat.reduceLT, q.s41], by simp only [go_sem, ↓reduceIte, Nat.reduceBEq, Nat.reduceAdd, Nat.reduceLeDiff, Nat.reduceEqDiff, Nat.reduceLT]; rfl, by omega, next hf⟩⟩ (by simp only [go_sem, ↓reduceIte, Nat.reduceBEq, Nat.reduceAdd, Nat.reduceLeDiff, Nat.reduceEqDiff, Nat.reduceLT]; omega)
          · have b6 : (s.kind == 6) = false := by simp [h6]
            have ha : atF s i = i := by unfold atF; rw [if_neg h6]
            have hy0 : (s.parts.map encS).getD i undefD = encS s.parts[atF s i] := by rw [← hy, ha]
            have c5 : (i : Int) < (s.parts.length : Int) := by omega
            simp only [go_sem, ↓reduceIte, Nat.reduceBEq, Nat.reduceAdd, Nat.reduceLeDiff, Nat.reduceEqDiff, Nat.reduceLT, q.s2, q.s3, q.s40, q.s41, q.s42, b1, hx, c1, c2, fitsSt, e1, e2, e3, e4, b6]
            refine ddraw_mk 8 (by kernel_rfl) ?_
            simp only [go_sem, ↓reduceIte, Nat.reduceBEq, Nat.reduceAdd, Nat.reduceLeDiff, Nat.reduceEqDiff, Nat.reduceLT, q.s3, e1, e2, e3, e4, hy0, c1, c5]
            refine dqgo_mk hcall ?_
            cases hf : fitsV k v.parts[i] s.parts[atF s i] with
            | false =>
              simp only [go_sem, ↓reduceIte, Nat.reduceBEq, Nat.reduceAdd, Nat.reduceLeDiff, Nat.reduceEqDiff, Nat.reduceLT, hf]
              exact ⟨by rw [bad hf]; rfl, (hsub.add hS _).set hS (by omega) _⟩
            | true =>
              simp only [go_sem, ↓reduceIte, Nat.reduceBEq, Nat.reduceAdd, Nat.reduceLeDiff, Nat.reduceEqDiff, Nat.reduceLT, hf, q.s42, w1]
              exact round_back (fitsSt v s S).ob (hback _ _) ⟨i + 1, ⟨rfl, Nat.le_succ_of_le nx, by simp only [go_sem, ↓reduceIte, Nat.reduceBEq, Nat.reduceAdd, Nat.reduceLeDiff, Nat.reduceEqDiff, Nat.reduceLT, q.s2], by simp only [go_sem, ↓reduceIte, Nat.reduceBEq, Nat.reduceAdd, Nat.reduceLeDiff, Nat.reduceEqDiff, Nat.reduceLT, q.s3], by simp only [go_sem, ↓reduceIte, Nat.reduceBEq, Nat.reduceAdd, Nat.reduceLeDiff, Nat.reduceEqDiff, Nat.reduceLT, q.s40], by simp only [go_sem, ↓reduceIte, Nat.reduceBEq, Nat.reduceAdd, Nat.reduceLeDiff, Nat.reduceEqDiff, Nat.reduceLT, q.s41], by simp only [go_sem, ↓reduceIte, Nat.reduceBEq, Nat.reduceAdd, Nat.reduceLeDiff, Nat.reduceEqDiff, Nat.reduceLT]; rfl, by omega, next hf⟩⟩ (by simp only [go_sem, ↓reduceIte, Nat.reduceBEq, Nat.reduceAdd, Nat.reduceLeDiff, Nat.reduceEqDiff, Nat.reduceLT]; omega)
        · have b1 : decide ((i : Int) < (v.parts.length : Int)) = false := by simp; omega
          simp only [go_sem, ↓reduceIte, Nat.reduceBEq, Nat.reduceAdd, Nat.reduceLeDiff, Nat.reduceEqDiff, Nat.reduceLT, q.s2, q.s3, q.s40, q.s41, q.s42, b1]
          refine ⟨?_, fits_sub hS v s nx⟩
          rw [show fitsV (k + 1) v s = true by
            simp only [fitsV, hh, Bool.true_and]
            exact all_of fun j hj => q.ok j (by omega)]
          rfl
    · have hbad : headF v s = (decide (v.kind = s.kind) && ((!decide (v.kind = 4) || decide (v.s ∈ s.words)) && (!decide (v.kind = 5) || decide (v.names = s.words)))) := rfl
      by_cases hk1 : v.kind = s.kind
      · have b1 : (v.kind != s.kind) = false := by simp [hk1]
        by_cases hk4 : v.kind = 4
        · have b4 : (v.kind == 4) = true := by simp [hk4]
          have b5 : (v.kind == 5) = false := by simp [hk4]
          simp only [go_sem, ↓reduceIte, Nat.reduceBEq, Nat.reduceAdd, Nat.reduceLeDiff, Nat.reduceEqDiff, Nat.reduceLT, b1, b4, b5]
          refine DCalls.of_pure (strContains_d .no s.words v.s p3) ?_
          have hb2 : headF v s = decide (v.s ∈ s.words) := by rw [hbad, decide_eq_true hk1, decide_eq_true hk4, decide_eq_false (show ¬ v.kind = 5 by omega)]; simp
          cases hm : decide (v.s ∈ s.words) with
          | false => simp only [go_sem, ↓reduceIte, Nat.reduceBEq, Nat.reduceAdd, Nat.reduceLeDiff, Nat.reduceEqDiff, Nat.reduceLT, b5]; exact ⟨rfl, by simp only [go_sem, ↓reduceIte, Nat.reduceBEq, Nat.reduceAdd, Nat.reduceLeDiff, Nat.reduceEqDiff, Nat.reduceLT], by simp only [go_sem, ↓reduceIte, Nat.reduceBEq, Nat.reduceAdd, Nat.reduceLeDiff, Nat.reduceEqDiff, Nat.reduceLT], by simp only [go_sem, ↓reduceIte, Nat.reduceBEq, Nat.reduceAdd, Nat.reduceLeDiff, Nat.reduceEqDiff, Nat.reduceLT, hb2, hm]⟩
          | true => simp only [go_sem, ↓reduceIte, Nat.reduceBEq, Nat.reduceAdd, Nat.reduceLeDiff, Nat.reduceEqDiff, Nat.reduceLT, b5]; exact ⟨rfl, by simp only [go_sem, ↓reduceIte, Nat.reduceBEq, Nat.reduceAdd, Nat.reduceLeDiff, Nat.reduceEqDiff, Nat.reduceLT], by simp only [go_sem, ↓reduceIte, Nat.reduceBEq, Nat.reduceAdd, Nat.reduceLeDiff, Nat.reduceEqDiff, Nat.reduceLT], by simp only [go_sem, ↓reduceIte, Nat.reduceBEq, Nat.reduceAdd, Nat.reduceLeDiff, Nat.reduceEqDiff, Nat.reduceLT, hb2, hm]⟩
        · have b4 : (v.kind == 4) = false := by simp [hk4]
          by_cases hk5 : v.kind = 5
          · have b5 : (v.kind == 5) = true := by simp [hk5]
            simp only [go_sem, ↓reduceIte, Nat.reduceBEq, Nat.reduceAdd, Nat.reduceLeDiff, Nat.reduceEqDiff, Nat.reduceLT, b1, b4, b5]
            refine DCalls.of_pure (strEqual_d .no .no v.names s.words o5 p3) ?_
            have hb2 : headF v s = decide (v.names = s.words) := by rw [hbad, decide_eq_true hk1, decide_eq_false hk4, decide_eq_true hk5]; simp
            cases hm : decide (v.names = s.words) with
            | false => simp only [go_sem, ↓reduceIte, Nat.reduceBEq, Nat.reduceAdd, Nat.reduceLeDiff, Nat.reduceEqDiff, Nat.reduceLT]; exact ⟨rfl, by simp only [go_sem, ↓reduceIte, Nat.reduceBEq, Nat.reduceAdd, Nat.reduceLeDiff, Nat.reduceEqDiff, Nat.reduceLT], by simp only [go_sem, ↓reduceIte, Nat.reduceBEq, Nat.reduceAdd, Nat.reduceLeDiff, Nat.reduceEqDiff, Nat.reduceLT], by simp only [go_sem, ↓reduceIte, Nat.reduceBEq, Nat.reduceAdd, Nat.reduceLeDiff, Nat.reduceEqDiff, Nat.reduceLT, hb2, hm]⟩
            | true => simp only [go_sem, ↓reduceIte, Nat.reduceBEq, Nat.reduceAdd, Nat.reduceLeDiff, Nat.reduceEqDiff, Nat.reduceLT]; exact ⟨rfl, by simp only [go_sem, ↓reduceIte, Nat.reduceBEq, Nat.reduceAdd, Nat.reduceLeDiff, Nat.reduceEqDiff, Nat.reduceLT], by simp only [go_sem, ↓reduceIte, Nat.reduceBEq, Nat.reduceAdd, Nat.reduceLeDiff, Nat.reduceEqDiff, Nat.reduceLT], by simp only [go_sem, ↓reduceIte, Nat.reduceBEq, Nat.reduceAdd, Nat.reduceLeDiff, Nat.reduceEqDiff, Nat.reduceLT, hb2, hm]⟩
          · have b5 : (v.kind == 5) = false := by simp [hk5]
            have hb2 : headF v s = true := by rw [hbad, decide_eq_true hk1, decide_eq_false hk4, decide_eq_false hk5]; simp
            simp only [go_sem, ↓reduceIte, Nat.reduceBEq, Nat.reduceAdd, Nat.reduceLeDiff, Nat.reduceEqDiff, Nat.reduceLT, b1, b4, b5]
            exact ⟨rfl, by simp only [go_sem, ↓reduceIte, Nat.reduceBEq, Nat.reduceAdd, Nat.reduceLeDiff, Nat.reduceEqDiff, Nat.reduceLT], by simp only [go_sem, ↓reduceIte, Nat.reduceBEq, Nat.reduceAdd, Nat.reduceLeDiff, Nat.reduceEqDiff, Nat.reduceLT], by simp only [go_sem, ↓reduceIte, Nat.reduceBEq, Nat.reduceAdd, Nat.reduceLeDiff, Nat.reduceEqDiff, Nat.reduceLT, hb2]⟩
      · have b1 : (v.kind != s.kind) = true := by simp [hk1]
        have hb2 : headF v s = false := by rw [hbad, decide_eq_false hk1]; rfl
        simp only [go_sem, ↓reduceIte, Nat.reduceBEq, Nat.reduceAdd, Nat.reduceLeDiff, Nat.reduceEqDiff, Nat.reduceLT, b1]
        exact ⟨rfl, by simp only [go_sem, ↓reduceIte, Nat.reduceBEq, Nat.reduceAdd, Nat.reduceLeDiff, Nat.reduceEqDiff, Nat.reduceLT], by simp only [go_sem, ↓reduceIte, Nat.reduceBEq, Nat.reduceAdd, Nat.reduceLeDiff, Nat.reduceEqDiff, Nat.reduceLT], by simp only [go_sem, ↓reduceIte, Nat.reduceBEq, Nat.reduceAdd, Nat.reduceLeDiff, Nat.reduceEqDiff, Nat.reduceLT, hb2]⟩
end Go.Proofs.Ytpnjkebjdclkfaa
