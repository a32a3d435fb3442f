/- Whether a value fits a schema, walked: the document's. Conditions: none. -/
import Derived.Test.YtpnjkebjdclkfaaFit
namespace Go.Proofs.Ytpnjkebjdclkfaa
open Go.RowKit
set_option linter.unusedSimpArgs false
structure RW (v : DVal) (s : DSch) (S : St) (f : Fm) (T : St) (i : Nat) : Prop where
  st : T = fitsSt v s S
  s2 : f 2 = .loc S.next 0
  s3 : f 3 = .loc (S.next + 1) 0
  s5 : f 5 = .v (.int .i64 i)
  le : i ≤ s.words.length
  no : ∀ j (h : j < s.words.length), j < i → s.words[j] ≠ v.s
def RWE (v : DVal) (s : DSch) (S : St) (f : Fm) (T : St) : Prop := ∃ i, RW v s S f T i
structure RN (k : Nat) (v : DVal) (s : DSch) (S : St) (f : Fm) (T : St) (i : Nat) : Prop where
  st : T = fitsSt v s S
  s2 : f 2 = .loc S.next 0
  s3 : f 3 = .loc (S.next + 1) 0
  s6 : f 6 = .v (.int .i64 i)
  le : i ≤ v.names.length
  eq : ∀ j (h : j < v.names.length) (h2 : j < s.words.length), j < i → v.names[j] = s.words[j]
  ok : ∀ j, j < i → fitsV k (v.parts.getD j default) (s.parts.getD (atF s j) default) = true
def RNE (k : Nat) (v : DVal) (s : DSch) (S : St) (f : Fm) (T : St) : Prop := ∃ i, RN k v s S f T i
structure RJ (k : Nat) (v : DVal) (s : DSch) (S : St) (f : Fm) (T : St) : Prop where
  st : T = fitsSt v s S
  s2 : f 2 = .loc S.next 0
  s3 : f 3 = .loc (S.next + 1) 0
  eq : v.names = s.words
  ok : ∀ j, j < v.parts.length → fitsV k (v.parts.getD j default) (s.parts.getD (atF s j) default) = true
structure RP (k : Nat) (v : DVal) (s : DSch) (S : St) (f : Fm) (T : St) (i : Nat) : Prop where
  st : T = fitsSt v s S
  s2 : f 2 = .loc S.next 0
  s3 : f 3 = .loc (S.next + 1) 0
  s7 : f 7 = .v (.int .i64 i)
  le : i ≤ v.parts.length
  ok : ∀ j, j < i → fitsV k (v.parts.getD j default) (s.parts.getD (atF s j) default) = true
def RPE (k : Nat) (v : DVal) (s : DSch) (S : St) (f : Fm) (T : St) : Prop := ∃ i, RP k v s S f T i
set_option maxRecDepth 200000 in
set_option maxHeartbeats 8000000 in
theorem refFits_d (k : Nat) : ∀ (v : DVal) (s : DSch), v.depth ≤ k → okV v → okS s → RV v → RS s → DPure Try.prog 70 [encV v, encS s] (.v (.bool (fitsV k v s))) := by
  induction k with
  | zero => intro v s h; have := v.depth_pos; omega
  | succ k ih =>
    intro v s hk hov hos hv hs
    obtain ⟨o1, o2, o3, o4, o5, o6, o7, o8, o9⟩ := (okV_eq v).1 hov
    obtain ⟨p1, p2, p3, p4, p5⟩ := (okS_eq s).1 hos
    have hvh := hv.here
    have hsh := hs.here
    have hbad : headF v s = (decide (v.kind = s.kind) && ((!decide (v.kind = 4) || decide (v.s ∈ s.words)) && (!decide (v.kind = 5) || decide (v.names = s.words)))) := rfl
    refine dpure_of_dwp mixed Try.func70 rfl (fun _ _ => by kernel_rfl) (rs := [.tmp 4]) rfl (by kernel_rfl) trivial (fun S hS => ?_)
    have hsub : S.Sub (fitsSt v s S) := ((St.Sub.refl S).add hS _).add hS _
    by_cases hk1 : v.kind = s.kind
    · have b1 : (v.kind != s.kind) = false := by simp [hk1]
      by_cases hk4 : v.kind = 4
      · have b4 : (v.kind == 4) = true := by simp [hk4]
        have hb2 : headF v s = decide (v.s ∈ s.words) := by rw [hbad, decide_eq_true hk1, decide_eq_true hk4, decide_eq_false (show ¬ v.kind = 5 by omega)]; simp
        have hp0 : v.parts.length = 0 := by omega
        have hfit : fitsV (k + 1) v s = decide (v.s ∈ s.words) := by rw [fitsV, hb2, hp0]; simp
        simp only [go_sem, ↓reduceIte, Nat.reduceBEq, Nat.reduceAdd, Nat.reduceLeDiff, Nat.reduceEqDiff, Nat.reduceLT, encV_eq v, encS_eq s, b1, b4]
        refine dloop_mk (RWE v s S) (fun f _ => s.words.length - slotN (f 5)) ⟨0, ⟨rfl, by simp only [go_sem, ↓reduceIte, Nat.reduceBEq, Nat.reduceAdd, Nat.reduceLeDiff, Nat.reduceEqDiff, Nat.reduceLT], by simp only [go_sem, ↓reduceIte, Nat.reduceBEq, Nat.reduceAdd, Nat.reduceLeDiff, Nat.reduceEqDiff, Nat.reduceLT], by simp only [go_sem, ↓reduceIte, Nat.reduceBEq, Nat.reduceAdd, Nat.reduceLeDiff, Nat.reduceEqDiff, Nat.reduceLT]; rfl, by omega, fun j _ hj => by omega⟩⟩ ?_
        rintro g T ⟨i, q⟩
        obtain rfl := q.st
        by_cases hlt : i < s.words.length
        · have b2 : decide ((i : Int) < (s.words.length : Int)) = true := by simp; omega
          have hx := getD_map strD s.words i hlt
          have c1 : (0 : Int) ≤ (i : Int) := by omega
          have c2 : (i : Int) < (s.words.length : Int) := by omega
          have w1 : IntKind.i64.wrap ((i : Int) + 1) = (i : Int) + 1 := IntWalk.i64_in _ ⟨by omega, by omega⟩
          simp only [go_sem, ↓reduceIte, Nat.reduceBEq, Nat.reduceAdd, Nat.reduceLeDiff, Nat.reduceEqDiff, Nat.reduceLT, q.s2, q.s3, q.s5, b2, fitsSt]
          refine ddraw_mk 8 (by kernel_rfl) ?_
          simp only [go_sem, ↓reduceIte, Nat.reduceBEq, Nat.reduceAdd, Nat.reduceLeDiff, Nat.reduceEqDiff, Nat.reduceLT, q.s2, q.s3, q.s5, hx, c1, c2]
          by_cases he : s.words[i] = v.s
          · have b3 : (s.words[i] == v.s) = true := by simp [he]
            simp only [go_sem, ↓reduceIte, Nat.reduceBEq, Nat.reduceAdd, Nat.reduceLeDiff, Nat.reduceEqDiff, Nat.reduceLT, b3]
            exact ⟨by rw [hfit, decide_eq_true (show v.s ∈ s.words from he ▸ List.getElem_mem hlt)]; rfl, hsub⟩
          · have b3 : (s.words[i] == v.s) = false := by simp [he]
            simp only [go_sem, ↓reduceIte, Nat.reduceBEq, Nat.reduceAdd, Nat.reduceLeDiff, Nat.reduceEqDiff, Nat.reduceLT, b3, q.s5, w1]
            exact round_end ⟨i + 1, ⟨rfl, by simp only [go_sem, ↓reduceIte, Nat.reduceBEq, Nat.reduceAdd, Nat.reduceLeDiff, Nat.reduceEqDiff, Nat.reduceLT, q.s2], by simp only [go_sem, ↓reduceIte, Nat.reduceBEq, Nat.reduceAdd, Nat.reduceLeDiff, Nat.reduceEqDiff, Nat.reduceLT, q.s3], by simp only [go_sem, ↓reduceIte, Nat.reduceBEq, Nat.reduceAdd, Nat.reduceLeDiff, Nat.reduceEqDiff, Nat.reduceLT]; rfl, by omega, fun j hj hji => by
              by_cases e : j = i
              · subst e; exact he
              · exact q.no j hj (by omega)⟩⟩ (by simp only [go_sem, ↓reduceIte, Nat.reduceBEq, Nat.reduceAdd, Nat.reduceLeDiff, Nat.reduceEqDiff, Nat.reduceLT]; omega)
        · have b2 : decide ((i : Int) < (s.words.length : Int)) = false := by simp; omega
          simp only [go_sem, ↓reduceIte, Nat.reduceBEq, Nat.reduceAdd, Nat.reduceLeDiff, Nat.reduceEqDiff, Nat.reduceLT, q.s2, q.s3, q.s5, b2, fitsSt]
          exact ⟨by rw [hfit, decide_eq_false (fun hm => by
            obtain ⟨j, hj, e⟩ := List.getElem_of_mem hm
            exact q.no j hj (by omega) e)]; rfl, hsub⟩
      · have b4 : (v.kind == 4) = false := by simp [hk4]
        by_cases hk5 : v.kind = 5
        · have b5 : (v.kind == 5) = true := by simp [hk5]
          have b6 : (v.kind == 6) = false := by simp [hk5]
          have hb2 : headF v s = decide (v.names = s.words) := by rw [hbad, decide_eq_true hk1, decide_eq_false hk4, decide_eq_true hk5]; simp
          have hpl : v.parts.length = v.names.length := by omega
          have hsl : s.parts.length = s.words.length := hsh.1 (by omega)
          have ha : ∀ j, atF s j = j := fun j => by unfold atF; rw [if_neg (by omega)]
          by_cases hnl : v.names.length = s.words.length
          · have b7 : ((v.names.length : Int) != (s.words.length : Int)) = false := by simp [hnl]
            simp only [go_sem, ↓reduceIte, Nat.reduceBEq, Nat.reduceAdd, Nat.reduceLeDiff, Nat.reduceEqDiff, Nat.reduceLT, encV_eq v, encS_eq s, b1, b4, b5, b7]
            refine loop_cut (RJ k v s S) ?_ ?_
            · refine dloop_mk (RNE k v s S) (fun f _ => v.names.length - slotN (f 6)) ⟨0, ⟨rfl, by simp only [go_sem, ↓reduceIte, Nat.reduceBEq, Nat.reduceAdd, Nat.reduceLeDiff, Nat.reduceEqDiff, Nat.reduceLT], by simp only [go_sem, ↓reduceIte, Nat.reduceBEq, Nat.reduceAdd, Nat.reduceLeDiff, Nat.reduceEqDiff, Nat.reduceLT], by simp only [go_sem, ↓reduceIte, Nat.reduceBEq, Nat.reduceAdd, Nat.reduceLeDiff, Nat.reduceEqDiff, Nat.reduceLT]; rfl, by omega, fun j _ _ hj => by omega, fun j hj => by omega⟩⟩ ?_
              rintro g T ⟨i, q⟩
              obtain rfl := q.st
              by_cases hlt : i < v.names.length
              · have b2 : decide ((i : Int) < (v.names.length : Int)) = true := by simp; omega
                have hlw : i < s.words.length := by omega
                have hlp : i < v.parts.length := by omega
                have hls : i < s.parts.length := by omega
                have hx1 := getD_map strD v.names i hlt
                have hx2 := getD_map strD s.words i hlw
                have hx3 := getD_map encV v.parts i hlp
                have hx4 := getD_map encS s.parts i hls
                have c0 : (0 : Int) ≤ (i : Int) := by omega
                have c1 : (i : Int) < (v.names.length : Int) := by omega
                have c2 : (i : Int) < (s.words.length : Int) := by omega
                have c3 : (i : Int) < (v.parts.length : Int) := by omega
                have c4 : (i : Int) < (s.parts.length : Int) := by omega
                have w1 : IntKind.i64.wrap ((i : Int) + 1) = (i : Int) + 1 := IntWalk.i64_in _ ⟨by omega, by omega⟩
                have hd := DVal.depth_part (List.getElem_mem hlp)
                have hat : fitsV k (v.parts.getD i default) (s.parts.getD (atF s i) default) = fitsV k v.parts[i] s.parts[i] := by rw [ha, getD_at hlp, getD_at hls]
                have hcall := ih v.parts[i] s.parts[i] (by omega) (o9 _ (List.getElem_mem hlp)) (p5 _ (List.getElem_mem hls)) (hv.part (List.getElem_mem hlp)) (hs.part (List.getElem_mem hls))
                simp only [go_sem, ↓reduceIte, Nat.reduceBEq, Nat.reduceAdd, Nat.reduceLeDiff, Nat.reduceEqDiff, Nat.reduceLT, q.s2, q.s3, q.s6, b2, fitsSt]
                refine ddraw_mk 25 (by kernel_rfl) ?_
                by_cases he : v.names[i] = s.words[i]
                · have b3 : (v.names[i] == s.words[i]) = true := by simp [he]
                  simp only [go_sem, ↓reduceIte, Nat.reduceBEq, Nat.reduceAdd, Nat.reduceLeDiff, Nat.reduceEqDiff, Nat.reduceLT, q.s2, q.s3, q.s6, hx1, hx2, hx3, hx4, c0, c1, c2, c3, c4, b3]
                  refine dqgo_mk hcall ?_
                  cases hf : fitsV k v.parts[i] s.parts[i] with
                  | false =>
                    simp only [go_sem, ↓reduceIte, Nat.reduceBEq, Nat.reduceAdd, Nat.reduceLeDiff, Nat.reduceEqDiff, Nat.reduceLT, hf]
                    exact ⟨by rw [show fitsV (k + 1) v s = false by
                      simp only [fitsV]
                      rw [all_not (p := fun i => fitsV k (v.parts.getD i default) (s.parts.getD (atF s i) default)) hlp (by rw [hat]; exact hf), Bool.and_false]]; rfl, hsub⟩
                  | true =>
                    simp only [go_sem, ↓reduceIte, Nat.reduceBEq, Nat.reduceAdd, Nat.reduceLeDiff, Nat.reduceEqDiff, Nat.reduceLT, hf, q.s6, w1]
                    exact round_end ⟨i + 1, ⟨rfl, by simp only [go_sem, ↓reduceIte, Nat.reduceBEq, Nat.reduceAdd, Nat.reduceLeDiff, Nat.reduceEqDiff, Nat.reduceLT, q.s2], by simp only [go_sem, ↓reduceIte, Nat.reduceBEq, Nat.reduceAdd, Nat.reduceLeDiff, Nat.reduceEqDiff, Nat.reduceLT, q.s3], by simp only [go_sem, ↓reduceIte, Nat.reduceBEq, Nat.reduceAdd, Nat.reduceLeDiff, Nat.reduceEqDiff, Nat.reduceLT]; rfl, by omega, fun j hj hj2 hji => by
                      by_cases e : j = i
                      · subst e; exact he
                      · exact q.eq j hj hj2 (by omega), fun j hji => by
                      by_cases e : j = i
                      · rw [e, hat]; exact hf
                      · exact q.ok j (by omega)⟩⟩ (by simp only [go_sem, ↓reduceIte, Nat.reduceBEq, Nat.reduceAdd, Nat.reduceLeDiff, Nat.reduceEqDiff, Nat.reduceLT]; omega)
                · have b3 : (v.names[i] == s.words[i]) = false := by simp [he]
                  simp only [go_sem, ↓reduceIte, Nat.reduceBEq, Nat.reduceAdd, Nat.reduceLeDiff, Nat.reduceEqDiff, Nat.reduceLT, q.s2, q.s3, q.s6, hx1, hx2, hx3, hx4, c0, c1, c2, c3, c4, b3]
                  exact ⟨by rw [show fitsV (k + 1) v s = false by
                    simp only [fitsV]
                    rw [hb2, decide_eq_false (fun e => he (by simp only [e])), Bool.false_and]]; rfl, hsub⟩
              · have b2 : decide ((i : Int) < (v.names.length : Int)) = false := by simp; omega
                simp only [go_sem, ↓reduceIte, Nat.reduceBEq, Nat.reduceAdd, Nat.reduceLeDiff, Nat.reduceEqDiff, Nat.reduceLT, q.s2, q.s3, q.s6, b2, fitsSt]
                exact ⟨rfl, by simp only [go_sem, ↓reduceIte, Nat.reduceBEq, Nat.reduceAdd, Nat.reduceLeDiff, Nat.reduceEqDiff, Nat.reduceLT, q.s2], by simp only [go_sem, ↓reduceIte, Nat.reduceBEq, Nat.reduceAdd, Nat.reduceLeDiff, Nat.reduceEqDiff, Nat.reduceLT, q.s3], List.ext_getElem hnl fun j h1 h2 => q.eq j h1 h2 (by omega), fun j hj => q.ok j (by omega)⟩
            · intro f T h
              obtain rfl := h.st
              simp only [go_sem, ↓reduceIte, Nat.reduceBEq, Nat.reduceAdd, Nat.reduceLeDiff, Nat.reduceEqDiff, Nat.reduceLT, h.s2, h.s3, b6, fitsSt]
              exact ⟨by rw [show fitsV (k + 1) v s = true by
                simp only [fitsV]
                rw [hb2, decide_eq_true h.eq, Bool.true_and]
                exact all_of fun j hj => h.ok j hj]; rfl, hsub⟩
          · have b7 : ((v.names.length : Int) != (s.words.length : Int)) = true := by simp; omega
            simp only [go_sem, ↓reduceIte, Nat.reduceBEq, Nat.reduceAdd, Nat.reduceLeDiff, Nat.reduceEqDiff, Nat.reduceLT, encV_eq v, encS_eq s, b1, b4, b5, b7]
            exact ⟨by rw [show fitsV (k + 1) v s = false by
              simp only [fitsV]
              rw [hb2, decide_eq_false (fun e => hnl (by rw [e])), Bool.false_and]]; rfl, hsub⟩
        · have b5 : (v.kind == 5) = false := by simp [hk5]
          have hb2 : headF v s = true := by rw [hbad, decide_eq_true hk1, decide_eq_false hk4, decide_eq_false hk5]; simp
          by_cases hk6 : v.kind = 6
          · have b6 : (v.kind == 6) = true := by simp [hk6]
            have hsl : s.parts.length = 1 := hsh.2 (by omega)
            have ha : ∀ j, atF s j = 0 := fun j => by unfold atF; rw [if_pos (by omega)]
            simp only [go_sem, ↓reduceIte, Nat.reduceBEq, Nat.reduceAdd, Nat.reduceLeDiff, Nat.reduceEqDiff, Nat.reduceLT, encV_eq v, encS_eq s, b1, b4, b5, b6]
            refine dloop_mk (RPE k v s S) (fun f _ => v.parts.length - slotN (f 7)) ⟨0, ⟨rfl, by simp only [go_sem, ↓reduceIte, Nat.reduceBEq, Nat.reduceAdd, Nat.reduceLeDiff, Nat.reduceEqDiff, Nat.reduceLT], by simp only [go_sem, ↓reduceIte, Nat.reduceBEq, Nat.reduceAdd, Nat.reduceLeDiff, Nat.reduceEqDiff, Nat.reduceLT], by simp only [go_sem, ↓reduceIte, Nat.reduceBEq, Nat.reduceAdd, Nat.reduceLeDiff, Nat.reduceEqDiff, Nat.reduceLT]; rfl, by omega, fun j hj => by omega⟩⟩ ?_
            rintro g T ⟨i, q⟩
            obtain rfl := q.st
            by_cases hlt : i < v.parts.length
            · have b2 : decide ((i : Int) < (v.parts.length : Int)) = true := by simp; omega
              have hls : 0 < s.parts.length := by omega
              have hx3 := getD_map encV v.parts i hlt
              have hx4 := getD_map encS s.parts 0 hls
              have c0 : (0 : Int) ≤ (i : Int) := by omega
              have c3 : (i : Int) < (v.parts.length : Int) := by omega
              have c4 : (0 : Int) < (s.parts.length : Int) := by omega
              have c5 : (0 : Int) ≤ 0 := Int.le_refl _
              have w1 : IntKind.i64.wrap ((i : Int) + 1) = (i : Int) + 1 := IntWalk.i64_in _ ⟨by omega, by omega⟩
              have hd := DVal.depth_part (List.getElem_mem hlt)
              have hat : fitsV k (v.parts.getD i default) (s.parts.getD (atF s i) default) = fitsV k v.parts[i] s.parts[0] := by rw [ha, getD_at hlt, getD_at hls]
              have hcall := ih v.parts[i] s.parts[0] (by omega) (o9 _ (List.getElem_mem hlt)) (p5 _ (List.getElem_mem hls)) (hv.part (List.getElem_mem hlt)) (hs.part (List.getElem_mem hls))
              simp only [go_sem, ↓reduceIte, Nat.reduceBEq, Nat.reduceAdd, Nat.reduceLeDiff, Nat.reduceEqDiff, Nat.reduceLT, q.s2, q.s3, q.s7, b2, fitsSt]
              refine ddraw_mk 11 (by kernel_rfl) ?_
              simp only [go_sem, ↓reduceIte, Nat.reduceBEq, Nat.reduceAdd, Nat.reduceLeDiff, Nat.reduceEqDiff, Nat.reduceLT, q.s2, q.s3, q.s7, hx3, hx4, c0, c3, c4, c5, Int.toNat_zero]
              refine dqgo_mk hcall ?_
              cases hf : fitsV k v.parts[i] s.parts[0] with
              | false =>
                simp only [go_sem, ↓reduceIte, Nat.reduceBEq, Nat.reduceAdd, Nat.reduceLeDiff, Nat.reduceEqDiff, Nat.reduceLT, hf]
                exact ⟨by rw [show fitsV (k + 1) v s = false by
                  simp only [fitsV]
                  rw [all_not (p := fun i => fitsV k (v.parts.getD i default) (s.parts.getD (atF s i) default)) hlt (by rw [hat]; exact hf), Bool.and_false]]; rfl, hsub⟩
              | true =>
                simp only [go_sem, ↓reduceIte, Nat.reduceBEq, Nat.reduceAdd, Nat.reduceLeDiff, Nat.reduceEqDiff, Nat.reduceLT, hf, q.s7, w1]
                exact round_end ⟨i + 1, ⟨rfl, by simp only [go_sem, ↓reduceIte, Nat.reduceBEq, Nat.reduceAdd, Nat.reduceLeDiff, Nat.reduceEqDiff, Nat.reduceLT, q.s2], by simp only [go_sem, ↓reduceIte, Nat.reduceBEq, Nat.reduceAdd, Nat.reduceLeDiff, Nat.reduceEqDiff, Nat.reduceLT, q.s3], by simp only [go_sem, ↓reduceIte, Nat.reduceBEq, Nat.reduceAdd, Nat.reduceLeDiff, Nat.reduceEqDiff, Nat.reduceLT]; rfl, by omega, fun j hji => by
                  by_cases e : j = i
                  · rw [e, hat]; exact hf
                  · exact q.ok j (by omega)⟩⟩ (by simp only [go_sem, ↓reduceIte, Nat.reduceBEq, Nat.reduceAdd, Nat.reduceLeDiff, Nat.reduceEqDiff, Nat.reduceLT]; omega)
            · have b2 : decide ((i : Int) < (v.parts.length : Int)) = false := by simp; omega
              simp only [go_sem, ↓reduceIte, Nat.reduceBEq, Nat.reduceAdd, Nat.reduceLeDiff, Nat.reduceEqDiff, Nat.reduceLT, q.s2, q.s3, q.s7, b2, fitsSt]
              exact ⟨by rw [show fitsV (k + 1) v s = true by
                simp only [fitsV]
                rw [hb2, Bool.true_and]
                exact all_of fun j hj => q.ok j (by omega)]; rfl, hsub⟩
          · have b6 : (v.kind == 6) = false := by simp [hk6]
            have hp0 : v.parts.length = 0 := by omega
            simp only [go_sem, ↓reduceIte, Nat.reduceBEq, Nat.reduceAdd, Nat.reduceLeDiff, Nat.reduceEqDiff, Nat.reduceLT, encV_eq v, encS_eq s, b1, b4, b5, b6]
            exact ⟨by rw [show fitsV (k + 1) v s = true by simp only [fitsV]; rw [hb2, hp0]; rfl]; rfl, hsub⟩
    · have b1 : (v.kind != s.kind) = true := by simp [hk1]
      have hb2 : headF v s = false := by rw [hbad, decide_eq_false hk1]; rfl
      simp only [go_sem, ↓reduceIte, Nat.reduceBEq, Nat.reduceAdd, Nat.reduceLeDiff, Nat.reduceEqDiff, Nat.reduceLT, encV_eq v, encS_eq s, b1]
      exact ⟨by rw [show fitsV (k + 1) v s = false by simp only [fitsV]; rw [hb2]; rfl]; rfl, hsub⟩
end Go.Proofs.Ytpnjkebjdclkfaa
