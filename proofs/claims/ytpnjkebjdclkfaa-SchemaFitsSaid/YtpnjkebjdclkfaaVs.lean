/- Values over trees: the document's own 'sound'. Conditions: none. -/
import Derived.Test.YtpnjkebjdclkfaaTl
import Derived.Test.YtpnjkebjdclkfaaTypes
import Derived.Test.YtpnjkebjdclkfaaValG
import Derived.Test.YtpnjkebjdclkfaaValC
namespace Go.Proofs.Ytpnjkebjdclkfaa
open Go.RowKit
set_option linter.unusedSimpArgs false

/-- What is not there with this kind: a number, a text, names, marks. -/
def bad1 (kd num : Int) (xl nn ni : Nat) : Prop := kd < 1 ∨ 6 < kd ∨ (kd ≠ 1 ∧ kd ≠ 2 ∧ num ≠ 0) ∨ (kd ≠ 3 ∧ kd ≠ 4 ∧ 0 < xl) ∨ (kd ≠ 5 ∧ 0 < nn) ∨ (kd ≠ 6 ∧ 0 < ni)
instance (kd num : Int) (xl nn ni : Nat) : Decidable (bad1 kd num xl nn ni) := by unfold bad1; exact inferInstance
/-- What is too great, or no name, or too many. -/
def bad2 (kd num : Int) (xl nn ni np : Nat) (bn : Bool) : Prop := (kd = 1 ∧ num ≠ 0 ∧ num ≠ 1) ∨ (kd = 3 ∧ 64 < xl) ∨ (kd = 4 ∧ bn = false) ∨ 8 < nn ∨ 12 < ni ∨ np ≠ nn + ni
instance (kd num : Int) (xl nn ni np : Nat) (bn : Bool) : Decidable (bad2 kd num xl nn ni np bn) := by unfold bad2; exact inferInstance
def hereV (v : DVal) : Bool := (!decide (bad1 v.kind v.n v.s.length v.names.length v.ids.length) && !decide (bad2 v.kind v.n v.s.length v.names.length v.ids.length v.parts.length (nameB v.s))) && ((List.range v.names.length).all (riseOk v.names) && (List.range v.ids.length).all (idOk v.ids))
def soundV : Nat → DVal → Bool
  | 0, _ => true
  | k + 1, v => hereV v && v.parts.all (soundV k)
def soundSt (v : DVal) (S : St) : St := S.add (.box 31 [.v (.int .i64 v.kind), .v (.int .i64 v.n), strD v.s, .sl .no (v.names.map strD), .sl .no (v.ids.map u64D), .sl .no (v.parts.map encV)])
theorem refName_d (s : Str) (hs : s.length ≤ maxLen) : DPure Try.prog 87 [.v (sv s)] (.v (.bool (nameB s))) :=
  dpure_of_gives (fun _ _ => by kernel_rfl) fun w η X vs hr => by
    simp only [RepL, Rep] at hr
    obtain ⟨x, xs, rfl, rfl, rfl⟩ := hr
    exact (refName_calls s w hs).mono fun e w' ⟨he, hw⟩ => ⟨he, hw ▸ Below.refl _ _⟩
theorem all_not {l : Nat} {p : Nat → Bool} {i : Nat} (h : i < l) (hp : p i = false) : (List.range l).all p = false := List.all_eq_false.2 ⟨i, List.mem_range.2 h, by simp [hp]⟩
theorem all_of {l : Nat} {p : Nat → Bool} (h : ∀ j, j < l → p j = true) : (List.range l).all p = true := List.all_eq_true.2 fun j hj => h j (List.mem_range.1 hj)
theorem getD_at {α : Type} {l : List α} {i : Nat} {d : α} (h : i < l.length) : l.getD i d = l[i] := by simp [List.getD, h]
theorem leq_not (x y : Str) : (Op.bytesLess x y || x == y) = !sLt y x := by
  have h1 := sLt_iff x y
  have h2 := sLt_iff y x
  rw [show Op.bytesLess x y = sLt x y from rfl, h1, h2, Bool.eq_iff_iff]
  simp only [Bool.or_eq_true, decide_eq_true_eq, beq_iff_eq, Bool.not_eq_true', decide_eq_false_iff_not, List.not_lt]
  constructor
  · rintro (h | h)
    · exact List.le_of_lt h
    · rw [h]; exact List.le_refl y
  · intro h
    by_cases e : x = y
    · exact .inr e
    · exact .inl (Classical.byContradiction fun hn => e (List.le_antisymm h (List.not_lt.1 hn)))
structure LNames (v : DVal) (S : St) (f : Fm) (T : St) (i : Nat) : Prop where
  st : T = soundSt v S
  s1 : f 1 = .loc S.next 0
  s4 : f 4 = .v (.int .i64 i)
  le : i ≤ v.names.length
  ok : ∀ j, j < i → riseOk v.names j = true
def LNamesE (v : DVal) (S : St) (f : Fm) (T : St) : Prop := ∃ i, LNames v S f T i
structure JNames (v : DVal) (S : St) (f : Fm) (T : St) : Prop where
  st : T = soundSt v S
  s1 : f 1 = .loc S.next 0
  ok : (List.range v.names.length).all (riseOk v.names) = true
structure LIds (v : DVal) (S : St) (f : Fm) (T : St) (i : Nat) : Prop where
  st : T = soundSt v S
  s1 : f 1 = .loc S.next 0
  s5 : f 5 = .v (.int .i64 i)
  le : i ≤ v.ids.length
  ok : ∀ j, j < i → idOk v.ids j = true
def LIdsE (v : DVal) (S : St) (f : Fm) (T : St) : Prop := ∃ i, LIds v S f T i
structure LIn (v : DVal) (S : St) (i : Nat) (f : Fm) (T : St) (j : Nat) : Prop where
  st : T = soundSt v S
  s1 : f 1 = .loc S.next 0
  s5 : f 5 = .v (.int .i64 i)
  s6 : f 6 = .v (.int .i64 j)
  le : j ≤ i
  no : ∀ r, r < j → v.ids.getD r 0 ≠ v.ids.getD i 0
def LInE (v : DVal) (S : St) (i : Nat) (f : Fm) (T : St) : Prop := ∃ j, LIn v S i f T j
structure JIds (v : DVal) (S : St) (f : Fm) (T : St) : Prop where
  st : T = soundSt v S
  s1 : f 1 = .loc S.next 0
  ok : (List.range v.ids.length).all (idOk v.ids) = true
structure LParts (v : DVal) (k : Nat) (S : St) (f : Fm) (T : St) (i : Nat) : Prop where
  st : T = soundSt v S
  s1 : f 1 = .loc S.next 0
  s7 : f 7 = .v (.int .i64 i)
  le : i ≤ v.parts.length
  ok : ∀ j (h : j < v.parts.length), j < i → soundV k v.parts[j] = true
def LPartsE (v : DVal) (k : Nat) (S : St) (f : Fm) (T : St) : Prop := ∃ i, LParts v k S f T i
theorem mem_take_iff (l : List Nat) (i : Nat) (x : Nat) (hi : i ≤ l.length) : x ∈ l.take i ↔ ∃ r, r < i ∧ l.getD r 0 = x := by
  rw [List.mem_take_iff_getElem]
  constructor
  · rintro ⟨r, hr, e⟩
    exact ⟨r, by omega, by rw [getD_at (by omega)]; exact e⟩
  · rintro ⟨r, hr, e⟩
    exact ⟨r, by omega, by rw [getD_at (by omega)] at e; exact e⟩
structure Cut2 (v : DVal) (S : St) (f : Fm) (T : St) : Prop where
  st : T = soundSt v S
  s1 : f 1 = .loc S.next 0
  s118 : f 118 = .v (.bool (decide (bad2 v.kind v.n v.s.length v.names.length v.ids.length v.parts.length (nameB v.s))))
structure Cut1 (v : DVal) (S : St) (f : Fm) (T : St) : Prop where
  st : T = soundSt v S
  s1 : f 1 = .loc S.next 0
  s3 : f 3 = .v (.int .i64 v.kind)
  s61 : f 61 = .v (.bool (decide (bad1 v.kind v.n v.s.length v.names.length v.ids.length)))
set_option maxRecDepth 200000 in
set_option maxHeartbeats 8000000 in
theorem refSoundV_d (k : Nat) : ∀ (v : DVal), v.depth ≤ k → okV v → DPure Try.prog 66 [encV v] (.v (.bool (soundV k v))) := by
  induction k with
  | zero => intro v h; have := v.depth_pos; omega
  | succ k ih =>
    intro v hk hok
    refine dpure_of_dwp mixed Try.func66 rfl (fun _ _ => by kernel_rfl) (rs := [.tmp 2]) rfl (by kernel_rfl) trivial (fun S hS => ?_)
    simp only [go_sem, ↓reduceIte, Nat.reduceBEq, Nat.reduceAdd, Nat.reduceLeDiff, Nat.reduceEqDiff, Nat.reduceLT, encV_eq v]
    refine cut_guard (Cut1 v S) rfl ?_ ?_
    · intro f T h
      obtain rfl := h.st
      cases hb1 : decide (bad1 v.kind v.n v.s.length v.names.length v.ids.length) with
      | true =>
        have hr : soundV (k + 1) v = false := by simp only [soundV, hereV, hb1]; rfl
        simp only [go_sem, ↓reduceIte, Nat.reduceBEq, Nat.reduceAdd, Nat.reduceLeDiff, Nat.reduceEqDiff, Nat.reduceLT, h.s61, hb1]
        exact ⟨by rw [hr]; rfl, (St.Sub.refl S).add hS _⟩
      | false =>
        have hgood : ¬ bad1 v.kind v.n v.s.length v.names.length v.ids.length := of_decide_eq_false hb1
        simp only [go_sem, ↓reduceIte, Nat.reduceBEq, Nat.reduceAdd, Nat.reduceLeDiff, Nat.reduceEqDiff, Nat.reduceLT, h.s61, h.s1, h.s3, hb1, soundSt]
        obtain ⟨o1, o2, o3, o4, o5, o6, o7, o8, o9⟩ := (okV_eq v).1 hok
        refine cut_guard (Cut2 v S) rfl ?_ ?_
        · intro f2 T2 h2
          obtain rfl := h2.st
          cases hb2 : decide (bad2 v.kind v.n v.s.length v.names.length v.ids.length v.parts.length (nameB v.s)) with
          | true =>
            have hr : soundV (k + 1) v = false := by simp only [soundV, hereV, hb1, hb2]; rfl
            simp only [go_sem, ↓reduceIte, Nat.reduceBEq, Nat.reduceAdd, Nat.reduceLeDiff, Nat.reduceEqDiff, Nat.reduceLT, h2.s118, hb2]
            exact ⟨by rw [hr]; rfl, (St.Sub.refl S).add hS _⟩
          | false =>
            have hok2 : ¬ bad2 v.kind v.n v.s.length v.names.length v.ids.length v.parts.length (nameB v.s) := of_decide_eq_false hb2
            simp only [go_sem, ↓reduceIte, Nat.reduceBEq, Nat.reduceAdd, Nat.reduceLeDiff, Nat.reduceEqDiff, Nat.reduceLT, h2.s118, h2.s1, hb2, soundSt]
            refine loop_cut (JNames v S) ?_ ?_
            · refine dloop_mk (LNamesE v S) (fun f _ => v.names.length - slotN (f 4)) ⟨0, ⟨rfl, by simp only [go_sem, ↓reduceIte, Nat.reduceBEq, Nat.reduceAdd, Nat.reduceLeDiff, Nat.reduceEqDiff, Nat.reduceLT, h2.s1], by simp only [go_sem, ↓reduceIte, Nat.reduceBEq, Nat.reduceAdd, Nat.reduceLeDiff, Nat.reduceEqDiff, Nat.reduceLT]; rfl, by omega, fun j hj => by omega⟩⟩ ?_
              rintro g T ⟨i, q⟩
              obtain rfl := q.st
              by_cases hlt : i < v.names.length
              · have b1 : decide ((i : Int) < (v.names.length : Int)) = true := by simp; omega
                have hx := getD_map strD v.names i hlt
                have c1 : (0 : Int) ≤ (i : Int) := by omega
                have c2 : (i : Int) < (v.names.length : Int) := by omega
                simp only [go_sem, ↓reduceIte, Nat.reduceBEq, Nat.reduceAdd, Nat.reduceLeDiff, Nat.reduceEqDiff, Nat.reduceLT, q.s1, q.s4, b1, soundSt]
                refine ddraw_mk 25 (by kernel_rfl) ?_
                simp only [go_sem, ↓reduceIte, Nat.reduceBEq, Nat.reduceAdd, Nat.reduceLeDiff, Nat.reduceEqDiff, Nat.reduceLT, q.s1, q.s4, hx, c1, c2]
                refine dqgo_mk (refName_d v.names[i] (o4 _ (List.getElem_mem hlt))) ?_
                have w1 : IntKind.i64.wrap ((i : Int) + 1) = (i : Int) + 1 := IntWalk.i64_in _ ⟨by omega, by omega⟩
                have bad : riseOk v.names i = false → soundV (k + 1) v = false := fun hh => by
                  simp only [soundV, hereV, all_not (p := riseOk v.names) hlt hh, Bool.false_and, Bool.and_false]
                have hri : riseOk v.names i = (nameB v.names[i] && (decide (i = 0) || sLt (v.names.getD (i - 1) []) v.names[i])) := by rw [riseOk, getD_at hlt]
                have next : riseOk v.names i = true → ∀ j, j < i + 1 → riseOk v.names j = true := fun hh j hj => by
                  by_cases e : j = i
                  · rw [e]; exact hh
                  · exact q.ok j (by omega)
                cases hn : nameB v.names[i] with
                | false =>
                  simp only [go_sem, ↓reduceIte, Nat.reduceBEq, Nat.reduceAdd, Nat.reduceLeDiff, Nat.reduceEqDiff, Nat.reduceLT, q.s1, q.s4, hx, c1, c2, hn]
                  exact ⟨by rw [bad (by rw [hri, hn]; rfl)]; rfl, (St.Sub.refl S).add hS _⟩
                | true =>
                  by_cases hi0 : i = 0
                  · have b3 : decide ((0 : Int) < (i : Int)) = false := by simp [hi0]
                    simp only [go_sem, ↓reduceIte, Nat.reduceBEq, Nat.reduceAdd, Nat.reduceLeDiff, Nat.reduceEqDiff, Nat.reduceLT, q.s1, q.s4, hx, c1, c2, hn, b3, w1]
                    exact round_end ⟨i + 1, ⟨rfl, by simp only [go_sem, ↓reduceIte, Nat.reduceBEq, Nat.reduceAdd, Nat.reduceLeDiff, Nat.reduceEqDiff, Nat.reduceLT, q.s1], by simp only [go_sem, ↓reduceIte, Nat.reduceBEq, Nat.reduceAdd, Nat.reduceLeDiff, Nat.reduceEqDiff, Nat.reduceLT]; rfl, by omega, next (by rw [hri, hn, decide_eq_true hi0]; rfl)⟩⟩ (by simp only [go_sem, ↓reduceIte, Nat.reduceBEq, Nat.reduceAdd, Nat.reduceLeDiff, Nat.reduceEqDiff, Nat.reduceLT]; omega)
                  · have b3 : decide ((0 : Int) < (i : Int)) = true := by simp; omega
                    have w2 : IntKind.i64.wrap ((i : Int) - 1) = (i : Int) - 1 := IntWalk.i64_in _ ⟨by omega, by omega⟩
                    have n2 : ((i : Int) - 1).toNat = i - 1 := by omega
                    have hx2 := getD_map strD v.names (i - 1) (by omega)
                    have hx3 : v.names.getD (i - 1) [] = v.names[i - 1] := getD_at (by omega)
                    have c3 : (0 : Int) ≤ (i : Int) - 1 := by omega
                    have c4 : (i : Int) - 1 < (v.names.length : Int) := by omega
                    simp only [go_sem, ↓reduceIte, Nat.reduceBEq, Nat.reduceAdd, Nat.reduceLeDiff, Nat.reduceEqDiff, Nat.reduceLT, q.s1, q.s4, hx, c1, c2, hn, b3, w1, w2, n2, hx2, c3, c4, leq_not]
                    cases hs : sLt v.names[i - 1] v.names[i] with
                    | false =>
                      simp only [go_sem, ↓reduceIte, Nat.reduceBEq, Nat.reduceAdd, Nat.reduceLeDiff, Nat.reduceEqDiff, Nat.reduceLT, hs]
                      exact ⟨by rw [bad (by rw [hri, hn, hx3, hs, decide_eq_false hi0]; rfl)]; rfl, (St.Sub.refl S).add hS _⟩
                    | true =>
                      simp only [go_sem, ↓reduceIte, Nat.reduceBEq, Nat.reduceAdd, Nat.reduceLeDiff, Nat.reduceEqDiff, Nat.reduceLT, hs, q.s1, q.s4, w1]
                      exact round_end ⟨i + 1, ⟨rfl, by simp only [go_sem, ↓reduceIte, Nat.reduceBEq, Nat.reduceAdd, Nat.reduceLeDiff, Nat.reduceEqDiff, Nat.reduceLT, q.s1], by simp only [go_sem, ↓reduceIte, Nat.reduceBEq, Nat.reduceAdd, Nat.reduceLeDiff, Nat.reduceEqDiff, Nat.reduceLT]; rfl, by omega, next (by rw [hri, hn, hx3, hs, Bool.or_true]; rfl)⟩⟩ (by simp only [go_sem, ↓reduceIte, Nat.reduceBEq, Nat.reduceAdd, Nat.reduceLeDiff, Nat.reduceEqDiff, Nat.reduceLT]; omega)
              · have b1 : decide ((i : Int) < (v.names.length : Int)) = false := by simp; omega
                simp only [go_sem, ↓reduceIte, Nat.reduceBEq, Nat.reduceAdd, Nat.reduceLeDiff, Nat.reduceEqDiff, Nat.reduceLT, q.s1, q.s4, b1, soundSt]
                exact ⟨rfl, by simp only [go_sem, ↓reduceIte, Nat.reduceBEq, Nat.reduceAdd, Nat.reduceLeDiff, Nat.reduceEqDiff, Nat.reduceLT, q.s1], all_of fun j hj => q.ok j (by omega)⟩
            · intro f3 T3 h3
              obtain rfl := h3.st
              simp only [go_sem, ↓reduceIte, Nat.reduceBEq, Nat.reduceAdd, Nat.reduceLeDiff, Nat.reduceEqDiff, Nat.reduceLT, h3.s1, soundSt]
              refine loop_cut (JIds v S) ?_ ?_
              · refine dloop_mk (LIdsE v S) (fun f _ => v.ids.length - slotN (f 5)) ⟨0, ⟨rfl, by simp only [go_sem, ↓reduceIte, Nat.reduceBEq, Nat.reduceAdd, Nat.reduceLeDiff, Nat.reduceEqDiff, Nat.reduceLT, h3.s1], by simp only [go_sem, ↓reduceIte, Nat.reduceBEq, Nat.reduceAdd, Nat.reduceLeDiff, Nat.reduceEqDiff, Nat.reduceLT]; rfl, by omega, fun j hj => by omega⟩⟩ ?_
                rintro g T ⟨i, q⟩
                obtain rfl := q.st
                by_cases hlt : i < v.ids.length
                · have b1 : decide ((i : Int) < (v.ids.length : Int)) = true := by simp; omega
                  have hx := getD_map u64D v.ids i hlt
                  have c1 : (0 : Int) ≤ (i : Int) := by omega
                  have c2 : (i : Int) < (v.ids.length : Int) := by omega
                  have w1 : IntKind.i64.wrap ((i : Int) + 1) = (i : Int) + 1 := IntWalk.i64_in _ ⟨by omega, by omega⟩
                  have bad : idOk v.ids i = false → soundV (k + 1) v = false := fun hh => by
                    simp only [soundV, hereV, all_not (p := idOk v.ids) hlt hh, Bool.false_and, Bool.and_false]
                  simp only [go_sem, ↓reduceIte, Nat.reduceBEq, Nat.reduceAdd, Nat.reduceLeDiff, Nat.reduceEqDiff, Nat.reduceLT, q.s1, q.s5, b1, soundSt]
                  refine loop_cut (LIn v S i · · i) ?_ ?_
                  · refine dloop_mk (LInE v S i) (fun f _ => i - slotN (f 6)) ⟨0, ⟨rfl, by simp only [go_sem, ↓reduceIte, Nat.reduceBEq, Nat.reduceAdd, Nat.reduceLeDiff, Nat.reduceEqDiff, Nat.reduceLT, q.s1], by simp only [go_sem, ↓reduceIte, Nat.reduceBEq, Nat.reduceAdd, Nat.reduceLeDiff, Nat.reduceEqDiff, Nat.reduceLT, q.s5], by simp only [go_sem, ↓reduceIte, Nat.reduceBEq, Nat.reduceAdd, Nat.reduceLeDiff, Nat.reduceEqDiff, Nat.reduceLT]; rfl, by omega, fun j hj => by omega⟩⟩ ?_
                    rintro g2 T2 ⟨j, p⟩
                    obtain rfl := p.st
                    by_cases hjl : j < i
                    · have b2 : decide ((j : Int) < (i : Int)) = true := by simp; omega
                      have hx2 := getD_map u64D v.ids j (by omega)
                      have c3 : (0 : Int) ≤ (j : Int) := by omega
                      have c4 : (j : Int) < (v.ids.length : Int) := by omega
                      have w2 : IntKind.i64.wrap ((j : Int) + 1) = (j : Int) + 1 := IntWalk.i64_in _ ⟨by omega, by omega⟩
                      simp only [go_sem, ↓reduceIte, Nat.reduceBEq, Nat.reduceAdd, Nat.reduceLeDiff, Nat.reduceEqDiff, Nat.reduceLT, p.s1, p.s5, p.s6, b2, soundSt]
                      refine ddraw_mk 11 (by kernel_rfl) ?_
                      simp only [go_sem, ↓reduceIte, Nat.reduceBEq, Nat.reduceAdd, Nat.reduceLeDiff, Nat.reduceEqDiff, Nat.reduceLT, p.s1, p.s5, p.s6, hx, hx2, c1, c2, c3, c4]
                      by_cases he : v.ids[i] = v.ids[j]
                      · have b3 : ((v.ids[i] : Int) == (v.ids[j] : Int)) = true := by simp [he]
                        simp only [go_sem, ↓reduceIte, Nat.reduceBEq, Nat.reduceAdd, Nat.reduceLeDiff, Nat.reduceEqDiff, Nat.reduceLT, b3]
                        have hm : v.ids.getD i 0 ∈ v.ids.take i := (mem_take_iff _ _ _ (by omega)).2 ⟨j, hjl, by rw [getD_at (by omega), getD_at hlt, he]⟩
                        have hbad : idOk v.ids i = false := by
                          show (!decide (v.ids.getD i 0 = 0) && !decide (v.ids.getD i 0 ∈ v.ids.take i)) = false
                          rw [decide_eq_true hm, Bool.not_true, Bool.and_false]
                        exact ⟨by rw [bad hbad]; rfl, (St.Sub.refl S).add hS _⟩
                      · have b3 : ((v.ids[i] : Int) == (v.ids[j] : Int)) = false := by simp; omega
                        simp only [go_sem, ↓reduceIte, Nat.reduceBEq, Nat.reduceAdd, Nat.reduceLeDiff, Nat.reduceEqDiff, Nat.reduceLT, b3, p.s6, w2]
                        exact round_end ⟨j + 1, ⟨rfl, by simp only [go_sem, ↓reduceIte, Nat.reduceBEq, Nat.reduceAdd, Nat.reduceLeDiff, Nat.reduceEqDiff, Nat.reduceLT, p.s1], by simp only [go_sem, ↓reduceIte, Nat.reduceBEq, Nat.reduceAdd, Nat.reduceLeDiff, Nat.reduceEqDiff, Nat.reduceLT, p.s5], by simp only [go_sem, ↓reduceIte, Nat.reduceBEq, Nat.reduceAdd, Nat.reduceLeDiff, Nat.reduceEqDiff, Nat.reduceLT]; rfl, by omega, fun r hr => by
                          by_cases e : r = j
                          · subst e; rw [getD_at (by omega), getD_at hlt]; exact fun h => he h.symm
                          · exact p.no r (by omega)⟩⟩ (by simp only [go_sem, ↓reduceIte, Nat.reduceBEq, Nat.reduceAdd, Nat.reduceLeDiff, Nat.reduceEqDiff, Nat.reduceLT, p.s6]; omega)
                    · have b2 : decide ((j : Int) < (i : Int)) = false := by simp; omega
                      simp only [go_sem, ↓reduceIte, Nat.reduceBEq, Nat.reduceAdd, Nat.reduceLeDiff, Nat.reduceEqDiff, Nat.reduceLT, p.s1, p.s5, p.s6, b2, soundSt]
                      have : j = i := by have := p.le; omega
                      subst this
                      exact ⟨rfl, by simp only [go_sem, ↓reduceIte, Nat.reduceBEq, Nat.reduceAdd, Nat.reduceLeDiff, Nat.reduceEqDiff, Nat.reduceLT, p.s1], by simp only [go_sem, ↓reduceIte, Nat.reduceBEq, Nat.reduceAdd, Nat.reduceLeDiff, Nat.reduceEqDiff, Nat.reduceLT, p.s5], by simp only [go_sem, ↓reduceIte, Nat.reduceBEq, Nat.reduceAdd, Nat.reduceLeDiff, Nat.reduceEqDiff, Nat.reduceLT, p.s6], Nat.le_refl _, p.no⟩
                  · intro f4 T4 h4
                    obtain rfl := h4.st
                    simp only [go_sem, ↓reduceIte, Nat.reduceBEq, Nat.reduceAdd, Nat.reduceLeDiff, Nat.reduceEqDiff, Nat.reduceLT, h4.s1, h4.s5, hx, c1, c2, soundSt]
                    by_cases hz : v.ids[i] = 0
                    · have b3 : ((v.ids[i] : Int) == 0) = true := by simp [hz]
                      simp only [go_sem, ↓reduceIte, Nat.reduceBEq, Nat.reduceAdd, Nat.reduceLeDiff, Nat.reduceEqDiff, Nat.reduceLT, b3, c1, c2, true_and]
                      have hbad : idOk v.ids i = false := by
                        show (!decide (v.ids.getD i 0 = 0) && !decide (v.ids.getD i 0 ∈ v.ids.take i)) = false
                        rw [decide_eq_true (show v.ids.getD i 0 = 0 by rw [getD_at hlt]; exact hz)]; rfl
                      exact ⟨by rw [bad hbad]; rfl, (St.Sub.refl S).add hS _⟩
                    · have b3 : ((v.ids[i] : Int) == 0) = false := by simp; omega
                      simp only [go_sem, ↓reduceIte, Nat.reduceBEq, Nat.reduceAdd, Nat.reduceLeDiff, Nat.reduceEqDiff, Nat.reduceLT, b3, h4.s5, w1, c1, c2]
                      have hi : idOk v.ids i = true := by
                        have hm : ¬ v.ids.getD i 0 ∈ v.ids.take i := fun hm => by
                          obtain ⟨r, hr, e⟩ := (mem_take_iff _ _ _ (by omega)).1 hm
                          exact h4.no r hr e
                        show (!decide (v.ids.getD i 0 = 0) && !decide (v.ids.getD i 0 ∈ v.ids.take i)) = true
                        rw [decide_eq_false hm, decide_eq_false (show ¬ v.ids.getD i 0 = 0 by rw [getD_at hlt]; exact hz)]; rfl
                      exact round_end ⟨i + 1, ⟨rfl, by simp only [go_sem, ↓reduceIte, Nat.reduceBEq, Nat.reduceAdd, Nat.reduceLeDiff, Nat.reduceEqDiff, Nat.reduceLT, h4.s1], by simp only [go_sem, ↓reduceIte, Nat.reduceBEq, Nat.reduceAdd, Nat.reduceLeDiff, Nat.reduceEqDiff, Nat.reduceLT]; rfl, by omega, fun j hj => by
                        by_cases e : j = i
                        · rw [e]; exact hi
                        · exact q.ok j (by omega)⟩⟩ (by simp only [go_sem, ↓reduceIte, Nat.reduceBEq, Nat.reduceAdd, Nat.reduceLeDiff, Nat.reduceEqDiff, Nat.reduceLT, q.s5]; omega)
                · have b1 : decide ((i : Int) < (v.ids.length : Int)) = false := by simp; omega
                  simp only [go_sem, ↓reduceIte, Nat.reduceBEq, Nat.reduceAdd, Nat.reduceLeDiff, Nat.reduceEqDiff, Nat.reduceLT, q.s1, q.s5, b1, soundSt]
                  exact ⟨rfl, by simp only [go_sem, ↓reduceIte, Nat.reduceBEq, Nat.reduceAdd, Nat.reduceLeDiff, Nat.reduceEqDiff, Nat.reduceLT, q.s1], all_of fun j hj => q.ok j (by omega)⟩
              · intro f5 T5 h5
                obtain rfl := h5.st
                simp only [go_sem, ↓reduceIte, Nat.reduceBEq, Nat.reduceAdd, Nat.reduceLeDiff, Nat.reduceEqDiff, Nat.reduceLT, h5.s1, soundSt]
                have hhere : hereV v = true := by simp only [hereV, hb1, hb2, h3.ok, h5.ok]; rfl
                refine dloop_mk (LPartsE v k S) (fun f _ => v.parts.length - slotN (f 7)) ⟨0, ⟨rfl, by simp only [go_sem, ↓reduceIte, Nat.reduceBEq, Nat.reduceAdd, Nat.reduceLeDiff, Nat.reduceEqDiff, Nat.reduceLT, h5.s1], by simp only [go_sem, ↓reduceIte, Nat.reduceBEq, Nat.reduceAdd, Nat.reduceLeDiff, Nat.reduceEqDiff, Nat.reduceLT]; rfl, by omega, fun j _ hj => by omega⟩⟩ ?_
                rintro g T ⟨i, q⟩
                obtain rfl := q.st
                by_cases hlt : i < v.parts.length
                · have b1 : decide ((i : Int) < (v.parts.length : Int)) = true := by simp; omega
                  have hx := getD_map encV v.parts i hlt
                  have c1 : (0 : Int) ≤ (i : Int) := by omega
                  have c2 : (i : Int) < (v.parts.length : Int) := by omega
                  have w1 : IntKind.i64.wrap ((i : Int) + 1) = (i : Int) + 1 := IntWalk.i64_in _ ⟨by omega, by omega⟩
                  simp only [go_sem, ↓reduceIte, Nat.reduceBEq, Nat.reduceAdd, Nat.reduceLeDiff, Nat.reduceEqDiff, Nat.reduceLT, q.s1, q.s7, b1, hx, c1, c2, soundSt]
                  have hd := DVal.depth_part (List.getElem_mem hlt)
                  refine DCalls.of_pure (ih v.parts[i] (by omega) (o9 _ (List.getElem_mem hlt))) ?_
                  cases hs : soundV k v.parts[i] with
                  | false =>
                    simp only [go_sem, ↓reduceIte, Nat.reduceBEq, Nat.reduceAdd, Nat.reduceLeDiff, Nat.reduceEqDiff, Nat.reduceLT, hs]
                    refine ⟨?_, (St.Sub.refl S).add hS _⟩
                    rw [show soundV (k + 1) v = false by simp only [soundV, hhere, Bool.true_and]; exact List.all_eq_false.2 ⟨_, List.getElem_mem hlt, by rw [hs]; simp⟩]
                    rfl
                  | true =>
                    simp only [go_sem, ↓reduceIte, Nat.reduceBEq, Nat.reduceAdd, Nat.reduceLeDiff, Nat.reduceEqDiff, Nat.reduceLT, hs, q.s7, w1]
                    exact round_end ⟨i + 1, ⟨rfl, by simp only [go_sem, ↓reduceIte, Nat.reduceBEq, Nat.reduceAdd, Nat.reduceLeDiff, Nat.reduceEqDiff, Nat.reduceLT, q.s1], by simp only [go_sem, ↓reduceIte, Nat.reduceBEq, Nat.reduceAdd, Nat.reduceLeDiff, Nat.reduceEqDiff, Nat.reduceLT]; rfl, by omega, fun j hj hji => by
                      by_cases e : j = i
                      · subst e; exact hs
                      · exact q.ok j hj (by omega)⟩⟩ (by simp only [go_sem, ↓reduceIte, Nat.reduceBEq, Nat.reduceAdd, Nat.reduceLeDiff, Nat.reduceEqDiff, Nat.reduceLT]; omega)
                · have b1 : decide ((i : Int) < (v.parts.length : Int)) = false := by simp; omega
                  simp only [go_sem, ↓reduceIte, Nat.reduceBEq, Nat.reduceAdd, Nat.reduceLeDiff, Nat.reduceEqDiff, Nat.reduceLT, q.s1, q.s7, b1, soundSt]
                  refine ⟨?_, (St.Sub.refl S).add hS _⟩
                  rw [show soundV (k + 1) v = true by
                    simp only [soundV, hhere, Bool.true_and]
                    exact List.all_eq_true.2 fun p hp => by
                      obtain ⟨j, hj, rfl⟩ := List.getElem_of_mem hp
                      exact q.ok j hj (by omega)]
                  rfl
        · have hsl : v.s.length ≤ maxLen := o3
          have hwr : IntKind.i64.wrap ((v.names.length : Int) + (v.ids.length : Int)) = (v.names.length : Int) + (v.ids.length : Int) := IntWalk.i64_in _ ⟨by omega, by omega⟩
          repeat' first | (refine DCalls.of_pure (refName_d v.s hsl) ?_; simp only [go_sem, ↓reduceIte, Nat.reduceBEq, Nat.reduceAdd, Nat.reduceLeDiff, Nat.reduceEqDiff, Nat.reduceLT, h.s1, h.s3, hwr]) | (refine dg_mk (fun hb => ?_) (fun hb => ?_) <;> (simp only [go_sem, ↓reduceIte, Nat.reduceBEq, Nat.reduceAdd, Nat.reduceLeDiff, Nat.reduceEqDiff, Nat.reduceLT, hb, h.s1, h.s3, hwr]; simp at hb))
          all_goals refine ⟨rfl, by simp only [go_sem, ↓reduceIte, Nat.reduceBEq, Nat.reduceAdd, Nat.reduceLeDiff, Nat.reduceEqDiff, Nat.reduceLT, h.s1], ?_⟩
          all_goals simp only [go_sem, ↓reduceIte, Nat.reduceBEq, Nat.reduceAdd, Nat.reduceLeDiff, Nat.reduceEqDiff, Nat.reduceLT]
          all_goals
            congr 2
            rw [Bool.eq_iff_iff]
            simp only [decide_eq_true_eq, Bool.false_eq_true, false_iff, true_iff, bne_iff_ne, Bool.not_eq_true'] at *
            simp only [bad2, ← List.length_eq_zero_iff] at *
            cases hnb : nameB v.s <;> simp only [hnb, Bool.true_eq_false, Bool.false_eq_true, and_true, and_false, false_or, not_true_eq_false, not_false_eq_true] at * <;> first | done | omega
    · repeat' (refine dg_mk (fun hb => ?_) (fun hb => ?_) <;> (simp only [go_sem, ↓reduceIte, Nat.reduceBEq, Nat.reduceAdd, Nat.reduceLeDiff, Nat.reduceEqDiff, Nat.reduceLT, hb]; simp at hb))
      all_goals refine ⟨rfl, by simp only [go_sem, ↓reduceIte, Nat.reduceBEq, Nat.reduceAdd, Nat.reduceLeDiff, Nat.reduceEqDiff, Nat.reduceLT], by simp only [go_sem, ↓reduceIte, Nat.reduceBEq, Nat.reduceAdd, Nat.reduceLeDiff, Nat.reduceEqDiff, Nat.reduceLT], ?_⟩
      all_goals simp only [go_sem, ↓reduceIte, Nat.reduceBEq, Nat.reduceAdd, Nat.reduceLeDiff, Nat.reduceEqDiff, Nat.reduceLT]
      all_goals
        congr 2
        rw [Bool.eq_iff_iff]
        simp only [decide_eq_true_eq, Bool.false_eq_true, false_iff, true_iff] at *
        simp only [bad1, ← List.length_eq_zero_iff] at *
        omega
end Go.Proofs.Ytpnjkebjdclkfaa
