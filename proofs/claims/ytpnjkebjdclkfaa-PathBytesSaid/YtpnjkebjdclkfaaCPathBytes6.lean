/- Texts of a proof, part 6. Conditions: none. -/
import Derived.Test.YtpnjkebjdclkfaaCPathBytes5
set_option linter.unusedVariables false
set_option linter.unusedSimpArgs false
/- Values, walked: sizes, depths. Conditions: none. -/
namespace Go.Proofs.Ytpnjkebjdclkfaa
open Go.RowKit
set_option linter.unusedSimpArgs false
def sizeV : Nat → DVal → Int
  | 0, _ => 1
  | k + 1, v => v.parts.foldl (fun a p => IntKind.i64.wrap (a + sizeV k p)) 1
def sizeA (k : Nat) (l : List DVal) (i : Nat) : Int := (l.take i).foldl (fun a p => IntKind.i64.wrap (a + sizeV k p)) 1
theorem sizeA_succ {k : Nat} {l : List DVal} {i : Nat} (h : i < l.length) : sizeA k l (i + 1) = IntKind.i64.wrap (sizeA k l i + sizeV k l[i]) := by
  unfold sizeA
  rw [List.take_succ_eq_append_getElem h, List.foldl_append]
  rfl
theorem sizeA_all {k : Nat} {v : DVal} {i : Nat} (h : v.parts.length ≤ i) : sizeA k v.parts i = sizeV (k + 1) v := by
  unfold sizeA
  rw [List.take_of_length_le h]; rfl
def oneSt (v : DVal) (S : St) : St := S.add (.box 31 [.v (.int .i64 v.kind), .v (.int .i64 v.n), strD v.s, .sl .no (v.names.map strD), .sl .no (v.ids.map u64D), .sl .no (v.parts.map encV)])
theorem one_sub {S : St} (hS : S.WF) (v : DVal) {n : Nat} (hn : S.next + 1 ≤ n) : S.Sub ⟨n, (oneSt v S).ob⟩ :=
  ⟨by show S.next ≤ n; omega, ((St.Sub.refl S).add hS _).ob⟩
theorem one_back {S : St} (hS : S.WF) (v : DVal) {n : Nat} (hn : S.next + 1 ≤ n) (o o2 : Ob) : ∀ k o', (oneSt v S).ob k = some o' → ((St.add ⟨n, (oneSt v S).ob⟩ o).set n o2).ob k = some o' := fun k o' h => by
  have hk : k ≠ n := fun e => by
    subst e
    simp only [oneSt, add_ob] at h
    rw [if_neg (by omega), hS k (by omega)] at h
    cases h
  simp only [set_ob, add_ob]
  rw [if_neg hk, if_neg hk]
  exact h
structure LZ (k : Nat) (v : DVal) (S : St) (f : Fm) (T : St) (i : Nat) : Prop where
  st : T.ob = (oneSt v S).ob
  nx : S.next + 1 ≤ T.next
  s3 : f 3 = .v (.int .i64 (sizeA k v.parts i))
  s7 : f 7 = .sl .no (v.parts.map encV)
  s8 : f 8 = .v (.int .i64 v.parts.length)
  s9 : f 9 = .v (.int .i64 i)
  le : i ≤ v.parts.length
def LZE (k : Nat) (v : DVal) (S : St) (f : Fm) (T : St) : Prop := ∃ i, LZ k v S f T i
set_option maxRecDepth 200000 in
set_option maxHeartbeats 4000000 in
theorem sizeV_d (k : Nat) : ∀ (v : DVal), v.depth ≤ k → v.weight ≤ 1000000 → DPure Try.prog 47 [encV v] (.v (.int .i64 (sizeV k v))) := by
  induction k with
  | zero => intro v h; have := v.depth_pos; omega
  | succ k ih =>
    intro v hk hw
    have hwe := v.weight_eq
    have hpl := partsLen v
    refine dpure_of_dwp mixed Try.func47 rfl (fun _ _ => by kernel_rfl) (rs := [.tmp 2]) rfl (by kernel_rfl) trivial (fun S hS => ?_)
    simp only [go_sem, ↓reduceIte, Nat.reduceBEq, Nat.reduceAdd, Nat.reduceLeDiff, Nat.reduceEqDiff, Nat.reduceLT, add_ob, set_ob, encV_eq v]
    refine dloop_mk (LZE k v S) (fun f _ => v.parts.length - slotN (f 9)) ⟨0, ⟨rfl, Nat.le_refl _, by simp only [go_sem, ↓reduceIte, Nat.reduceBEq, Nat.reduceAdd, Nat.reduceLeDiff, Nat.reduceEqDiff, Nat.reduceLT, add_ob, set_ob]; rfl, by simp only [go_sem, ↓reduceIte, Nat.reduceBEq, Nat.reduceAdd, Nat.reduceLeDiff, Nat.reduceEqDiff, Nat.reduceLT, add_ob, set_ob], by simp only [go_sem, ↓reduceIte, Nat.reduceBEq, Nat.reduceAdd, Nat.reduceLeDiff, Nat.reduceEqDiff, Nat.reduceLT, add_ob, set_ob], by simp only [go_sem, ↓reduceIte, Nat.reduceBEq, Nat.reduceAdd, Nat.reduceLeDiff, Nat.reduceEqDiff, Nat.reduceLT, add_ob, set_ob]; rfl, by omega⟩⟩ ?_
    rintro g ⟨tn, tob⟩ ⟨i, q⟩
    obtain rfl : tob = (oneSt v S).ob := q.st
    have nx : S.next + 1 ≤ tn := q.nx
    by_cases hlt : i < v.parts.length
    · have b1 : decide ((i : Int) < (v.parts.length : Int)) = true := by simp; omega
      have hx := getD_map encV v.parts i hlt
      have c1 : (0 : Int) ≤ (i : Int) := by omega
      have c2 : (i : Int) < (v.parts.length : Int) := by omega
      have w1 : IntKind.i64.wrap ((i : Int) + 1) = (i : Int) + 1 := IntWalk.i64_in _ ⟨by omega, by omega⟩
      have hd := DVal.depth_part (List.getElem_mem hlt)
      have hww := DVal.weight_part (List.getElem_mem hlt)
      simp only [go_sem, ↓reduceIte, Nat.reduceBEq, Nat.reduceAdd, Nat.reduceLeDiff, Nat.reduceEqDiff, Nat.reduceLT, add_ob, set_ob, q.s3, q.s7, q.s8, q.s9, b1, hx, c1, c2]
      refine DCalls.of_pure (ih v.parts[i] (by omega) (by omega)) ?_
      simp only [go_sem, ↓reduceIte, Nat.reduceBEq, Nat.reduceAdd, Nat.reduceLeDiff, Nat.reduceEqDiff, Nat.reduceLT, add_ob, set_ob, q.s3, q.s9, w1]
      refine round_back (oneSt v S).ob (one_back hS v nx _ _) ⟨i + 1, ⟨rfl, Nat.le_succ_of_le nx, ?_, by simp only [go_sem, ↓reduceIte, Nat.reduceBEq, Nat.reduceAdd, Nat.reduceLeDiff, Nat.reduceEqDiff, Nat.reduceLT, add_ob, set_ob, q.s7], by simp only [go_sem, ↓reduceIte, Nat.reduceBEq, Nat.reduceAdd, Nat.reduceLeDiff, Nat.reduceEqDiff, Nat.reduceLT, add_ob, set_ob, q.s8], by simp only [go_sem, ↓reduceIte, Nat.reduceBEq, Nat.reduceAdd, Nat.reduceLeDiff, Nat.reduceEqDiff, Nat.reduceLT, add_ob, set_ob]; rfl, by omega⟩⟩ (by simp only [go_sem, ↓reduceIte, Nat.reduceBEq, Nat.reduceAdd, Nat.reduceLeDiff, Nat.reduceEqDiff, Nat.reduceLT, add_ob, set_ob]; omega)
      simp only [go_sem, ↓reduceIte, Nat.reduceBEq, Nat.reduceAdd, Nat.reduceLeDiff, Nat.reduceEqDiff, Nat.reduceLT, add_ob, set_ob, sizeA_succ hlt]
    · have b1 : decide ((i : Int) < (v.parts.length : Int)) = false := by simp; omega
      simp only [go_sem, ↓reduceIte, Nat.reduceBEq, Nat.reduceAdd, Nat.reduceLeDiff, Nat.reduceEqDiff, Nat.reduceLT, add_ob, set_ob, q.s3, q.s7, q.s8, q.s9, b1]
      exact ⟨by rw [sizeA_all (by omega)]; rfl, one_sub hS v nx⟩
structure LRZ (k : Nat) (v : DVal) (S : St) (f : Fm) (T : St) (i : Nat) : Prop where
  st : T = oneSt v S
  s1 : f 1 = .loc S.next 0
  s3 : f 3 = .v (.int .i64 (sizeA k v.parts i))
  s4 : f 4 = .v (.int .i64 i)
  le : i ≤ v.parts.length
def LRZE (k : Nat) (v : DVal) (S : St) (f : Fm) (T : St) : Prop := ∃ i, LRZ k v S f T i
set_option maxRecDepth 200000 in
set_option maxHeartbeats 4000000 in
theorem refSizeV_d (k : Nat) : ∀ (v : DVal), v.depth ≤ k → v.weight ≤ 1000000 → DPure Try.prog 48 [encV v] (.v (.int .i64 (sizeV k v))) := by
  induction k with
  | zero => intro v h; have := v.depth_pos; omega
  | succ k ih =>
    intro v hk hw
    have hwe := v.weight_eq
    have hpl := partsLen v
    refine dpure_of_dwp mixed Try.func48 rfl (fun _ _ => by kernel_rfl) (rs := [.tmp 2]) rfl (by kernel_rfl) trivial (fun S hS => ?_)
    simp only [go_sem, ↓reduceIte, Nat.reduceBEq, Nat.reduceAdd, Nat.reduceLeDiff, Nat.reduceEqDiff, Nat.reduceLT, add_ob, set_ob, encV_eq v]
    refine dloop_mk (LRZE k v S) (fun f _ => v.parts.length - slotN (f 4)) ⟨0, ⟨rfl, by simp only [go_sem, ↓reduceIte, Nat.reduceBEq, Nat.reduceAdd, Nat.reduceLeDiff, Nat.reduceEqDiff, Nat.reduceLT, add_ob, set_ob], by simp only [go_sem, ↓reduceIte, Nat.reduceBEq, Nat.reduceAdd, Nat.reduceLeDiff, Nat.reduceEqDiff, Nat.reduceLT, add_ob, set_ob]; rfl, by simp only [go_sem, ↓reduceIte, Nat.reduceBEq, Nat.reduceAdd, Nat.reduceLeDiff, Nat.reduceEqDiff, Nat.reduceLT, add_ob, set_ob]; rfl, by omega⟩⟩ ?_
    rintro g T ⟨i, q⟩
    obtain rfl := q.st
    by_cases hlt : i < v.parts.length
    · have b1 : decide ((i : Int) < (v.parts.length : Int)) = true := by simp; omega
      have hx := getD_map encV v.parts i hlt
      have c1 : (0 : Int) ≤ (i : Int) := by omega
      have c2 : (i : Int) < (v.parts.length : Int) := by omega
      have w1 : IntKind.i64.wrap ((i : Int) + 1) = (i : Int) + 1 := IntWalk.i64_in _ ⟨by omega, by omega⟩
      have hd := DVal.depth_part (List.getElem_mem hlt)
      have hww := DVal.weight_part (List.getElem_mem hlt)
      simp only [go_sem, ↓reduceIte, Nat.reduceBEq, Nat.reduceAdd, Nat.reduceLeDiff, Nat.reduceEqDiff, Nat.reduceLT, add_ob, set_ob, q.s1, q.s3, q.s4, b1, hx, c1, c2, oneSt]
      refine DCalls.of_pure (ih v.parts[i] (by omega) (by omega)) ?_
      simp only [go_sem, ↓reduceIte, Nat.reduceBEq, Nat.reduceAdd, Nat.reduceLeDiff, Nat.reduceEqDiff, Nat.reduceLT, add_ob, set_ob, q.s3, q.s4, w1]
      refine round_end ⟨i + 1, ⟨rfl, by simp only [go_sem, ↓reduceIte, Nat.reduceBEq, Nat.reduceAdd, Nat.reduceLeDiff, Nat.reduceEqDiff, Nat.reduceLT, add_ob, set_ob, q.s1], ?_, by simp only [go_sem, ↓reduceIte, Nat.reduceBEq, Nat.reduceAdd, Nat.reduceLeDiff, Nat.reduceEqDiff, Nat.reduceLT, add_ob, set_ob]; rfl, by omega⟩⟩ (by simp only [go_sem, ↓reduceIte, Nat.reduceBEq, Nat.reduceAdd, Nat.reduceLeDiff, Nat.reduceEqDiff, Nat.reduceLT, add_ob, set_ob]; omega)
      simp only [go_sem, ↓reduceIte, Nat.reduceBEq, Nat.reduceAdd, Nat.reduceLeDiff, Nat.reduceEqDiff, Nat.reduceLT, add_ob, set_ob, sizeA_succ hlt]
    · have b1 : decide ((i : Int) < (v.parts.length : Int)) = false := by simp; omega
      simp only [go_sem, ↓reduceIte, Nat.reduceBEq, Nat.reduceAdd, Nat.reduceLeDiff, Nat.reduceEqDiff, Nat.reduceLT, add_ob, set_ob, q.s1, q.s3, q.s4, b1, oneSt]
      exact ⟨by rw [sizeA_all (by omega)]; rfl, (St.Sub.refl S).add hS _⟩
theorem valDepth_d (v : DVal) (hok : okV v) (hd : v.depth ≤ 1000000) : DPure Try.prog 45 [encV v] (.v (.int .i64 v.depth)) := dpure_val hok (fun _ _ => by kernel_rfl) fun w cs h => valDepth_calls 1000000 v cs w hd (Nat.le_refl _) h
end Go.Proofs.Ytpnjkebjdclkfaa

/- Paths, walked: one step. Conditions: none. -/
namespace Go.Proofs.Ytpnjkebjdclkfaa
open Go.RowKit
set_option linter.unusedSimpArgs false
/-- Where x stands first, or -1. -/
def ixN {α : Type} [DecidableEq α] (l : List α) (x : α) : Nat := l.idxOf x
def ixI {α : Type} [DecidableEq α] (l : List α) (x : α) : Int := if x ∈ l then (ixN l x : Int) else -1
theorem ix_lt {α : Type} [DecidableEq α] {l : List α} {x : α} (h : x ∈ l) : ixN l x < l.length := List.idxOf_lt_length_of_mem h
theorem idxP_ix {α : Type} [DecidableEq α] {l : List α} {x : α} {e : Ending} (h : IdxP (fun i => decide (l[i]? = some x)) l.length e) : e = .returned (.int .i64 (ixI l x)) := by
  rcases h with ⟨k, hk, rfl, h1, h2⟩ | ⟨rfl, h2⟩
  · have hx : l[k] = x := by
      have := of_decide_eq_true h1
      rw [List.getElem?_eq_getElem hk] at this
      exact Option.some.inj this
    have hm : x ∈ l := hx ▸ List.getElem_mem hk
    have hi : ixN l x = k := by
      show l.findIdx (· == x) = k
      rw [List.findIdx_eq hk]
      refine ⟨by simp [hx], fun j hj => ?_⟩
      have := of_decide_eq_false (h2 j hj)
      rw [List.getElem?_eq_getElem (by omega)] at this
      simp only [beq_eq_false_iff_ne, ne_eq]
      exact fun e => this (by rw [e])
    rw [ixI, if_pos hm, hi]
  · have hm : ¬ x ∈ l := fun hm => by
      obtain ⟨j, hj, e⟩ := List.getElem_of_mem hm
      have := of_decide_eq_false (h2 j hj)
      rw [List.getElem?_eq_getElem hj, e] at this
      exact this rfl
    rw [ixI, if_neg hm]
theorem strIndex_d (own : Own) (l : List Str) (x : Str) (hn : l.length ≤ 140737488351232) : DPure Try.prog 102 [.sl own (l.map strD), .v (sv x)] (.v (.int .i64 (ixI l x))) :=
  dpure_of_gives (fun _ _ => by kernel_rfl) fun w η X vs hr => by
    simp only [RepL] at hr
    obtain ⟨y, ys, rfl, h1, z, zs, rfl, h2, rfl⟩ := hr
    obtain ⟨A, c, rfl, hc, hf⟩ := strArg h1
    simp only [Rep] at h2
    subst h2
    exact (strIndex_calls l x A c w hf hn).mono fun e w' ⟨he, hw⟩ => ⟨idxP_ix he, hw ▸ Below.refl _ _⟩
theorem uIndex_d (own : Own) (l : List Nat) (x : Nat) (hn : l.length ≤ 140737488351232) : DPure Try.prog 78 [.sl own (l.map u64D), .v (uv x)] (.v (.int .i64 (ixI l x))) :=
  dpure_of_gives (fun _ _ => by kernel_rfl) fun w η X vs hr => by
    simp only [RepL] at hr
    obtain ⟨y, ys, rfl, h1, z, zs, rfl, h2, rfl⟩ := hr
    obtain ⟨A, c, rfl, hc, hf⟩ := scalars_of_rep uv h1
    simp only [Rep] at h2
    subst h2
    exact (uIndex_calls l x A c w hf hn).mono fun e w' ⟨he, hw⟩ => ⟨idxP_ix he, hw ▸ Below.refl _ _⟩
/-- Has the value each named part? -/
def wholeB (v : DVal) : Bool := decide (v.kind = 5) && decide (v.names.length ≤ v.parts.length)
set_option maxRecDepth 200000 in
set_option maxHeartbeats 4000000 in
theorem whole_d (v : DVal) : DPure Try.prog 107 [encV v] (.v (.bool (wholeB v))) := by
  refine dpure_of_dwp mixed Try.func107 rfl (fun _ _ => by kernel_rfl) (rs := [.tmp 2]) rfl (by kernel_rfl) trivial (fun S hS => ?_)
  by_cases h5 : v.kind = 5
  · have b5 : (v.kind == 5) = true := by simp [h5]
    simp only [go_sem, ↓reduceIte, Nat.reduceBEq, Nat.reduceAdd, Nat.reduceLeDiff, Nat.reduceEqDiff, Nat.reduceLT, add_ob, set_ob, encV_eq v, b5]
    refine ⟨?_, (St.Sub.refl S).add hS _⟩
    simp only [D.frz, wholeB, decide_eq_true h5, Bool.true_and]
    congr 3
    exact propext ⟨fun h => by omega, fun h => by omega⟩
  · have b5 : (v.kind == 5) = false := by simp [h5]
    simp only [go_sem, ↓reduceIte, Nat.reduceBEq, Nat.reduceAdd, Nat.reduceLeDiff, Nat.reduceEqDiff, Nat.reduceLT, add_ob, set_ob, encV_eq v, b5]
    exact ⟨by simp only [D.frz, wholeB, decide_eq_false h5, Bool.false_and], (St.Sub.refl S).add hS _⟩
def elemV (v : DVal) (x : Nat) : D := if v.kind = 6 ∧ x ∈ v.ids then .tup [.v (.int .i64 (ixN v.ids x : Int)), .v (.bool true)] else .tup [.v (.int .i64 0), .v (.bool false)]
theorem elemV_closed (v : DVal) (x : Nat) : (elemV v x).closed := by unfold elemV; split <;> simp [D.closed, D.all, allL]
set_option maxRecDepth 200000 in
set_option maxHeartbeats 4000000 in
theorem elem_d (v : DVal) (x : Nat) (hn : v.ids.length ≤ 140737488351232) : DPure Try.prog 40 [encV v, .v (uv x)] (elemV v x) := by
  refine dpure_of_dwp mixed Try.func40 rfl (fun _ _ => by kernel_rfl) (rs := [.tmp 4, .tmp 5]) rfl (by kernel_rfl) (elemV_closed v x) (fun S hS => ?_)
  simp only [go_sem, ↓reduceIte, Nat.reduceBEq, Nat.reduceAdd, Nat.reduceLeDiff, Nat.reduceEqDiff, Nat.reduceLT, add_ob, set_ob, encV_eq v]
  refine DCalls.of_pure (uIndex_d .no v.ids x hn) ?_
  by_cases h6 : v.kind = 6
  · have b6 : (v.kind != 6) = false := by simp [h6]
    by_cases hm : x ∈ v.ids
    · have b7 : decide (ixI v.ids x < 0) = false := by unfold ixI; rw [if_pos hm]; simp
      simp only [go_sem, ↓reduceIte, Nat.reduceBEq, Nat.reduceAdd, Nat.reduceLeDiff, Nat.reduceEqDiff, Nat.reduceLT, add_ob, set_ob, b6, b7]
      refine ⟨?_, (St.Sub.refl S).add hS _⟩
      simp only [D.frz, frzL, elemV, h6, hm, and_self, if_true, ixI]
    · have b7 : decide (ixI v.ids x < 0) = true := by unfold ixI; rw [if_neg hm]; decide
      simp only [go_sem, ↓reduceIte, Nat.reduceBEq, Nat.reduceAdd, Nat.reduceLeDiff, Nat.reduceEqDiff, Nat.reduceLT, add_ob, set_ob, b6, b7]
      refine ⟨?_, (St.Sub.refl S).add hS _⟩
      simp only [D.frz, frzL, elemV, hm, and_false, if_false]
  · have b6 : (v.kind != 6) = true := by simp [h6]
    simp only [go_sem, ↓reduceIte, Nat.reduceBEq, Nat.reduceAdd, Nat.reduceLeDiff, Nat.reduceEqDiff, Nat.reduceLT, add_ob, set_ob, b6]
    refine ⟨?_, (St.Sub.refl S).add hS _⟩
    simp only [D.frz, frzL, elemV, h6, false_and, if_false]
theorem pfin_cell_tmp_normal {P : Program} {S : St} {f : Fm} (x : Tmp) (t : TypeId) (u : Tmp) (S' : St) (d : D) : DQ.pfin P [.cell x t, .tmp u] S d .normal f S' = dcellR P S' t (f x) (fun r => PFin S S' (.tup [r, f u]) d) := by
  rw [← onVal_cell]
  simp [DQ.pfin, dresL, dres, onVal, one]
theorem pfin_cell_tmp_ret {P : Program} {S : St} {f : Fm} (x : Tmp) (t : TypeId) (u : Tmp) (S' : St) (d : D) : DQ.pfin P [.cell x t, .tmp u] S d .ret f S' = dcellR P S' t (f x) (fun r => PFin S S' (.tup [r, f u]) d) := by
  rw [← onVal_cell]
  simp [DQ.pfin, dresL, dres, onVal, one]
attribute [go_sem] pfin_cell_tmp_normal pfin_cell_tmp_ret
def fieldV (v : DVal) (x : Str) : D := if wholeB v = true ∧ x ∈ v.names then .tup [encV (v.parts.getD (ixN v.names x) default), .v (.bool true)] else .tup [encV zeroV, .v (.bool false)]
theorem fieldV_closed (v : DVal) (x : Str) : (fieldV v x).closed := by
  unfold fieldV
  split <;> (simp only [D.closed, D.all, allL, and_true]; exact closed_encV _)
set_option maxRecDepth 200000 in
set_option maxHeartbeats 4000000 in
theorem field_d (v : DVal) (x : Str) (hok : okV v) (hw : v.weight ≤ 1000000) : DPure Try.prog 128 [encV v, .v (sv x)] (fieldV v x) := by
  obtain ⟨o1, o2, o3, o4, o5, o6, o7, o8, o9⟩ := (okV_eq v).1 hok
  refine dpure_of_dwp mixed Try.func128 rfl (fun _ _ => by kernel_rfl) (rs := [.cell 4 31, .tmp 5]) rfl (by kernel_rfl) (fieldV_closed v x) (fun S hS => ?_)
  have hsub : ∀ a b c, S.Sub (((S.add a).add b).set (S.next + 1) c) := fun a b c => (((St.Sub.refl S).add hS _).add hS _).set hS (by omega) _
  simp only [go_sem, ↓reduceIte, Nat.reduceBEq, Nat.reduceAdd, Nat.reduceLeDiff, Nat.reduceEqDiff, Nat.reduceLT, add_ob, set_ob, encV_eq v]
  refine DCalls.of_pure (strIndex_d .no v.names x o5) ?_
  simp only [go_sem, ↓reduceIte, Nat.reduceBEq, Nat.reduceAdd, Nat.reduceLeDiff, Nat.reduceEqDiff, Nat.reduceLT, add_ob, set_ob]
  refine DCalls.of_pure (by have := whole_d v; rw [encV_eq v] at this; exact this) ?_
  cases hwb : wholeB v with
  | true =>
    by_cases hm : x ∈ v.names
    · have b7 : decide (ixI v.names x < 0) = false := by unfold ixI; rw [if_pos hm]; simp
      have hlt := ix_lt hm
      have hpl : ixN v.names x < v.parts.length := by
        simp only [wholeB, Bool.and_eq_true, decide_eq_true_eq] at hwb
        omega
      have hi : ixI v.names x = (ixN v.names x : Int) := by unfold ixI; rw [if_pos hm]
      have b8 : decide ((ixN v.names x : Int) < 0) = false := by simp
      have hx := getD_map encV v.parts _ hpl
      have c1 : (0 : Int) ≤ (ixN v.names x : Int) := by omega
      have c2 : (ixN v.names x : Int) < (v.parts.length : Int) := by omega
      simp only [go_sem, ↓reduceIte, Nat.reduceBEq, Nat.reduceAdd, Nat.reduceLeDiff, Nat.reduceEqDiff, Nat.reduceLT, add_ob, set_ob, hi, b8, hx, c1, c2]
      refine DCalls.of_pure (copyV_d _ v.parts[ixN v.names x] (Nat.le_refl _) (by have := DVal.weight_part (List.getElem_mem hpl); omega)) ?_
      simp only [go_sem, ↓reduceIte, Nat.reduceBEq, Nat.reduceAdd, Nat.reduceLeDiff, Nat.reduceEqDiff, Nat.reduceLT, add_ob, set_ob]
      refine ⟨?_, hsub _ _ _⟩
      simp only [D.frz, frzL, frz_encV, fieldV, hwb, hm, and_self, if_true, getD_at hpl]
    · have b7 : decide (ixI v.names x < 0) = true := by unfold ixI; rw [if_neg hm]; decide
      simp only [go_sem, ↓reduceIte, Nat.reduceBEq, Nat.reduceAdd, Nat.reduceLeDiff, Nat.reduceEqDiff, Nat.reduceLT, add_ob, set_ob, b7]
      refine ⟨?_, hsub _ _ _⟩
      simp only [D.frz, frzL, fieldV, hm, and_false, if_false]
      rfl
  | false =>
    simp only [go_sem, ↓reduceIte, Nat.reduceBEq, Nat.reduceAdd, Nat.reduceLeDiff, Nat.reduceEqDiff, Nat.reduceLT, add_ob, set_ob]
    refine ⟨?_, hsub _ _ _⟩
    simp only [D.frz, frzL, fieldV, hwb, Bool.false_eq_true, false_and, if_false]
    rfl
abbrev DStp := Str × Nat
def encP (p : DStp) : D := .agg [strD p.1, u64D p.2]
/-- Where a step leads. -/
def placeOf (v : DVal) (p : DStp) : Int := if p.1 = [] then (if v.kind = 6 ∧ p.2 ∈ v.ids then (ixN v.ids p.2 : Int) else -1) else if wholeB v = true ∧ p.1 ∈ v.names then (ixN v.names p.1 : Int) else -1
def partV (v : DVal) (p : DStp) : D := .tup [.v (.int .i64 (placeOf v p)), .v (.bool (decide (0 ≤ placeOf v p) && decide (placeOf v p < (v.parts.length : Int))))]
theorem part_end {v : DVal} {p : DStp} {S T : St} (hs : S.Sub T) {i : Int} (hi : i = placeOf v p) {b : Bool} (hb : b = (decide (0 ≤ placeOf v p) && decide (placeOf v p < (v.parts.length : Int)))) : PFin S T (.tup [.v (.int .i64 i), .v (.bool b)]) (partV v p) := ⟨by rw [hi, hb]; rfl, hs⟩
set_option maxRecDepth 200000 in
set_option maxHeartbeats 4000000 in
theorem part_d (v : DVal) (p : DStp) (hok : okV v) (hw : v.weight ≤ 1000000) : DPure Try.prog 100 [encV v, encP p] (partV v p) := by
  obtain ⟨o1, o2, o3, o4, o5, o6, o7, o8, o9⟩ := (okV_eq v).1 hok
  refine dpure_of_dwp mixed Try.func100 rfl (fun _ _ => by kernel_rfl) (rs := [.tmp 4, .tmp 5]) rfl (by kernel_rfl) (by simp [partV, D.closed, D.all, allL]) (fun S hS => ?_)
  simp only [go_sem, ↓reduceIte, Nat.reduceBEq, Nat.reduceAdd, Nat.reduceLeDiff, Nat.reduceEqDiff, Nat.reduceLT, add_ob, set_ob, encP]
  by_cases h0 : p.1 = []
  · have b1 : (p.1 == []) = true := by simp [h0]
    simp only [go_sem, ↓reduceIte, Nat.reduceBEq, Nat.reduceAdd, Nat.reduceLeDiff, Nat.reduceEqDiff, Nat.reduceLT, add_ob, set_ob, b1]
    refine DCalls.of_pure (elem_d v p.2 o7) ?_
    by_cases hc : v.kind = 6 ∧ p.2 ∈ v.ids
    · have he : elemV v p.2 = .tup [.v (.int .i64 (ixN v.ids p.2 : Int)), .v (.bool true)] := by unfold elemV; rw [if_pos hc]
      have hpl : placeOf v p = (ixN v.ids p.2 : Int) := by unfold placeOf; rw [if_pos h0, if_pos hc]
      have b2 : decide ((0 : Int) ≤ (ixN v.ids p.2 : Int)) = true := by simp
      simp only [go_sem, ↓reduceIte, Nat.reduceBEq, Nat.reduceAdd, Nat.reduceLeDiff, Nat.reduceEqDiff, Nat.reduceLT, add_ob, set_ob, he, b2]
      refine ddraw_mk 12 (by kernel_rfl) ?_
      simp only [go_sem, ↓reduceIte, Nat.reduceBEq, Nat.reduceAdd, Nat.reduceLeDiff, Nat.reduceEqDiff, Nat.reduceLT, add_ob, set_ob, b2, encV_eq v]
      exact part_end (((St.Sub.refl S).add hS _).add hS _) hpl.symm (by rw [hpl, b2, Bool.true_and])
    · have he : elemV v p.2 = .tup [.v (.int .i64 0), .v (.bool false)] := by unfold elemV; rw [if_neg hc]
      have hpl : placeOf v p = -1 := by unfold placeOf; rw [if_pos h0, if_neg hc]
      have b2 : decide ((0 : Int) ≤ -1) = false := by decide
      simp only [go_sem, ↓reduceIte, Nat.reduceBEq, Nat.reduceAdd, Nat.reduceLeDiff, Nat.reduceEqDiff, Nat.reduceLT, add_ob, set_ob, he, b2]
      refine ddraw_mk 12 (by kernel_rfl) ?_
      simp only [go_sem, ↓reduceIte, Nat.reduceBEq, Nat.reduceAdd, Nat.reduceLeDiff, Nat.reduceEqDiff, Nat.reduceLT, add_ob, set_ob, b2, encV_eq v]
      exact part_end (((St.Sub.refl S).add hS _).add hS _) hpl.symm (by rw [hpl, b2, Bool.false_and])
  · have b1 : (p.1 == []) = false := by simp [h0]
    simp only [go_sem, ↓reduceIte, Nat.reduceBEq, Nat.reduceAdd, Nat.reduceLeDiff, Nat.reduceEqDiff, Nat.reduceLT, add_ob, set_ob, b1]
    refine DCalls.of_pure (field_d v p.1 hok hw) ?_
    by_cases hc : wholeB v = true ∧ p.1 ∈ v.names
    · have he : fieldV v p.1 = .tup [encV (v.parts.getD (ixN v.names p.1) default), .v (.bool true)] := by unfold fieldV; rw [if_pos hc]
      have hi : ixI v.names p.1 = (ixN v.names p.1 : Int) := by unfold ixI; rw [if_pos hc.2]
      have hpl : placeOf v p = (ixN v.names p.1 : Int) := by unfold placeOf; rw [if_neg h0, if_pos hc]
      have b2 : decide ((0 : Int) ≤ (ixN v.names p.1 : Int)) = true := by simp
      simp only [go_sem, ↓reduceIte, Nat.reduceBEq, Nat.reduceAdd, Nat.reduceLeDiff, Nat.reduceEqDiff, Nat.reduceLT, add_ob, set_ob, he, b2, encV_eq v]
      refine DCalls.of_pure (strIndex_d .no v.names p.1 o5) ?_
      simp only [go_sem, ↓reduceIte, Nat.reduceBEq, Nat.reduceAdd, Nat.reduceLeDiff, Nat.reduceEqDiff, Nat.reduceLT, add_ob, set_ob, hi, b2]
      refine ddraw_mk 12 (by kernel_rfl) ?_
      simp only [go_sem, ↓reduceIte, Nat.reduceBEq, Nat.reduceAdd, Nat.reduceLeDiff, Nat.reduceEqDiff, Nat.reduceLT, add_ob, set_ob, b2, encV_eq v]
      exact part_end ((((St.Sub.refl S).add hS _).add hS _).add hS _ |>.set hS (by omega) _) hpl.symm (by rw [hpl, b2, Bool.true_and])
    · have he : fieldV v p.1 = .tup [encV zeroV, .v (.bool false)] := by unfold fieldV; rw [if_neg hc]
      have hpl : placeOf v p = -1 := by unfold placeOf; rw [if_neg h0, if_neg hc]
      have b2 : decide ((0 : Int) ≤ -1) = false := by decide
      simp only [go_sem, ↓reduceIte, Nat.reduceBEq, Nat.reduceAdd, Nat.reduceLeDiff, Nat.reduceEqDiff, Nat.reduceLT, add_ob, set_ob, he, b2]
      refine ddraw_mk 12 (by kernel_rfl) ?_
      simp only [go_sem, ↓reduceIte, Nat.reduceBEq, Nat.reduceAdd, Nat.reduceLeDiff, Nat.reduceEqDiff, Nat.reduceLT, add_ob, set_ob, b2, encV_eq v]
      exact part_end ((((St.Sub.refl S).add hS _).add hS _).add hS _ |>.set hS (by omega) _) hpl.symm (by rw [hpl, b2, Bool.false_and])
end Go.Proofs.Ytpnjkebjdclkfaa

/- Paths, walked: what Get's visitor does. Conditions: none. -/
namespace Go.Proofs.Ytpnjkebjdclkfaa
open Go.RowKit
set_option linter.unusedSimpArgs false
theorem fin_cell_normal {P : Program} {S : St} {f : Fm} {K : D → St → Prop} (x : Tmp) (t : TypeId) (S' : St) : DQ.fin P [.cell x t] S K .normal f S' = dcellR P S' t (f x) (fun r => DFinT P S S' r K) := onVal_cell x t _
theorem fin_cell_ret {P : Program} {S : St} {f : Fm} {K : D → St → Prop} (x : Tmp) (t : TypeId) (S' : St) : DQ.fin P [.cell x t] S K .ret f S' = dcellR P S' t (f x) (fun r => DFinT P S S' r K) := onVal_cell x t _
theorem fin_cell_tmp_normal {P : Program} {S : St} {f : Fm} {K : D → St → Prop} (x : Tmp) (t : TypeId) (u : Tmp) (S' : St) : DQ.fin P [.cell x t, .tmp u] S K .normal f S' = dcellR P S' t (f x) (fun r => DFinT P S S' (.tup [r, f u]) K) := by
  rw [← onVal_cell]
  simp [DQ.fin, dresL, dres, onVal, one]
theorem fin_cell_tmp_ret {P : Program} {S : St} {f : Fm} {K : D → St → Prop} (x : Tmp) (t : TypeId) (u : Tmp) (S' : St) : DQ.fin P [.cell x t, .tmp u] S K .ret f S' = dcellR P S' t (f x) (fun r => DFinT P S S' (.tup [r, f u]) K) := by
  rw [← onVal_cell]
  simp [DQ.fin, dresL, dres, onVal, one]
attribute [go_sem] fin_cell_normal fin_cell_ret fin_cell_tmp_normal fin_cell_tmp_ret
theorem allL_closed {l : List D} {n : Nat} (h : allL (fun _ => False) l) : allL (· < n) l := allL_mono (fun _ h => h.elim) h
theorem encV_cells_closed (v : DVal) : allL (fun _ => False) (encV v).cells := by
  have := closed_encV v
  rw [encV_eq] at this ⊢
  exact this
/-- The visitor keeps a copy of what it is given, in the variable that it caught, and gives it back. -/
theorem get1_fin {S T : St} {c : Nat} {cs : List D} {u : DVal} (hS : S.WF) (hc : S.ob c = some (.box 31 cs)) (hn : S.next ≤ T.next) (h1 : T.ob c = some (.box 31 (encV u).cells)) (h2 : ∀ k o, k ≠ c → S.ob k = some o → T.ob k = some o) {d : D} (hd : d = encV u) :
    DFin S T d (fun d S' => d = encV u ∧ S' = S.set c (.box 31 (encV u).cells)) := by
  subst hd
  refine ⟨encV u, S.set c (.box 31 (encV u).cells), DLe.refl _, D.all_mono (fun _ h => h.elim) (closed_encV u), hn, Nat.le_refl _, fun k o hk => ?_, rfl, rfl⟩
  simp only [set_ob] at hk
  by_cases e : k = c
  · subst e
    rw [if_pos rfl] at hk
    injection hk with hk
    subst hk
    refine ⟨h1, hS.lt hc, fun t cs' hb => .inr ?_⟩
    injection hb with hb1 hb2
    subst hb2
    exact allL_closed (encV_cells_closed u)
  · rw [if_neg e] at hk
    exact ⟨h2 k o e hk, hS.lt hk, fun _ _ _ => .inl hk⟩
set_option maxRecDepth 200000 in
set_option maxHeartbeats 4000000 in
theorem get1_d (S : St) (c : Nat) (cs : List D) (hc : S.ob c = some (.box 31 cs)) (hl : cs.length = 6) (u : DVal) (hw : u.weight ≤ 1000000) :
    DCalls Try.prog 68 [encV u, .loc c 0] S (fun d S' => d = encV u ∧ S' = S.set c (.box 31 (encV u).cells)) := by
  refine dcalls_of_dwp mixed Try.func68 rfl (fun _ _ => by kernel_rfl) (rs := [.cell 3 31]) rfl (by kernel_rfl) (fun hS => ?_)
  have hlt := hS.lt hc
  have e1 : (c = S.next) = False := eq_false (by omega)
  have e2 : (c = S.next + 1) = False := eq_false (by omega)
  have e3 : (S.next = c) = False := eq_false (by omega)
  have e4 : (S.next + 1 = c) = False := eq_false (by omega)
  have hd : cs.drop 6 = [] := List.drop_of_length_le (by omega)
  simp only [go_sem, ↓reduceIte, Nat.reduceBEq, Nat.reduceAdd, Nat.reduceLeDiff, Nat.reduceEqDiff, Nat.reduceLT, add_ob, set_ob]
  refine DCalls.of_pure (copyV_d _ u (Nat.le_refl _) hw) ?_
  simp only [go_sem, ↓reduceIte, Nat.reduceBEq, Nat.reduceAdd, Nat.reduceLeDiff, Nat.reduceEqDiff, Nat.reduceLT, add_ob, set_ob, e1, e2, e3, e4, hc, hl, hd]
  refine DFin.t (get1_fin hS hc (by simp only [set_next, add_next]; omega) ?_ (fun k o hk ho => ?_) rfl)
  · simp only [set_ob]
    rw [if_neg (by omega), if_pos trivial]
  · have := hS.lt ho
    simp only [set_ob, add_ob, add_next]
    rw [if_neg (by omega), if_neg hk, if_neg (by omega), if_neg (by omega)]
    exact ho
/-- What lies at the end of a path. -/
def getV : List DStp → DVal → Option DVal
  | [], v => some v
  | p :: ps, v => if 0 ≤ placeOf v p ∧ placeOf v p < (v.parts.length : Int) then getV ps (v.parts.getD (placeOf v p).toNat default) else none
/-- What the visitor leaves. -/
def leftOb (S : St) (c : Nat) : Option DVal → Nat → Option Ob
  | some u => (S.set c (.box 31 (encV u).cells)).ob
  | none => S.ob
/-- A path walked from value v, with the visitor that keeps what it is given: the answer, whether it led somewhere, and what is kept. -/
def ChangeK (S : St) (c : Nat) (r : Option DVal) (d : D) (S' : St) : Prop := ∃ x n, d = .tup [x, .v (.bool r.isSome)] ∧ x.okCell = true ∧ x.cells.length = 6 ∧ x.all (· < n) ∧ S.next ≤ n ∧ S' = ⟨n, leftOb S c r⟩
end Go.Proofs.Ytpnjkebjdclkfaa

/- Paths, walked: Clip, all paths. Conditions: none. -/
namespace Go.Proofs.Ytpnjkebjdclkfaa
open Go.RowKit
set_option linter.unusedSimpArgs false
theorem fin_tmp_normal {P : Program} {S : St} {f : Fm} {K : D → St → Prop} (t : Tmp) (S' : St) : DQ.fin P [.tmp t] S K .normal f S' = DFinT P S S' (f t) K := by simp [DQ.fin, dresL, dres, onVal, one]
theorem fin_tmp_ret {P : Program} {S : St} {f : Fm} {K : D → St → Prop} (t : Tmp) (S' : St) : DQ.fin P [.tmp t] S K .ret f S' = DFinT P S S' (f t) K := by simp [DQ.fin, dresL, dres, onVal, one]
attribute [go_sem] fin_tmp_normal fin_tmp_ret
theorem fin_pure {S T : St} (hS : S.WF) {d : D} (hc : d.closed) (hs : S.Sub T) : DFin S T d (fun d' T' => d' = d ∧ T' = S) :=
  ⟨d, S, DLe.refl _, D.all_mono (fun _ h => h.elim) hc, hs.next, Nat.le_refl _, fun k o hk => ⟨hs.ob k o hk, hS.lt hk, fun _ _ _ => .inl hk⟩, rfl, rfl⟩
theorem closed_steps (own : Own) (ho : own.all fun _ => False) (l : List DStp) : (D.sl own (l.map encP)).closed := by
  simp only [D.closed, D.all]
  refine ⟨ho, allL_iff.2 fun d hd => ?_⟩
  obtain ⟨p, _, rfl⟩ := List.mem_map.1 hd
  simp [encP, D.all, allL, strD, u64D]
theorem clip_d (own : Own) (l : List DStp) (hl : l.length ≤ 140737488351232) : DPure Try.prog 99 [.sl own (l.map encP)] (.sl .full (l.map encP)) := fun S => by
  refine dcalls_of_dwp mixed Try.func99 rfl (fun _ _ => by kernel_rfl) (rs := [.tmp 2]) rfl (by kernel_rfl) (fun hS => ?_)
  have c1 : (0 : Int) ≤ (l.length : Int) := by omega
  simp only [go_sem, ↓reduceIte, Nat.reduceBEq, Nat.reduceAdd, Nat.reduceLeDiff, Nat.reduceEqDiff, Nat.reduceLT, add_ob, set_ob, bnd, c1, Int.le_refl, List.take_length, List.length_map, Option.isSome_some, true_or, Int.toNat_natCast]
  have ht : (List.map encP l).take l.length = l.map encP := List.take_of_length_le (by simp)
  simp only [Int.toNat_zero, List.drop_zero, ht]
  exact (fin_pure hS (closed_steps .full trivial l) (St.Sub.refl S)).t
/-- All paths into a value, behind the one given: the program's order. -/
def allV : Nat → DVal → List DStp → List (List DStp)
  | 0, _, at_ => [at_]
  | k + 1, v, at_ => at_ :: (List.range v.parts.length).flatMap fun i => allV k (v.parts.getD i default) (at_ ++ [if v.kind = 5 then (v.names.getD i [], 0) else ([], v.ids.getD i 0)])
def encPs (l : List DStp) : D := .sl .no (l.map encP)
end Go.Proofs.Ytpnjkebjdclkfaa

/- Rules that shorten walks over trees: what a stretch of code leaves alone; loops by rounds. Conditions: none. -/
namespace Go.Proofs.Ytpnjkebjdclkfaa
open Go.RowKit

theorem ob_hit {S : St} {o : Ob} {k : Nat} (h : k = S.next) : (S.add o).ob k = some o := by rw [add_ob, if_pos h]
theorem ob_skip {S : St} {o : Ob} {k : Nat} (h : k ≠ S.next) : (S.add o).ob k = S.ob k := by rw [add_ob, if_neg h]
theorem ob_set {S : St} {o : Ob} {k j : Nat} (h : j = k) : (S.set k o).ob j = some o := by rw [set_ob, if_pos h]
theorem ob_old {S : St} {o : Ob} {k j : Nat} (h : j ≠ k) : (S.set k o).ob j = S.ob j := by rw [set_ob, if_neg h]
theorem int_zero : ((0 : Nat) : Int) = 0 := Eq.trans (Eq.refl _) (Eq.refl _)
theorem ddraw_cut {P : Program} {l : List Oper} {R : Fm → St → Prop} {f : Fm} {S : St} (J : Fm → St → Prop) (h : ddraw P l J f S) (hk : ∀ f' S', J f' S' → R f' S') : ddraw P l R f S := by
  rcases h with ⟨n, h1, h2⟩ | ⟨Zs, n, h1, h2, h3⟩
  · exact .inl ⟨n, h1, dhead_mono (fun f' S' hf' => dops_mono hk _ hf') _ h2⟩
  · exact .inr ⟨Zs, n, h1, h2, sAny_mono (fun f' S' hf' => dops_mono hk _ hf') _ _ h3⟩
theorem cells_win_ (k n : Nat) : (D.win k n).cells = [D.win k n] := Eq.trans (Eq.refl _) (Eq.refl _)
theorem okCell_win_ (k n : Nat) : (D.win k n).okCell = true := Eq.trans (Eq.refl _) (Eq.refl _)
attribute [go_sem] cells_win_ okCell_win_
/-! What is written. -/
def dstOk (W : Nat → Bool) : Option Tmp → Bool
  | none => true
  | some t => W t
def wrOk (W : Nat → Bool) : Code → Bool
  | .region _ ops _ => ops.all fun o => dstOk W o.dst
  | .seq x y => wrOk W x && wrOk W y
  | .cond _ x y => wrOk W x && wrOk W y
  | .block _ c => wrOk W c
  | .loop c => wrOk W c
  | _ => true
/-- f' is f, but for what may be written. -/
def Off (W : Nat → Bool) (f f' : Fm) : Prop := ∀ t, W t = false → f' t = f t
theorem Off.refl (W : Nat → Bool) (f : Fm) : Off W f f := fun _ _ => rfl
theorem Off.trans {W : Nat → Bool} {f g h : Fm} (a : Off W f g) (b : Off W g h) : Off W f h := fun t ht => (b t ht).trans (a t ht)
theorem Off.put {W : Nat → Bool} {f g : Fm} (a : Off W f g) {dst : Option Tmp} (hd : dstOk W dst = true) (d : D) : Off W f (put g dst d) := fun t ht => by
  rw [put_same (fun e => by subst e; simp only [dstOk] at hd; rw [hd] at ht; cases ht)]
  exact a t ht
theorem St.WF.add {S : St} (h : S.WF) (o : Ob) : (S.add o).WF := fun k hk => by
  have hk' : S.next + 1 ≤ k := hk
  simp only [St.add]
  rw [if_neg (by omega)]
  exact h k (by omega)
theorem St.WF.set {S : St} (h : S.WF) {k : Nat} (hk : k < S.next) (o : Ob) : (S.set k o).WF := fun j hj => by
  have hj' : S.next ≤ j := hj
  simp only [St.set]
  rw [if_neg (by omega)]
  exact h j hj'
theorem St.WF.drop {S : St} (h : S.WF) (g : Nat) : (S.drop g).WF := fun j hj => by
  have hj' : S.next ≤ j := hj
  simp only [St.drop]
  split
  · rfl
  · exact h j hj'
theorem St.WF.leave {S : St} (h : S.WF) (o : Own) : (S.leave o).WF := by
  cases o with
  | row g => exact h.drop g
  | no => exact h
  | full => exact h
theorem St.WF.grow {S : St} (h : S.WF) (o : Own) (e : TypeId) (n : Nat) : (S.grow o e n).WF := (h.leave o).add _
theorem St.WF.keep {S : St} (h : S.WF) {n : Nat} (hn : S.next ≤ n) : (St.mk n S.ob).WF := fun k hk => h k (Nat.le_trans hn hk)
theorem St.Sub.keep {S T : St} (h : S.Sub T) {n : Nat} (hn : T.next ≤ n) : S.Sub ⟨n, T.ob⟩ := ⟨Nat.le_trans h.next hn, h.ob⟩
theorem St.Sub.trans {A B C : St} (h : A.Sub B) (k : B.Sub C) : A.Sub C := ⟨Nat.le_trans h.next k.next, fun i o hi => k.ob i o (h.ob i o hi)⟩
theorem DCalls.wf {P : Program} {g : FuncId} {args : List D} {S : St} {K : D → St → Prop} (h : DCalls P g args S K) : DCalls P g args S fun d S' => K d S' ∧ S'.WF := fun base η w vs hM hr =>
  ⟨(h base η w vs hM hr).1, (h base η w vs hM hr).2.mono fun _ _ ⟨d, S', η', v, h1, h2, h3, h4⟩ => ⟨d, S', η', v, ⟨h1, h4.mem.fresh⟩, h2, h3, h4⟩⟩
theorem onVal_and {o : Option (Prop × D)} {K : D → Prop} {p : Prop} (hp : p) (h : onVal o K) : onVal o fun d => K d ∧ p := onVal_mono (fun _ hd => ⟨hd, hp⟩) h
section
variable {P : Program} {W : Nat → Bool}
theorem dop_more {f : Fm} {S : St} {ty : TypeId} {op : Op} {K : D → St → Prop} (hS : S.WF) (ho : dop P f S ty op K) : dop P f S ty op fun d S' => K d S' ∧ S'.WF := by
  cases op with
  | alloc t => simp only [dop] at *; exact ⟨ho.1, ho.2, hS.add _⟩
  | box t x => simp only [dop] at *; exact ⟨ho.1, ho.2, hS.add _⟩
  | store t x y =>
    simp only [dop] at *
    split at ho
    · split at ho
      · rename_i k off _ _ t' cs hk
        exact ⟨ho.1, ho.2.1, ho.2.2.1, ho.2.2.2.1, ho.2.2.2.2, hS.set (hS.lt hk) _⟩
      · exact ho
    · exact ho
  | call cl =>
    obtain ⟨callee, args, ts⟩ := cl
    cases callee with
    | value x =>
      simp only [dop] at *
      split at ho
      · exact ho.wf
      · exact ho
    | invoke r m => exact onVal_and (o := dval P f S ty (.call ⟨.invoke r m, args, ts⟩)) (K := fun d => K d S) hS ho
    | builtin b =>
      by_cases hb : b = .append
      · subst hb
        simp only [dop] at *
        split at ho
        · split at ho
          · rcases ho with ⟨k1, k2, k3, k4, k5, k6, k7, k8⟩ | ⟨k1, k2, k3, k4, k5, k6, k7, k8, k9, k10⟩
            · exact .inl ⟨k1, k2, k3, k4, k5, k6, k7, k8, hS.grow _ _ _⟩
            · exact .inr ⟨k1, k2, k3, k4, k5, k6, k7, k8, k9, fun zs => ⟨k10 zs, hS.add _⟩⟩
          · exact ho
        · exact ho
      · cases b <;> first | exact absurd rfl hb | (simp only [dop] at *; exact onVal_and hS ho)
  | _ => simp only [dop] at *; exact onVal_and hS ho
theorem dops_more {ops : Array Oper} {Q : Fm → St → Prop} : ∀ (l : List Oper), (∀ o ∈ l, dstOk W o.dst = true) → ∀ {f : Fm} {S : St}, S.WF → dops P ops Q l f S → dops P ops (fun f' S' => Q f' S' ∧ S'.WF ∧ Off W f f') l f S
  | [], _, f, S, hS, h => ⟨h, hS, Off.refl W f⟩
  | o :: l, hw, f, S, hS, h => by
    unfold dops at *
    have h1 := hw o (by simp)
    have h2 : ∀ o' ∈ l, dstOk W o'.dst = true := fun o' ho => hw o' (by simp [ho])
    refine dwanted_mono (fun hy => ?_) (fun hn => ?_) h
    · refine dop_mono (fun d S' hk => ?_) (dop_more hS hy)
      refine dops_mono (fun f' S'' hq => ?_) l (dops_more l h2 hk.2 hk.1)
      exact ⟨hq.1, hq.2.1, (Off.put (Off.refl W f) h1 d).trans hq.2.2⟩
    · refine dops_mono (fun f' S'' hq => ?_) l (dops_more l h2 hS hn)
      exact ⟨hq.1, hq.2.1, (Off.put (Off.refl W f) h1 _).trans hq.2.2⟩
theorem dhead_more {ops : Array Oper} {S : St} (hS : S.WF) {Q : Fm → St → Prop} : ∀ (l : List Oper), (∀ o ∈ l, dstOk W o.dst = true) → ∀ {f : Fm} {u : Option Ob}, dhead P ops S Q l f u → dhead P ops S (fun f' S' => Q f' S' ∧ S'.WF ∧ Off W f f') l f u
  | [], _, f, u, h => ⟨h, (by cases u with | none => exact hS | some b => exact hS.add b), Off.refl W f⟩
  | o :: l, hw, f, u, h => by
    unfold dhead at *
    have h1 := hw o (by simp)
    have h2 : ∀ o' ∈ l, dstOk W o'.dst = true := fun o' ho => hw o' (by simp [ho])
    have go : ∀ (d : D) (u' : Option Ob), dhead P ops S Q l (put f o.dst d) u' → dhead P ops S (fun f' S' => Q f' S' ∧ S'.WF ∧ Off W f f') l (put f o.dst d) u' := fun d u' hd =>
      dhead_mono (fun f' S' hq => ⟨hq.1, hq.2.1, (Off.put (Off.refl W f) h1 d).trans hq.2.2⟩) l (dhead_more hS l h2 hd)
    split at h
    · exact hop_mono (fun d u' hd => go d u' hd) h
    · exact dwanted_mono (fun hq => dquiet_mono (fun d hd => go d u hd) hq) (go _ u) h
theorem sAny_more {ops : Array Oper} {md : Region.Mode} {Zs : St → Prop} {Q : Fm → St → Prop} (hw : ∀ (j : Nat) (o : Oper), ops[j]? = some o → dstOk W o.dst = true) : ∀ (fuel : Nat) (L : Array Bool) {f : Fm} {S : St}, S.WF → sAny P md ops Zs Q fuel L f S → sAny P md ops Zs (fun f' S' => Q f' S' ∧ S'.WF ∧ Off W f f') fuel L f S
  | 0, _, f, _, hS, k => ⟨k.1, k.2, hS, Off.refl W f⟩
  | n + 1, L, f, S, hS, k => by
    refine ⟨fun e => ⟨k.1 e, hS, Off.refl W f⟩, fun i hi => ?_⟩
    have h2 := k.2 i hi
    unfold sOp at *
    cases ho : ops[i]? with
    | none => rw [ho] at h2; exact sAny_more hw n _ hS h2
    | some o =>
      rw [ho] at h2
      have h1 := hw i o ho
      have go : ∀ d (S' : St), S'.WF → sAny P md ops Zs Q n (L.setIfInBounds i true) (put f o.dst d) S' → sAny P md ops Zs (fun f' S' => Q f' S' ∧ S'.WF ∧ Off W f f') n (L.setIfInBounds i true) (put f o.dst d) S' := fun d S' hS' hk =>
        sAny_mono (fun f' S' hq => ⟨hq.1, hq.2.1, (Off.put (Off.refl W f) h1 d).trans hq.2.2⟩) _ _ (sAny_more hw n _ hS' hk)
      rcases h2 with ⟨d, e1, e2⟩ | ⟨e1, e2⟩
      · exact .inl ⟨d, e1, go d S hS e2⟩
      · exact .inr ⟨e1, dop_mono (fun d S' hk => ⟨hk.1.1, go d S' hk.2 hk.1.2⟩) (dop_more hS e2)⟩
theorem dwp_more : ∀ (c : Code) {Q : DQ} {f : Fm} {S : St}, wrOk W c = true → S.WF → dwp P c Q f S → dwp P c (fun e f' S' => Q e f' S' ∧ S'.WF ∧ Off W f f') f S := by
  intro c
  induction c with
  | region id ops draw =>
    intro Q f S hw hS h
    have hw' : ∀ o ∈ ops.toList, dstOk W o.dst = true := fun o ho => Array.all_eq_true_iff_forall_mem.1 hw o (by simpa using ho)
    cases draw with
    | false => exact dops_more _ hw' hS h
    | true =>
      rcases h with ⟨n, h1, h2⟩ | ⟨Zs, n, h1, h2, h3⟩
      rotate_left
      · refine .inr ⟨Zs, n, h1, h2, sAny_mono (fun f' S' hq => ?_) _ _ (sAny_more (W := W) (fun j o ho => hw' o (by
          have := List.mem_of_getElem? (show (ops.toList.take n)[j]? = some o by simpa using ho)
          exact List.mem_of_mem_take this)) _ _ hS h3)⟩
        refine dops_mono (fun f'' S'' hk => ?_) _ (dops_more (W := W) _ (fun o ho => hw' o (List.mem_of_mem_drop ho)) hq.2.1 hq.1)
        exact ⟨hk.1, hk.2.1, hq.2.2.trans hk.2.2⟩
      refine .inl ⟨n, h1, dhead_mono (fun f' S' hq => ?_) _ (dhead_more (W := W) hS _ (fun o ho => hw' o (List.mem_of_mem_take ho)) h2)⟩
      refine dops_mono (fun f'' S'' hk => ?_) _ (dops_more (W := W) _ (fun o ho => hw' o (List.mem_of_mem_drop ho)) hq.2.1 hq.1)
      exact ⟨hk.1, hk.2.1, hq.2.2.trans hk.2.2⟩
  | seq x y ihx ihy =>
    intro Q f S hw hS h
    simp only [wrOk, Bool.and_eq_true] at hw
    refine dwp_mono x (fun e f2 S2 hq => ?_) (ihx hw.1 hS h)
    cases e with
    | normal =>
      refine dwp_mono y (fun e3 f3 S3 h3 => ?_) (ihy (Q := Q) hw.2 hq.2.1 hq.1)
      exact ⟨h3.1, h3.2.1, hq.2.2.trans h3.2.2⟩
    | exit i => exact hq
    | ret => exact hq
  | cond g x y ihx ihy =>
    intro Q f S hw hS h
    simp only [wrOk, Bool.and_eq_true] at hw
    unfold dwp at h ⊢
    generalize ev f g = u at h ⊢
    cases u with
    | v u => cases u with
      | bool b => exact ⟨fun e => ihx hw.1 hS (h.1 e), fun e => ihy hw.2 hS (h.2 e)⟩
      | _ => exact h
    | _ => exact h
  | block id c ih =>
    intro Q f S hw hS h
    refine dwp_mono c (fun e f2 S2 hq => ?_) (ih hw hS h)
    cases e with
    | normal => exact hq
    | ret => exact hq
    | exit i =>
      simp only [DQ.block] at *
      cases hb : Nat.beq i id with
      | true => rw [hb] at hq; exact hq
      | false => rw [hb] at hq; exact hq
  | loop c ih =>
    intro Q f S hw hS h
    obtain ⟨I, μ, h0, hr⟩ := h
    refine ⟨fun g T => I g T ∧ T.WF ∧ Off W f g, μ, ⟨h0, hS, Off.refl W f⟩, fun g T ⟨hI, hT, hg⟩ => ?_⟩
    refine dwp_mono c (fun e f2 S2 hq => ?_) (ih hw hT (hr g T hI))
    obtain ⟨hq, hwf, hoff⟩ := hq
    cases e with
    | normal =>
      obtain ⟨S'', ⟨s1, s2⟩, s3, s4⟩ := hq
      refine ⟨S'', ⟨s1, s2⟩, ⟨s3, fun k hk => ?_, hg.trans hoff⟩, s4⟩
      cases ho : S''.ob k with
      | none => rfl
      | some o => have := s2 k o ho; rw [hwf k (by omega)] at this; cases this
    | exit i => exact ⟨hq, hwf, hg.trans hoff⟩
    | ret => exact ⟨hq, hwf, hg.trans hoff⟩
  | skip => intro Q f S _ hS k; exact ⟨k, hS, Off.refl W f⟩
  | label l => intro Q f S _ hS k; exact ⟨k, hS, Off.refl W f⟩
  | exit i => intro Q f S _ hS k; exact ⟨k, hS, Off.refl W f⟩
  | ret => intro Q f S _ hS k; exact ⟨k, hS, Off.refl W f⟩
  | rangeFunc x ps aa b _ _ => intro Q f S _ _ k; exact k.elim
  | scope c _ => intro Q f S _ _ k; exact k.elim
  | goto l => intro Q f S _ _ k; exact k.elim
  | refuse s => intro Q f S _ _ k; exact k.elim
/-- A round's end, by a number that goes down. -/
def dnextR (I : Nat → Fm → St → Prop) (m : Nat) (f' : Fm) (S' : St) : Prop := ∃ (m' : Nat) (ob : Nat → Option Ob), m' < m ∧ (∀ k o, ob k = some o → S'.ob k = some o) ∧ I m' f' ⟨S'.next, ob⟩
theorem least_of {p : Nat → Prop} (h : ∃ n, p n) : ∃ n, p n ∧ ∀ m, p m → n ≤ m := by
  obtain ⟨n, hn⟩ := h
  induction n using Nat.strongRecOn with
  | _ n ih =>
    by_cases hx : ∃ m, m < n ∧ p m
    · obtain ⟨m, h1, h2⟩ := hx
      exact ih m h1 h2
    · refine ⟨n, hn, fun m hm => ?_⟩
      rcases Nat.lt_or_ge m n with h1 | h1
      · exact absurd ⟨m, h1, hm⟩ hx
      · exact h1
theorem dloop_down {c : Code} {Q : DQ} {f : Fm} {S : St} (W : Nat → Bool) (hW : wrOk W c = true) (hS : S.WF) (I : Nat → Fm → St → Prop) (m : Nat) (h0 : I m f S)
    (hr : ∀ m g T, T.WF → Off W f g → I m g T → dwp P c (DQ.then (dnextR I m) Q) g T) : DLoop (dwp P c) Q f S := by
  classical
  let J : Fm → St → Nat → Prop := fun g T m => I m g T ∧ T.WF ∧ Off W f g
  refine ⟨fun g T => ∃ m, J g T m, fun g T => if h : ∃ m, J g T m then Classical.choose (least_of h) else 0, ⟨m, h0, hS, Off.refl W f⟩, fun g T hI => ?_⟩
  have hf := (Classical.choose_spec (least_of hI)).1
  obtain ⟨h1, h2, h3⟩ := hf
  refine dwp_mono c (fun e f2 S2 hq => ?_) (dwp_more (W := W) c hW h2 (hr _ g T h2 h3 h1))
  obtain ⟨hq, hwf, hoff⟩ := hq
  cases e with
  | normal =>
    obtain ⟨m', ob, k1, k2, k3⟩ := hq
    have hw2 : (St.mk S2.next ob).WF := fun k hk => by
      cases ho : ob k with
      | none => exact ho
      | some o => have := k2 k o ho; rw [hwf k hk] at this; cases this
    have hj : J f2 ⟨S2.next, ob⟩ m' := ⟨k3, hw2, h3.trans hoff⟩
    refine ⟨⟨S2.next, ob⟩, ⟨rfl, k2⟩, ⟨m', hj⟩, ?_⟩
    show (if h : ∃ m, J f2 ⟨S2.next, ob⟩ m then Classical.choose (least_of h) else 0) < (if h : ∃ m, J g T m then Classical.choose (least_of h) else 0)
    rw [dif_pos ⟨m', hj⟩, dif_pos hI]
    exact Nat.lt_of_le_of_lt ((Classical.choose_spec (least_of ⟨m', hj⟩)).2 m' hj) k1
  | exit i => exact hq
  | ret => exact hq
/-- A round's end, by an index that goes up. -/
def dnextU (I : Nat → Fm → St → Prop) (n i : Nat) (f' : Fm) (S' : St) : Prop := i < n ∧ ∃ ob : Nat → Option Ob, (∀ k o, ob k = some o → S'.ob k = some o) ∧ I (i + 1) f' ⟨S'.next, ob⟩
theorem dloop_up {c : Code} {Q : DQ} {f : Fm} {S : St} (W : Nat → Bool) (hW : wrOk W c = true) (hS : S.WF) (n : Nat) (I : Nat → Fm → St → Prop) (h0 : I 0 f S)
    (hr : ∀ i g T, T.WF → Off W f g → I i g T → dwp P c (DQ.then (dnextU I n i) Q) g T) : DLoop (dwp P c) Q f S := by
  refine dloop_down W hW hS (fun m g T => ∃ i, m = n - i ∧ I i g T) (n - 0) ⟨0, rfl, h0⟩ fun m g T hT hg ⟨i, hm, hI⟩ => ?_
  subst hm
  refine dwp_mono c (fun e f2 S2 hq => ?_) (hr i g T hT hg hI)
  cases e with
  | normal =>
    obtain ⟨k1, ob, k2, k3⟩ := hq
    exact ⟨n - (i + 1), ob, by omega, k2, i + 1, rfl, k3⟩
  | exit i => exact hq
  | ret => exact hq
/-- The names that were there stay as they were. -/
def dnextS (S : St) (I : Nat → Fm → Prop) (n i : Nat) (f' : Fm) (S' : St) : Prop := i < n ∧ S.Sub S' ∧ I (i + 1) f'
theorem dloop_st {c : Code} {Q : DQ} {f : Fm} {S : St} (W : Nat → Bool) (hW : wrOk W c = true) (hS : S.WF) (n : Nat) (I : Nat → Fm → Prop) (h0 : I 0 f)
    (hr : ∀ i g tn, S.next ≤ tn → (St.mk tn S.ob).WF → Off W f g → I i g → dwp P c (DQ.then (dnextS S I n i) Q) g ⟨tn, S.ob⟩) : DLoop (dwp P c) Q f S := by
  refine dloop_up W hW hS n (fun i g T => S.next ≤ T.next ∧ T.ob = S.ob ∧ I i g) ⟨Nat.le_refl _, rfl, h0⟩ fun i g T hT hg ⟨h1, h2, h3⟩ => ?_
  obtain ⟨tn, tob⟩ := T
  have h2' : tob = S.ob := h2
  subst h2'
  refine dwp_mono c (fun e f2 S2 hq => ?_) (hr i g tn h1 hT hg h3)
  cases e with
  | normal => exact ⟨hq.1, S.ob, hq.2.1.ob, hq.2.1.next, rfl, hq.2.2⟩
  | exit i => exact hq
  | ret => exact hq
/-- One variable changes from round to round. -/
def dnextV (S : St) (v : Nat) (b : Nat → Ob) (I : Nat → Fm → Prop) (n i : Nat) (f' : Fm) (S' : St) : Prop := i < n ∧ (S.set v (b (i + 1))).Sub S' ∧ I (i + 1) f'
theorem dloop_var {c : Code} {Q : DQ} {f : Fm} {S : St} (W : Nat → Bool) (hW : wrOk W c = true) (hS : S.WF) (n : Nat) (v : Nat) (b : Nat → Ob) (hv : S.ob v = some (b 0)) (I : Nat → Fm → Prop) (h0 : I 0 f)
    (hr : ∀ i g tn, S.next ≤ tn → (St.mk tn (S.set v (b i)).ob).WF → Off W f g → I i g → dwp P c (DQ.then (dnextV S v b I n i) Q) g ⟨tn, (S.set v (b i)).ob⟩) : DLoop (dwp P c) Q f S := by
  have hb : (S.set v (b 0)).ob = S.ob := by
    funext k
    simp only [St.set]
    split
    · rename_i h; rw [h, hv]
    · rfl
  refine dloop_up W hW hS n (fun i g T => S.next ≤ T.next ∧ T.ob = (S.set v (b i)).ob ∧ I i g) ⟨Nat.le_refl _, hb.symm, h0⟩ fun i g T hT hg ⟨h1, h2, h3⟩ => ?_
  obtain ⟨tn, tob⟩ := T
  have h2' : tob = (S.set v (b i)).ob := h2
  subst h2'
  refine dwp_mono c (fun e f2 S2 hq => ?_) (hr i g tn h1 hT hg h3)
  cases e with
  | normal => exact ⟨hq.1, (S.set v (b (i + 1))).ob, hq.2.1.ob, hq.2.1.next, rfl, hq.2.2⟩
  | exit i => exact hq
  | ret => exact hq
theorem St.Sub.upd {S X : St} {v tn : Nat} {b B B' : Ob} (hn : S.next ≤ tn) (hB : B' = B) (h : St.Sub ⟨tn, (S.set v b).ob⟩ X) : (S.set v B').Sub (X.set v B) := ⟨Nat.le_trans hn h.next, fun k o hk => by
  subst hB
  simp only [set_ob] at *
  split
  · rename_i e; rw [if_pos e] at hk; exact hk
  · rename_i e
    rw [if_neg e] at hk
    refine h.ob k o ?_
    show (S.set v b).ob k = _
    rw [set_ob, if_neg e]
    exact hk⟩
/-! A row that grows. -/
def rowOf (S : St) (own : Own) (e : TypeId) (n : Nat) : Nat → Option Ob := fun k => match own with
  | .row g => if k = g then some (.row e n) else S.ob k
  | _ => S.ob k
def RowOk (lo : Nat) (S : St) (own : Own) (n : Nat) : Prop := own = .full ∨ ∃ g, own = .row g ∧ lo ≤ g ∧ S.ob g = none ∧ g < n
theorem rowOf_lt {lo : Nat} {S : St} {own : Own} {n : Nat} (h : RowOk lo S own n) {e : TypeId} {m k : Nat} (hk : k < lo) : rowOf S own e m k = S.ob k := by
  rcases h with rfl | ⟨g, rfl, h1, _⟩
  · rfl
  · show (if k = g then _ else _) = _
    rw [if_neg (by omega)]
theorem rowOf_some {lo : Nat} {S : St} {own : Own} {n : Nat} (h : RowOk lo S own n) {e : TypeId} {m k : Nat} {o : Ob} (hk : S.ob k = some o) : rowOf S own e m k = some o := by
  rcases h with rfl | ⟨g, rfl, _, h1, _⟩
  · exact hk
  · have : k ≠ g := fun e => by subst e; rw [h1] at hk; cases hk
    show (if k = g then _ else _) = _
    rw [if_neg this]
    exact hk
theorem RowOk.sub {lo : Nat} {S : St} {own : Own} {e : TypeId} {m n : Nat} (h : RowOk lo S own n) (hn : S.next ≤ n) : S.Sub ⟨n, rowOf S own e m⟩ := ⟨hn, fun k o hk => rowOf_some h hk⟩
theorem RowOk.own {lo : Nat} {S : St} {own : Own} {e : TypeId} {m n : Nat} (h : RowOk lo S own n) : (match own with | .full => True | .row g => rowOf S own e m g = some (.row e m) | .no => False) := by
  rcases h with rfl | ⟨g, rfl, h1, _⟩
  · trivial
  · show (if g = g then _ else _) = _
    rw [if_pos rfl]
theorem RowOk.own_of {lo : Nat} {S X : St} {own : Own} {e : TypeId} {m n : Nat} (h : RowOk lo S own n) (hs : St.Sub ⟨n, rowOf S own e m⟩ X) : (match own with | .full => True | .row g => X.ob g = some (.row e m) | .no => False) := by
  have := h.own (e := e) (m := m)
  revert this
  cases own with
  | full => exact fun _ => trivial
  | no => exact fun h => h
  | row g => exact fun h => hs.ob _ _ h
theorem leave_next (S : St) (own : Own) : (S.leave own).next = S.next := by cases own <;> rfl
abbrev RowOk.lo {lo : Nat} {S : St} {own : Own} {n : Nat} (_ : RowOk lo S own n) : Nat := lo
theorem RowOk.entry {lo : Nat} {S X : St} {own : Own} {e : TypeId} {m n : Nat} (h : RowOk lo S own n) (hs : St.Sub ⟨n, rowOf S own e m⟩ X) : own = .full ∨ ∃ g, own = .row g ∧ lo ≤ g ∧ X.ob g = some (.row e m) := by
  have := h.own_of hs
  rcases h with rfl | ⟨g, rfl, h1, _⟩
  · exact .inl rfl
  · exact .inr ⟨g, rfl, h1, this⟩
/-- A variable, seen in a loop within a round. -/
theorem inner_ob {T : St} {own ownb : Own} {e e' t : TypeId} {m mb lo lo' n k : Nat} {cs : List D} (h1 : own = .full ∨ ∃ g, own = .row g ∧ lo' ≤ g ∧ T.ob g = some (.row e' m)) (hr : RowOk lo (T.leave own) ownb n) (hk : T.ob k = some (.box t cs)) : rowOf (T.leave own) ownb e mb k = some (.box t cs) := by
  refine rowOf_some hr ?_
  rcases h1 with rfl | ⟨g, rfl, _, h2⟩
  · exact hk
  · have : k ≠ g := fun e => by subst e; rw [hk] at h2; cases h2
    show (if k = g then none else T.ob k) = _
    rw [if_neg this]
    exact hk
/-- The row is the one that append leaves, or the one that was there. -/
structure RowNext (lo : Nat) (S : St) (own : Own) (e : TypeId) (m : Nat) (S' : St) : Prop where
  ok : RowOk lo S own S'.next
  next : S.next ≤ S'.next
  ob : ∀ k o, rowOf S own e m k = some o → S'.ob k = some o
theorem RowNext.same {lo : Nat} {S T : St} {own : Own} {e : TypeId} {m n : Nat} (h : RowOk lo S own n) (hn : S.next ≤ n) (hs : St.Sub ⟨n, rowOf S own e m⟩ T) : RowNext lo S own e m T :=
  ⟨by
    have := hs.next
    rcases h with rfl | ⟨g, rfl, h0, h1, h2⟩
    · exact .inl rfl
    · exact .inr ⟨g, rfl, h0, h1, Nat.lt_of_lt_of_le h2 this⟩, Nat.le_trans hn hs.next, hs.ob⟩
theorem RowNext.grow {lo : Nat} {S X T : St} (hS : S.WF) (hlo : lo ≤ S.next) {own : Own} {e : TypeId} {m m' n : Nat} (h : RowOk lo S own n) (hn : S.next ≤ n) (hs : St.Sub ⟨n, rowOf S own e m⟩ X) (hT : (X.grow own e m').Sub T) : RowNext lo S (.row X.next) e m' T := by
  have hXn : n ≤ X.next := hs.next
  have hg : (X.grow own e m').next = X.next + 1 := grow_next _ _ _ _
  have hTn := hT.next
  rw [hg] at hTn
  refine ⟨.inr ⟨X.next, rfl, by omega, hS _ (by omega), by omega⟩, by omega, fun k o hk => hT.ob k o ?_⟩
  simp only [rowOf] at hk
  by_cases h1 : k = X.next
  · rw [if_pos h1] at hk
    rcases h with rfl | ⟨g, rfl, _, _⟩
    · rw [grow_full_ob, if_pos h1, hk]
    · rw [grow_row_ob, if_pos h1, hk]
  · rw [if_neg h1] at hk
    have h2 := hs.ob k o (rowOf_some h hk)
    rcases h with rfl | ⟨g, rfl, h3, h4, h5⟩
    · rw [grow_full_ob, if_neg h1]
      exact h2
    · have hkg : k ≠ g := fun e => by subst e; rw [h4] at hk; cases hk
      rw [grow_row_ob, if_neg h1, if_neg hkg]
      exact h2
/-- Behind a loop within a round, which grew the row. -/
theorem RowNext.inner {lo : Nat} {S T1 T : St} {own own' : Own} {e : TypeId} {m m' n n' : Nat} (h : RowOk lo S own n) (hn : S.next ≤ n) (hs : St.Sub ⟨n, rowOf S own e m⟩ T1) (h' : RowOk lo (T1.leave own) own' n') (hn'' : (T1.leave own).next ≤ n') (hT : St.Sub ⟨n', rowOf (T1.leave own) own' e m'⟩ T) : RowNext lo S own' e m' T := by
  have hsub : ∀ k o, S.ob k = some o → (T1.leave own).ob k = some o := fun k o hk => by
    have h2 := hs.ob k o (rowOf_some h hk)
    rcases h with rfl | ⟨g, rfl, h3, h4, h5⟩
    · exact h2
    · have hkg : k ≠ g := fun e => by subst e; rw [h4] at hk; cases hk
      show (if k = g then none else T1.ob k) = _
      rw [if_neg hkg]
      exact h2
  have hTn := hT.next
  have hT1 := hs.next
  have hn' : T1.next ≤ n' := leave_next T1 own ▸ hn''
  refine ⟨?_, by have h1 : n ≤ T1.next := hT1; have h2 : n' ≤ T.next := hTn; omega, fun k o hk => hT.ob k o ?_⟩
  · rcases h' with rfl | ⟨g, rfl, h3, h4, h5⟩
    · exact .inl rfl
    · refine .inr ⟨g, rfl, h3, ?_, Nat.lt_of_lt_of_le h5 hTn⟩
      cases ho : S.ob g with
      | none => rfl
      | some o => have := hsub g o ho; rw [h4] at this; cases this
  · cases own' with
    | row g' =>
      simp only [rowOf] at *
      split
      · rename_i e1; rw [if_pos e1] at hk; exact hk
      · rename_i e1; rw [if_neg e1] at hk; exact hsub k o hk
    | full => exact hsub k o hk
    | no => exact hsub k o hk
def dnextG (lo : Nat) (S : St) (e : TypeId) (I : Nat → Own → Nat → Fm → Prop) (n i : Nat) (f' : Fm) (S' : St) : Prop := i < n ∧ ∃ own m, RowNext lo S own e m S' ∧ I (i + 1) own m f'
theorem dloop_rowI {c : Code} {Q : DQ} {f : Fm} {S : St} (W : Nat → Bool) (hW : wrOk W c = true) (hS : S.WF) (n : Nat) (e : TypeId) (lo : Nat) (own0 : Own) (m0 : Nat) (h1 : own0 = .full ∨ ∃ g, own0 = .row g ∧ lo ≤ g ∧ S.ob g = some (.row e m0)) (I : Nat → Own → Nat → Fm → Prop) (h0 : I 0 own0 m0 f)
    (hr : ∀ i g tn own m, (S.leave own0).next ≤ tn → RowOk lo (S.leave own0) own tn → (St.mk tn (rowOf (S.leave own0) own e m)).WF → Off W f g → I i own m g → dwp P c (DQ.then (dnextG lo (S.leave own0) e I n i) Q) g ⟨tn, rowOf (S.leave own0) own e m⟩) : DLoop (dwp P c) Q f S := by
  have hob : S.ob = rowOf (S.leave own0) own0 e m0 := by
    rcases h1 with rfl | ⟨g, rfl, _, h2⟩
    · rfl
    · funext k
      show S.ob k = if k = g then _ else (if k = g then none else S.ob k)
      split
      · rename_i e1; rw [e1, h2]
      · rfl
  have hok : RowOk lo (S.leave own0) own0 S.next := by
    rcases h1 with rfl | ⟨g, rfl, h3, h2⟩
    · exact .inl rfl
    · refine .inr ⟨g, rfl, h3, ?_, hS.lt h2⟩
      show (if g = g then none else S.ob g) = none
      rw [if_pos rfl]
  have hnx : (S.leave own0).next = S.next := by cases own0 <;> rfl
  refine dloop_up W hW hS n (fun i g T => S.next ≤ T.next ∧ ∃ own m, RowOk lo (S.leave own0) own T.next ∧ T.ob = rowOf (S.leave own0) own e m ∧ I i own m g) ⟨Nat.le_refl _, own0, m0, hok, hob, h0⟩ fun i g T hT hg ⟨h1, own, m, h4, h2, h3⟩ => ?_
  obtain ⟨tn, tob⟩ := T
  have h2' : tob = rowOf (S.leave own0) own e m := h2
  subst h2'
  refine dwp_mono c (fun e f2 S2 hq => ?_) (hr i g tn own m (by rw [hnx]; exact h1) h4 hT hg h3)
  cases e with
  | normal =>
    obtain ⟨k1, own', m', k2, k3⟩ := hq
    exact ⟨k1, rowOf (S.leave own0) own' _ m', k2.ob, hnx ▸ k2.next, own', m', k2.ok, rfl, k3⟩
  | exit i => exact hq
  | ret => exact hq
theorem dloop_row {c : Code} {Q : DQ} {f : Fm} {S : St} (W : Nat → Bool) (hW : wrOk W c = true) (hS : S.WF) (n : Nat) (e : TypeId) (I : Nat → Own → Nat → Fm → Prop) (h0 : I 0 .full 0 f)
    (hr : ∀ i g tn own m, S.next ≤ tn → RowOk S.next S own tn → (St.mk tn (rowOf S own e m)).WF → Off W f g → I i own m g → dwp P c (DQ.then (dnextG S.next S e I n i) Q) g ⟨tn, rowOf S own e m⟩) : DLoop (dwp P c) Q f S :=
  dloop_rowI W hW hS n e S.next .full 0 (.inl rfl) I h0 hr
/-- A slice that grows in a loop is appended to. -/
theorem dapp_grow {P : Program} {S1 S : St} {t tx e : TypeId} {own o2 : Own} {es es2 : List D} {K : D → St → Prop} {lo n m : Nat} (he : elT P t = some e) (hx : (elT P tx).isSome = true) (hz : zeroT P e = true) (h1 : ∀ d ∈ es, d.width = szOf P e) (h2 : ∀ d ∈ es2, d.width = szOf P e) (hr : RowOk lo S own n) (hs : St.Sub ⟨n, rowOf S own e m⟩ S1) (hm : own = .full ∨ m = es.length)
    (hb : es.length + es2.length ≤ 140737488355328) (hb2 : (es.length + es2.length) * bytesOf P e ≤ 140737488355328) (k : K (.sl (.row S1.next) (es ++ es2)) (S1.grow own e (es.length + es2.length))) : dapp P S1 t tx (.sl own es) (.sl o2 es2) K := by
  refine dapp_row ?_
  simp only [dappend, he]
  refine ⟨hx, hz, h1, h2, ?_, hb, hb2, k⟩
  rcases hm with rfl | hm
  · trivial
  · rw [← hm]
    have key := hr.own_of hs
    cases own <;> exact key
end
end Go.Proofs.Ytpnjkebjdclkfaa

/- Variables that are given up: a slice over a variable of the call's own becomes a plain one. Conditions: none. -/
namespace Go.Proofs.Ytpnjkebjdclkfaa
open Go.RowKit

mutual
def D.thaw (k : Nat) (es : List D) : D → D
  | .agg cs => .agg (thawL k es cs)
  | .tup cs => .tup (thawL k es cs)
  | .win j n => bif Nat.beq j k && Nat.beq n es.length then .sl .no es else .win j n
  | .v x => .v x
  | .fn f fs cs => .fn f fs cs
  | .ifc t d => .ifc t d
  | .loc j o => .loc j o
  | .rd cs o => .rd cs o
  | .sl o l => .sl o l
def thawL (k : Nat) (es : List D) : List D → List D
  | [] => []
  | d :: l => d.thaw k es :: thawL k es l
end
section
variable {P : Program} {base : Nat} {S : St} {η : Names} {w : World}
theorem win_cells (hM : Mem P base S η w) {k b : Nat} {e : TypeId} {es zs : List D} (hk : S.ob k = some (.box e (flat es ++ zs))) (hb : η k = some (some b)) (hw : ∀ d ∈ es, d.width = szOf P e) {X : Nat → Nat → Prop} (hX : ∀ i, X b i) {w' : World} {η' : Names} (hE : w' = w) (hK : ∀ {l : List D} {vs : List Value}, RepL P w η (Fix P S η) l vs → RepL P w' η' X l vs) : RepE P w' η' X (szOf P e) es b 0 := by
  subst hE
  obtain ⟨vs, h1, h2, h3⟩ := hM.box k e _ b hk hb
  refine RepE.of_flat hw ?_
  have h4 := RepC.mk (b := b) (o := 0) (hK h2) (fun j v hj => by
    rw [Nat.zero_add]
    have : w'.cell? ⟨b, j, none⟩ = vs.toArray[j]? := by simp [World.cell?, h1]
    rw [this]; simpa using hj) (fun j _ => hX _) h3
  exact h4.left.1
mutual
theorem Rep.thaw (hM : Mem P base S η w) {k : Nat} {e : TypeId} {es zs : List D} (hk : S.ob k = some (.box e (flat es ++ zs))) (hz : 0 < szOf P e) (hw : ∀ d ∈ es, d.width = szOf P e) : ∀ {d : D} {v : Value}, Rep P w η (Fix P S η) d v → Rep P w η (Fix P (S.drop k) η) (d.thaw k es) v
  | .v x, v, h => by simp only [D.thaw]; exact (goes_drop hM k).rep h
  | .fn f fs cs, v, h => by simp only [D.thaw]; exact (goes_drop hM k).rep h
  | .ifc t d, v, h => by simp only [D.thaw]; exact (goes_drop hM k).rep h
  | .loc j o, v, h => by simp only [D.thaw]; exact (goes_drop hM k).rep h
  | .rd cs o, v, h => by simp only [D.thaw]; exact (goes_drop hM k).rep h
  | .sl o l, v, h => by simp only [D.thaw]; exact (goes_drop hM k).rep h
  | .agg cs, v, h => by
    simp only [D.thaw, Rep] at *
    obtain ⟨vs, h1, h2, h3⟩ := h
    exact ⟨vs, h1, RepL.thaw hM hk hz hw h2, h3⟩
  | .tup cs, v, h => by
    simp only [D.thaw, Rep] at *
    obtain ⟨vs, h1, h2⟩ := h
    exact ⟨vs, h1, RepL.thaw hM hk hz hw h2⟩
  | .win j n, v, h => by
    cases hb : (Nat.beq j k && Nat.beq n es.length) with
    | false =>
      have e1 : (D.win j n).thaw k es = .win j n := by simp only [D.thaw, hb, cond_false]
      rw [e1]
      exact (goes_drop hM k).rep h
    | true =>
      rw [Bool.and_eq_true] at hb
      have e1 : j = k := Nat.eq_of_beq_eq_true hb.1
      have e2 : n = es.length := Nat.eq_of_beq_eq_true hb.2
      subst e1 e2
      have e3 : (D.win j es.length).thaw j es = .sl .no es := by simp [D.thaw]
      rw [e3]
      simp only [Rep] at *
      obtain ⟨b, c, h1, h2, h3, h4⟩ := h
      refine ⟨some ⟨b, 0, none⟩, c, h2, h3, h4, trivial, fun _ => ⟨b, 0, szOf P e, rfl, hz, ?_⟩⟩
      refine win_cells hM hk h1 hw (fun i k' o hk' ho => ?_) rfl (fun hr => (goes_drop hM j).repL hr)
      by_cases hkj : k' = j
      · subst hkj
        simp [St.drop] at ho
      · simp only [St.drop, if_neg hkj] at ho
        exact absurd (hM.inj k' j b hk' h1 (by rw [ho]; rfl) (by rw [hk]; rfl)) hkj
theorem RepL.thaw (hM : Mem P base S η w) {k : Nat} {e : TypeId} {es zs : List D} (hk : S.ob k = some (.box e (flat es ++ zs))) (hz : 0 < szOf P e) (hw : ∀ d ∈ es, d.width = szOf P e) : ∀ {l : List D} {vs : List Value}, RepL P w η (Fix P S η) l vs → RepL P w η (Fix P (S.drop k) η) (thawL k es l) vs
  | [], vs, h => by simp only [thawL, RepL] at *; exact h
  | d :: l, vs, h => by
    simp only [thawL, RepL] at *
    obtain ⟨x, xs, h1, h2, h3⟩ := h
    exact ⟨x, xs, h1, Rep.thaw hM hk hz hw h2, RepL.thaw hM hk hz hw h3⟩
end
/-- The variable behind a slice is given up. -/
theorem thaw_win {P : Program} {S : St} {k : Nat} {e : TypeId} {es zs : List D} (hk : S.ob k = some (.box e (flat es ++ zs))) (hz : 0 < szOf P e) (hw : ∀ d ∈ es, d.width = szOf P e) {d d1 : D} (hd : d.thaw k es = d1) : Thaw P S d (S.drop k) d1 := fun base η w v hM hr =>
  ⟨goes_drop hM k, hd ▸ Rep.thaw hM hk hz hw hr⟩
end
/-- A call whose arguments may say more than its contract asks. -/
theorem DPure.weak {P : Program} {g : FuncId} {args args' : List D} {d : D} (k : DPure P g args' d) (h : frzL args = args') : DPure P g args d := fun S base η w vs hM hr => k S base η w vs hM (h ▸ RepL.frz hr)
theorem flat_cons (d : D) (l : List D) : flat (d :: l) = d.cells ++ flat l := by simp [flat]
/-- An element is overwritten. -/
theorem splice_flat : ∀ {es : List D} {zs : List D} {z : Nat} (i : Nat) {y : D}, i < es.length → (∀ d ∈ es, d.width = z) → y.width = z → splice (flat es ++ zs) (0 + i * z) y.cells = flat (es.set i y) ++ zs
  | [], _, _, i, _, h, _, _ => by simp at h
  | d :: es, zs, z, 0, y, _, hw, hy => by
    have h1 : d.cells.length = z := hw d (by simp)
    have h2 : y.cells.length = z := hy
    simp only [List.set_cons_zero, flat_cons, splice, Nat.zero_mul, Nat.add_zero, List.take_zero, List.nil_append, Nat.zero_add, h2, List.append_assoc]
    rw [List.drop_append, List.drop_of_length_le (by omega), h1, Nat.sub_self, List.drop_zero, List.nil_append]
  | d :: es, zs, z, i + 1, y, hi, hw, hy => by
    have h1 : d.cells.length = z := hw d (by simp)
    have ih := splice_flat (es := es) (zs := zs) (z := z) i (y := y) (by simpa using hi) (fun d' hd' => hw d' (by simp [hd'])) hy
    simp only [List.set_cons_succ, flat_cons, List.append_assoc]
    rw [← ih]
    simp only [splice, Nat.zero_add]
    have e1 : (i + 1) * z = z + i * z := by rw [Nat.add_mul]; omega
    rw [e1, List.take_append, List.drop_append, h1]
    rw [List.take_of_length_le (l := d.cells) (by omega), List.drop_of_length_le (l := d.cells) (by omega)]
    rw [show z + i * z - z = i * z by omega, show z + i * z + y.cells.length - z = i * z + y.cells.length by omega]
    simp [List.append_assoc]
theorem splice_flat' {es zs : List D} {z i : Nat} {y : D} (hi : i < es.length) (hw : ∀ d ∈ es, d.width = z) (hy : y.width = z) : List.take (i * z) (flat es ++ zs) ++ y.cells ++ List.drop (i * z + z) (flat es ++ zs) = flat (es.set i y) ++ zs := by
  have := splice_flat (zs := zs) i hi hw hy
  rw [← this]
  simp only [splice, Nat.zero_add]
  rw [show y.cells.length = z from hy]
theorem dquietR_of {P : Program} {f : Fm} {S : St} {ty : TypeId} {op : Op} {d : D} (h : dquiet P f S ty op fun d' => d' = d) : dquietR P f S ty op d := by
  obtain ⟨d', h1, rfl⟩ := dquiet_iff.1 h
  exact h1
end Go.Proofs.Ytpnjkebjdclkfaa

/- Paths, walked: change. Conditions: none. -/
namespace Go.Proofs.Ytpnjkebjdclkfaa
open Go.RowKit
set_option linter.unusedSimpArgs false
theorem gdS0 (s : DSch) : (encS s).cells.getD 0 undefD = .v (.int .i64 s.kind) := by rw [encS_eq]; exact Eq.trans (Eq.refl _) (Eq.refl _)
theorem gdS1 (s : DSch) : (encS s).cells.getD 1 undefD = .sl .no (s.words.map strD) := by rw [encS_eq]; exact Eq.trans (Eq.refl _) (Eq.refl _)
theorem gdS2 (s : DSch) : (encS s).cells.getD 2 undefD = .sl .no (s.parts.map encS) := by rw [encS_eq]; exact Eq.trans (Eq.refl _) (Eq.refl _)
theorem gdV0 (s : DVal) : (encV s).cells.getD 0 undefD = .v (.int .i64 s.kind) := by rw [encV_eq]; exact Eq.trans (Eq.refl _) (Eq.refl _)
theorem gdV1 (s : DVal) : (encV s).cells.getD 1 undefD = .v (.int .i64 s.n) := by rw [encV_eq]; exact Eq.trans (Eq.refl _) (Eq.refl _)
theorem gdV2 (s : DVal) : (encV s).cells.getD 2 undefD = .v (sv s.s) := by rw [encV_eq]; exact Eq.trans (Eq.refl _) (Eq.refl _)
theorem gdV3 (s : DVal) : (encV s).cells.getD 3 undefD = .sl .no (s.names.map strD) := by rw [encV_eq]; exact Eq.trans (Eq.refl _) (Eq.refl _)
theorem gdV4 (s : DVal) : (encV s).cells.getD 4 undefD = .sl .no (s.ids.map u64D) := by rw [encV_eq]; exact Eq.trans (Eq.refl _) (Eq.refl _)
theorem gdV5 (s : DVal) : (encV s).cells.getD 5 undefD = .sl .no (s.parts.map encV) := by rw [encV_eq]; exact Eq.trans (Eq.refl _) (Eq.refl _)
theorem gdP0 (p : DStp) : (encP p).cells.getD 0 undefD = .v (sv p.1) := Eq.trans (Eq.refl _) (Eq.refl _)
theorem gdP1 (p : DStp) : (encP p).cells.getD 1 undefD = .v (.int .u64 (p.2 : Int)) := Eq.trans (Eq.refl _) (Eq.refl _)
attribute [go_sem] gdS0 gdS1 gdS2 gdV0 gdV1 gdV2 gdV3 gdV4 gdV5 gdP0 gdP1
theorem drop_encS (s : DSch) : (encS s).cells.drop 3 = [] := List.drop_of_length_le (by rw [cells_encS]; omega)
theorem drop_encV (s : DVal) : (encV s).cells.drop 6 = [] := List.drop_of_length_le (by rw [cells_encV]; omega)
theorem take_map_len {α β : Type} (f : α → β) (l : List α) : (l.map f).take l.length = l.map f := List.take_of_length_le (by simp)
theorem allP_eq (l : List DStp) : (∀ d, d ∈ l.map encP → d.cells.length = 2) = True := eq_true fun d hd => by obtain ⟨q, _, rfl⟩ := List.mem_map.1 hd; rfl
attribute [go_sem] drop_encS drop_encV take_map_len allP_eq
def DVal.withParts (v : DVal) (ps : List DVal) : DVal := .mk v.kind v.n v.s v.names v.ids ps
def inP (v : DVal) (p : DStp) : Prop := 0 ≤ placeOf v p ∧ placeOf v p < (v.parts.length : Int)
instance (v : DVal) (p : DStp) : Decidable (inP v p) := inferInstanceAs (Decidable (_ ∧ _))
def plN (v : DVal) (p : DStp) : Nat := (placeOf v p).toNat
/-- What a function makes of what stands at a path's end, in its place. -/
def chV (f : DVal → DVal) : List DStp → DVal → DVal
  | [], v => f v
  | p :: ps, v => if inP v p then v.withParts (v.parts.set (plN v p) (chV f ps (v.parts.getD (plN v p) default))) else v
theorem getV_cons (p : DStp) (ps : List DStp) (v : DVal) : getV (p :: ps) v = if inP v p then getV ps (v.parts.getD (plN v p) default) else none := rfl
/-- What the visitor leaves. -/
def leftS (S : St) : Option Nat → Option DVal → St
  | some c, some u => S.set c (.box 31 (encV u).cells)
  | _, _ => S
theorem leftS_next (S : St) (c : Option Nat) (r : Option DVal) : (leftS S c r).next = S.next := by
  cases c <;> cases r <;> rfl
theorem leftS_ob {S : St} {c : Option Nat} {r : Option DVal} {k : Nat} (h : ∀ j, c = some j → k ≠ j) : (leftS S c r).ob k = S.ob k := by
  cases c with
  | none => cases r <;> rfl
  | some j => cases r with
    | none => rfl
    | some u => exact ob_old (h j rfl)
/-- What the visitor is asked for. -/
def VisOk (g : FuncId) (fs cs : List D) (fV : DVal → DVal) (c : Option Nat) (S : St) : Prop := (∀ j, c = some j → j < S.next) ∧ ∀ S' u, S.Sub S' → S'.WF → u.weight ≤ 1000000 → DCalls Try.prog g (fs ++ [encV u] ++ cs) S' (fun d S'' => d = encV (fV u) ∧ S'' = leftS S' c (some u))
theorem VisOk.sub {g : FuncId} {fs cs : List D} {fV : DVal → DVal} {c : Option Nat} {S T : St} (h : VisOk g fs cs fV c S) (hs : S.Sub T) : VisOk g fs cs fV c T :=
  ⟨fun j hj => Nat.lt_of_lt_of_le (h.1 j hj) hs.next, fun S' u h1 h2 h3 => h.2 S' u (hs.trans h1) h2 h3⟩
theorem leftS_sub {S T : St} (hS : S.WF) (h : S.Sub T) {c : Option Nat} {r : Option DVal} : (leftS S c r).Sub (leftS T c r) := by
  cases c with
  | none => cases r <;> exact h
  | some j => cases r with
    | none => exact h
    | some u =>
      refine ⟨h.next, fun k o hk => ?_⟩
      simp only [leftS, set_ob] at *
      split
      · rename_i e; rw [if_pos e] at hk; exact hk
      · rename_i e; rw [if_neg e] at hk; exact h.ob k o hk
theorem leftS_wf {S : St} (hS : S.WF) {c : Option Nat} (hc : ∀ j, c = some j → j < S.next) (r : Option DVal) : (leftS S c r).WF := by
  cases c with
  | none => cases r <;> exact hS
  | some j => cases r with
    | none => exact hS
    | some u => exact hS.set (hc j rfl) _
theorem fin_left {P : Program} {S T : St} {c : Option Nat} {r : Option DVal} {d d' : D} {K : D → St → Prop} (hS : S.WF) (hc : ∀ j, c = some j → j < S.next) (hT : (leftS S c r).Sub T) (hd : d = d') (hcl : d'.closed) (hK : K d' (leftS S c r)) : DFin S T d K := by
  subst hd
  have hn : (leftS S c r).next = S.next := leftS_next S c r
  refine ⟨d, leftS S c r, DLe.refl _, D.all_mono (fun _ h => h.elim) hcl, hT.next, Nat.le_of_eq hn.symm, fun k o hk => ⟨hT.ob k o hk, (leftS_wf hS hc r).lt hk, fun t cs ho => ?_⟩, hK⟩
  cases c with
  | none => cases r <;> exact .inl hk
  | some j => cases r with
    | none => exact .inl hk
    | some u =>
      simp only [leftS, set_ob] at hk
      split at hk
      · right
        injection hk with hk
        rw [← hk] at ho
        injection ho with _ ho
        rw [← ho]
        exact allL_closed (encV_cells_closed u)
      · exact .inl hk
theorem cells_encP (p : DStp) : (encP p).cells.length = 2 := rfl
theorem agg_encP (p : DStp) : D.agg (encP p).cells = encP p := rfl
theorem take_encP (p : DStp) : (encP p).cells.take 2 = (encP p).cells := rfl
theorem okCell_encP (p : DStp) : (encP p).okCell = true := rfl
theorem take_splice_V (v : DVal) (l : List D) : ((encV v).cells ++ l).take 6 = (encV v).cells := by
  rw [List.take_append, cells_encV, List.take_of_length_le (by rw [cells_encV]; omega)]; simp
attribute [go_sem] cells_encP agg_encP take_encP okCell_encP take_splice_V
theorem closed_res (v : DVal) (b : Bool) : (D.tup [encV v, .v (.bool b)]).closed := by
  simp only [D.closed, D.all, allL, and_true]; exact closed_encV v
set_option maxRecDepth 200000 in
set_option maxHeartbeats 8000000 in

theorem change_d (g : FuncId) (fs cs : List D) (fV : DVal → DVal) (c : Option Nat) : ∀ (ps : List DStp) (own : Own) (v : DVal) (S : St), okV v → v.weight ≤ 1000000 → ps.length ≤ 1000000 → VisOk g fs cs fV c S →
    DCalls Try.prog 67 [encV v, .sl own (ps.map encP), .fn (.func g) fs cs] S (fun d S' => d = .tup [encV (chV fV ps v), .v (.bool (getV ps v).isSome)] ∧ S' = leftS S c (getV ps v)) := by
  intro ps
  induction ps with
  | nil =>
    intro own v S hok hw hl hv
    refine dcalls_of_dwp mixed Try.func67 rfl (fun _ _ => by kernel_rfl) (rs := [.cell 6 31, .tmp 7]) rfl (by kernel_rfl) (fun hS => ?_)
    have hL : ∀ {S1 : St} {r : Option DVal} {k : Nat}, S.next ≤ k → (leftS S1 c r).ob k = S1.ob k := fun h => leftS_ob fun j hj => by have := hv.1 j hj; omega
    (simp (disch := first | decide | omega | (simp only [add_next, set_next, grow_next, leave_next, List.length_map, leftS_next]; first | done | omega)) only [go_sem, ↓reduceIte, Nat.reduceBEq, Nat.reduceAdd, Nat.reduceLeDiff, Nat.reduceEqDiff, Nat.reduceLT, ob_hit, ob_skip, ob_set, ob_old, getD_map, Int.natCast_nonneg, true_and, and_true, int_zero, beq_self_eq_true, Int.toNat_zero, List.getD_cons_zero, List.getD_cons_succ, List.range_zero, List.mem_cons, List.not_mem_nil, or_false, forall_eq, forall_eq_or_imp, false_implies, implies_true, Nat.reduceMul, Option.isSome_some, bnd, or_true, Int.toNat_one, Int.le_refl, ge_iff_le, gt_iff_lt]; (repeat (with_reducible refine And.intro (by first | omega | assumption | rfl) ?_)))
    refine (hv.2 _ v (by (repeat' first | exact St.Sub.refl _ | assumption | (exact RowOk.sub (by assumption) (by assumption)) | (refine St.Sub.trans ?_ (RowOk.sub (by assumption) (by assumption))) | (exact St.Sub.keep (St.Sub.refl _) (by first | assumption | (first | omega | (simp only [RowOk.lo, add_next, set_next, grow_next, leave_next]; first | done | omega)))) | refine St.Sub.add ?_ (by (repeat' first | assumption | refine St.WF.leave ?_ _ | refine St.WF.add ?_ _ | refine St.WF.set ?_ (by (first | omega | (simp only [RowOk.lo, add_next, set_next, grow_next, leave_next]; first | done | omega))) _ | refine St.WF.grow ?_ _ _ _ | refine St.WF.keep ?_ (by first | assumption | (first | omega | (simp only [RowOk.lo, add_next, set_next, grow_next, leave_next]; first | done | omega))))) _ | refine St.Sub.set ?_ (by (repeat' first | assumption | refine St.WF.leave ?_ _ | refine St.WF.add ?_ _ | refine St.WF.set ?_ (by (first | omega | (simp only [RowOk.lo, add_next, set_next, grow_next, leave_next]; first | done | omega))) _ | refine St.WF.grow ?_ _ _ _ | refine St.WF.keep ?_ (by first | assumption | (first | omega | (simp only [RowOk.lo, add_next, set_next, grow_next, leave_next]; first | done | omega))))) (by (first | omega | (simp only [RowOk.lo, add_next, set_next, grow_next, leave_next]; first | done | omega))) _ | refine St.Sub.keep ?_ (by first | assumption | (first | omega | (simp only [RowOk.lo, add_next, set_next, grow_next, leave_next]; first | done | omega))))) (by (repeat' first | assumption | refine St.WF.leave ?_ _ | refine St.WF.add ?_ _ | refine St.WF.set ?_ (by (first | omega | (simp only [RowOk.lo, add_next, set_next, grow_next, leave_next]; first | done | omega))) _ | refine St.WF.grow ?_ _ _ _ | refine St.WF.keep ?_ (by first | assumption | (first | omega | (simp only [RowOk.lo, add_next, set_next, grow_next, leave_next]; first | done | omega))))) hw).mono ?_
    rintro d T ⟨rfl, rfl⟩
    (simp (disch := first | decide | omega | (simp only [add_next, set_next, grow_next, leave_next, List.length_map, leftS_next]; first | done | omega)) only [go_sem, ↓reduceIte, Nat.reduceBEq, Nat.reduceAdd, Nat.reduceLeDiff, Nat.reduceEqDiff, Nat.reduceLT, ob_hit, ob_skip, ob_set, ob_old, getD_map, Int.natCast_nonneg, true_and, and_true, int_zero, beq_self_eq_true, Int.toNat_zero, List.getD_cons_zero, List.getD_cons_succ, List.range_zero, List.mem_cons, List.not_mem_nil, or_false, forall_eq, forall_eq_or_imp, false_implies, implies_true, Nat.reduceMul, Option.isSome_some, bnd, or_true, Int.toNat_one, Int.le_refl, ge_iff_le, gt_iff_lt, hL, leftS_next]; (repeat (with_reducible refine And.intro (by first | omega | assumption | rfl) ?_)))
    refine DFin.t (fin_left (P := Try.prog) (c := c) (r := some v) hS hv.1 ?_ rfl (closed_res _ _) ?_)
    · refine St.Sub.set (leftS_sub hS (by (repeat' first | exact St.Sub.refl _ | assumption | (exact RowOk.sub (by assumption) (by assumption)) | (refine St.Sub.trans ?_ (RowOk.sub (by assumption) (by assumption))) | (exact St.Sub.keep (St.Sub.refl _) (by first | assumption | (first | omega | (simp only [RowOk.lo, add_next, set_next, grow_next, leave_next]; first | done | omega)))) | refine St.Sub.add ?_ (by (repeat' first | assumption | refine St.WF.leave ?_ _ | refine St.WF.add ?_ _ | refine St.WF.set ?_ (by (first | omega | (simp only [RowOk.lo, add_next, set_next, grow_next, leave_next]; first | done | omega))) _ | refine St.WF.grow ?_ _ _ _ | refine St.WF.keep ?_ (by first | assumption | (first | omega | (simp only [RowOk.lo, add_next, set_next, grow_next, leave_next]; first | done | omega))))) _ | refine St.Sub.set ?_ (by (repeat' first | assumption | refine St.WF.leave ?_ _ | refine St.WF.add ?_ _ | refine St.WF.set ?_ (by (first | omega | (simp only [RowOk.lo, add_next, set_next, grow_next, leave_next]; first | done | omega))) _ | refine St.WF.grow ?_ _ _ _ | refine St.WF.keep ?_ (by first | assumption | (first | omega | (simp only [RowOk.lo, add_next, set_next, grow_next, leave_next]; first | done | omega))))) (by (first | omega | (simp only [RowOk.lo, add_next, set_next, grow_next, leave_next]; first | done | omega))) _ | refine St.Sub.keep ?_ (by first | assumption | (first | omega | (simp only [RowOk.lo, add_next, set_next, grow_next, leave_next]; first | done | omega)))))) (leftS_wf hS hv.1 _) ?_ _
      rw [leftS_next]; omega
    · exact ⟨rfl, rfl⟩
  | cons p ps ih =>
    intro own v S hok hw hl hv
    refine dcalls_of_dwp mixed Try.func67 rfl (fun _ _ => by kernel_rfl) (rs := [.cell 6 31, .tmp 7]) rfl (by kernel_rfl) (fun hS => ?_)
    have hL : ∀ {S1 : St} {r : Option DVal} {k : Nat}, S.next ≤ k → (leftS S1 c r).ob k = S1.ob k := fun h => leftS_ob fun j hj => by have := hv.1 j hj; omega
    have b0 : (((ps.length + 1 : Nat) : Int) == 0) = false := by simp; omega
    (simp (disch := first | decide | omega | (simp only [add_next, set_next, grow_next, leave_next, List.length_map, leftS_next]; first | done | omega)) only [go_sem, ↓reduceIte, Nat.reduceBEq, Nat.reduceAdd, Nat.reduceLeDiff, Nat.reduceEqDiff, Nat.reduceLT, ob_hit, ob_skip, ob_set, ob_old, getD_map, Int.natCast_nonneg, true_and, and_true, int_zero, beq_self_eq_true, Int.toNat_zero, List.getD_cons_zero, List.getD_cons_succ, List.range_zero, List.mem_cons, List.not_mem_nil, or_false, forall_eq, forall_eq_or_imp, false_implies, implies_true, Nat.reduceMul, Option.isSome_some, bnd, or_true, Int.toNat_one, Int.le_refl, ge_iff_le, gt_iff_lt, b0]; (repeat (with_reducible refine And.intro (by first | omega | assumption | rfl) ?_)))
    refine ddraw_mk 10 (by kernel_rfl) ?_
    (simp (disch := first | decide | omega | (simp only [add_next, set_next, grow_next, leave_next, List.length_map, leftS_next]; first | done | omega)) only [go_sem, ↓reduceIte, Nat.reduceBEq, Nat.reduceAdd, Nat.reduceLeDiff, Nat.reduceEqDiff, Nat.reduceLT, ob_hit, ob_skip, ob_set, ob_old, getD_map, Int.natCast_nonneg, true_and, and_true, int_zero, beq_self_eq_true, Int.toNat_zero, List.getD_cons_zero, List.getD_cons_succ, List.range_zero, List.mem_cons, List.not_mem_nil, or_false, forall_eq, forall_eq_or_imp, false_implies, implies_true, Nat.reduceMul, Option.isSome_some, bnd, or_true, Int.toNat_one, Int.le_refl, ge_iff_le, gt_iff_lt]; (repeat (with_reducible refine And.intro (by first | omega | assumption | rfl) ?_)))
    refine dqgo_mk (part_d v p hok hw) ?_
    by_cases hin : inP v p
    · have e1 : (decide (0 ≤ placeOf v p) && decide (placeOf v p < (v.parts.length : Int))) = true := by rw [decide_eq_true hin.1, decide_eq_true hin.2]; rfl
      have hpl : (placeOf v p).toNat < v.parts.length := by have := hin.1; have := hin.2; omega
      have hx := getD_map encV v.parts _ hpl
      have cv : (encV v).cells = [.v (.int .i64 v.kind), .v (.int .i64 v.n), strD v.s, .sl .no (v.names.map strD), .sl .no (v.ids.map u64D), .sl .no (v.parts.map encV)] := by rw [encV_eq]; rfl
      obtain ⟨o1, o2, o3, o4, o5, o6, o7, o8, o9⟩ := (okV_eq v).1 hok
      have hgd : v.parts.getD (plN v p) default = v.parts[(placeOf v p).toNat] := getD_at hpl
      have hget : getV (p :: ps) v = getV ps v.parts[(placeOf v p).toNat] := by rw [getV_cons, if_pos hin, hgd]
      have hch : chV fV (p :: ps) v = v.withParts (v.parts.set (placeOf v p).toNat (chV fV ps v.parts[(placeOf v p).toNat])) := by rw [chV, if_pos hin, hgd]; rfl
      have hxo : okV v.parts[(placeOf v p).toNat] := o9 _ (List.getElem_mem hpl)
      have hxw : v.parts[(placeOf v p).toNat].weight ≤ 1000000 := by have := DVal.weight_part (List.getElem_mem hpl); omega
      rw [hget, hch]
      have c1 := hin.1
      have c2 := hin.2
      clear hget hch hgd hin
      have ih' := fun S' (hs : S.Sub S') => ih .no v.parts[(placeOf v p).toNat] S' hxo hxw (by simp only [List.length_cons] at hl; omega) (hv.sub hs)
      clear ih
      generalize v.parts[(placeOf v p).toNat] = x at *
      generalize getV ps x = r at *
      generalize chV fV ps x = y at *
      (simp (disch := first | decide | omega | (simp only [add_next, set_next, grow_next, leave_next, List.length_map, leftS_next]; first | done | omega)) only [go_sem, ↓reduceIte, Nat.reduceBEq, Nat.reduceAdd, Nat.reduceLeDiff, Nat.reduceEqDiff, Nat.reduceLT, ob_hit, ob_skip, ob_set, ob_old, getD_map, Int.natCast_nonneg, true_and, and_true, int_zero, beq_self_eq_true, Int.toNat_zero, List.getD_cons_zero, List.getD_cons_succ, List.range_zero, List.mem_cons, List.not_mem_nil, or_false, forall_eq, forall_eq_or_imp, false_implies, implies_true, Nat.reduceMul, Option.isSome_some, bnd, or_true, Int.toNat_one, Int.le_refl, ge_iff_le, gt_iff_lt, partV, e1]; (repeat (with_reducible refine And.intro (by first | omega | assumption | rfl) ?_)))
      refine ddraw_cut (fun f' T => ∃ n0, f' 3 = .loc S.next 0 ∧ f' 6 = .loc (S.next + 1) 0 ∧ f' 8 = .v (.int .i64 (placeOf v p)) ∧ f' 9 = .v (.bool r.isSome) ∧ f' 10 = .loc n0 0 ∧
        T.ob S.next = some (.box 31 (encV v).cells) ∧ T.ob (S.next + 1) = some (.box 31 [.v (.int .i64 0), .v (.int .i64 0), .v (.string ⟨#[]⟩), .sl .full [], .sl .full [], .sl .full []]) ∧ T.ob n0 = some (.box 31 (encV y).cells) ∧ S.next + 2 ≤ n0 ∧ n0 < T.next ∧ (leftS S c r).Sub T) ?_ ?_
      · refine ddraw_any (fun S' => S'.ob S.next = some (.box 31 (encV v).cells)) 15 (by (first | (simp (disch := first | decide | omega | (simp only [add_next, set_next, grow_next, leave_next, List.length_map, leftS_next]; first | done | omega)) only [go_sem, ↓reduceIte, Nat.reduceBEq, Nat.reduceAdd, Nat.reduceLeDiff, Nat.reduceEqDiff, Nat.reduceLT, ob_hit, ob_skip, ob_set, ob_old, getD_map, Int.natCast_nonneg, true_and, and_true, int_zero, beq_self_eq_true, Int.toNat_zero, List.getD_cons_zero, List.getD_cons_succ, List.range_zero, List.mem_cons, List.not_mem_nil, or_false, forall_eq, forall_eq_or_imp, false_implies, implies_true, Nat.reduceMul, Option.isSome_some, bnd, or_true, Int.toNat_one, Int.le_refl, ge_iff_le, gt_iff_lt]; done) | (simp (disch := first | decide | omega | (simp only [add_next, set_next, grow_next, leave_next, List.length_map, leftS_next]; first | done | omega)) only [go_sem, ↓reduceIte, Nat.reduceBEq, Nat.reduceAdd, Nat.reduceLeDiff, Nat.reduceEqDiff, Nat.reduceLT, ob_hit, ob_skip, ob_set, ob_old, getD_map, Int.natCast_nonneg, true_and, and_true, int_zero, beq_self_eq_true, Int.toNat_zero, List.getD_cons_zero, List.getD_cons_succ, List.range_zero, List.mem_cons, List.not_mem_nil, or_false, forall_eq, forall_eq_or_imp, false_implies, implies_true, Nat.reduceMul, Option.isSome_some, bnd, or_true, Int.toNat_one, Int.le_refl, ge_iff_le, gt_iff_lt]; rfl) | rfl)) (by kernel_rfl) ?_
        (refine s_take 0 rfl (by kernel_rfl) (by kernel_rfl) (v := .loc S.next 5) (fun S' hz => dquietR_of (by (simp (disch := first | decide | omega | (simp only [add_next, set_next, grow_next, leave_next, List.length_map, leftS_next]; first | done | omega)) only [go_sem, ↓reduceIte, Nat.reduceBEq, Nat.reduceAdd, Nat.reduceLeDiff, Nat.reduceEqDiff, Nat.reduceLT, ob_hit, ob_skip, ob_set, ob_old, getD_map, Int.natCast_nonneg, true_and, and_true, int_zero, beq_self_eq_true, Int.toNat_zero, List.getD_cons_zero, List.getD_cons_succ, List.range_zero, List.mem_cons, List.not_mem_nil, or_false, forall_eq, forall_eq_or_imp, false_implies, implies_true, Nat.reduceMul, Option.isSome_some, bnd, or_true, Int.toNat_one, Int.le_refl, ge_iff_le, gt_iff_lt]; (repeat (with_reducible refine And.intro (by first | omega | assumption | rfl) ?_))); first | done | rfl | omega)) ?_)
        (refine s_take 1 rfl (by kernel_rfl) (by kernel_rfl) (v := .sl .no (v.parts.map encV)) (fun S' hz => dquietR_of (by (simp (disch := first | decide | omega | (simp only [add_next, set_next, grow_next, leave_next, List.length_map, leftS_next]; first | done | omega)) only [go_sem, ↓reduceIte, Nat.reduceBEq, Nat.reduceAdd, Nat.reduceLeDiff, Nat.reduceEqDiff, Nat.reduceLT, ob_hit, ob_skip, ob_set, ob_old, getD_map, Int.natCast_nonneg, true_and, and_true, int_zero, beq_self_eq_true, Int.toNat_zero, List.getD_cons_zero, List.getD_cons_succ, List.range_zero, List.mem_cons, List.not_mem_nil, or_false, forall_eq, forall_eq_or_imp, false_implies, implies_true, Nat.reduceMul, Option.isSome_some, bnd, or_true, Int.toNat_one, Int.le_refl, ge_iff_le, gt_iff_lt, hz, cv]; (repeat (with_reducible refine And.intro (by first | omega | assumption | rfl) ?_))); first | done | rfl | omega)) ?_)
        (refine s_take 2 rfl (by kernel_rfl) (by kernel_rfl) (v := .v (.int .i64 (placeOf v p))) (fun S' hz => dquietR_of (by (simp (disch := first | decide | omega | (simp only [add_next, set_next, grow_next, leave_next, List.length_map, leftS_next]; first | done | omega)) only [go_sem, ↓reduceIte, Nat.reduceBEq, Nat.reduceAdd, Nat.reduceLeDiff, Nat.reduceEqDiff, Nat.reduceLT, ob_hit, ob_skip, ob_set, ob_old, getD_map, Int.natCast_nonneg, true_and, and_true, int_zero, beq_self_eq_true, Int.toNat_zero, List.getD_cons_zero, List.getD_cons_succ, List.range_zero, List.mem_cons, List.not_mem_nil, or_false, forall_eq, forall_eq_or_imp, false_implies, implies_true, Nat.reduceMul, Option.isSome_some, bnd, or_true, Int.toNat_one, Int.le_refl, ge_iff_le, gt_iff_lt]; (repeat (with_reducible refine And.intro (by first | omega | assumption | rfl) ?_))); first | done | rfl | omega)) ?_)
        (refine s_take 3 rfl (by kernel_rfl) (by kernel_rfl) (v := .rd (encV x).cells 0) (fun S' hz => dquietR_of (by (simp (disch := first | decide | omega | (simp only [add_next, set_next, grow_next, leave_next, List.length_map, leftS_next]; first | done | omega)) only [go_sem, ↓reduceIte, Nat.reduceBEq, Nat.reduceAdd, Nat.reduceLeDiff, Nat.reduceEqDiff, Nat.reduceLT, ob_hit, ob_skip, ob_set, ob_old, getD_map, Int.natCast_nonneg, true_and, and_true, int_zero, beq_self_eq_true, Int.toNat_zero, List.getD_cons_zero, List.getD_cons_succ, List.range_zero, List.mem_cons, List.not_mem_nil, or_false, forall_eq, forall_eq_or_imp, false_implies, implies_true, Nat.reduceMul, Option.isSome_some, bnd, or_true, Int.toNat_one, Int.le_refl, ge_iff_le, gt_iff_lt, hx, c1, c2]; (repeat (with_reducible refine And.intro (by first | omega | assumption | rfl) ?_))); first | done | rfl | omega)) ?_)
        (refine s_take 4 rfl (by kernel_rfl) (by kernel_rfl) (v := encV x) (fun S' hz => dquietR_of (by (simp (disch := first | decide | omega | (simp only [add_next, set_next, grow_next, leave_next, List.length_map, leftS_next]; first | done | omega)) only [go_sem, ↓reduceIte, Nat.reduceBEq, Nat.reduceAdd, Nat.reduceLeDiff, Nat.reduceEqDiff, Nat.reduceLT, ob_hit, ob_skip, ob_set, ob_old, getD_map, Int.natCast_nonneg, true_and, and_true, int_zero, beq_self_eq_true, Int.toNat_zero, List.getD_cons_zero, List.getD_cons_succ, List.range_zero, List.mem_cons, List.not_mem_nil, or_false, forall_eq, forall_eq_or_imp, false_implies, implies_true, Nat.reduceMul, Option.isSome_some, bnd, or_true, Int.toNat_one, Int.le_refl, ge_iff_le, gt_iff_lt]; (repeat (with_reducible refine And.intro (by first | omega | assumption | rfl) ?_))); first | done | rfl | omega)) ?_)
        (refine s_take 5 rfl (by kernel_rfl) (by kernel_rfl) (v := .sl own ((p :: ps).map encP)) (fun S' hz => dquietR_of (by (simp (disch := first | decide | omega | (simp only [add_next, set_next, grow_next, leave_next, List.length_map, leftS_next]; first | done | omega)) only [go_sem, ↓reduceIte, Nat.reduceBEq, Nat.reduceAdd, Nat.reduceLeDiff, Nat.reduceEqDiff, Nat.reduceLT, ob_hit, ob_skip, ob_set, ob_old, getD_map, Int.natCast_nonneg, true_and, and_true, int_zero, beq_self_eq_true, Int.toNat_zero, List.getD_cons_zero, List.getD_cons_succ, List.range_zero, List.mem_cons, List.not_mem_nil, or_false, forall_eq, forall_eq_or_imp, false_implies, implies_true, Nat.reduceMul, Option.isSome_some, bnd, or_true, Int.toNat_one, Int.le_refl, ge_iff_le, gt_iff_lt]; (repeat (with_reducible refine And.intro (by first | omega | assumption | rfl) ?_))); first | done | rfl | omega)) ?_)
        (refine s_take 6 rfl (by kernel_rfl) (by kernel_rfl) (v := .sl .no (ps.map encP)) (fun S' hz => dquietR_of (by (simp (disch := first | decide | omega | (simp only [add_next, set_next, grow_next, leave_next, List.length_map, leftS_next]; first | done | omega)) only [go_sem, ↓reduceIte, Nat.reduceBEq, Nat.reduceAdd, Nat.reduceLeDiff, Nat.reduceEqDiff, Nat.reduceLT, ob_hit, ob_skip, ob_set, ob_old, getD_map, Int.natCast_nonneg, true_and, and_true, int_zero, beq_self_eq_true, Int.toNat_zero, List.getD_cons_zero, List.getD_cons_succ, List.range_zero, List.mem_cons, List.not_mem_nil, or_false, forall_eq, forall_eq_or_imp, false_implies, implies_true, Nat.reduceMul, Option.isSome_some, bnd, or_true, Int.toNat_one, Int.le_refl, ge_iff_le, gt_iff_lt, Nat.reduceSub, List.drop_one, List.tail_cons]; (repeat (with_reducible refine And.intro (by first | omega | assumption | rfl) ?_))); first | done | rfl | omega)) ?_)
        (refine s_take 7 rfl (by kernel_rfl) (by kernel_rfl) (v := .fn (.func g) fs cs) (fun S' hz => dquietR_of (by (simp (disch := first | decide | omega | (simp only [add_next, set_next, grow_next, leave_next, List.length_map, leftS_next]; first | done | omega)) only [go_sem, ↓reduceIte, Nat.reduceBEq, Nat.reduceAdd, Nat.reduceLeDiff, Nat.reduceEqDiff, Nat.reduceLT, ob_hit, ob_skip, ob_set, ob_old, getD_map, Int.natCast_nonneg, true_and, and_true, int_zero, beq_self_eq_true, Int.toNat_zero, List.getD_cons_zero, List.getD_cons_succ, List.range_zero, List.mem_cons, List.not_mem_nil, or_false, forall_eq, forall_eq_or_imp, false_implies, implies_true, Nat.reduceMul, Option.isSome_some, bnd, or_true, Int.toNat_one, Int.le_refl, ge_iff_le, gt_iff_lt]; (repeat (with_reducible refine And.intro (by first | omega | assumption | rfl) ?_))); first | done | rfl | omega)) ?_)
        refine s_split [8, 12] (by kernel_rfl) (by simp) ?_
        intro i hi
        simp only [List.mem_cons, List.not_mem_nil, or_false] at hi
        rcases hi with rfl | rfl
        · refine s_op rfl ?_
          (simp (disch := first | decide | omega | (simp only [add_next, set_next, grow_next, leave_next, List.length_map, leftS_next]; first | done | omega)) only [go_sem, ↓reduceIte, Nat.reduceBEq, Nat.reduceAdd, Nat.reduceLeDiff, Nat.reduceEqDiff, Nat.reduceLT, ob_hit, ob_skip, ob_set, ob_old, getD_map, Int.natCast_nonneg, true_and, and_true, int_zero, beq_self_eq_true, Int.toNat_zero, List.getD_cons_zero, List.getD_cons_succ, List.range_zero, List.mem_cons, List.not_mem_nil, or_false, forall_eq, forall_eq_or_imp, false_implies, implies_true, Nat.reduceMul, Option.isSome_some, bnd, or_true, Int.toNat_one, Int.le_refl, ge_iff_le, gt_iff_lt]; (repeat (with_reducible refine And.intro (by first | omega | assumption | rfl) ?_)))
          refine (ih' _ (by (repeat' first | exact St.Sub.refl _ | assumption | (exact RowOk.sub (by assumption) (by assumption)) | (refine St.Sub.trans ?_ (RowOk.sub (by assumption) (by assumption))) | (exact St.Sub.keep (St.Sub.refl _) (by first | assumption | (first | omega | (simp only [RowOk.lo, add_next, set_next, grow_next, leave_next]; first | done | omega)))) | refine St.Sub.add ?_ (by (repeat' first | assumption | refine St.WF.leave ?_ _ | refine St.WF.add ?_ _ | refine St.WF.set ?_ (by (first | omega | (simp only [RowOk.lo, add_next, set_next, grow_next, leave_next]; first | done | omega))) _ | refine St.WF.grow ?_ _ _ _ | refine St.WF.keep ?_ (by first | assumption | (first | omega | (simp only [RowOk.lo, add_next, set_next, grow_next, leave_next]; first | done | omega))))) _ | refine St.Sub.set ?_ (by (repeat' first | assumption | refine St.WF.leave ?_ _ | refine St.WF.add ?_ _ | refine St.WF.set ?_ (by (first | omega | (simp only [RowOk.lo, add_next, set_next, grow_next, leave_next]; first | done | omega))) _ | refine St.WF.grow ?_ _ _ _ | refine St.WF.keep ?_ (by first | assumption | (first | omega | (simp only [RowOk.lo, add_next, set_next, grow_next, leave_next]; first | done | omega))))) (by (first | omega | (simp only [RowOk.lo, add_next, set_next, grow_next, leave_next]; first | done | omega))) _ | refine St.Sub.keep ?_ (by first | assumption | (first | omega | (simp only [RowOk.lo, add_next, set_next, grow_next, leave_next]; first | done | omega)))))).mono ?_
          rintro d T ⟨rfl, rfl⟩
          refine ⟨by (first | (simp (disch := first | decide | omega | (simp only [add_next, set_next, grow_next, leave_next, List.length_map, leftS_next]; first | done | omega)) only [go_sem, ↓reduceIte, Nat.reduceBEq, Nat.reduceAdd, Nat.reduceLeDiff, Nat.reduceEqDiff, Nat.reduceLT, ob_hit, ob_skip, ob_set, ob_old, getD_map, Int.natCast_nonneg, true_and, and_true, int_zero, beq_self_eq_true, Int.toNat_zero, List.getD_cons_zero, List.getD_cons_succ, List.range_zero, List.mem_cons, List.not_mem_nil, or_false, forall_eq, forall_eq_or_imp, false_implies, implies_true, Nat.reduceMul, Option.isSome_some, bnd, or_true, Int.toNat_one, Int.le_refl, ge_iff_le, gt_iff_lt, hL]; done) | (simp (disch := first | decide | omega | (simp only [add_next, set_next, grow_next, leave_next, List.length_map, leftS_next]; first | done | omega)) only [go_sem, ↓reduceIte, Nat.reduceBEq, Nat.reduceAdd, Nat.reduceLeDiff, Nat.reduceEqDiff, Nat.reduceLT, ob_hit, ob_skip, ob_set, ob_old, getD_map, Int.natCast_nonneg, true_and, and_true, int_zero, beq_self_eq_true, Int.toNat_zero, List.getD_cons_zero, List.getD_cons_succ, List.range_zero, List.mem_cons, List.not_mem_nil, or_false, forall_eq, forall_eq_or_imp, false_implies, implies_true, Nat.reduceMul, Option.isSome_some, bnd, or_true, Int.toNat_one, Int.le_refl, ge_iff_le, gt_iff_lt, hL]; rfl) | rfl), ?_⟩
          (refine s_take 9 rfl (by kernel_rfl) (by kernel_rfl) (v := .tup [encV y, .v (.bool r.isSome)]) (fun S' hz => dquietR_of (by (simp (disch := first | decide | omega | (simp only [add_next, set_next, grow_next, leave_next, List.length_map, leftS_next]; first | done | omega)) only [go_sem, ↓reduceIte, Nat.reduceBEq, Nat.reduceAdd, Nat.reduceLeDiff, Nat.reduceEqDiff, Nat.reduceLT, ob_hit, ob_skip, ob_set, ob_old, getD_map, Int.natCast_nonneg, true_and, and_true, int_zero, beq_self_eq_true, Int.toNat_zero, List.getD_cons_zero, List.getD_cons_succ, List.range_zero, List.mem_cons, List.not_mem_nil, or_false, forall_eq, forall_eq_or_imp, false_implies, implies_true, Nat.reduceMul, Option.isSome_some, bnd, or_true, Int.toNat_one, Int.le_refl, ge_iff_le, gt_iff_lt]; (repeat (with_reducible refine And.intro (by first | omega | assumption | rfl) ?_))); first | done | rfl | omega)) ?_)
          (refine s_take 10 rfl (by kernel_rfl) (by kernel_rfl) (v := encV y) (fun S' hz => dquietR_of (by (simp (disch := first | decide | omega | (simp only [add_next, set_next, grow_next, leave_next, List.length_map, leftS_next]; first | done | omega)) only [go_sem, ↓reduceIte, Nat.reduceBEq, Nat.reduceAdd, Nat.reduceLeDiff, Nat.reduceEqDiff, Nat.reduceLT, ob_hit, ob_skip, ob_set, ob_old, getD_map, Int.natCast_nonneg, true_and, and_true, int_zero, beq_self_eq_true, Int.toNat_zero, List.getD_cons_zero, List.getD_cons_succ, List.range_zero, List.mem_cons, List.not_mem_nil, or_false, forall_eq, forall_eq_or_imp, false_implies, implies_true, Nat.reduceMul, Option.isSome_some, bnd, or_true, Int.toNat_one, Int.le_refl, ge_iff_le, gt_iff_lt]; (repeat (with_reducible refine And.intro (by first | omega | assumption | rfl) ?_))); first | done | rfl | omega)) ?_)
          (refine s_take 11 rfl (by kernel_rfl) (by kernel_rfl) (v := .v (.bool r.isSome)) (fun S' hz => dquietR_of (by (simp (disch := first | decide | omega | (simp only [add_next, set_next, grow_next, leave_next, List.length_map, leftS_next]; first | done | omega)) only [go_sem, ↓reduceIte, Nat.reduceBEq, Nat.reduceAdd, Nat.reduceLeDiff, Nat.reduceEqDiff, Nat.reduceLT, ob_hit, ob_skip, ob_set, ob_old, getD_map, Int.natCast_nonneg, true_and, and_true, int_zero, beq_self_eq_true, Int.toNat_zero, List.getD_cons_zero, List.getD_cons_succ, List.range_zero, List.mem_cons, List.not_mem_nil, or_false, forall_eq, forall_eq_or_imp, false_implies, implies_true, Nat.reduceMul, Option.isSome_some, bnd, or_true, Int.toNat_one, Int.le_refl, ge_iff_le, gt_iff_lt]; (repeat (with_reducible refine And.intro (by first | omega | assumption | rfl) ?_))); first | done | rfl | omega)) ?_)
          refine s_split [12] (by kernel_rfl) (by simp) ?_
          intro i hi
          obtain rfl : i = 12 := by simpa using hi
          refine s_op rfl ?_
          (simp (disch := first | decide | omega | (simp only [add_next, set_next, grow_next, leave_next, List.length_map, leftS_next]; first | done | omega)) only [go_sem, ↓reduceIte, Nat.reduceBEq, Nat.reduceAdd, Nat.reduceLeDiff, Nat.reduceEqDiff, Nat.reduceLT, ob_hit, ob_skip, ob_set, ob_old, getD_map, Int.natCast_nonneg, true_and, and_true, int_zero, beq_self_eq_true, Int.toNat_zero, List.getD_cons_zero, List.getD_cons_succ, List.range_zero, List.mem_cons, List.not_mem_nil, or_false, forall_eq, forall_eq_or_imp, false_implies, implies_true, Nat.reduceMul, Option.isSome_some, bnd, or_true, Int.toNat_one, Int.le_refl, ge_iff_le, gt_iff_lt, hL, leftS_next]; (repeat (with_reducible refine And.intro (by first | omega | assumption | rfl) ?_)))
          refine s_split [13] (by kernel_rfl) (by simp) ?_
          intro i hi
          obtain rfl : i = 13 := by simpa using hi
          refine s_op rfl ?_
          (simp (disch := first | decide | omega | (simp only [add_next, set_next, grow_next, leave_next, List.length_map, leftS_next]; first | done | omega)) only [go_sem, ↓reduceIte, Nat.reduceBEq, Nat.reduceAdd, Nat.reduceLeDiff, Nat.reduceEqDiff, Nat.reduceLT, ob_hit, ob_skip, ob_set, ob_old, getD_map, Int.natCast_nonneg, true_and, and_true, int_zero, beq_self_eq_true, Int.toNat_zero, List.getD_cons_zero, List.getD_cons_succ, List.range_zero, List.mem_cons, List.not_mem_nil, or_false, forall_eq, forall_eq_or_imp, false_implies, implies_true, Nat.reduceMul, Option.isSome_some, bnd, or_true, Int.toNat_one, Int.le_refl, ge_iff_le, gt_iff_lt, hL, leftS_next]; (repeat (with_reducible refine And.intro (by first | omega | assumption | rfl) ?_)))
          (refine s_take 14 rfl (by kernel_rfl) (by kernel_rfl) (v := .v (.bool r.isSome)) (fun S' hz => dquietR_of (by (simp (disch := first | decide | omega | (simp only [add_next, set_next, grow_next, leave_next, List.length_map, leftS_next]; first | done | omega)) only [go_sem, ↓reduceIte, Nat.reduceBEq, Nat.reduceAdd, Nat.reduceLeDiff, Nat.reduceEqDiff, Nat.reduceLT, ob_hit, ob_skip, ob_set, ob_old, getD_map, Int.natCast_nonneg, true_and, and_true, int_zero, beq_self_eq_true, Int.toNat_zero, List.getD_cons_zero, List.getD_cons_succ, List.range_zero, List.mem_cons, List.not_mem_nil, or_false, forall_eq, forall_eq_or_imp, false_implies, implies_true, Nat.reduceMul, Option.isSome_some, bnd, or_true, Int.toNat_one, Int.le_refl, ge_iff_le, gt_iff_lt]; (repeat (with_reducible refine And.intro (by first | omega | assumption | rfl) ?_))); first | done | rfl | omega)) ?_)
          refine s_done (by kernel_rfl) ?_
          (simp (disch := first | decide | omega | (simp only [add_next, set_next, grow_next, leave_next, List.length_map, leftS_next]; first | done | omega)) only [go_sem, ↓reduceIte, Nat.reduceBEq, Nat.reduceAdd, Nat.reduceLeDiff, Nat.reduceEqDiff, Nat.reduceLT, ob_hit, ob_skip, ob_set, ob_old, getD_map, Int.natCast_nonneg, true_and, and_true, int_zero, beq_self_eq_true, Int.toNat_zero, List.getD_cons_zero, List.getD_cons_succ, List.range_zero, List.mem_cons, List.not_mem_nil, or_false, forall_eq, forall_eq_or_imp, false_implies, implies_true, Nat.reduceMul, Option.isSome_some, bnd, or_true, Int.toNat_one, Int.le_refl, ge_iff_le, gt_iff_lt, hL, leftS_next]; (repeat (with_reducible refine And.intro (by first | omega | assumption | rfl) ?_)))
          refine ⟨S.next + 1 + 1, ?_⟩
          (simp (disch := first | decide | omega | (simp only [add_next, set_next, grow_next, leave_next, List.length_map, leftS_next]; first | done | omega)) only [go_sem, ↓reduceIte, Nat.reduceBEq, Nat.reduceAdd, Nat.reduceLeDiff, Nat.reduceEqDiff, Nat.reduceLT, ob_hit, ob_skip, ob_set, ob_old, getD_map, Int.natCast_nonneg, true_and, and_true, int_zero, beq_self_eq_true, Int.toNat_zero, List.getD_cons_zero, List.getD_cons_succ, List.range_zero, List.mem_cons, List.not_mem_nil, or_false, forall_eq, forall_eq_or_imp, false_implies, implies_true, Nat.reduceMul, Option.isSome_some, bnd, or_true, Int.toNat_one, Int.le_refl, ge_iff_le, gt_iff_lt, hL, leftS_next]; (repeat (with_reducible refine And.intro (by first | omega | assumption | rfl) ?_)))
          refine St.Sub.set (St.Sub.add (leftS_sub hS (by (repeat' first | exact St.Sub.refl _ | assumption | (exact RowOk.sub (by assumption) (by assumption)) | (refine St.Sub.trans ?_ (RowOk.sub (by assumption) (by assumption))) | (exact St.Sub.keep (St.Sub.refl _) (by first | assumption | (first | omega | (simp only [RowOk.lo, add_next, set_next, grow_next, leave_next]; first | done | omega)))) | refine St.Sub.add ?_ (by (repeat' first | assumption | refine St.WF.leave ?_ _ | refine St.WF.add ?_ _ | refine St.WF.set ?_ (by (first | omega | (simp only [RowOk.lo, add_next, set_next, grow_next, leave_next]; first | done | omega))) _ | refine St.WF.grow ?_ _ _ _ | refine St.WF.keep ?_ (by first | assumption | (first | omega | (simp only [RowOk.lo, add_next, set_next, grow_next, leave_next]; first | done | omega))))) _ | refine St.Sub.set ?_ (by (repeat' first | assumption | refine St.WF.leave ?_ _ | refine St.WF.add ?_ _ | refine St.WF.set ?_ (by (first | omega | (simp only [RowOk.lo, add_next, set_next, grow_next, leave_next]; first | done | omega))) _ | refine St.WF.grow ?_ _ _ _ | refine St.WF.keep ?_ (by first | assumption | (first | omega | (simp only [RowOk.lo, add_next, set_next, grow_next, leave_next]; first | done | omega))))) (by (first | omega | (simp only [RowOk.lo, add_next, set_next, grow_next, leave_next]; first | done | omega))) _ | refine St.Sub.keep ?_ (by first | assumption | (first | omega | (simp only [RowOk.lo, add_next, set_next, grow_next, leave_next]; first | done | omega)))))) (leftS_wf hS hv.1 r) _) (leftS_wf hS hv.1 r) ?_ _
          rw [leftS_next]; omega
        · refine s_op rfl ?_
          (simp (disch := first | decide | omega | (simp only [add_next, set_next, grow_next, leave_next, List.length_map, leftS_next]; first | done | omega)) only [go_sem, ↓reduceIte, Nat.reduceBEq, Nat.reduceAdd, Nat.reduceLeDiff, Nat.reduceEqDiff, Nat.reduceLT, ob_hit, ob_skip, ob_set, ob_old, getD_map, Int.natCast_nonneg, true_and, and_true, int_zero, beq_self_eq_true, Int.toNat_zero, List.getD_cons_zero, List.getD_cons_succ, List.range_zero, List.mem_cons, List.not_mem_nil, or_false, forall_eq, forall_eq_or_imp, false_implies, implies_true, Nat.reduceMul, Option.isSome_some, bnd, or_true, Int.toNat_one, Int.le_refl, ge_iff_le, gt_iff_lt]; (repeat (with_reducible refine And.intro (by first | omega | assumption | rfl) ?_)))
          refine s_split [8] (by kernel_rfl) (by simp) ?_
          intro i hi
          obtain rfl : i = 8 := by simpa using hi
          refine s_op rfl ?_
          (simp (disch := first | decide | omega | (simp only [add_next, set_next, grow_next, leave_next, List.length_map, leftS_next]; first | done | omega)) only [go_sem, ↓reduceIte, Nat.reduceBEq, Nat.reduceAdd, Nat.reduceLeDiff, Nat.reduceEqDiff, Nat.reduceLT, ob_hit, ob_skip, ob_set, ob_old, getD_map, Int.natCast_nonneg, true_and, and_true, int_zero, beq_self_eq_true, Int.toNat_zero, List.getD_cons_zero, List.getD_cons_succ, List.range_zero, List.mem_cons, List.not_mem_nil, or_false, forall_eq, forall_eq_or_imp, false_implies, implies_true, Nat.reduceMul, Option.isSome_some, bnd, or_true, Int.toNat_one, Int.le_refl, ge_iff_le, gt_iff_lt]; (repeat (with_reducible refine And.intro (by first | omega | assumption | rfl) ?_)))
          refine (ih' _ (by (repeat' first | exact St.Sub.refl _ | assumption | (exact RowOk.sub (by assumption) (by assumption)) | (refine St.Sub.trans ?_ (RowOk.sub (by assumption) (by assumption))) | (exact St.Sub.keep (St.Sub.refl _) (by first | assumption | (first | omega | (simp only [RowOk.lo, add_next, set_next, grow_next, leave_next]; first | done | omega)))) | refine St.Sub.add ?_ (by (repeat' first | assumption | refine St.WF.leave ?_ _ | refine St.WF.add ?_ _ | refine St.WF.set ?_ (by (first | omega | (simp only [RowOk.lo, add_next, set_next, grow_next, leave_next]; first | done | omega))) _ | refine St.WF.grow ?_ _ _ _ | refine St.WF.keep ?_ (by first | assumption | (first | omega | (simp only [RowOk.lo, add_next, set_next, grow_next, leave_next]; first | done | omega))))) _ | refine St.Sub.set ?_ (by (repeat' first | assumption | refine St.WF.leave ?_ _ | refine St.WF.add ?_ _ | refine St.WF.set ?_ (by (first | omega | (simp only [RowOk.lo, add_next, set_next, grow_next, leave_next]; first | done | omega))) _ | refine St.WF.grow ?_ _ _ _ | refine St.WF.keep ?_ (by first | assumption | (first | omega | (simp only [RowOk.lo, add_next, set_next, grow_next, leave_next]; first | done | omega))))) (by (first | omega | (simp only [RowOk.lo, add_next, set_next, grow_next, leave_next]; first | done | omega))) _ | refine St.Sub.keep ?_ (by first | assumption | (first | omega | (simp only [RowOk.lo, add_next, set_next, grow_next, leave_next]; first | done | omega)))))).mono ?_
          rintro d T ⟨rfl, rfl⟩
          refine ⟨by (first | (simp (disch := first | decide | omega | (simp only [add_next, set_next, grow_next, leave_next, List.length_map, leftS_next]; first | done | omega)) only [go_sem, ↓reduceIte, Nat.reduceBEq, Nat.reduceAdd, Nat.reduceLeDiff, Nat.reduceEqDiff, Nat.reduceLT, ob_hit, ob_skip, ob_set, ob_old, getD_map, Int.natCast_nonneg, true_and, and_true, int_zero, beq_self_eq_true, Int.toNat_zero, List.getD_cons_zero, List.getD_cons_succ, List.range_zero, List.mem_cons, List.not_mem_nil, or_false, forall_eq, forall_eq_or_imp, false_implies, implies_true, Nat.reduceMul, Option.isSome_some, bnd, or_true, Int.toNat_one, Int.le_refl, ge_iff_le, gt_iff_lt, hL]; done) | (simp (disch := first | decide | omega | (simp only [add_next, set_next, grow_next, leave_next, List.length_map, leftS_next]; first | done | omega)) only [go_sem, ↓reduceIte, Nat.reduceBEq, Nat.reduceAdd, Nat.reduceLeDiff, Nat.reduceEqDiff, Nat.reduceLT, ob_hit, ob_skip, ob_set, ob_old, getD_map, Int.natCast_nonneg, true_and, and_true, int_zero, beq_self_eq_true, Int.toNat_zero, List.getD_cons_zero, List.getD_cons_succ, List.range_zero, List.mem_cons, List.not_mem_nil, or_false, forall_eq, forall_eq_or_imp, false_implies, implies_true, Nat.reduceMul, Option.isSome_some, bnd, or_true, Int.toNat_one, Int.le_refl, ge_iff_le, gt_iff_lt, hL]; rfl) | rfl), ?_⟩
          (refine s_take 9 rfl (by kernel_rfl) (by kernel_rfl) (v := .tup [encV y, .v (.bool r.isSome)]) (fun S' hz => dquietR_of (by (simp (disch := first | decide | omega | (simp only [add_next, set_next, grow_next, leave_next, List.length_map, leftS_next]; first | done | omega)) only [go_sem, ↓reduceIte, Nat.reduceBEq, Nat.reduceAdd, Nat.reduceLeDiff, Nat.reduceEqDiff, Nat.reduceLT, ob_hit, ob_skip, ob_set, ob_old, getD_map, Int.natCast_nonneg, true_and, and_true, int_zero, beq_self_eq_true, Int.toNat_zero, List.getD_cons_zero, List.getD_cons_succ, List.range_zero, List.mem_cons, List.not_mem_nil, or_false, forall_eq, forall_eq_or_imp, false_implies, implies_true, Nat.reduceMul, Option.isSome_some, bnd, or_true, Int.toNat_one, Int.le_refl, ge_iff_le, gt_iff_lt]; (repeat (with_reducible refine And.intro (by first | omega | assumption | rfl) ?_))); first | done | rfl | omega)) ?_)
          (refine s_take 10 rfl (by kernel_rfl) (by kernel_rfl) (v := encV y) (fun S' hz => dquietR_of (by (simp (disch := first | decide | omega | (simp only [add_next, set_next, grow_next, leave_next, List.length_map, leftS_next]; first | done | omega)) only [go_sem, ↓reduceIte, Nat.reduceBEq, Nat.reduceAdd, Nat.reduceLeDiff, Nat.reduceEqDiff, Nat.reduceLT, ob_hit, ob_skip, ob_set, ob_old, getD_map, Int.natCast_nonneg, true_and, and_true, int_zero, beq_self_eq_true, Int.toNat_zero, List.getD_cons_zero, List.getD_cons_succ, List.range_zero, List.mem_cons, List.not_mem_nil, or_false, forall_eq, forall_eq_or_imp, false_implies, implies_true, Nat.reduceMul, Option.isSome_some, bnd, or_true, Int.toNat_one, Int.le_refl, ge_iff_le, gt_iff_lt]; (repeat (with_reducible refine And.intro (by first | omega | assumption | rfl) ?_))); first | done | rfl | omega)) ?_)
          (refine s_take 11 rfl (by kernel_rfl) (by kernel_rfl) (v := .v (.bool r.isSome)) (fun S' hz => dquietR_of (by (simp (disch := first | decide | omega | (simp only [add_next, set_next, grow_next, leave_next, List.length_map, leftS_next]; first | done | omega)) only [go_sem, ↓reduceIte, Nat.reduceBEq, Nat.reduceAdd, Nat.reduceLeDiff, Nat.reduceEqDiff, Nat.reduceLT, ob_hit, ob_skip, ob_set, ob_old, getD_map, Int.natCast_nonneg, true_and, and_true, int_zero, beq_self_eq_true, Int.toNat_zero, List.getD_cons_zero, List.getD_cons_succ, List.range_zero, List.mem_cons, List.not_mem_nil, or_false, forall_eq, forall_eq_or_imp, false_implies, implies_true, Nat.reduceMul, Option.isSome_some, bnd, or_true, Int.toNat_one, Int.le_refl, ge_iff_le, gt_iff_lt]; (repeat (with_reducible refine And.intro (by first | omega | assumption | rfl) ?_))); first | done | rfl | omega)) ?_)
          refine s_split [13] (by kernel_rfl) (by simp) ?_
          intro i hi
          obtain rfl : i = 13 := by simpa using hi
          refine s_op rfl ?_
          (simp (disch := first | decide | omega | (simp only [add_next, set_next, grow_next, leave_next, List.length_map, leftS_next]; first | done | omega)) only [go_sem, ↓reduceIte, Nat.reduceBEq, Nat.reduceAdd, Nat.reduceLeDiff, Nat.reduceEqDiff, Nat.reduceLT, ob_hit, ob_skip, ob_set, ob_old, getD_map, Int.natCast_nonneg, true_and, and_true, int_zero, beq_self_eq_true, Int.toNat_zero, List.getD_cons_zero, List.getD_cons_succ, List.range_zero, List.mem_cons, List.not_mem_nil, or_false, forall_eq, forall_eq_or_imp, false_implies, implies_true, Nat.reduceMul, Option.isSome_some, bnd, or_true, Int.toNat_one, Int.le_refl, ge_iff_le, gt_iff_lt, hL, leftS_next]; (repeat (with_reducible refine And.intro (by first | omega | assumption | rfl) ?_)))
          (refine s_take 14 rfl (by kernel_rfl) (by kernel_rfl) (v := .v (.bool r.isSome)) (fun S' hz => dquietR_of (by (simp (disch := first | decide | omega | (simp only [add_next, set_next, grow_next, leave_next, List.length_map, leftS_next]; first | done | omega)) only [go_sem, ↓reduceIte, Nat.reduceBEq, Nat.reduceAdd, Nat.reduceLeDiff, Nat.reduceEqDiff, Nat.reduceLT, ob_hit, ob_skip, ob_set, ob_old, getD_map, Int.natCast_nonneg, true_and, and_true, int_zero, beq_self_eq_true, Int.toNat_zero, List.getD_cons_zero, List.getD_cons_succ, List.range_zero, List.mem_cons, List.not_mem_nil, or_false, forall_eq, forall_eq_or_imp, false_implies, implies_true, Nat.reduceMul, Option.isSome_some, bnd, or_true, Int.toNat_one, Int.le_refl, ge_iff_le, gt_iff_lt]; (repeat (with_reducible refine And.intro (by first | omega | assumption | rfl) ?_))); first | done | rfl | omega)) ?_)
          refine s_done (by kernel_rfl) ?_
          (simp (disch := first | decide | omega | (simp only [add_next, set_next, grow_next, leave_next, List.length_map, leftS_next]; first | done | omega)) only [go_sem, ↓reduceIte, Nat.reduceBEq, Nat.reduceAdd, Nat.reduceLeDiff, Nat.reduceEqDiff, Nat.reduceLT, ob_hit, ob_skip, ob_set, ob_old, getD_map, Int.natCast_nonneg, true_and, and_true, int_zero, beq_self_eq_true, Int.toNat_zero, List.getD_cons_zero, List.getD_cons_succ, List.range_zero, List.mem_cons, List.not_mem_nil, or_false, forall_eq, forall_eq_or_imp, false_implies, implies_true, Nat.reduceMul, Option.isSome_some, bnd, or_true, Int.toNat_one, Int.le_refl, ge_iff_le, gt_iff_lt, hL, leftS_next]; (repeat (with_reducible refine And.intro (by first | omega | assumption | rfl) ?_)))
          refine ⟨S.next + 1 + 1, ?_⟩
          (simp (disch := first | decide | omega | (simp only [add_next, set_next, grow_next, leave_next, List.length_map, leftS_next]; first | done | omega)) only [go_sem, ↓reduceIte, Nat.reduceBEq, Nat.reduceAdd, Nat.reduceLeDiff, Nat.reduceEqDiff, Nat.reduceLT, ob_hit, ob_skip, ob_set, ob_old, getD_map, Int.natCast_nonneg, true_and, and_true, int_zero, beq_self_eq_true, Int.toNat_zero, List.getD_cons_zero, List.getD_cons_succ, List.range_zero, List.mem_cons, List.not_mem_nil, or_false, forall_eq, forall_eq_or_imp, false_implies, implies_true, Nat.reduceMul, Option.isSome_some, bnd, or_true, Int.toNat_one, Int.le_refl, ge_iff_le, gt_iff_lt, hL, leftS_next]; (repeat (with_reducible refine And.intro (by first | omega | assumption | rfl) ?_)))
          refine St.Sub.set (leftS_sub hS (by (repeat' first | exact St.Sub.refl _ | assumption | (exact RowOk.sub (by assumption) (by assumption)) | (refine St.Sub.trans ?_ (RowOk.sub (by assumption) (by assumption))) | (exact St.Sub.keep (St.Sub.refl _) (by first | assumption | (first | omega | (simp only [RowOk.lo, add_next, set_next, grow_next, leave_next]; first | done | omega)))) | refine St.Sub.add ?_ (by (repeat' first | assumption | refine St.WF.leave ?_ _ | refine St.WF.add ?_ _ | refine St.WF.set ?_ (by (first | omega | (simp only [RowOk.lo, add_next, set_next, grow_next, leave_next]; first | done | omega))) _ | refine St.WF.grow ?_ _ _ _ | refine St.WF.keep ?_ (by first | assumption | (first | omega | (simp only [RowOk.lo, add_next, set_next, grow_next, leave_next]; first | done | omega))))) _ | refine St.Sub.set ?_ (by (repeat' first | assumption | refine St.WF.leave ?_ _ | refine St.WF.add ?_ _ | refine St.WF.set ?_ (by (first | omega | (simp only [RowOk.lo, add_next, set_next, grow_next, leave_next]; first | done | omega))) _ | refine St.WF.grow ?_ _ _ _ | refine St.WF.keep ?_ (by first | assumption | (first | omega | (simp only [RowOk.lo, add_next, set_next, grow_next, leave_next]; first | done | omega))))) (by (first | omega | (simp only [RowOk.lo, add_next, set_next, grow_next, leave_next]; first | done | omega))) _ | refine St.Sub.keep ?_ (by first | assumption | (first | omega | (simp only [RowOk.lo, add_next, set_next, grow_next, leave_next]; first | done | omega)))))) (leftS_wf hS hv.1 r) ?_ _
          rw [leftS_next]; omega
      · rintro f' T ⟨n0, q3, q6, q8, q9, q10, t0, t1, t2, n1, n2, hsub⟩
        (simp (disch := first | decide | omega | (simp only [add_next, set_next, grow_next, leave_next, List.length_map, leftS_next]; first | done | omega)) only [go_sem, ↓reduceIte, Nat.reduceBEq, Nat.reduceAdd, Nat.reduceLeDiff, Nat.reduceEqDiff, Nat.reduceLT, ob_hit, ob_skip, ob_set, ob_old, getD_map, Int.natCast_nonneg, true_and, and_true, int_zero, beq_self_eq_true, Int.toNat_zero, List.getD_cons_zero, List.getD_cons_succ, List.range_zero, List.mem_cons, List.not_mem_nil, or_false, forall_eq, forall_eq_or_imp, false_implies, implies_true, Nat.reduceMul, Option.isSome_some, bnd, or_true, Int.toNat_one, Int.le_refl, ge_iff_le, gt_iff_lt, q3, q6, q8, q9, q10, t0, t1, t2, cv]; (repeat (with_reducible refine And.intro (by first | omega | assumption | rfl) ?_)))
        have hpos : 0 < v.parts.length := by omega
        have hpl0 := partsLen v
        have hwe := v.weight_eq
        refine dapp_win rfl ⟨rfl, rfl, by simpa using hpos, rfl, by (first | (simp (disch := first | decide | omega | (simp only [add_next, set_next, grow_next, leave_next, List.length_map, leftS_next]; first | done | omega)) only [go_sem, ↓reduceIte, Nat.reduceBEq, Nat.reduceAdd, Nat.reduceLeDiff, Nat.reduceEqDiff, Nat.reduceLT, ob_hit, ob_skip, ob_set, ob_old, getD_map, Int.natCast_nonneg, true_and, and_true, int_zero, beq_self_eq_true, Int.toNat_zero, List.getD_cons_zero, List.getD_cons_succ, List.range_zero, List.mem_cons, List.not_mem_nil, or_false, forall_eq, forall_eq_or_imp, false_implies, implies_true, Nat.reduceMul, Option.isSome_some, bnd, or_true, Int.toNat_one, Int.le_refl, ge_iff_le, gt_iff_lt]; done) | (simp (disch := first | decide | omega | (simp only [add_next, set_next, grow_next, leave_next, List.length_map, leftS_next]; first | done | omega)) only [go_sem, ↓reduceIte, Nat.reduceBEq, Nat.reduceAdd, Nat.reduceLeDiff, Nat.reduceEqDiff, Nat.reduceLT, ob_hit, ob_skip, ob_set, ob_old, getD_map, Int.natCast_nonneg, true_and, and_true, int_zero, beq_self_eq_true, Int.toNat_zero, List.getD_cons_zero, List.getD_cons_succ, List.range_zero, List.mem_cons, List.not_mem_nil, or_false, forall_eq, forall_eq_or_imp, false_implies, implies_true, Nat.reduceMul, Option.isSome_some, bnd, or_true, Int.toNat_one, Int.le_refl, ge_iff_le, gt_iff_lt]; rfl) | rfl), by (first | (simp (disch := first | decide | omega | (simp only [add_next, set_next, grow_next, leave_next, List.length_map, leftS_next]; first | done | omega)) only [go_sem, ↓reduceIte, Nat.reduceBEq, Nat.reduceAdd, Nat.reduceLeDiff, Nat.reduceEqDiff, Nat.reduceLT, ob_hit, ob_skip, ob_set, ob_old, getD_map, Int.natCast_nonneg, true_and, and_true, int_zero, beq_self_eq_true, Int.toNat_zero, List.getD_cons_zero, List.getD_cons_succ, List.range_zero, List.mem_cons, List.not_mem_nil, or_false, forall_eq, forall_eq_or_imp, false_implies, implies_true, Nat.reduceMul, Option.isSome_some, bnd, or_true, Int.toNat_one, Int.le_refl, ge_iff_le, gt_iff_lt]; done) | (simp (disch := first | decide | omega | (simp only [add_next, set_next, grow_next, leave_next, List.length_map, leftS_next]; first | done | omega)) only [go_sem, ↓reduceIte, Nat.reduceBEq, Nat.reduceAdd, Nat.reduceLeDiff, Nat.reduceEqDiff, Nat.reduceLT, ob_hit, ob_skip, ob_set, ob_old, getD_map, Int.natCast_nonneg, true_and, and_true, int_zero, beq_self_eq_true, Int.toNat_zero, List.getD_cons_zero, List.getD_cons_succ, List.range_zero, List.mem_cons, List.not_mem_nil, or_false, forall_eq, forall_eq_or_imp, false_implies, implies_true, Nat.reduceMul, Option.isSome_some, bnd, or_true, Int.toNat_one, Int.le_refl, ge_iff_le, gt_iff_lt]; rfl) | rfl), (fun d hd => by obtain ⟨u, _, rfl⟩ := List.mem_map.1 hd; exact cells_encV u), by rw [List.length_map]; omega, by simp (disch := first | decide | omega | (simp only [add_next, set_next, grow_next, leave_next, List.length_map, leftS_next]; first | done | omega)) only [go_sem, ↓reduceIte, Nat.reduceBEq, Nat.reduceAdd, Nat.reduceLeDiff, Nat.reduceEqDiff, Nat.reduceLT, ob_hit, ob_skip, ob_set, ob_old, getD_map, Int.natCast_nonneg, true_and, and_true, int_zero, beq_self_eq_true, Int.toNat_zero, List.getD_cons_zero, List.getD_cons_succ, List.range_zero, List.mem_cons, List.not_mem_nil, or_false, forall_eq, forall_eq_or_imp, false_implies, implies_true, Nat.reduceMul, Option.isSome_some, bnd, or_true, Int.toNat_one, Int.le_refl, ge_iff_le, gt_iff_lt]; omega, fun zs => ?_⟩
        (simp (disch := first | decide | omega | (simp only [add_next, set_next, grow_next, leave_next, List.length_map, leftS_next]; first | done | omega)) only [go_sem, ↓reduceIte, Nat.reduceBEq, Nat.reduceAdd, Nat.reduceLeDiff, Nat.reduceEqDiff, Nat.reduceLT, ob_hit, ob_skip, ob_set, ob_old, getD_map, Int.natCast_nonneg, true_and, and_true, int_zero, beq_self_eq_true, Int.toNat_zero, List.getD_cons_zero, List.getD_cons_succ, List.range_zero, List.mem_cons, List.not_mem_nil, or_false, forall_eq, forall_eq_or_imp, false_implies, implies_true, Nat.reduceMul, Option.isSome_some, bnd, or_true, Int.toNat_one, Int.le_refl, ge_iff_le, gt_iff_lt, q3, q6, q8, q9, q10, t0, t1, t2, cv]; (repeat (with_reducible refine And.intro (by first | omega | assumption | rfl) ?_)))
        have hwid : ∀ d ∈ List.map encV v.parts, d.width = 6 := fun d hd => by obtain ⟨u, _, rfl⟩ := List.mem_map.1 hd; exact cells_encV u
        have hlen : (placeOf v p).toNat < (List.map encV v.parts).length := by rw [List.length_map]; omega
        refine ⟨by rw [List.length_append, dflat_length hwid]; simp; omega, ?_⟩
        rw [splice_flat' hlen hwid (cells_encV y)]
        have hwid2 : ∀ d ∈ (List.map encV v.parts).set (placeOf v p).toNat (encV y), d.width = szOf Try.prog 31 := fun d hd => by
          simp (disch := first | decide | omega | (simp only [add_next, set_next, grow_next, leave_next, List.length_map, leftS_next]; first | done | omega)) only [go_sem, ↓reduceIte, Nat.reduceBEq, Nat.reduceAdd, Nat.reduceLeDiff, Nat.reduceEqDiff, Nat.reduceLT, ob_hit, ob_skip, ob_set, ob_old, getD_map, Int.natCast_nonneg, true_and, and_true, int_zero, beq_self_eq_true, Int.toNat_zero, List.getD_cons_zero, List.getD_cons_succ, List.range_zero, List.mem_cons, List.not_mem_nil, or_false, forall_eq, forall_eq_or_imp, false_implies, implies_true, Nat.reduceMul, Option.isSome_some, bnd, or_true, Int.toNat_one, Int.le_refl, ge_iff_le, gt_iff_lt]
          rcases List.mem_or_eq_of_mem_set hd with hd | rfl
          · exact hwid d hd
          · exact cells_encV y
        refine ⟨_, _, thaw_win (k := T.next) (zs := zs) (by (first | (simp (disch := first | decide | omega | (simp only [add_next, set_next, grow_next, leave_next, List.length_map, leftS_next]; first | done | omega)) only [go_sem, ↓reduceIte, Nat.reduceBEq, Nat.reduceAdd, Nat.reduceLeDiff, Nat.reduceEqDiff, Nat.reduceLT, ob_hit, ob_skip, ob_set, ob_old, getD_map, Int.natCast_nonneg, true_and, and_true, int_zero, beq_self_eq_true, Int.toNat_zero, List.getD_cons_zero, List.getD_cons_succ, List.range_zero, List.mem_cons, List.not_mem_nil, or_false, forall_eq, forall_eq_or_imp, false_implies, implies_true, Nat.reduceMul, Option.isSome_some, bnd, or_true, Int.toNat_one, Int.le_refl, ge_iff_le, gt_iff_lt]; done) | (simp (disch := first | decide | omega | (simp only [add_next, set_next, grow_next, leave_next, List.length_map, leftS_next]; first | done | omega)) only [go_sem, ↓reduceIte, Nat.reduceBEq, Nat.reduceAdd, Nat.reduceLeDiff, Nat.reduceEqDiff, Nat.reduceLT, ob_hit, ob_skip, ob_set, ob_old, getD_map, Int.natCast_nonneg, true_and, and_true, int_zero, beq_self_eq_true, Int.toNat_zero, List.getD_cons_zero, List.getD_cons_succ, List.range_zero, List.mem_cons, List.not_mem_nil, or_false, forall_eq, forall_eq_or_imp, false_implies, implies_true, Nat.reduceMul, Option.isSome_some, bnd, or_true, Int.toNat_one, Int.le_refl, ge_iff_le, gt_iff_lt]; rfl) | rfl)) (by simp (disch := first | decide | omega | (simp only [add_next, set_next, grow_next, leave_next, List.length_map, leftS_next]; first | done | omega)) only [go_sem, ↓reduceIte, Nat.reduceBEq, Nat.reduceAdd, Nat.reduceLeDiff, Nat.reduceEqDiff, Nat.reduceLT, ob_hit, ob_skip, ob_set, ob_old, getD_map, Int.natCast_nonneg, true_and, and_true, int_zero, beq_self_eq_true, Int.toNat_zero, List.getD_cons_zero, List.getD_cons_succ, List.range_zero, List.mem_cons, List.not_mem_nil, or_false, forall_eq, forall_eq_or_imp, false_implies, implies_true, Nat.reduceMul, Option.isSome_some, bnd, or_true, Int.toNat_one, Int.le_refl, ge_iff_le, gt_iff_lt]) hwid2 rfl, ?_⟩
        have hlw := leftS_wf hS hv.1 r
        have hln := leftS_next S c r
        have hnx := hsub.next
        refine fin_left (P := Try.prog) (c := c) (r := r) hS hv.1 ?_ ?_ (closed_res _ _) ⟨rfl, rfl⟩
        · refine St.Sub.drop (St.Sub.set (St.Sub.set (St.Sub.set (St.Sub.add hsub hlw _) hlw ?_ _) hlw ?_ _) hlw ?_ _) hlw ?_ <;> (rw [hln] at *; omega)
        · simp only [D.thaw, thawL, List.length_set, List.length_map, Nat.beq_refl, Bool.and_self, cond_true]
          rw [encV_eq (v.withParts _), ← List.map_set]
          rfl
    · have e1 : (decide (0 ≤ placeOf v p) && decide (placeOf v p < (v.parts.length : Int))) = false := by
        cases h : (decide (0 ≤ placeOf v p) && decide (placeOf v p < (v.parts.length : Int))) with
        | false => rfl
        | true => rw [Bool.and_eq_true, decide_eq_true_eq, decide_eq_true_eq] at h; exact absurd h hin
      have hg : getV (p :: ps) v = none := by rw [getV_cons, if_neg hin]
      have hc : chV fV (p :: ps) v = v := by rw [chV, if_neg hin]
      (simp (disch := first | decide | omega | (simp only [add_next, set_next, grow_next, leave_next, List.length_map, leftS_next]; first | done | omega)) only [go_sem, ↓reduceIte, Nat.reduceBEq, Nat.reduceAdd, Nat.reduceLeDiff, Nat.reduceEqDiff, Nat.reduceLT, ob_hit, ob_skip, ob_set, ob_old, getD_map, Int.natCast_nonneg, true_and, and_true, int_zero, beq_self_eq_true, Int.toNat_zero, List.getD_cons_zero, List.getD_cons_succ, List.range_zero, List.mem_cons, List.not_mem_nil, or_false, forall_eq, forall_eq_or_imp, false_implies, implies_true, Nat.reduceMul, Option.isSome_some, bnd, or_true, Int.toNat_one, Int.le_refl, ge_iff_le, gt_iff_lt, partV, e1]; (repeat (with_reducible refine And.intro (by first | omega | assumption | rfl) ?_)))
      rw [hg, hc]
      refine DFin.t (fin_left (P := Try.prog) (c := c) (r := none) hS hv.1 ?_ rfl (closed_res _ _) ?_)
      · have : leftS S c none = S := by cases c <;> rfl
        rw [this]
        exact (by (repeat' first | exact St.Sub.refl _ | assumption | (exact RowOk.sub (by assumption) (by assumption)) | (refine St.Sub.trans ?_ (RowOk.sub (by assumption) (by assumption))) | (exact St.Sub.keep (St.Sub.refl _) (by first | assumption | (first | omega | (simp only [RowOk.lo, add_next, set_next, grow_next, leave_next]; first | done | omega)))) | refine St.Sub.add ?_ (by (repeat' first | assumption | refine St.WF.leave ?_ _ | refine St.WF.add ?_ _ | refine St.WF.set ?_ (by (first | omega | (simp only [RowOk.lo, add_next, set_next, grow_next, leave_next]; first | done | omega))) _ | refine St.WF.grow ?_ _ _ _ | refine St.WF.keep ?_ (by first | assumption | (first | omega | (simp only [RowOk.lo, add_next, set_next, grow_next, leave_next]; first | done | omega))))) _ | refine St.Sub.set ?_ (by (repeat' first | assumption | refine St.WF.leave ?_ _ | refine St.WF.add ?_ _ | refine St.WF.set ?_ (by (first | omega | (simp only [RowOk.lo, add_next, set_next, grow_next, leave_next]; first | done | omega))) _ | refine St.WF.grow ?_ _ _ _ | refine St.WF.keep ?_ (by first | assumption | (first | omega | (simp only [RowOk.lo, add_next, set_next, grow_next, leave_next]; first | done | omega))))) (by (first | omega | (simp only [RowOk.lo, add_next, set_next, grow_next, leave_next]; first | done | omega))) _ | refine St.Sub.keep ?_ (by first | assumption | (first | omega | (simp only [RowOk.lo, add_next, set_next, grow_next, leave_next]; first | done | omega)))))
      · exact ⟨rfl, rfl⟩
end Go.Proofs.Ytpnjkebjdclkfaa

/- How a path reads that came in. Conditions: none. -/
namespace Go.Proofs.Ytpnjkebjdclkfaa
open Go.ChangeShapes Go.WideShapes Go.ChangeAt Go.RowKit Go.Deep Go.Joins
section
variable {H : Type} {enc : TypeId × Value → H} {w : World}
/-- One step's two cells. -/
def IsStep (w : World) (b o : Nat) (p : DStp) : Prop := w.cell? ⟨b, o, none⟩ = some (sv p.1) ∧ w.cell? ⟨b, o + 1, none⟩ = some (uv p.2) ∧ p.1.length ≤ maxLen ∧ U64 (p.2 : Int)
theorem trod_struct2 {P : Program} {t : TypeId} {f0 f1 : Field} {fuel : Nat} {cs : List Value} {x : DataW H × List MemPlace} (ht : P.underlying t = some (.struct #[f0, f1])) (h : DataW.trod enc P w 0 (fun _ => true) true fuel t cs = some x) :
    ∃ y0 y1 n, x.1 = .agg [y0.1, y1.1] ∧ cs.length = P.cellsOf t ∧ DataW.trod enc P w 0 (fun _ => true) true n f0.type ((cs.drop f0.offset).take (P.cellsOf f0.type)) = some y0 ∧
      DataW.trod enc P w 0 (fun _ => true) true n f1.type ((cs.drop f1.offset).take (P.cellsOf f1.type)) = some y1 := by
  obtain ⟨xs, n, _, rfl, hl, hlen, hf⟩ := DataW.trod_struct ht h
  match xs, hlen with
  | [y0, y1], _ => exact ⟨y0, y1, n, by simp, hl, by simpa using hf 0 f0 rfl, by simpa using hf 1 f1 rfl⟩
set_option maxRecDepth 20000 in
theorem open_steps {v : Value} {d : DataW H} {p : List MemPlace} {W : World} {base : Nat} (h : DataW.Trod enc Try.prog w 0 (fun _ => true) true 42 v d p) (hs : Sized Try.prog 42 d) (hk : Value.okWide Try.prog W .any base 42 v) :
    ∃ l : List DStp, (∀ q ∈ l, q.1.length ≤ maxLen ∧ U64 (q.2 : Int)) ∧ ∀ (η : Names) (X : Nat → Nat → Prop), (∀ b i, X b i) → Rep Try.prog w η X (.sl .no (l.map encP)) v := by
  have elem : ∀ (fuel : Nat) (cs : List Value) (x : DataW H × List MemPlace) (b o : Nat), b < w.heap.size → DataW.trod enc Try.prog w 0 (fun _ => true) true fuel 81 cs = some x → Sized Try.prog 81 x.1 → cs.length = 2 → (∀ j u, cs[j]? = some u → w.cell? ⟨b, o + j, none⟩ = some u) → ∃ d, IsStep w b o d := fun fuel cs x b o hb h hs hlen hcell => by
    match cs, hlen with
    | [x0, x1], _ =>
      obtain ⟨y0, y1, n, hx, _, g0, g1⟩ := trod_struct2 Try.underlying81 h
      have k0 : Try.prog.cellsOf 9 = 1 := by kernel_rfl
      have k1 : Try.prog.cellsOf 52 = 1 := by kernel_rfl
      rw [hx] at hs
      simp only [k0, k1] at g0 g1
      obtain ⟨q1, e1, _, w1⟩ := DataW.trod_int Try.underlying52 g1
      obtain ⟨q2, e2, h2, w2⟩ := DataW.trod_string Try.underlying9 g0
      simp at e1 e2
      rw [sv_of] at e2
      have := bounds_u64 w1
      have hq : q1 = (q1.toNat : Int) := by omega
      refine ⟨(q2.data.toList, q1.toNat), (hcell 0 x0 rfl).trans (by rw [e2]), (hcell 1 x1 rfl).trans (by rw [e1]; unfold uv; rw [← hq]), ?_, by rw [← hq]; exact w1⟩
      show q2.data.toList.length ≤ maxLen
      simpa using w2
  obtain ⟨A, c, l, rfl, hc, hr, hb⟩ := open_rows (P := Try.prog) (size := 2) (bytes := 24) Try.underlying42 (by kernel_rfl) (by omega) (by kernel_rfl) (by omega) (IsStep w) elem h hs hk
  refine ⟨l, fun q hq => ?_, fun η X hX => ?_⟩
  · obtain ⟨i, hi, rfl⟩ := List.getElem_of_mem hq
    obtain ⟨b, o, _, _, hf⟩ := hr (by omega)
    exact (hf i _ (List.getElem?_eq_getElem hi)).2.2
  · rcases Nat.eq_zero_or_pos l.length with h0 | h0
    · obtain rfl : l = [] := List.eq_nil_of_length_eq_zero h0
      simp only [Rep, List.map_nil, List.length_nil]
      exact ⟨A, c, rfl, Nat.zero_le _, by omega, trivial, fun h => absurd h (by omega)⟩
    · obtain ⟨b, o, rfl, hbl, hf⟩ := hr h0
      refine rep_structs (F := (· < w.heap.size)) encP 2 (by omega) (fun b i _ => hX b i) (b := b) (o := o) (C := fun i => [sv (l.getD i default).1, uv (l.getD i default).2]) (fun _ => ⟨rfl, hbl⟩) (fun i a ha => ⟨rfl, fun j u hu => ?_⟩) (fun i a ha => ?_) (fun _ => rfl) hc (by omega)
      · have ha' : l.getD i default = a := by rw [List.getD_eq_getElem?_getD, ha]; rfl
        rw [ha'] at hu
        obtain ⟨h1, h2, _⟩ := hf i a ha
        match j, hu with
        | 0, hu => simp at hu; subst hu; exact h1
        | 1, hu => simp at hu; subst hu; exact h2
        | j + 2, hu => simp at hu
      · have ha' : l.getD i default = a := by rw [List.getD_eq_getElem?_getD, ha]; rfl
        rw [ha']
        simp only [encP, strD, u64D, Rep, RepL]
        exact ⟨_, rfl, ⟨_, _, rfl, rfl, _, _, rfl, rfl, rfl⟩, by simp [Value.oneCell']⟩
end
end Go.Proofs.Ytpnjkebjdclkfaa

/- Paths, walked: Get, Put. Conditions: none. -/
namespace Go.Proofs.Ytpnjkebjdclkfaa
open Go.RowKit
set_option linter.unusedSimpArgs false
theorem chV_id : ∀ (ps : List DStp) (v : DVal), chV id ps v = v
  | [], v => rfl
  | p :: ps, v => by
    rw [chV]
    split
    · rename_i h
      have hpl : plN v p < v.parts.length := by have := h.1; have := h.2; unfold plN; omega
      rw [chV_id ps, getD_at hpl, List.set_getElem_self]
      obtain ⟨k, n, s, ns, is, l⟩ := v
      rfl
    · rfl
def getD_ (v : DVal) (ps : List DStp) : D := .tup [encV ((getV ps v).getD zeroV), .v (.bool (getV ps v).isSome)]
theorem zeroV_frz : (D.agg [.v (.int .i64 0), .v (.int .i64 0), .v (.string ⟨#[]⟩), .sl .full [], .sl .full [], .sl .full []]).frz = encV zeroV := rfl
set_option maxRecDepth 200000 in
set_option maxHeartbeats 8000000 in
theorem get_d (v : DVal) (ps : List DStp) (own : Own) (hok : okV v) (hw : v.weight ≤ 1000000) (hl : ps.length ≤ 1000000) : DPure Try.prog 29 [encV v, .sl own (ps.map encP)] (getD_ v ps) := by
  refine dpure_of_dwp mixed Try.func29 rfl (fun _ _ => by kernel_rfl) (rs := [.cell 4 31, .tmp 5]) rfl (by kernel_rfl) (closed_res _ _) (fun S hS => ?_)
  (simp (disch := first | decide | omega | (simp only [add_next, set_next, grow_next, leave_next, List.length_map]; first | done | omega)) only [go_sem, ↓reduceIte, Nat.reduceBEq, Nat.reduceAdd, Nat.reduceLeDiff, Nat.reduceEqDiff, Nat.reduceLT, ob_hit, ob_skip, ob_set, ob_old, getD_map, Int.natCast_nonneg, true_and, and_true, int_zero, beq_self_eq_true, Int.toNat_zero, List.getD_cons_zero, List.getD_cons_succ, List.range_zero, List.mem_cons, List.not_mem_nil, or_false, forall_eq, forall_eq_or_imp, false_implies, implies_true, Nat.reduceMul, Option.isSome_some, bnd, or_true, Int.toNat_one, Int.le_refl, ge_iff_le, gt_iff_lt]; (repeat (with_reducible refine And.intro (by first | omega | assumption | rfl) ?_)))
  refine (change_d 68 [] [.loc (S.next + 1 + 1) 0] id (some (S.next + 1 + 1)) ps own v _ hok hw hl ⟨fun j hj => ?_, fun S' u hs hS' hu => ?_⟩).mono ?_
  · injection hj with hj
    subst hj
    simp (disch := first | decide | omega | (simp only [add_next, set_next, grow_next, leave_next, List.length_map]; first | done | omega)) only [go_sem, ↓reduceIte, Nat.reduceBEq, Nat.reduceAdd, Nat.reduceLeDiff, Nat.reduceEqDiff, Nat.reduceLT, ob_hit, ob_skip, ob_set, ob_old, getD_map, Int.natCast_nonneg, true_and, and_true, int_zero, beq_self_eq_true, Int.toNat_zero, List.getD_cons_zero, List.getD_cons_succ, List.range_zero, List.mem_cons, List.not_mem_nil, or_false, forall_eq, forall_eq_or_imp, false_implies, implies_true, Nat.reduceMul, Option.isSome_some, bnd, or_true, Int.toNat_one, Int.le_refl, ge_iff_le, gt_iff_lt]
    omega
  · exact get1_d S' _ _ (hs.ob _ _ (by simp (disch := first | decide | omega | (simp only [add_next, set_next, grow_next, leave_next, List.length_map]; first | done | omega)) only [go_sem, ↓reduceIte, Nat.reduceBEq, Nat.reduceAdd, Nat.reduceLeDiff, Nat.reduceEqDiff, Nat.reduceLT, ob_hit, ob_skip, ob_set, ob_old, getD_map, Int.natCast_nonneg, true_and, and_true, int_zero, beq_self_eq_true, Int.toNat_zero, List.getD_cons_zero, List.getD_cons_succ, List.range_zero, List.mem_cons, List.not_mem_nil, or_false, forall_eq, forall_eq_or_imp, false_implies, implies_true, Nat.reduceMul, Option.isSome_some, bnd, or_true, Int.toNat_one, Int.le_refl, ge_iff_le, gt_iff_lt]; rfl)) rfl u hu
  · rintro d T ⟨rfl, rfl⟩
    unfold getD_
    cases hg : getV ps v with
    | none =>
      (simp (disch := first | decide | omega | (simp only [add_next, set_next, grow_next, leave_next, List.length_map]; first | done | omega)) only [go_sem, ↓reduceIte, Nat.reduceBEq, Nat.reduceAdd, Nat.reduceLeDiff, Nat.reduceEqDiff, Nat.reduceLT, ob_hit, ob_skip, ob_set, ob_old, getD_map, Int.natCast_nonneg, true_and, and_true, int_zero, beq_self_eq_true, Int.toNat_zero, List.getD_cons_zero, List.getD_cons_succ, List.range_zero, List.mem_cons, List.not_mem_nil, or_false, forall_eq, forall_eq_or_imp, false_implies, implies_true, Nat.reduceMul, Option.isSome_some, bnd, or_true, Int.toNat_one, Int.le_refl, ge_iff_le, gt_iff_lt, leftS]; (repeat (with_reducible refine And.intro (by first | omega | assumption | rfl) ?_)))
      refine ⟨?_, (by (repeat' first | exact St.Sub.refl _ | assumption | (exact RowOk.sub (by assumption) (by assumption)) | (refine St.Sub.trans ?_ (RowOk.sub (by assumption) (by assumption))) | (exact St.Sub.keep (St.Sub.refl _) (by first | assumption | (first | omega | (simp only [RowOk.lo, add_next, set_next, grow_next, leave_next]; first | done | omega)))) | refine St.Sub.add ?_ (by (repeat' first | assumption | refine St.WF.leave ?_ _ | refine St.WF.add ?_ _ | refine St.WF.set ?_ (by (first | omega | (simp only [RowOk.lo, add_next, set_next, grow_next, leave_next]; first | done | omega))) _ | refine St.WF.grow ?_ _ _ _ | refine St.WF.keep ?_ (by first | assumption | (first | omega | (simp only [RowOk.lo, add_next, set_next, grow_next, leave_next]; first | done | omega))))) _ | refine St.Sub.set ?_ (by (repeat' first | assumption | refine St.WF.leave ?_ _ | refine St.WF.add ?_ _ | refine St.WF.set ?_ (by (first | omega | (simp only [RowOk.lo, add_next, set_next, grow_next, leave_next]; first | done | omega))) _ | refine St.WF.grow ?_ _ _ _ | refine St.WF.keep ?_ (by first | assumption | (first | omega | (simp only [RowOk.lo, add_next, set_next, grow_next, leave_next]; first | done | omega))))) (by (first | omega | (simp only [RowOk.lo, add_next, set_next, grow_next, leave_next]; first | done | omega))) _ | refine St.Sub.keep ?_ (by first | assumption | (first | omega | (simp only [RowOk.lo, add_next, set_next, grow_next, leave_next]; first | done | omega)))))⟩
      rfl
    | some u =>
      (simp (disch := first | decide | omega | (simp only [add_next, set_next, grow_next, leave_next, List.length_map]; first | done | omega)) only [go_sem, ↓reduceIte, Nat.reduceBEq, Nat.reduceAdd, Nat.reduceLeDiff, Nat.reduceEqDiff, Nat.reduceLT, ob_hit, ob_skip, ob_set, ob_old, getD_map, Int.natCast_nonneg, true_and, and_true, int_zero, beq_self_eq_true, Int.toNat_zero, List.getD_cons_zero, List.getD_cons_succ, List.range_zero, List.mem_cons, List.not_mem_nil, or_false, forall_eq, forall_eq_or_imp, false_implies, implies_true, Nat.reduceMul, Option.isSome_some, bnd, or_true, Int.toNat_one, Int.le_refl, ge_iff_le, gt_iff_lt, leftS]; (repeat (with_reducible refine And.intro (by first | omega | assumption | rfl) ?_)))
      refine ⟨?_, (by (repeat' first | exact St.Sub.refl _ | assumption | (exact RowOk.sub (by assumption) (by assumption)) | (refine St.Sub.trans ?_ (RowOk.sub (by assumption) (by assumption))) | (exact St.Sub.keep (St.Sub.refl _) (by first | assumption | (first | omega | (simp only [RowOk.lo, add_next, set_next, grow_next, leave_next]; first | done | omega)))) | refine St.Sub.add ?_ (by (repeat' first | assumption | refine St.WF.leave ?_ _ | refine St.WF.add ?_ _ | refine St.WF.set ?_ (by (first | omega | (simp only [RowOk.lo, add_next, set_next, grow_next, leave_next]; first | done | omega))) _ | refine St.WF.grow ?_ _ _ _ | refine St.WF.keep ?_ (by first | assumption | (first | omega | (simp only [RowOk.lo, add_next, set_next, grow_next, leave_next]; first | done | omega))))) _ | refine St.Sub.set ?_ (by (repeat' first | assumption | refine St.WF.leave ?_ _ | refine St.WF.add ?_ _ | refine St.WF.set ?_ (by (first | omega | (simp only [RowOk.lo, add_next, set_next, grow_next, leave_next]; first | done | omega))) _ | refine St.WF.grow ?_ _ _ _ | refine St.WF.keep ?_ (by first | assumption | (first | omega | (simp only [RowOk.lo, add_next, set_next, grow_next, leave_next]; first | done | omega))))) (by (first | omega | (simp only [RowOk.lo, add_next, set_next, grow_next, leave_next]; first | done | omega))) _ | refine St.Sub.keep ?_ (by first | assumption | (first | omega | (simp only [RowOk.lo, add_next, set_next, grow_next, leave_next]; first | done | omega)))))⟩
      simp only [D.frz, frzL, frz_encV]
      rfl
set_option maxRecDepth 200000 in
set_option maxHeartbeats 8000000 in
theorem put1_d (S : St) (j : Nat) (x u : DVal) (hc : S.ob j = some (.box 31 (encV x).cells)) : DCalls Try.prog 71 [encV u, .loc j 0] S (fun d S' => d = encV x ∧ S' = S) := by
  refine dcalls_of_dwp mixed Try.func71 rfl (fun _ _ => by kernel_rfl) (rs := [.cell 3 31]) rfl (by kernel_rfl) (fun hS => ?_)
  have hlt := hS.lt hc
  (simp (disch := first | decide | omega | (simp only [add_next, set_next, grow_next, leave_next, List.length_map]; first | done | omega)) only [go_sem, ↓reduceIte, Nat.reduceBEq, Nat.reduceAdd, Nat.reduceLeDiff, Nat.reduceEqDiff, Nat.reduceLT, ob_hit, ob_skip, ob_set, ob_old, getD_map, Int.natCast_nonneg, true_and, and_true, int_zero, beq_self_eq_true, Int.toNat_zero, List.getD_cons_zero, List.getD_cons_succ, List.range_zero, List.mem_cons, List.not_mem_nil, or_false, forall_eq, forall_eq_or_imp, false_implies, implies_true, Nat.reduceMul, Option.isSome_some, bnd, or_true, Int.toNat_one, Int.le_refl, ge_iff_le, gt_iff_lt, hc]; (repeat (with_reducible refine And.intro (by first | omega | assumption | rfl) ?_)))
  exact DFin.t (fin_pure hS (closed_encV x) (by (repeat' first | exact St.Sub.refl _ | assumption | (exact RowOk.sub (by assumption) (by assumption)) | (refine St.Sub.trans ?_ (RowOk.sub (by assumption) (by assumption))) | (exact St.Sub.keep (St.Sub.refl _) (by first | assumption | (first | omega | (simp only [RowOk.lo, add_next, set_next, grow_next, leave_next]; first | done | omega)))) | refine St.Sub.add ?_ (by (repeat' first | assumption | refine St.WF.leave ?_ _ | refine St.WF.add ?_ _ | refine St.WF.set ?_ (by (first | omega | (simp only [RowOk.lo, add_next, set_next, grow_next, leave_next]; first | done | omega))) _ | refine St.WF.grow ?_ _ _ _ | refine St.WF.keep ?_ (by first | assumption | (first | omega | (simp only [RowOk.lo, add_next, set_next, grow_next, leave_next]; first | done | omega))))) _ | refine St.Sub.set ?_ (by (repeat' first | assumption | refine St.WF.leave ?_ _ | refine St.WF.add ?_ _ | refine St.WF.set ?_ (by (first | omega | (simp only [RowOk.lo, add_next, set_next, grow_next, leave_next]; first | done | omega))) _ | refine St.WF.grow ?_ _ _ _ | refine St.WF.keep ?_ (by first | assumption | (first | omega | (simp only [RowOk.lo, add_next, set_next, grow_next, leave_next]; first | done | omega))))) (by (first | omega | (simp only [RowOk.lo, add_next, set_next, grow_next, leave_next]; first | done | omega))) _ | refine St.Sub.keep ?_ (by first | assumption | (first | omega | (simp only [RowOk.lo, add_next, set_next, grow_next, leave_next]; first | done | omega))))))
set_option maxRecDepth 200000 in
set_option maxHeartbeats 8000000 in
theorem put_d (v x : DVal) (ps : List DStp) (own : Own) (hok : okV v) (hw : v.weight ≤ 1000000) (hl : ps.length ≤ 1000000) (hw2 : (chV (fun _ => x) ps v).weight ≤ 1000000) : DPure Try.prog 33 [encV v, encV x, .sl own (ps.map encP)] (.tup [encV (chV (fun _ => x) ps v), .v (.bool (getV ps v).isSome)]) := by
  refine dpure_of_dwp mixed Try.func33 rfl (fun _ _ => by kernel_rfl) (rs := [.cell 6 31, .tmp 7]) rfl (by kernel_rfl) (closed_res _ _) (fun S hS => ?_)
  (simp (disch := first | decide | omega | (simp only [add_next, set_next, grow_next, leave_next, List.length_map]; first | done | omega)) only [go_sem, ↓reduceIte, Nat.reduceBEq, Nat.reduceAdd, Nat.reduceLeDiff, Nat.reduceEqDiff, Nat.reduceLT, ob_hit, ob_skip, ob_set, ob_old, getD_map, Int.natCast_nonneg, true_and, and_true, int_zero, beq_self_eq_true, Int.toNat_zero, List.getD_cons_zero, List.getD_cons_succ, List.range_zero, List.mem_cons, List.not_mem_nil, or_false, forall_eq, forall_eq_or_imp, false_implies, implies_true, Nat.reduceMul, Option.isSome_some, bnd, or_true, Int.toNat_one, Int.le_refl, ge_iff_le, gt_iff_lt]; (repeat (with_reducible refine And.intro (by first | omega | assumption | rfl) ?_)))
  refine (change_d 71 [] [.loc (S.next + 1) 0] (fun _ => x) none ps own v _ hok hw hl ⟨fun j hj => (by cases hj), fun S' u hs hS' hu => ?_⟩).mono ?_
  · exact put1_d S' _ x u (hs.ob _ _ (by simp (disch := first | decide | omega | (simp only [add_next, set_next, grow_next, leave_next, List.length_map]; first | done | omega)) only [go_sem, ↓reduceIte, Nat.reduceBEq, Nat.reduceAdd, Nat.reduceLeDiff, Nat.reduceEqDiff, Nat.reduceLT, ob_hit, ob_skip, ob_set, ob_old, getD_map, Int.natCast_nonneg, true_and, and_true, int_zero, beq_self_eq_true, Int.toNat_zero, List.getD_cons_zero, List.getD_cons_succ, List.range_zero, List.mem_cons, List.not_mem_nil, or_false, forall_eq, forall_eq_or_imp, false_implies, implies_true, Nat.reduceMul, Option.isSome_some, bnd, or_true, Int.toNat_one, Int.le_refl, ge_iff_le, gt_iff_lt]))
  · rintro d T ⟨rfl, rfl⟩
    have hl0 : ∀ r, leftS (((S.add (.box 31 (encV v).cells)).add (.box 31 (encV x).cells)).add (.box 31 [.v (.int .i64 0), .v (.int .i64 0), .v (.string ⟨#[]⟩), .sl .full [], .sl .full [], .sl .full []])) none r = (((S.add (.box 31 (encV v).cells)).add (.box 31 (encV x).cells)).add (.box 31 [.v (.int .i64 0), .v (.int .i64 0), .v (.string ⟨#[]⟩), .sl .full [], .sl .full [], .sl .full []])) := fun r => by cases r <;> rfl
    rw [hl0]
    (simp (disch := first | decide | omega | (simp only [add_next, set_next, grow_next, leave_next, List.length_map]; first | done | omega)) only [go_sem, ↓reduceIte, Nat.reduceBEq, Nat.reduceAdd, Nat.reduceLeDiff, Nat.reduceEqDiff, Nat.reduceLT, ob_hit, ob_skip, ob_set, ob_old, getD_map, Int.natCast_nonneg, true_and, and_true, int_zero, beq_self_eq_true, Int.toNat_zero, List.getD_cons_zero, List.getD_cons_succ, List.range_zero, List.mem_cons, List.not_mem_nil, or_false, forall_eq, forall_eq_or_imp, false_implies, implies_true, Nat.reduceMul, Option.isSome_some, bnd, or_true, Int.toNat_one, Int.le_refl, ge_iff_le, gt_iff_lt]; (repeat (with_reducible refine And.intro (by first | omega | assumption | rfl) ?_)))
    refine DCalls.of_pure (copyV_d _ _ (Nat.le_refl _) hw2) ?_
    (simp (disch := first | decide | omega | (simp only [add_next, set_next, grow_next, leave_next, List.length_map]; first | done | omega)) only [go_sem, ↓reduceIte, Nat.reduceBEq, Nat.reduceAdd, Nat.reduceLeDiff, Nat.reduceEqDiff, Nat.reduceLT, ob_hit, ob_skip, ob_set, ob_old, getD_map, Int.natCast_nonneg, true_and, and_true, int_zero, beq_self_eq_true, Int.toNat_zero, List.getD_cons_zero, List.getD_cons_succ, List.range_zero, List.mem_cons, List.not_mem_nil, or_false, forall_eq, forall_eq_or_imp, false_implies, implies_true, Nat.reduceMul, Option.isSome_some, bnd, or_true, Int.toNat_one, Int.le_refl, ge_iff_le, gt_iff_lt]; (repeat (with_reducible refine And.intro (by first | omega | assumption | rfl) ?_)))
    refine ⟨?_, (by (repeat' first | exact St.Sub.refl _ | assumption | (exact RowOk.sub (by assumption) (by assumption)) | (refine St.Sub.trans ?_ (RowOk.sub (by assumption) (by assumption))) | (exact St.Sub.keep (St.Sub.refl _) (by first | assumption | (first | omega | (simp only [RowOk.lo, add_next, set_next, grow_next, leave_next]; first | done | omega)))) | refine St.Sub.add ?_ (by (repeat' first | assumption | refine St.WF.leave ?_ _ | refine St.WF.add ?_ _ | refine St.WF.set ?_ (by (first | omega | (simp only [RowOk.lo, add_next, set_next, grow_next, leave_next]; first | done | omega))) _ | refine St.WF.grow ?_ _ _ _ | refine St.WF.keep ?_ (by first | assumption | (first | omega | (simp only [RowOk.lo, add_next, set_next, grow_next, leave_next]; first | done | omega))))) _ | refine St.Sub.set ?_ (by (repeat' first | assumption | refine St.WF.leave ?_ _ | refine St.WF.add ?_ _ | refine St.WF.set ?_ (by (first | omega | (simp only [RowOk.lo, add_next, set_next, grow_next, leave_next]; first | done | omega))) _ | refine St.WF.grow ?_ _ _ _ | refine St.WF.keep ?_ (by first | assumption | (first | omega | (simp only [RowOk.lo, add_next, set_next, grow_next, leave_next]; first | done | omega))))) (by (first | omega | (simp only [RowOk.lo, add_next, set_next, grow_next, leave_next]; first | done | omega))) _ | refine St.Sub.keep ?_ (by first | assumption | (first | omega | (simp only [RowOk.lo, add_next, set_next, grow_next, leave_next]; first | done | omega)))))⟩
    simp only [D.frz, frzL, frz_encV]
end Go.Proofs.Ytpnjkebjdclkfaa
