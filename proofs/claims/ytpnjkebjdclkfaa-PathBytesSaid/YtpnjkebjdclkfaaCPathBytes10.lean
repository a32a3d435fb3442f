/- PathBytes answers true for any two paths, and leaves its arguments as they were. Conditions: none but the statement's own. -/
import Derived.Test.YtpnjkebjdclkfaaCPathBytes9
import Derived.Test.YtpnjkebjdclkfaaRows
set_option linter.unusedVariables false
set_option linter.unusedSimpArgs false
/- Bytes of paths: reading what was written. Conditions: none. -/
namespace Go.Proofs.Ytpnjkebjdclkfaa
open Go.RowKit
set_option linter.unusedSimpArgs false
set_option linter.unusedVariables false
theorem fineB_len {p : DStp} (h : fineB p = true) : p.1.length ≤ 12 := by
  unfold fineB at h
  rw [Bool.or_eq_true, Bool.and_eq_true, Bool.and_eq_true] at h
  rcases h with ⟨h, _⟩ | ⟨h, _⟩
  · unfold nameB at h
    simp only [Bool.and_eq_true, decide_eq_true_eq] at h
    omega
  · rw [eq_of_beq h]; simp
theorem fineB_zero {p : DStp} (h : fineB p = true) (h0 : p.1 ≠ []) : p.2 = 0 := by
  unfold fineB at h
  rw [Bool.or_eq_true, Bool.and_eq_true, Bool.and_eq_true] at h
  rcases h with ⟨_, h⟩ | ⟨h, _⟩
  · have := eq_of_beq h; omega
  · exact absurd (eq_of_beq h) h0
theorem RAt.obk {k : Nat} {l : List UInt8} {i j : Nat} {S T : St} (h : T.ob k = S.ob k) (hr : RAt k l i S) (hij : i = j := by omega) : RAt k l j T := by
  subst hij
  obtain ⟨own, hr⟩ := hr
  exact ⟨own, h.trans hr⟩
set_option maxRecDepth 200000 in
set_option maxHeartbeats 8000000 in
theorem step_r {S : St} {k : Nat} {l rest : List UInt8} {i : Nat} (p : DStp) (hk : k < S.next) (hr : RAt k l i S) (hl : l.length ≤ 1099511627776) (hi : i ≤ l.length) (hd : l.drop i = stepB p ++ rest) (hf : fineB p = true) (hu : IsU64 p.2) :
    DCalls Try.prog 91 [.loc k 0] S fun d T => d = encP p ∧ RAt k l (i + (stepB p).length) T ∧ RFr k S T := by
  have h12 := fineB_len hf
  have hN : bytP (l.drop i) 64 = some (p.1, (numB p.1.length).length + p.1.length) := by
    rw [hd, stepB, List.append_assoc]
    exact bytP_numB p.1 _ 64 (by omega) (by omega)
  have hil : i + ((numB p.1.length).length + p.1.length) ≤ l.length := by
    have := congrArg List.length hd
    rw [List.length_drop, stepB] at this
    simp only [List.length_append] at this
    omega
  refine dcalls_inline mixed Try.func91 rfl (fun _ _ => by kernel_rfl) (rs := [.cell 2 81]) rfl (by kernel_rfl) (fun hS => ?_)
  (simp (disch := first | decide | omega | (simp only [add_next, set_next, grow_next, leave_next, List.length_map]; first | done | omega)) only [go_sem, ↓reduceIte, Nat.reduceBEq, Nat.reduceAdd, Nat.reduceLeDiff, Nat.reduceEqDiff, Nat.reduceLT, ob_hit, ob_skip, ob_set, ob_old, getD_map, Int.natCast_nonneg, true_and, and_true, int_zero, beq_self_eq_true, Int.toNat_zero, List.getD_cons_zero, List.getD_cons_succ, List.range_zero, List.mem_cons, List.not_mem_nil, or_false, forall_eq, forall_eq_or_imp, false_implies, implies_true, Nat.reduceMul, Option.isSome_some, bnd, or_true, Int.toNat_one, Int.le_refl, ge_iff_le, gt_iff_lt]; (repeat (with_reducible refine And.intro (by first | omega | assumption | rfl) ?_)))
  refine (text_r (mx := 64) (by show k < S.next + 1; omega) (hr.keep (add_keep hS _)) hl hi (by omega) hN).wf.mono ?_
  rintro d0 T ⟨⟨hd0, h1, hF⟩, hT⟩
  have hd1 : d0 = .v (sv p.1) := hd0
  subst hd1
  clear hd0
  have hx := hF.box S.next _ _ (by omega) add_eq
  have hn1 : S.next + 1 ≤ T.next := hF.next
  have hFS : RFr k S T := (RFr.add (RFr.refl k S) hS _).trans hF
  by_cases h0 : p.1 = []
  · have b2 : (p.1 == []) = true := by simp [h0]
    have hd2 : l.drop (i + ((numB p.1.length).length + p.1.length)) = numB p.2 ++ rest := by
      rw [← List.drop_drop, hd, stepB, if_pos h0, List.append_assoc, ← List.length_append, List.drop_left]
    have hsl : (stepB p).length = (numB p.1.length).length + p.1.length + (numB p.2).length := by rw [stepB, if_pos h0]; simp only [List.length_append]
    (simp (disch := first | decide | omega | (simp only [add_next, set_next, grow_next, leave_next, List.length_map]; first | done | omega)) only [go_sem, ↓reduceIte, Nat.reduceBEq, Nat.reduceAdd, Nat.reduceLeDiff, Nat.reduceEqDiff, Nat.reduceLT, ob_hit, ob_skip, ob_set, ob_old, getD_map, Int.natCast_nonneg, true_and, and_true, int_zero, beq_self_eq_true, Int.toNat_zero, List.getD_cons_zero, List.getD_cons_succ, List.range_zero, List.mem_cons, List.not_mem_nil, or_false, forall_eq, forall_eq_or_imp, false_implies, implies_true, Nat.reduceMul, Option.isSome_some, bnd, or_true, Int.toNat_one, Int.le_refl, ge_iff_le, gt_iff_lt, b2]; (repeat (with_reducible refine And.intro (by first | omega | assumption | rfl) ?_)))
    refine (number_r (mx := 18446744073709551615) (n := p.2) (s := (numB p.2).length) (by show k < T.next + 1; omega) (h1.keep (addset_keep hT _ _)) hl hil (by rw [hd2]; exact numP_numB _ _ hu) (by unfold IsU64 at hu; omega)).wf.mono ?_
    rintro _ T1 ⟨⟨rfl, h2, hF2⟩, hT1⟩
    have hx1 := hF2.box T.next _ _ (by omega) set_eq
    have hx0 := hF2.box S.next _ _ (by omega) (addset_keep hT _ _ _ _ hx)
    have hn2 : T.next + 1 ≤ T1.next := hF2.next
    (simp (disch := first | decide | omega | (simp only [add_next, set_next, grow_next, leave_next, List.length_map]; first | done | omega)) only [go_sem, ↓reduceIte, Nat.reduceBEq, Nat.reduceAdd, Nat.reduceLeDiff, Nat.reduceEqDiff, Nat.reduceLT, ob_hit, ob_skip, ob_set, ob_old, getD_map, Int.natCast_nonneg, true_and, and_true, int_zero, beq_self_eq_true, Int.toNat_zero, List.getD_cons_zero, List.getD_cons_succ, List.range_zero, List.mem_cons, List.not_mem_nil, or_false, forall_eq, forall_eq_or_imp, false_implies, implies_true, Nat.reduceMul, Option.isSome_some, bnd, or_true, Int.toNat_one, Int.le_refl, ge_iff_le, gt_iff_lt, hx1, hx0]; (repeat (with_reducible refine And.intro (by first | omega | assumption | rfl) ?_)))
    refine DCalls.of_pure (fine_d p (by unfold maxLen; omega)) ?_
    have hne : (S.next = T.next) = False := by simp; omega
    (simp (disch := first | decide | omega | (simp only [add_next, set_next, grow_next, leave_next, List.length_map]; first | done | omega)) only [go_sem, ↓reduceIte, Nat.reduceBEq, Nat.reduceAdd, Nat.reduceLeDiff, Nat.reduceEqDiff, Nat.reduceLT, ob_hit, ob_skip, ob_set, ob_old, getD_map, Int.natCast_nonneg, true_and, and_true, int_zero, beq_self_eq_true, Int.toNat_zero, List.getD_cons_zero, List.getD_cons_succ, List.range_zero, List.mem_cons, List.not_mem_nil, or_false, forall_eq, forall_eq_or_imp, false_implies, implies_true, Nat.reduceMul, Option.isSome_some, bnd, or_true, Int.toNat_one, Int.le_refl, ge_iff_le, gt_iff_lt, hx1, hx0, hf, hne]; (repeat (with_reducible refine And.intro (by first | omega | assumption | rfl) ?_)))
    refine ⟨rfl, RAt.obk ?_ h2, ⟨?_, fun j o hj e => ?_⟩⟩
    · rw [set_ne (by omega), set_ne (by omega)]
    · show S.next ≤ T1.next; omega
    · have := hS.lt e
      rw [set_ne (by omega), set_ne (by omega)]
      exact hF2.ob j o hj (addset_keep hT _ _ _ _ (hFS.ob j o hj e))
  · have b2 : (p.1 == []) = false := by simp [h0]
    (simp (disch := first | decide | omega | (simp only [add_next, set_next, grow_next, leave_next, List.length_map]; first | done | omega)) only [go_sem, ↓reduceIte, Nat.reduceBEq, Nat.reduceAdd, Nat.reduceLeDiff, Nat.reduceEqDiff, Nat.reduceLT, ob_hit, ob_skip, ob_set, ob_old, getD_map, Int.natCast_nonneg, true_and, and_true, int_zero, beq_self_eq_true, Int.toNat_zero, List.getD_cons_zero, List.getD_cons_succ, List.range_zero, List.mem_cons, List.not_mem_nil, or_false, forall_eq, forall_eq_or_imp, false_implies, implies_true, Nat.reduceMul, Option.isSome_some, bnd, or_true, Int.toNat_one, Int.le_refl, ge_iff_le, gt_iff_lt, b2]; (repeat (with_reducible refine And.intro (by first | omega | assumption | rfl) ?_)))
    have hz := fineB_zero hf h0
    have hsl : (stepB p).length = (numB p.1.length).length + p.1.length := by rw [stepB, if_neg h0]; simp only [List.length_append, List.length_nil]; omega
    have hx0 := addset_keep hT (.box 81 [.v (.string ⟨#[]⟩), .v (.int .u64 0)]) (.box 81 [.v (sv p.1), .v (.int .u64 0)]) _ _ hx
    have he : encP p = .agg [.v (sv p.1), .v (.int .u64 0)] := by rw [encP, hz]; rfl
    have hfd := fine_d p (by unfold maxLen; omega)
    rw [he] at hfd
    refine DCalls.of_pure hfd ?_
    have hne : (S.next = T.next) = False := by simp; omega
    (simp (disch := first | decide | omega | (simp only [add_next, set_next, grow_next, leave_next, List.length_map]; first | done | omega)) only [go_sem, ↓reduceIte, Nat.reduceBEq, Nat.reduceAdd, Nat.reduceLeDiff, Nat.reduceEqDiff, Nat.reduceLT, ob_hit, ob_skip, ob_set, ob_old, getD_map, Int.natCast_nonneg, true_and, and_true, int_zero, beq_self_eq_true, Int.toNat_zero, List.getD_cons_zero, List.getD_cons_succ, List.range_zero, List.mem_cons, List.not_mem_nil, or_false, forall_eq, forall_eq_or_imp, false_implies, implies_true, Nat.reduceMul, Option.isSome_some, bnd, or_true, Int.toNat_one, Int.le_refl, ge_iff_le, gt_iff_lt, hx, hx0, hf, hne]; (repeat (with_reducible refine And.intro (by first | omega | assumption | rfl) ?_)))
    refine ⟨he.symm, RAt.obk ?_ h1, ⟨?_, fun j o hj e => ?_⟩⟩
    · obtain ⟨_, h1'⟩ := h1
      rw [set_ne (by omega), set_ne (by omega), add_ne (by omega)]
    · show S.next ≤ T.next + 1; omega
    · have := hS.lt e
      rw [set_ne (by omega)]
      exact addset_keep hT _ _ _ _ (hFS.ob j o hj e)
end Go.Proofs.Ytpnjkebjdclkfaa

/- Bytes of paths: reading a path. Conditions: none. -/
namespace Go.Proofs.Ytpnjkebjdclkfaa
open Go.RowKit
set_option linter.unusedSimpArgs false
set_option linter.unusedVariables false
theorem wd_P (l : List DStp) : ∀ d ∈ l.map encP, d.width = szOf Try.prog 81 := by
  intro d hd
  obtain ⟨p, _, rfl⟩ := List.mem_map.1 hd
  exact Eq.trans rfl (by kernel_rfl : 2 = szOf Try.prog 81)
theorem dapp_steps {S : St} {own own2 : Own} {a b : List DStp} {K : D → St → Prop} (h : own = .full ∨ ∃ g, own = .row g ∧ S.ob g = some (.row 81 a.length)) (hl : a.length + b.length ≤ 1000000)
    (k : K (.sl (.row S.next) ((a ++ b).map encP)) (S.grow own 81 (a.length + b.length))) : dapp Try.prog S 42 42 (.sl own (a.map encP)) (.sl own2 (b.map encP)) K := by
  refine dapp_row ?_
  have he : elT Try.prog 42 = some 81 := by kernel_rfl
  have hb : bytesOf Try.prog 81 = 24 := by kernel_rfl
  have hz : zeroT Try.prog 81 = true := by kernel_rfl
  simp only [dappend, he, hz, hb, List.length_map, ← List.map_append, true_and, Option.isSome_some]
  refine ⟨wd_P a, wd_P b, ?_, by omega, by omega, k⟩
  rcases h with rfl | ⟨g, rfl, h⟩
  · trivial
  · exact h
theorem grow_old {S : St} {own : Own} {e : TypeId} {n m : Nat} (hm : m < S.next) (h : ∀ r, own = .row r → m ≠ r) : (S.grow own e n).ob m = S.ob m := by
  cases own with
  | no => simp [St.grow, St.leave, St.add, show m ≠ S.next by omega]
  | full => simp [St.grow, St.leave, St.add, show m ≠ S.next by omega]
  | row r => simp [St.grow, St.leave, St.add, St.drop, show m ≠ S.next by omega, h r rfl]
theorem grow_new {S : St} {own : Own} {e : TypeId} {n : Nat} : (S.grow own e n).ob S.next = some (.row e n) := by
  cases own <;> simp [St.grow, St.leave, St.add, St.drop]
theorem flatB_split {l : List DStp} {j : Nat} (h : j < l.length) : flatB l = flatB (l.take j) ++ (stepB l[j] ++ flatB (l.drop (j + 1))) := by
  unfold flatB
  have e : l = l.take j ++ (l[j] :: l.drop (j + 1)) := by rw [← List.drop_eq_getElem_cons h, List.take_append_drop]
  conv => lhs; rw [e]
  rw [List.flatMap_append, List.flatMap_cons]
theorem drop_place {L rest : List UInt8} {l : List DStp} {i j : Nat} (hd : L.drop i = pathB l ++ rest) (h : j < l.length) : L.drop (i + (numB l.length).length + (flatB (l.take j)).length) = stepB l[j] ++ (flatB (l.drop (j + 1)) ++ rest) := by
  rw [Nat.add_assoc, ← List.drop_drop, hd, pathB, flatB_split h, ← List.length_append]
  simp only [List.append_assoc]
  rw [← List.append_assoc, List.drop_left]
set_option maxRecDepth 200000 in
set_option maxHeartbeats 8000000 in
theorem read_r {S : St} {k : Nat} {L rest : List UInt8} {i : Nat} (l : List DStp) (hk : k < S.next) (hr : RAt k L i S) (hL : L.length ≤ 1099511627776) (hi : i ≤ L.length) (hd : L.drop i = pathB l ++ rest) (hR : rightP l = true) (hu : ∀ p ∈ l, IsU64 p.2) :
    DCalls Try.prog 54 [.loc k 0] S fun d T => (∃ o, d = .sl o (l.map encP)) ∧ RAt k L (i + (pathB l).length) T ∧ RFr k S T := by
  have h8 : l.length ≤ 8 := by
    unfold rightP at hR; rw [Bool.and_eq_true, decide_eq_true_eq] at hR; exact hR.1
  have hfine : ∀ p ∈ l, fineB p = true := by
    unfold rightP at hR; rw [Bool.and_eq_true, List.all_eq_true] at hR; exact hR.2
  have hil : i + (pathB l).length ≤ L.length := by
    have := congrArg List.length hd
    rw [List.length_drop, List.length_append] at this
    omega
  have hpl : (pathB l).length = (numB l.length).length + (flatB l).length := by rw [pathB, List.length_append]
  refine dcalls_inline mixed Try.func54 rfl (fun _ _ => by kernel_rfl) (rs := [.tmp 2]) rfl (by kernel_rfl) (fun hS => ?_)
  (simp (disch := first | decide | omega | (simp only [add_next, set_next, grow_next, leave_next, List.length_map]; first | done | omega)) only [go_sem, ↓reduceIte, Nat.reduceBEq, Nat.reduceAdd, Nat.reduceLeDiff, Nat.reduceEqDiff, Nat.reduceLT, ob_hit, ob_skip, ob_set, ob_old, getD_map, Int.natCast_nonneg, true_and, and_true, int_zero, beq_self_eq_true, Int.toNat_zero, List.getD_cons_zero, List.getD_cons_succ, List.range_zero, List.mem_cons, List.not_mem_nil, or_false, forall_eq, forall_eq_or_imp, false_implies, implies_true, Nat.reduceMul, Option.isSome_some, bnd, or_true, Int.toNat_one, Int.le_refl, ge_iff_le, gt_iff_lt]; (repeat (with_reducible refine And.intro (by first | omega | assumption | rfl) ?_)))
  refine (number_r (mx := 18446744073709551615) (n := l.length) (s := (numB l.length).length) hk hr hL hi (by rw [hd, pathB, List.append_assoc]; exact numP_numB _ _ (by omega)) (by omega)).wf.mono ?_
  rintro _ T0 ⟨⟨rfl, h0, hF0⟩, hT0⟩
  have b8 : decide ((8 : Int) < (l.length : Int)) = false := by simp; omega
  (simp (disch := first | decide | omega | (simp only [add_next, set_next, grow_next, leave_next, List.length_map]; first | done | omega)) only [go_sem, ↓reduceIte, Nat.reduceBEq, Nat.reduceAdd, Nat.reduceLeDiff, Nat.reduceEqDiff, Nat.reduceLT, ob_hit, ob_skip, ob_set, ob_old, getD_map, Int.natCast_nonneg, true_and, and_true, int_zero, beq_self_eq_true, Int.toNat_zero, List.getD_cons_zero, List.getD_cons_succ, List.range_zero, List.mem_cons, List.not_mem_nil, or_false, forall_eq, forall_eq_or_imp, false_implies, implies_true, Nat.reduceMul, Option.isSome_some, bnd, or_true, Int.toNat_one, Int.le_refl, ge_iff_le, gt_iff_lt, b8]; (repeat (with_reducible refine And.intro (by first | omega | assumption | rfl) ?_)))
  refine dloop_up (fun t => List.contains [4, 5, 12, 13, 14, 15, 16, 17, 18, 19, 20, 21, 22, 23, 24, 25, 26] t) (by kernel_rfl) hT0 l.length (fun j g T => j ≤ l.length ∧ g 5 = .v (.int .u64 ((j : Nat) : Int)) ∧ (∃ own, g 4 = .sl own ((l.take j).map encP) ∧ (own = .full ∨ ∃ r, own = .row r ∧ S.next ≤ r ∧ T.ob r = some (.row 81 j))) ∧ RAt k L (i + (numB l.length).length + (flatB (l.take j)).length) T ∧ RFr k S T) ⟨by omega, rfl, ⟨.full, rfl, .inl rfl⟩, by simpa [flatB] using h0, hF0⟩ ?_
  rintro j g T hT hg ⟨le, q5, ⟨own, q4, hown⟩, hRT, hF⟩
  have q0 := hg 0 rfl
  have q3 := hg 3 rfl
  simp (disch := first | decide | omega | (simp only [add_next, set_next, grow_next, leave_next, List.length_map]; first | done | omega)) only [go_sem, ↓reduceIte, Nat.reduceBEq, Nat.reduceAdd, Nat.reduceLeDiff, Nat.reduceEqDiff, Nat.reduceLT, ob_hit, ob_skip, ob_set, ob_old, getD_map, Int.natCast_nonneg, true_and, and_true, int_zero, beq_self_eq_true, Int.toNat_zero, List.getD_cons_zero, List.getD_cons_succ, List.range_zero, List.mem_cons, List.not_mem_nil, or_false, forall_eq, forall_eq_or_imp, false_implies, implies_true, Nat.reduceMul, Option.isSome_some, bnd, or_true, Int.toNat_one, Int.le_refl, ge_iff_le, gt_iff_lt] at q0 q3
  clear hg
  have hkT : k < T.next := Nat.lt_of_lt_of_le hk hF.next
  by_cases hlt : j < l.length
  · have b1 : decide ((j : Int) < (l.length : Int)) = true := by simp; omega
    have w1 : IntKind.u64.wrap ((j : Int) + 1) = ((j + 1 : Nat) : Int) := wrap_u64 (j + 1) (by unfold IsU64; omega)
    (simp (disch := first | decide | omega | (simp only [add_next, set_next, grow_next, leave_next, List.length_map]; first | done | omega)) only [go_sem, ↓reduceIte, Nat.reduceBEq, Nat.reduceAdd, Nat.reduceLeDiff, Nat.reduceEqDiff, Nat.reduceLT, ob_hit, ob_skip, ob_set, ob_old, getD_map, Int.natCast_nonneg, true_and, and_true, int_zero, beq_self_eq_true, Int.toNat_zero, List.getD_cons_zero, List.getD_cons_succ, List.range_zero, List.mem_cons, List.not_mem_nil, or_false, forall_eq, forall_eq_or_imp, false_implies, implies_true, Nat.reduceMul, Option.isSome_some, bnd, or_true, Int.toNat_one, Int.le_refl, ge_iff_le, gt_iff_lt, q0, q3, q4, q5, b1]; (repeat (with_reducible refine And.intro (by first | omega | assumption | rfl) ?_)))
    refine (err_r hRT).mono ?_
    rintro _ T1 ⟨rfl, rfl⟩
    (simp (disch := first | decide | omega | (simp only [add_next, set_next, grow_next, leave_next, List.length_map]; first | done | omega)) only [go_sem, ↓reduceIte, Nat.reduceBEq, Nat.reduceAdd, Nat.reduceLeDiff, Nat.reduceEqDiff, Nat.reduceLT, ob_hit, ob_skip, ob_set, ob_old, getD_map, Int.natCast_nonneg, true_and, and_true, int_zero, beq_self_eq_true, Int.toNat_zero, List.getD_cons_zero, List.getD_cons_succ, List.range_zero, List.mem_cons, List.not_mem_nil, or_false, forall_eq, forall_eq_or_imp, false_implies, implies_true, Nat.reduceMul, Option.isSome_some, bnd, or_true, Int.toNat_one, Int.le_refl, ge_iff_le, gt_iff_lt, q0, q3, q4, q5, b1]; (repeat (with_reducible refine And.intro (by first | omega | assumption | rfl) ?_)))
    have hsp := flatB_split hlt
    have hln := congrArg List.length hsp
    simp only [List.length_append] at hln
    refine (step_r l[j] hkT hRT hL (by omega) (drop_place hd hlt) (hfine _ (List.getElem_mem hlt)) (hu _ (List.getElem_mem hlt))).wf.mono ?_
    rintro _ T2 ⟨⟨rfl, h2, hF2⟩, hT2⟩
    (simp (disch := first | decide | omega | (simp only [add_next, set_next, grow_next, leave_next, List.length_map]; first | done | omega)) only [go_sem, ↓reduceIte, Nat.reduceBEq, Nat.reduceAdd, Nat.reduceLeDiff, Nat.reduceEqDiff, Nat.reduceLT, ob_hit, ob_skip, ob_set, ob_old, getD_map, Int.natCast_nonneg, true_and, and_true, int_zero, beq_self_eq_true, Int.toNat_zero, List.getD_cons_zero, List.getD_cons_succ, List.range_zero, List.mem_cons, List.not_mem_nil, or_false, forall_eq, forall_eq_or_imp, false_implies, implies_true, Nat.reduceMul, Option.isSome_some, bnd, or_true, Int.toNat_one, Int.le_refl, ge_iff_le, gt_iff_lt, q4]; (repeat (with_reducible refine And.intro (by first | omega | assumption | rfl) ?_)))
    refine dapp_steps (a := l.take j) (b := [l[j]]) (own2 := .full) ?_ (by rw [List.length_take]; simp; omega) ?_
    · rcases hown with h | ⟨r, h, hr1, hr2⟩
      · exact .inl h
      · refine .inr ⟨r, h, ?_⟩
        rw [List.length_take, Nat.min_eq_left le]
        exact hF2.ob _ _ (by omega) hr2
    (simp (disch := first | decide | omega | (simp only [add_next, set_next, grow_next, leave_next, List.length_map]; first | done | omega)) only [go_sem, ↓reduceIte, Nat.reduceBEq, Nat.reduceAdd, Nat.reduceLeDiff, Nat.reduceEqDiff, Nat.reduceLT, ob_hit, ob_skip, ob_set, ob_old, getD_map, Int.natCast_nonneg, true_and, and_true, int_zero, beq_self_eq_true, Int.toNat_zero, List.getD_cons_zero, List.getD_cons_succ, List.range_zero, List.mem_cons, List.not_mem_nil, or_false, forall_eq, forall_eq_or_imp, false_implies, implies_true, Nat.reduceMul, Option.isSome_some, bnd, or_true, Int.toNat_one, Int.le_refl, ge_iff_le, gt_iff_lt, q5, w1]; (repeat (with_reducible refine And.intro (by first | omega | assumption | rfl) ?_)))
    have hjl : (l.take j).length = j := by rw [List.length_take]; omega
    have hF2' := hF2.next
    have hFn := hF.next
    have hob : ∀ m, m < T2.next → (∀ r, own = .row r → m ≠ r) → (T2.grow own 81 ((l.take j).length + 1)).ob m = T2.ob m := fun m hm hr => grow_old hm hr
    have hro : ∀ m, m < S.next → ∀ r, own = .row r → m ≠ r := fun m hm r e => by
      rcases hown with h | ⟨r', h, hr1, _⟩
      · rw [h] at e; cases e
      · rw [h] at e; injection e with e; omega
    refine ⟨hlt, _, fun _ _ h => h, by omega, by (first | (simp (disch := first | decide | omega | (simp only [add_next, set_next, grow_next, leave_next, List.length_map]; first | done | omega)) only [go_sem, ↓reduceIte, Nat.reduceBEq, Nat.reduceAdd, Nat.reduceLeDiff, Nat.reduceEqDiff, Nat.reduceLT, ob_hit, ob_skip, ob_set, ob_old, getD_map, Int.natCast_nonneg, true_and, and_true, int_zero, beq_self_eq_true, Int.toNat_zero, List.getD_cons_zero, List.getD_cons_succ, List.range_zero, List.mem_cons, List.not_mem_nil, or_false, forall_eq, forall_eq_or_imp, false_implies, implies_true, Nat.reduceMul, Option.isSome_some, bnd, or_true, Int.toNat_one, Int.le_refl, ge_iff_le, gt_iff_lt]; done) | (simp (disch := first | decide | omega | (simp only [add_next, set_next, grow_next, leave_next, List.length_map]; first | done | omega)) only [go_sem, ↓reduceIte, Nat.reduceBEq, Nat.reduceAdd, Nat.reduceLeDiff, Nat.reduceEqDiff, Nat.reduceLT, ob_hit, ob_skip, ob_set, ob_old, getD_map, Int.natCast_nonneg, true_and, and_true, int_zero, beq_self_eq_true, Int.toNat_zero, List.getD_cons_zero, List.getD_cons_succ, List.range_zero, List.mem_cons, List.not_mem_nil, or_false, forall_eq, forall_eq_or_imp, false_implies, implies_true, Nat.reduceMul, Option.isSome_some, bnd, or_true, Int.toNat_one, Int.le_refl, ge_iff_le, gt_iff_lt]; rfl) | rfl), ⟨.row T2.next, ?_, .inr ⟨T2.next, rfl, by omega, ?_⟩⟩, RAt.obk (hob k (by omega) (hro k hk)) h2 ?_, ⟨?_, fun m o hm e => ?_⟩⟩
    · rw [List.take_succ_eq_append_getElem hlt]
      (first | (simp (disch := first | decide | omega | (simp only [add_next, set_next, grow_next, leave_next, List.length_map]; first | done | omega)) only [go_sem, ↓reduceIte, Nat.reduceBEq, Nat.reduceAdd, Nat.reduceLeDiff, Nat.reduceEqDiff, Nat.reduceLT, ob_hit, ob_skip, ob_set, ob_old, getD_map, Int.natCast_nonneg, true_and, and_true, int_zero, beq_self_eq_true, Int.toNat_zero, List.getD_cons_zero, List.getD_cons_succ, List.range_zero, List.mem_cons, List.not_mem_nil, or_false, forall_eq, forall_eq_or_imp, false_implies, implies_true, Nat.reduceMul, Option.isSome_some, bnd, or_true, Int.toNat_one, Int.le_refl, ge_iff_le, gt_iff_lt]; done) | (simp (disch := first | decide | omega | (simp only [add_next, set_next, grow_next, leave_next, List.length_map]; first | done | omega)) only [go_sem, ↓reduceIte, Nat.reduceBEq, Nat.reduceAdd, Nat.reduceLeDiff, Nat.reduceEqDiff, Nat.reduceLT, ob_hit, ob_skip, ob_set, ob_old, getD_map, Int.natCast_nonneg, true_and, and_true, int_zero, beq_self_eq_true, Int.toNat_zero, List.getD_cons_zero, List.getD_cons_succ, List.range_zero, List.mem_cons, List.not_mem_nil, or_false, forall_eq, forall_eq_or_imp, false_implies, implies_true, Nat.reduceMul, Option.isSome_some, bnd, or_true, Int.toNat_one, Int.le_refl, ge_iff_le, gt_iff_lt]; rfl) | rfl)
    · rw [← hjl, grow_new]; simp
    · rw [flatB_succ hlt, List.length_append]; omega
    · show S.next ≤ (T2.grow own _ _).next
      rw [grow_next]; omega
    · have := hS.lt e
      rw [show (St.mk (T2.grow own 81 ((l.take j).length + 1)).next (T2.grow own 81 ((l.take j).length + 1)).ob).ob m = T2.ob m from hob m (by omega) (hro m this)]
      exact hF2.ob m o hm (hF.ob m o hm e)
  · have b1 : decide ((j : Int) < (l.length : Int)) = false := by simp; omega
    (simp (disch := first | decide | omega | (simp only [add_next, set_next, grow_next, leave_next, List.length_map]; first | done | omega)) only [go_sem, ↓reduceIte, Nat.reduceBEq, Nat.reduceAdd, Nat.reduceLeDiff, Nat.reduceEqDiff, Nat.reduceLT, ob_hit, ob_skip, ob_set, ob_old, getD_map, Int.natCast_nonneg, true_and, and_true, int_zero, beq_self_eq_true, Int.toNat_zero, List.getD_cons_zero, List.getD_cons_succ, List.range_zero, List.mem_cons, List.not_mem_nil, or_false, forall_eq, forall_eq_or_imp, false_implies, implies_true, Nat.reduceMul, Option.isSome_some, bnd, or_true, Int.toNat_one, Int.le_refl, ge_iff_le, gt_iff_lt, q0, q3, q4, q5, b1]; (repeat (with_reducible refine And.intro (by first | omega | assumption | rfl) ?_)))
    refine (err_r hRT).mono ?_
    rintro _ T1 ⟨rfl, rfl⟩
    (simp (disch := first | decide | omega | (simp only [add_next, set_next, grow_next, leave_next, List.length_map]; first | done | omega)) only [go_sem, ↓reduceIte, Nat.reduceBEq, Nat.reduceAdd, Nat.reduceLeDiff, Nat.reduceEqDiff, Nat.reduceLT, ob_hit, ob_skip, ob_set, ob_old, getD_map, Int.natCast_nonneg, true_and, and_true, int_zero, beq_self_eq_true, Int.toNat_zero, List.getD_cons_zero, List.getD_cons_succ, List.range_zero, List.mem_cons, List.not_mem_nil, or_false, forall_eq, forall_eq_or_imp, false_implies, implies_true, Nat.reduceMul, Option.isSome_some, bnd, or_true, Int.toNat_one, Int.le_refl, ge_iff_le, gt_iff_lt, q0, q3, q4, q5, b1]; (repeat (with_reducible refine And.intro (by first | omega | assumption | rfl) ?_)))
    rw [List.take_of_length_le (by omega)] at hRT ⊢
    exact ⟨⟨_, rfl⟩, hRT.obk rfl (by omega), hF⟩
end Go.Proofs.Ytpnjkebjdclkfaa

/- Bytes of paths: the document's. Conditions: none. -/
namespace Go.Proofs.Ytpnjkebjdclkfaa
open Go.RowKit
set_option linter.unusedSimpArgs false
set_option linter.unusedVariables false
theorem bin_quo {P : Program} {t : TypeId} {x y : Operand} (k : IntKind) (a b : Int) (hb : b ≠ 0) : dbin P .quo t x y (.v (.int k a)) (.v (.int k b)) = some (True, .v (.int k (k.wrap (a.tdiv b)))) := by
  simp [dbin, eqGuard, binOp, Op.intDiv, pureRun_bind, pureRun_pure, hb]
theorem dapp_bytes2 {S : St} {own own2 : Own} {bs xs : List UInt8} {K : D → St → Prop} (h : own = .full ∨ ∃ g, own = .row g ∧ S.ob g = some (.row 5 bs.length)) (hl : bs.length + xs.length ≤ 1099511627776)
    (k : K (.sl (.row S.next) ((bs ++ xs).map bD)) (S.grow own 5 (bs.length + xs.length))) : dapp Try.prog S 61 61 (.sl own (bs.map bD)) (.sl own2 (xs.map bD)) K := by
  refine dapp_row ?_
  have he : elT Try.prog 61 = some 5 := by kernel_rfl
  have hb : bytesOf Try.prog 5 = 1 := by kernel_rfl
  have hz : zeroT Try.prog 5 = true := by kernel_rfl
  simp only [dappend, he, hz, hb, List.length_map, ← List.map_append, true_and, Option.isSome_some]
  refine ⟨wd_bD bs, wd_bD xs, ?_, by omega, by omega, k⟩
  rcases h with rfl | ⟨g, rfl, h⟩
  · trivial
  · exact h
/-- New bytes. -/
def NewB (S T : St) (d : D) (bs : List UInt8) : Prop := ∃ own, d = .sl own (bs.map bD) ∧ (own = .full ∨ ∃ g, own = .row g ∧ S.next ≤ g ∧ T.ob g = some (.row 5 bs.length)) ∧ S.next ≤ T.next ∧ ∀ j o, S.ob j = some o → T.ob j = some o
theorem NewB.grow {S T : St} {own own2 : Own} {bs xs : List UInt8} (hS : S.WF) (h : own = .full ∨ ∃ g, own = .row g ∧ S.next ≤ g ∧ T.ob g = some (.row 5 bs.length)) (hn : S.next ≤ T.next) (hk : ∀ j o, S.ob j = some o → T.ob j = some o) : NewB S (T.grow own 5 (bs.length + xs.length)) (.sl (.row T.next) ((bs ++ xs).map bD)) (bs ++ xs) := by
  refine ⟨_, rfl, .inr ⟨T.next, rfl, hn, by rw [grow_new, List.length_append]⟩, by rw [grow_next]; omega, fun j o e => ?_⟩
  have := hS.lt e
  rw [grow_old (by omega) (fun r e2 => ?_), hk j o e]
  rcases h with h | ⟨g, h, hg, _⟩
  · rw [h] at e2; cases e2
  · rw [h] at e2; injection e2 with e2; omega
set_option maxRecDepth 200000 in
set_option maxHeartbeats 8000000 in
theorem refNum_w (m : Nat) : ∀ (n : Nat) (S : St), IsU64 n → n < m → DCalls Try.prog 93 [.v (.int .u64 (n : Int))] S fun d T => NewB S T d (numB n) := by
  induction m with
  | zero => intro n S _ h; omega
  | succ m ih =>
    intro n S hn hm
    refine dcalls_inline mixed Try.func93 rfl (fun _ _ => by kernel_rfl) (rs := [.tmp 2]) rfl (by kernel_rfl) (fun hS => ?_)
    by_cases h : n < 128
    · have b1 : decide ((n : Int) < 128) = true := by simp; omega
      have w8 : IntKind.u8.wrap (n : Int) = (n : Int) := by rw [wrap_u8]; omega
      (simp (disch := first | decide | omega | (simp only [add_next, set_next, grow_next, leave_next, List.length_map]; first | done | omega)) only [go_sem, ↓reduceIte, Nat.reduceBEq, Nat.reduceAdd, Nat.reduceLeDiff, Nat.reduceEqDiff, Nat.reduceLT, ob_hit, ob_skip, ob_set, ob_old, getD_map, Int.natCast_nonneg, true_and, and_true, int_zero, beq_self_eq_true, Int.toNat_zero, List.getD_cons_zero, List.getD_cons_succ, List.range_zero, List.mem_cons, List.not_mem_nil, or_false, forall_eq, forall_eq_or_imp, false_implies, implies_true, Nat.reduceMul, Option.isSome_some, bnd, or_true, Int.toNat_one, Int.le_refl, ge_iff_le, gt_iff_lt, b1, w8]; (repeat (with_reducible refine And.intro (by first | omega | assumption | rfl) ?_)))
      refine ⟨.full, ?_, .inl rfl, Nat.le_refl _, fun _ _ h => h⟩
      rw [numB_lt n h, ← bD1 n (by omega)]
    · have b1 : decide ((n : Int) < 128) = false := by simp; omega
      have e1 : (n : Int).tmod 128 = ((n % 128 : Nat) : Int) := rfl
      have e2 : (n : Int).tdiv 128 = ((n / 128 : Nat) : Int) := rfl
      have w8 : IntKind.u8.wrap ((n % 128 : Nat) : Int) = ((n % 128 : Nat) : Int) := by rw [wrap_u8]; omega
      have wa : IntKind.u8.wrap (((n % 128 : Nat) : Int) + 128) = ((n % 128 + 128 : Nat) : Int) := by
        rw [show ((n % 128 : Nat) : Int) + 128 = ((n % 128 + 128 : Nat) : Int) from by push_cast; rfl, wrap_u8]; omega
      have wq : IntKind.u64.wrap ((n / 128 : Nat) : Int) = ((n / 128 : Nat) : Int) := wrap_u64 _ (by unfold IsU64 at *; omega)
      (simp (disch := first | decide | omega | (simp only [add_next, set_next, grow_next, leave_next, List.length_map]; first | done | omega)) only [go_sem, ↓reduceIte, Nat.reduceBEq, Nat.reduceAdd, Nat.reduceLeDiff, Nat.reduceEqDiff, Nat.reduceLT, ob_hit, ob_skip, ob_set, ob_old, getD_map, Int.natCast_nonneg, true_and, and_true, int_zero, beq_self_eq_true, Int.toNat_zero, List.getD_cons_zero, List.getD_cons_succ, List.range_zero, List.mem_cons, List.not_mem_nil, or_false, forall_eq, forall_eq_or_imp, false_implies, implies_true, Nat.reduceMul, Option.isSome_some, bnd, or_true, Int.toNat_one, Int.le_refl, ge_iff_le, gt_iff_lt, b1, bin_rem, bin_quo, e1, e2, w8, wa, wq]; (repeat (with_reducible refine And.intro (by first | omega | assumption | rfl) ?_)))
      refine (ih (n / 128) S (by unfold IsU64 at *; omega) (by omega)).mono ?_
      rintro _ T ⟨own, rfl, ho, hT1, hT2⟩
      (simp (disch := first | decide | omega | (simp only [add_next, set_next, grow_next, leave_next, List.length_map]; first | done | omega)) only [go_sem, ↓reduceIte, Nat.reduceBEq, Nat.reduceAdd, Nat.reduceLeDiff, Nat.reduceEqDiff, Nat.reduceLT, ob_hit, ob_skip, ob_set, ob_old, getD_map, Int.natCast_nonneg, true_and, and_true, int_zero, beq_self_eq_true, Int.toNat_zero, List.getD_cons_zero, List.getD_cons_succ, List.range_zero, List.mem_cons, List.not_mem_nil, or_false, forall_eq, forall_eq_or_imp, false_implies, implies_true, Nat.reduceMul, Option.isSome_some, bnd, or_true, Int.toNat_one, Int.le_refl, ge_iff_le, gt_iff_lt]; (repeat (with_reducible refine And.intro (by first | omega | assumption | rfl) ?_)))
      rw [bD1 (n % 128 + 128) (by omega)]
      have hln := numB_length_le (n / 128) (by unfold IsU64 at *; omega)
      refine dapp_bytes2 (.inl rfl) (by simp only [List.length_cons, List.length_nil]; omega) ?_
      (simp (disch := first | decide | omega | (simp only [add_next, set_next, grow_next, leave_next, List.length_map]; first | done | omega)) only [go_sem, ↓reduceIte, Nat.reduceBEq, Nat.reduceAdd, Nat.reduceLeDiff, Nat.reduceEqDiff, Nat.reduceLT, ob_hit, ob_skip, ob_set, ob_old, getD_map, Int.natCast_nonneg, true_and, and_true, int_zero, beq_self_eq_true, Int.toNat_zero, List.getD_cons_zero, List.getD_cons_succ, List.range_zero, List.mem_cons, List.not_mem_nil, or_false, forall_eq, forall_eq_or_imp, false_implies, implies_true, Nat.reduceMul, Option.isSome_some, bnd, or_true, Int.toNat_one, Int.le_refl, ge_iff_le, gt_iff_lt]; (repeat (with_reducible refine And.intro (by first | omega | assumption | rfl) ?_)))
      rw [numB_ge n h]
      exact NewB.grow (own := .full) (own2 := .full) (bs := [b8 (n % 128 + 128)]) (xs := numB (n / 128)) hS (.inl rfl) hT1 hT2
set_option maxRecDepth 200000 in
set_option maxHeartbeats 8000000 in
theorem refByt_w {S : St} (own : Own) (xs : List UInt8) (hx : xs.length ≤ 1000000) : DCalls Try.prog 92 [.sl own (xs.map bD)] S fun d T => NewB S T d (numB xs.length ++ xs) := by
  refine dcalls_inline mixed Try.func92 rfl (fun _ _ => by kernel_rfl) (rs := [.tmp 2]) rfl (by kernel_rfl) (fun hS => ?_)
  have hu : IsU64 xs.length := by unfold IsU64; omega
  (simp (disch := first | decide | omega | (simp only [add_next, set_next, grow_next, leave_next, List.length_map]; first | done | omega)) only [go_sem, ↓reduceIte, Nat.reduceBEq, Nat.reduceAdd, Nat.reduceLeDiff, Nat.reduceEqDiff, Nat.reduceLT, ob_hit, ob_skip, ob_set, ob_old, getD_map, Int.natCast_nonneg, true_and, and_true, int_zero, beq_self_eq_true, Int.toNat_zero, List.getD_cons_zero, List.getD_cons_succ, List.range_zero, List.mem_cons, List.not_mem_nil, or_false, forall_eq, forall_eq_or_imp, false_implies, implies_true, Nat.reduceMul, Option.isSome_some, bnd, or_true, Int.toNat_one, Int.le_refl, ge_iff_le, gt_iff_lt, wrap_u64 xs.length hu]; (repeat (with_reducible refine And.intro (by first | omega | assumption | rfl) ?_)))
  refine (refNum_w _ xs.length S hu (Nat.lt_succ_self _)).mono ?_
  rintro _ T ⟨own, rfl, ho, hT1, hT2⟩
  (simp (disch := first | decide | omega | (simp only [add_next, set_next, grow_next, leave_next, List.length_map]; first | done | omega)) only [go_sem, ↓reduceIte, Nat.reduceBEq, Nat.reduceAdd, Nat.reduceLeDiff, Nat.reduceEqDiff, Nat.reduceLT, ob_hit, ob_skip, ob_set, ob_old, getD_map, Int.natCast_nonneg, true_and, and_true, int_zero, beq_self_eq_true, Int.toNat_zero, List.getD_cons_zero, List.getD_cons_succ, List.range_zero, List.mem_cons, List.not_mem_nil, or_false, forall_eq, forall_eq_or_imp, false_implies, implies_true, Nat.reduceMul, Option.isSome_some, bnd, or_true, Int.toNat_one, Int.le_refl, ge_iff_le, gt_iff_lt]; (repeat (with_reducible refine And.intro (by first | omega | assumption | rfl) ?_)))
  have hln := numB_length_le xs.length hu
  refine dapp_bytes2 (ho.imp id fun ⟨g, h1, _, h2⟩ => ⟨g, h1, h2⟩) (by omega) ?_
  (simp (disch := first | decide | omega | (simp only [add_next, set_next, grow_next, leave_next, List.length_map]; first | done | omega)) only [go_sem, ↓reduceIte, Nat.reduceBEq, Nat.reduceAdd, Nat.reduceLeDiff, Nat.reduceEqDiff, Nat.reduceLT, ob_hit, ob_skip, ob_set, ob_old, getD_map, Int.natCast_nonneg, true_and, and_true, int_zero, beq_self_eq_true, Int.toNat_zero, List.getD_cons_zero, List.getD_cons_succ, List.range_zero, List.mem_cons, List.not_mem_nil, or_false, forall_eq, forall_eq_or_imp, false_implies, implies_true, Nat.reduceMul, Option.isSome_some, bnd, or_true, Int.toNat_one, Int.le_refl, ge_iff_le, gt_iff_lt]; (repeat (with_reducible refine And.intro (by first | omega | assumption | rfl) ?_)))
  exact NewB.grow (own2 := .full) hS ho hT1 hT2
theorem pathB_eq {l : List DStp} (h : l.length < 128) : pathB l = [b8 l.length] ++ flatB l := by rw [pathB, numB_lt _ h]
set_option maxRecDepth 200000 in
set_option maxHeartbeats 8000000 in
theorem refPathB_w {S : St} (own : Own) (l : List DStp) (hl : l.length ≤ 40) (hs : ∀ p ∈ l, p.1.length ≤ 100 ∧ IsU64 p.2) : DCalls Try.prog 56 [.sl own (l.map encP)] S fun d T => NewB S T d (pathB l) := by
  refine dcalls_inline mixed Try.func56 rfl (fun _ _ => by kernel_rfl) (rs := [.tmp 2]) rfl (by kernel_rfl) (fun hS => ?_)
  have w8 : IntKind.u8.wrap (l.length : Int) = (l.length : Int) := by rw [wrap_u8]; omega
  (simp (disch := first | decide | omega | (simp only [add_next, set_next, grow_next, leave_next, List.length_map]; first | done | omega)) only [go_sem, ↓reduceIte, Nat.reduceBEq, Nat.reduceAdd, Nat.reduceLeDiff, Nat.reduceEqDiff, Nat.reduceLT, ob_hit, ob_skip, ob_set, ob_old, getD_map, Int.natCast_nonneg, true_and, and_true, int_zero, beq_self_eq_true, Int.toNat_zero, List.getD_cons_zero, List.getD_cons_succ, List.range_zero, List.mem_cons, List.not_mem_nil, or_false, forall_eq, forall_eq_or_imp, false_implies, implies_true, Nat.reduceMul, Option.isSome_some, bnd, or_true, Int.toNat_one, Int.le_refl, ge_iff_le, gt_iff_lt, w8]; (repeat (with_reducible refine And.intro (by first | omega | assumption | rfl) ?_)))
  rw [bD1 l.length (by omega)]
  refine dloop_up (fun t => List.contains [3, 4, 9, 10, 11, 12, 13, 14, 15, 16, 17, 18, 19, 20, 21, 22, 23, 24, 25, 26, 27, 28, 29, 30, 31, 32, 33, 34, 35, 36, 37] t) (by kernel_rfl) hS l.length (fun j g T => j ≤ l.length ∧ g 4 = .v (.int .i64 ((j : Nat) : Int)) ∧ NewB S T (g 3) ([b8 l.length] ++ flatB (l.take j))) ⟨by omega, rfl, ⟨.full, rfl, .inl rfl, Nat.le_refl _, fun _ _ h => h⟩⟩ ?_
  rintro j g T hT hg ⟨le, q4, ⟨own3, q3, ho, hT1, hT2⟩⟩
  have q0 := hg 0 rfl
  simp (disch := first | decide | omega | (simp only [add_next, set_next, grow_next, leave_next, List.length_map]; first | done | omega)) only [go_sem, ↓reduceIte, Nat.reduceBEq, Nat.reduceAdd, Nat.reduceLeDiff, Nat.reduceEqDiff, Nat.reduceLT, ob_hit, ob_skip, ob_set, ob_old, getD_map, Int.natCast_nonneg, true_and, and_true, int_zero, beq_self_eq_true, Int.toNat_zero, List.getD_cons_zero, List.getD_cons_succ, List.range_zero, List.mem_cons, List.not_mem_nil, or_false, forall_eq, forall_eq_or_imp, false_implies, implies_true, Nat.reduceMul, Option.isSome_some, bnd, or_true, Int.toNat_one, Int.le_refl, ge_iff_le, gt_iff_lt] at q0
  clear hg
  by_cases hlt : j < l.length
  · have b1 : decide ((j : Int) < (l.length : Int)) = true := by simp; omega
    have w1 : IntKind.i64.wrap ((j : Int) + 1) = ((j + 1 : Nat) : Int) := IntWalk.i64_in _ ⟨by omega, by omega⟩
    have hp := hs l[j] (List.getElem_mem hlt)
    have hfl : (flatB (l.take j)).length ≤ 4800 := by
      have h1 := flatB_len (l.take j) fun p hp => hs p (List.mem_of_mem_take hp)
      have h2 : (l.take j).length ≤ 40 := by rw [List.length_take]; omega
      omega
    have hsb : (strB l[j].1).data.toList = l[j].1 := by simp [strB]
    (simp (disch := first | decide | omega | (simp only [add_next, set_next, grow_next, leave_next, List.length_map]; first | done | omega)) only [go_sem, ↓reduceIte, Nat.reduceBEq, Nat.reduceAdd, Nat.reduceLeDiff, Nat.reduceEqDiff, Nat.reduceLT, ob_hit, ob_skip, ob_set, ob_old, getD_map, Int.natCast_nonneg, true_and, and_true, int_zero, beq_self_eq_true, Int.toNat_zero, List.getD_cons_zero, List.getD_cons_succ, List.range_zero, List.mem_cons, List.not_mem_nil, or_false, forall_eq, forall_eq_or_imp, false_implies, implies_true, Nat.reduceMul, Option.isSome_some, bnd, or_true, Int.toNat_one, Int.le_refl, ge_iff_le, gt_iff_lt, q0, q3, q4, b1, encP, hsb]; (repeat (with_reducible refine And.intro (by first | omega | assumption | rfl) ?_)))
    refine (refByt_w .no l[j].1 (by omega)).wf.mono ?_
    rintro _ T1 ⟨⟨own1, rfl, ho1, hT11, hT12⟩, hW1⟩
    (simp (disch := first | decide | omega | (simp only [add_next, set_next, grow_next, leave_next, List.length_map]; first | done | omega)) only [go_sem, ↓reduceIte, Nat.reduceBEq, Nat.reduceAdd, Nat.reduceLeDiff, Nat.reduceEqDiff, Nat.reduceLT, ob_hit, ob_skip, ob_set, ob_old, getD_map, Int.natCast_nonneg, true_and, and_true, int_zero, beq_self_eq_true, Int.toNat_zero, List.getD_cons_zero, List.getD_cons_succ, List.range_zero, List.mem_cons, List.not_mem_nil, or_false, forall_eq, forall_eq_or_imp, false_implies, implies_true, Nat.reduceMul, Option.isSome_some, bnd, or_true, Int.toNat_one, Int.le_refl, ge_iff_le, gt_iff_lt, q3]; (repeat (with_reducible refine And.intro (by first | omega | assumption | rfl) ?_)))
    have hn1 := numB_length_le l[j].1.length (by omega)
    have hn2 := numB_length_le l[j].2 hp.2
    have ho' : own3 = .full ∨ ∃ g, own3 = .row g ∧ S.next ≤ g ∧ T1.ob g = some (.row 5 ([b8 l.length] ++ flatB (l.take j)).length) := ho.imp id fun ⟨g, h1, h2, h3⟩ => ⟨g, h1, h2, hT12 _ _ h3⟩
    refine dapp_bytes2 (bs := [b8 l.length] ++ flatB (l.take j)) (xs := numB l[j].1.length ++ l[j].1) (ho'.imp id fun ⟨g, h1, _, h2⟩ => ⟨g, h1, h2⟩) (by simp only [List.length_append, List.length_cons, List.length_nil]; omega) ?_
    have hN := NewB.grow (own := own3) (own2 := .full) (T := T1) (bs := [b8 l.length] ++ flatB (l.take j)) (xs := numB l[j].1.length ++ l[j].1) hS ho' (Nat.le_trans hT1 hT11) (fun j o e => hT12 _ _ (hT2 _ _ e))
    obtain ⟨own4, e4, ho4, hT3, hT4⟩ := hN
    rw [e4]
    have hfs := flatB_succ hlt
    have hsl : stepB l[j] = (numB l[j].1.length ++ l[j].1) ++ (if l[j].1 = [] then numB l[j].2 else []) := rfl
    have hXl : (([b8 l.length] ++ flatB (l.take j)) ++ (numB l[j].1.length ++ l[j].1)).length ≤ 5000 := by simp only [List.length_append, List.length_cons, List.length_nil]; omega
    generalize hX : (([b8 l.length] ++ flatB (l.take j)) ++ (numB l[j].1.length ++ l[j].1)) = X at *
    generalize hTT : T1.grow own3 5 (([b8 l.length] ++ flatB (l.take j)).length + (numB l[j].1.length ++ l[j].1).length) = T2 at *
    by_cases h0 : l[j].1 = []
    · have b2 : (l[j].1 == []) = true := by simp [h0]
      (simp (disch := first | decide | omega | (simp only [add_next, set_next, grow_next, leave_next, List.length_map]; first | done | omega)) only [go_sem, ↓reduceIte, Nat.reduceBEq, Nat.reduceAdd, Nat.reduceLeDiff, Nat.reduceEqDiff, Nat.reduceLT, ob_hit, ob_skip, ob_set, ob_old, getD_map, Int.natCast_nonneg, true_and, and_true, int_zero, beq_self_eq_true, Int.toNat_zero, List.getD_cons_zero, List.getD_cons_succ, List.range_zero, List.mem_cons, List.not_mem_nil, or_false, forall_eq, forall_eq_or_imp, false_implies, implies_true, Nat.reduceMul, Option.isSome_some, bnd, or_true, Int.toNat_one, Int.le_refl, ge_iff_le, gt_iff_lt, q0, q4, b2, encP]; (repeat (with_reducible refine And.intro (by first | omega | assumption | rfl) ?_)))
      refine (refNum_w _ l[j].2 T2 hp.2 (Nat.lt_succ_self _)).wf.mono ?_
      rintro _ T3 ⟨⟨own5, rfl, ho5, hT5, hT6⟩, hW3⟩
      (simp (disch := first | decide | omega | (simp only [add_next, set_next, grow_next, leave_next, List.length_map]; first | done | omega)) only [go_sem, ↓reduceIte, Nat.reduceBEq, Nat.reduceAdd, Nat.reduceLeDiff, Nat.reduceEqDiff, Nat.reduceLT, ob_hit, ob_skip, ob_set, ob_old, getD_map, Int.natCast_nonneg, true_and, and_true, int_zero, beq_self_eq_true, Int.toNat_zero, List.getD_cons_zero, List.getD_cons_succ, List.range_zero, List.mem_cons, List.not_mem_nil, or_false, forall_eq, forall_eq_or_imp, false_implies, implies_true, Nat.reduceMul, Option.isSome_some, bnd, or_true, Int.toNat_one, Int.le_refl, ge_iff_le, gt_iff_lt, q4, w1]; (repeat (with_reducible refine And.intro (by first | omega | assumption | rfl) ?_)))
      have ho4' : own4 = .full ∨ ∃ g, own4 = .row g ∧ S.next ≤ g ∧ T3.ob g = some (.row 5 X.length) := ho4.imp id fun ⟨g, h1, h2, h3⟩ => ⟨g, h1, h2, hT6 _ _ h3⟩
      refine dapp_bytes2 (bs := X) (xs := numB l[j].2) (ho4'.imp id fun ⟨g, h1, _, h2⟩ => ⟨g, h1, h2⟩) (by omega) ?_
      have hN := NewB.grow (own := own4) (own2 := .full) (T := T3) (bs := X) (xs := numB l[j].2) hS ho4' (Nat.le_trans hT3 hT5) (fun j o e => hT6 _ _ (hT4 _ _ e))
      (simp (disch := first | decide | omega | (simp only [add_next, set_next, grow_next, leave_next, List.length_map]; first | done | omega)) only [go_sem, ↓reduceIte, Nat.reduceBEq, Nat.reduceAdd, Nat.reduceLeDiff, Nat.reduceEqDiff, Nat.reduceLT, ob_hit, ob_skip, ob_set, ob_old, getD_map, Int.natCast_nonneg, true_and, and_true, int_zero, beq_self_eq_true, Int.toNat_zero, List.getD_cons_zero, List.getD_cons_succ, List.range_zero, List.mem_cons, List.not_mem_nil, or_false, forall_eq, forall_eq_or_imp, false_implies, implies_true, Nat.reduceMul, Option.isSome_some, bnd, or_true, Int.toNat_one, Int.le_refl, ge_iff_le, gt_iff_lt, q4, w1]; (repeat (with_reducible refine And.intro (by first | omega | assumption | rfl) ?_)))
      refine ⟨hlt, _, fun _ _ h => h, by omega, by (first | (simp (disch := first | decide | omega | (simp only [add_next, set_next, grow_next, leave_next, List.length_map]; first | done | omega)) only [go_sem, ↓reduceIte, Nat.reduceBEq, Nat.reduceAdd, Nat.reduceLeDiff, Nat.reduceEqDiff, Nat.reduceLT, ob_hit, ob_skip, ob_set, ob_old, getD_map, Int.natCast_nonneg, true_and, and_true, int_zero, beq_self_eq_true, Int.toNat_zero, List.getD_cons_zero, List.getD_cons_succ, List.range_zero, List.mem_cons, List.not_mem_nil, or_false, forall_eq, forall_eq_or_imp, false_implies, implies_true, Nat.reduceMul, Option.isSome_some, bnd, or_true, Int.toNat_one, Int.le_refl, ge_iff_le, gt_iff_lt]; done) | (simp (disch := first | decide | omega | (simp only [add_next, set_next, grow_next, leave_next, List.length_map]; first | done | omega)) only [go_sem, ↓reduceIte, Nat.reduceBEq, Nat.reduceAdd, Nat.reduceLeDiff, Nat.reduceEqDiff, Nat.reduceLT, ob_hit, ob_skip, ob_set, ob_old, getD_map, Int.natCast_nonneg, true_and, and_true, int_zero, beq_self_eq_true, Int.toNat_zero, List.getD_cons_zero, List.getD_cons_succ, List.range_zero, List.mem_cons, List.not_mem_nil, or_false, forall_eq, forall_eq_or_imp, false_implies, implies_true, Nat.reduceMul, Option.isSome_some, bnd, or_true, Int.toNat_one, Int.le_refl, ge_iff_le, gt_iff_lt]; rfl) | rfl), ?_⟩
      have hfin : b8 l.length :: flatB (l.take (j + 1)) = X ++ numB l[j].2 := by rw [hfs, hsl, if_pos h0, ← hX]; simp
      rw [hfin]
      obtain ⟨o6, e6, h61, h62, h63⟩ := hN
      exact ⟨o6, by rw [← e6]; (first | (simp (disch := first | decide | omega | (simp only [add_next, set_next, grow_next, leave_next, List.length_map]; first | done | omega)) only [go_sem, ↓reduceIte, Nat.reduceBEq, Nat.reduceAdd, Nat.reduceLeDiff, Nat.reduceEqDiff, Nat.reduceLT, ob_hit, ob_skip, ob_set, ob_old, getD_map, Int.natCast_nonneg, true_and, and_true, int_zero, beq_self_eq_true, Int.toNat_zero, List.getD_cons_zero, List.getD_cons_succ, List.range_zero, List.mem_cons, List.not_mem_nil, or_false, forall_eq, forall_eq_or_imp, false_implies, implies_true, Nat.reduceMul, Option.isSome_some, bnd, or_true, Int.toNat_one, Int.le_refl, ge_iff_le, gt_iff_lt]; done) | (simp (disch := first | decide | omega | (simp only [add_next, set_next, grow_next, leave_next, List.length_map]; first | done | omega)) only [go_sem, ↓reduceIte, Nat.reduceBEq, Nat.reduceAdd, Nat.reduceLeDiff, Nat.reduceEqDiff, Nat.reduceLT, ob_hit, ob_skip, ob_set, ob_old, getD_map, Int.natCast_nonneg, true_and, and_true, int_zero, beq_self_eq_true, Int.toNat_zero, List.getD_cons_zero, List.getD_cons_succ, List.range_zero, List.mem_cons, List.not_mem_nil, or_false, forall_eq, forall_eq_or_imp, false_implies, implies_true, Nat.reduceMul, Option.isSome_some, bnd, or_true, Int.toNat_one, Int.le_refl, ge_iff_le, gt_iff_lt]; rfl) | rfl), h61, h62, h63⟩
    · have b2 : (l[j].1 == []) = false := by simp [h0]
      (simp (disch := first | decide | omega | (simp only [add_next, set_next, grow_next, leave_next, List.length_map]; first | done | omega)) only [go_sem, ↓reduceIte, Nat.reduceBEq, Nat.reduceAdd, Nat.reduceLeDiff, Nat.reduceEqDiff, Nat.reduceLT, ob_hit, ob_skip, ob_set, ob_old, getD_map, Int.natCast_nonneg, true_and, and_true, int_zero, beq_self_eq_true, Int.toNat_zero, List.getD_cons_zero, List.getD_cons_succ, List.range_zero, List.mem_cons, List.not_mem_nil, or_false, forall_eq, forall_eq_or_imp, false_implies, implies_true, Nat.reduceMul, Option.isSome_some, bnd, or_true, Int.toNat_one, Int.le_refl, ge_iff_le, gt_iff_lt, q0, q4, b2, encP, w1]; (repeat (with_reducible refine And.intro (by first | omega | assumption | rfl) ?_)))
      refine ⟨hlt, _, fun _ _ h => h, by omega, by (first | (simp (disch := first | decide | omega | (simp only [add_next, set_next, grow_next, leave_next, List.length_map]; first | done | omega)) only [go_sem, ↓reduceIte, Nat.reduceBEq, Nat.reduceAdd, Nat.reduceLeDiff, Nat.reduceEqDiff, Nat.reduceLT, ob_hit, ob_skip, ob_set, ob_old, getD_map, Int.natCast_nonneg, true_and, and_true, int_zero, beq_self_eq_true, Int.toNat_zero, List.getD_cons_zero, List.getD_cons_succ, List.range_zero, List.mem_cons, List.not_mem_nil, or_false, forall_eq, forall_eq_or_imp, false_implies, implies_true, Nat.reduceMul, Option.isSome_some, bnd, or_true, Int.toNat_one, Int.le_refl, ge_iff_le, gt_iff_lt]; done) | (simp (disch := first | decide | omega | (simp only [add_next, set_next, grow_next, leave_next, List.length_map]; first | done | omega)) only [go_sem, ↓reduceIte, Nat.reduceBEq, Nat.reduceAdd, Nat.reduceLeDiff, Nat.reduceEqDiff, Nat.reduceLT, ob_hit, ob_skip, ob_set, ob_old, getD_map, Int.natCast_nonneg, true_and, and_true, int_zero, beq_self_eq_true, Int.toNat_zero, List.getD_cons_zero, List.getD_cons_succ, List.range_zero, List.mem_cons, List.not_mem_nil, or_false, forall_eq, forall_eq_or_imp, false_implies, implies_true, Nat.reduceMul, Option.isSome_some, bnd, or_true, Int.toNat_one, Int.le_refl, ge_iff_le, gt_iff_lt]; rfl) | rfl), ?_⟩
      have hfin : b8 l.length :: flatB (l.take (j + 1)) = X := by rw [hfs, hsl, if_neg h0, ← hX]; simp
      rw [hfin]
      exact ⟨own4, by (first | (simp (disch := first | decide | omega | (simp only [add_next, set_next, grow_next, leave_next, List.length_map]; first | done | omega)) only [go_sem, ↓reduceIte, Nat.reduceBEq, Nat.reduceAdd, Nat.reduceLeDiff, Nat.reduceEqDiff, Nat.reduceLT, ob_hit, ob_skip, ob_set, ob_old, getD_map, Int.natCast_nonneg, true_and, and_true, int_zero, beq_self_eq_true, Int.toNat_zero, List.getD_cons_zero, List.getD_cons_succ, List.range_zero, List.mem_cons, List.not_mem_nil, or_false, forall_eq, forall_eq_or_imp, false_implies, implies_true, Nat.reduceMul, Option.isSome_some, bnd, or_true, Int.toNat_one, Int.le_refl, ge_iff_le, gt_iff_lt]; done) | (simp (disch := first | decide | omega | (simp only [add_next, set_next, grow_next, leave_next, List.length_map]; first | done | omega)) only [go_sem, ↓reduceIte, Nat.reduceBEq, Nat.reduceAdd, Nat.reduceLeDiff, Nat.reduceEqDiff, Nat.reduceLT, ob_hit, ob_skip, ob_set, ob_old, getD_map, Int.natCast_nonneg, true_and, and_true, int_zero, beq_self_eq_true, Int.toNat_zero, List.getD_cons_zero, List.getD_cons_succ, List.range_zero, List.mem_cons, List.not_mem_nil, or_false, forall_eq, forall_eq_or_imp, false_implies, implies_true, Nat.reduceMul, Option.isSome_some, bnd, or_true, Int.toNat_one, Int.le_refl, ge_iff_le, gt_iff_lt]; rfl) | rfl), ho4, hT3, hT4⟩
  · have b1 : decide ((j : Int) < (l.length : Int)) = false := by simp; omega
    (simp (disch := first | decide | omega | (simp only [add_next, set_next, grow_next, leave_next, List.length_map]; first | done | omega)) only [go_sem, ↓reduceIte, Nat.reduceBEq, Nat.reduceAdd, Nat.reduceLeDiff, Nat.reduceEqDiff, Nat.reduceLT, ob_hit, ob_skip, ob_set, ob_old, getD_map, Int.natCast_nonneg, true_and, and_true, int_zero, beq_self_eq_true, Int.toNat_zero, List.getD_cons_zero, List.getD_cons_succ, List.range_zero, List.mem_cons, List.not_mem_nil, or_false, forall_eq, forall_eq_or_imp, false_implies, implies_true, Nat.reduceMul, Option.isSome_some, bnd, or_true, Int.toNat_one, Int.le_refl, ge_iff_le, gt_iff_lt, q0, q3, q4, b1]; (repeat (with_reducible refine And.intro (by first | omega | assumption | rfl) ?_)))
    rw [pathB_eq (by omega)]
    rw [List.take_of_length_le (by omega)] at *
    exact ⟨_, rfl, ho, hT1, hT2⟩
end Go.Proofs.Ytpnjkebjdclkfaa

/- Bytes of paths: the law, walked. Conditions: none. -/
namespace Go.Proofs.Ytpnjkebjdclkfaa
open Go.RowKit
set_option linter.unusedSimpArgs false
set_option linter.unusedVariables false
theorem u8ne (x y : UInt8) : ((x.toNat : Int) != (y.toNat : Int)) = !decide (x = y) := by
  by_cases h : x = y
  · subst h; simp
  · have : ¬ ((x.toNat : Int) = (y.toNat : Int)) := fun e => h (UInt8.toNat_inj.1 (by omega))
    simp [h, this, bne]
set_option maxRecDepth 200000 in
set_option maxHeartbeats 8000000 in
theorem bytesEq_d (own own2 : Own) (p q : List UInt8) (hp : p.length ≤ 1000000) (hq : q.length ≤ 1000000) : DPure Try.prog 55 [.sl own (p.map bD), .sl own2 (q.map bD)] (.v (.bool (decide (p = q)))) := by
  refine dpure_of_dwp mixed Try.func55 rfl (fun _ _ => by kernel_rfl) (rs := [.tmp 4]) rfl (by kernel_rfl) trivial (fun S hS => ?_)
  by_cases hl : p.length = q.length
  · have b0 : ((p.length : Int) != (q.length : Int)) = false := by simp [hl]
    (simp (disch := first | decide | omega | (simp only [add_next, set_next, grow_next, leave_next, List.length_map]; first | done | omega)) only [go_sem, ↓reduceIte, Nat.reduceBEq, Nat.reduceAdd, Nat.reduceLeDiff, Nat.reduceEqDiff, Nat.reduceLT, ob_hit, ob_skip, ob_set, ob_old, getD_map, Int.natCast_nonneg, true_and, and_true, int_zero, beq_self_eq_true, Int.toNat_zero, List.getD_cons_zero, List.getD_cons_succ, List.range_zero, List.mem_cons, List.not_mem_nil, or_false, forall_eq, forall_eq_or_imp, false_implies, implies_true, Nat.reduceMul, Option.isSome_some, bnd, or_true, Int.toNat_one, Int.le_refl, ge_iff_le, gt_iff_lt, b0]; (repeat (with_reducible refine And.intro (by first | omega | assumption | rfl) ?_)))
    (refine dloop_st (fun t => List.contains [4, 5, 11, 12, 13, 14, 15, 16, 17, 18, 19, 20, 21, 22, 23, 24, 25] t) (by kernel_rfl) ?_ (p.length) (fun i f => i ≤ p.length ∧ f 5 = .v (.int .i64 (i : Nat)) ∧ (∀ j, j < i → p[j]? = q[j]?)) ?_ ?_; (exact (by (repeat' first | assumption | refine St.WF.leave ?_ _ | refine St.WF.add ?_ _ | refine St.WF.set ?_ (by (first | omega | (simp only [RowOk.lo, add_next, set_next, grow_next, leave_next]; first | done | omega))) _ | refine St.WF.grow ?_ _ _ _ | refine St.WF.keep ?_ (by first | assumption | (first | omega | (simp only [RowOk.lo, add_next, set_next, grow_next, leave_next]; first | done | omega)))))); (exact ⟨(by omega), (by (first | (simp (disch := first | decide | omega | (simp only [add_next, set_next, grow_next, leave_next, List.length_map]; first | done | omega)) only [go_sem, ↓reduceIte, Nat.reduceBEq, Nat.reduceAdd, Nat.reduceLeDiff, Nat.reduceEqDiff, Nat.reduceLT, ob_hit, ob_skip, ob_set, ob_old, getD_map, Int.natCast_nonneg, true_and, and_true, int_zero, beq_self_eq_true, Int.toNat_zero, List.getD_cons_zero, List.getD_cons_succ, List.range_zero, List.mem_cons, List.not_mem_nil, or_false, forall_eq, forall_eq_or_imp, false_implies, implies_true, Nat.reduceMul, Option.isSome_some, bnd, or_true, Int.toNat_one, Int.le_refl, ge_iff_le, gt_iff_lt]; done) | (simp (disch := first | decide | omega | (simp only [add_next, set_next, grow_next, leave_next, List.length_map]; first | done | omega)) only [go_sem, ↓reduceIte, Nat.reduceBEq, Nat.reduceAdd, Nat.reduceLeDiff, Nat.reduceEqDiff, Nat.reduceLT, ob_hit, ob_skip, ob_set, ob_old, getD_map, Int.natCast_nonneg, true_and, and_true, int_zero, beq_self_eq_true, Int.toNat_zero, List.getD_cons_zero, List.getD_cons_succ, List.range_zero, List.mem_cons, List.not_mem_nil, or_false, forall_eq, forall_eq_or_imp, false_implies, implies_true, Nat.reduceMul, Option.isSome_some, bnd, or_true, Int.toNat_one, Int.le_refl, ge_iff_le, gt_iff_lt]; rfl) | rfl)), (fun j hj => by omega)⟩); intro i g tn hn hT hg hI; obtain ⟨le, q5, hsame⟩ := hI; have q0 := hg 0 rfl; have q1 := hg 1 rfl; simp (disch := first | decide | omega | (simp only [add_next, set_next, grow_next, leave_next, List.length_map]; first | done | omega)) only [go_sem, ↓reduceIte, Nat.reduceBEq, Nat.reduceAdd, Nat.reduceLeDiff, Nat.reduceEqDiff, Nat.reduceLT, ob_hit, ob_skip, ob_set, ob_old, getD_map, Int.natCast_nonneg, true_and, and_true, int_zero, beq_self_eq_true, Int.toNat_zero, List.getD_cons_zero, List.getD_cons_succ, List.range_zero, List.mem_cons, List.not_mem_nil, or_false, forall_eq, forall_eq_or_imp, false_implies, implies_true, Nat.reduceMul, Option.isSome_some, bnd, or_true, Int.toNat_one, Int.le_refl, ge_iff_le, gt_iff_lt] at q0 q1; clear hg; have hn' := hn; try simp only [add_next, set_next, grow_next, leave_next] at hn')
    by_cases hlt : i < p.length
    · have b1 : decide ((i : Int) < (p.length : Int)) = true := by simp; omega
      have w1 : IntKind.i64.wrap ((i : Int) + 1) = ((i + 1 : Nat) : Int) := IntWalk.i64_in _ ⟨by omega, by omega⟩
      have hlt2 : i < q.length := by omega
      by_cases hx : p[i] = q[i]
      · have b2 : (!decide (p[i] = q[i])) = false := by simp [hx]
        (simp (disch := first | decide | omega | (simp only [add_next, set_next, grow_next, leave_next, List.length_map]; first | done | omega)) only [go_sem, ↓reduceIte, Nat.reduceBEq, Nat.reduceAdd, Nat.reduceLeDiff, Nat.reduceEqDiff, Nat.reduceLT, ob_hit, ob_skip, ob_set, ob_old, getD_map, Int.natCast_nonneg, true_and, and_true, int_zero, beq_self_eq_true, Int.toNat_zero, List.getD_cons_zero, List.getD_cons_succ, List.range_zero, List.mem_cons, List.not_mem_nil, or_false, forall_eq, forall_eq_or_imp, false_implies, implies_true, Nat.reduceMul, Option.isSome_some, bnd, or_true, Int.toNat_one, Int.le_refl, ge_iff_le, gt_iff_lt, q0, q1, q5, b1, w1]; (repeat (with_reducible refine And.intro (by first | omega | assumption | rfl) ?_)))
        refine ddraw_mk 9 (by kernel_rfl) ?_
        (simp (disch := first | decide | omega | (simp only [add_next, set_next, grow_next, leave_next, List.length_map]; first | done | omega)) only [go_sem, ↓reduceIte, Nat.reduceBEq, Nat.reduceAdd, Nat.reduceLeDiff, Nat.reduceEqDiff, Nat.reduceLT, ob_hit, ob_skip, ob_set, ob_old, getD_map, Int.natCast_nonneg, true_and, and_true, int_zero, beq_self_eq_true, Int.toNat_zero, List.getD_cons_zero, List.getD_cons_succ, List.range_zero, List.mem_cons, List.not_mem_nil, or_false, forall_eq, forall_eq_or_imp, false_implies, implies_true, Nat.reduceMul, Option.isSome_some, bnd, or_true, Int.toNat_one, Int.le_refl, ge_iff_le, gt_iff_lt, q0, q1, q5, b1, b2, w1, bD_eq, u8ne]; (repeat (with_reducible refine And.intro (by first | omega | assumption | rfl) ?_)))
        (refine ⟨by omega, (by (repeat' first | exact St.Sub.refl _ | assumption | (exact RowOk.sub (by assumption) (by assumption)) | (refine St.Sub.trans ?_ (RowOk.sub (by assumption) (by assumption))) | (exact St.Sub.keep (St.Sub.refl _) (by first | assumption | (first | omega | (simp only [RowOk.lo, add_next, set_next, grow_next, leave_next]; first | done | omega)))) | refine St.Sub.add ?_ (by (repeat' first | assumption | refine St.WF.leave ?_ _ | refine St.WF.add ?_ _ | refine St.WF.set ?_ (by (first | omega | (simp only [RowOk.lo, add_next, set_next, grow_next, leave_next]; first | done | omega))) _ | refine St.WF.grow ?_ _ _ _ | refine St.WF.keep ?_ (by first | assumption | (first | omega | (simp only [RowOk.lo, add_next, set_next, grow_next, leave_next]; first | done | omega))))) _ | refine St.Sub.set ?_ (by (repeat' first | assumption | refine St.WF.leave ?_ _ | refine St.WF.add ?_ _ | refine St.WF.set ?_ (by (first | omega | (simp only [RowOk.lo, add_next, set_next, grow_next, leave_next]; first | done | omega))) _ | refine St.WF.grow ?_ _ _ _ | refine St.WF.keep ?_ (by first | assumption | (first | omega | (simp only [RowOk.lo, add_next, set_next, grow_next, leave_next]; first | done | omega))))) (by (first | omega | (simp only [RowOk.lo, add_next, set_next, grow_next, leave_next]; first | done | omega))) _ | refine St.Sub.keep ?_ (by first | assumption | (first | omega | (simp only [RowOk.lo, add_next, set_next, grow_next, leave_next]; first | done | omega))))), ?_⟩; refine ⟨by omega, ?_, ?_⟩; all_goals (try (first | (simp (disch := first | decide | omega | (simp only [add_next, set_next, grow_next, leave_next, List.length_map]; first | done | omega)) only [go_sem, ↓reduceIte, Nat.reduceBEq, Nat.reduceAdd, Nat.reduceLeDiff, Nat.reduceEqDiff, Nat.reduceLT, ob_hit, ob_skip, ob_set, ob_old, getD_map, Int.natCast_nonneg, true_and, and_true, int_zero, beq_self_eq_true, Int.toNat_zero, List.getD_cons_zero, List.getD_cons_succ, List.range_zero, List.mem_cons, List.not_mem_nil, or_false, forall_eq, forall_eq_or_imp, false_implies, implies_true, Nat.reduceMul, Option.isSome_some, bnd, or_true, Int.toNat_one, Int.le_refl, ge_iff_le, gt_iff_lt, w1]; done) | (simp (disch := first | decide | omega | (simp only [add_next, set_next, grow_next, leave_next, List.length_map]; first | done | omega)) only [go_sem, ↓reduceIte, Nat.reduceBEq, Nat.reduceAdd, Nat.reduceLeDiff, Nat.reduceEqDiff, Nat.reduceLT, ob_hit, ob_skip, ob_set, ob_old, getD_map, Int.natCast_nonneg, true_and, and_true, int_zero, beq_self_eq_true, Int.toNat_zero, List.getD_cons_zero, List.getD_cons_succ, List.range_zero, List.mem_cons, List.not_mem_nil, or_false, forall_eq, forall_eq_or_imp, false_implies, implies_true, Nat.reduceMul, Option.isSome_some, bnd, or_true, Int.toNat_one, Int.le_refl, ge_iff_le, gt_iff_lt, w1]; rfl) | rfl)))
        intro j hj
        by_cases e : j = i
        · subst e; rw [List.getElem?_eq_getElem hlt, List.getElem?_eq_getElem hlt2, hx]
        · exact hsame j (by omega)
      · have b2 : (!decide (p[i] = q[i])) = true := by simp [hx]
        (simp (disch := first | decide | omega | (simp only [add_next, set_next, grow_next, leave_next, List.length_map]; first | done | omega)) only [go_sem, ↓reduceIte, Nat.reduceBEq, Nat.reduceAdd, Nat.reduceLeDiff, Nat.reduceEqDiff, Nat.reduceLT, ob_hit, ob_skip, ob_set, ob_old, getD_map, Int.natCast_nonneg, true_and, and_true, int_zero, beq_self_eq_true, Int.toNat_zero, List.getD_cons_zero, List.getD_cons_succ, List.range_zero, List.mem_cons, List.not_mem_nil, or_false, forall_eq, forall_eq_or_imp, false_implies, implies_true, Nat.reduceMul, Option.isSome_some, bnd, or_true, Int.toNat_one, Int.le_refl, ge_iff_le, gt_iff_lt, q0, q1, q5, b1]; (repeat (with_reducible refine And.intro (by first | omega | assumption | rfl) ?_)))
        refine ddraw_mk 9 (by kernel_rfl) ?_
        (simp (disch := first | decide | omega | (simp only [add_next, set_next, grow_next, leave_next, List.length_map]; first | done | omega)) only [go_sem, ↓reduceIte, Nat.reduceBEq, Nat.reduceAdd, Nat.reduceLeDiff, Nat.reduceEqDiff, Nat.reduceLT, ob_hit, ob_skip, ob_set, ob_old, getD_map, Int.natCast_nonneg, true_and, and_true, int_zero, beq_self_eq_true, Int.toNat_zero, List.getD_cons_zero, List.getD_cons_succ, List.range_zero, List.mem_cons, List.not_mem_nil, or_false, forall_eq, forall_eq_or_imp, false_implies, implies_true, Nat.reduceMul, Option.isSome_some, bnd, or_true, Int.toNat_one, Int.le_refl, ge_iff_le, gt_iff_lt, q0, q1, q5, b1, b2, bD_eq, u8ne]; (repeat (with_reducible refine And.intro (by first | omega | assumption | rfl) ?_)))
        refine ⟨?_, (by (repeat' first | exact St.Sub.refl _ | assumption | (exact RowOk.sub (by assumption) (by assumption)) | (refine St.Sub.trans ?_ (RowOk.sub (by assumption) (by assumption))) | (exact St.Sub.keep (St.Sub.refl _) (by first | assumption | (first | omega | (simp only [RowOk.lo, add_next, set_next, grow_next, leave_next]; first | done | omega)))) | refine St.Sub.add ?_ (by (repeat' first | assumption | refine St.WF.leave ?_ _ | refine St.WF.add ?_ _ | refine St.WF.set ?_ (by (first | omega | (simp only [RowOk.lo, add_next, set_next, grow_next, leave_next]; first | done | omega))) _ | refine St.WF.grow ?_ _ _ _ | refine St.WF.keep ?_ (by first | assumption | (first | omega | (simp only [RowOk.lo, add_next, set_next, grow_next, leave_next]; first | done | omega))))) _ | refine St.Sub.set ?_ (by (repeat' first | assumption | refine St.WF.leave ?_ _ | refine St.WF.add ?_ _ | refine St.WF.set ?_ (by (first | omega | (simp only [RowOk.lo, add_next, set_next, grow_next, leave_next]; first | done | omega))) _ | refine St.WF.grow ?_ _ _ _ | refine St.WF.keep ?_ (by first | assumption | (first | omega | (simp only [RowOk.lo, add_next, set_next, grow_next, leave_next]; first | done | omega))))) (by (first | omega | (simp only [RowOk.lo, add_next, set_next, grow_next, leave_next]; first | done | omega))) _ | refine St.Sub.keep ?_ (by first | assumption | (first | omega | (simp only [RowOk.lo, add_next, set_next, grow_next, leave_next]; first | done | omega)))))⟩
        rw [decide_eq_false]
        · rfl
        · intro e; subst e; exact hx rfl
    · have b1 : decide ((i : Int) < (p.length : Int)) = false := by simp; omega
      (simp (disch := first | decide | omega | (simp only [add_next, set_next, grow_next, leave_next, List.length_map]; first | done | omega)) only [go_sem, ↓reduceIte, Nat.reduceBEq, Nat.reduceAdd, Nat.reduceLeDiff, Nat.reduceEqDiff, Nat.reduceLT, ob_hit, ob_skip, ob_set, ob_old, getD_map, Int.natCast_nonneg, true_and, and_true, int_zero, beq_self_eq_true, Int.toNat_zero, List.getD_cons_zero, List.getD_cons_succ, List.range_zero, List.mem_cons, List.not_mem_nil, or_false, forall_eq, forall_eq_or_imp, false_implies, implies_true, Nat.reduceMul, Option.isSome_some, bnd, or_true, Int.toNat_one, Int.le_refl, ge_iff_le, gt_iff_lt, q0, q1, q5, b1]; (repeat (with_reducible refine And.intro (by first | omega | assumption | rfl) ?_)))
      refine ⟨?_, (by (repeat' first | exact St.Sub.refl _ | assumption | (exact RowOk.sub (by assumption) (by assumption)) | (refine St.Sub.trans ?_ (RowOk.sub (by assumption) (by assumption))) | (exact St.Sub.keep (St.Sub.refl _) (by first | assumption | (first | omega | (simp only [RowOk.lo, add_next, set_next, grow_next, leave_next]; first | done | omega)))) | refine St.Sub.add ?_ (by (repeat' first | assumption | refine St.WF.leave ?_ _ | refine St.WF.add ?_ _ | refine St.WF.set ?_ (by (first | omega | (simp only [RowOk.lo, add_next, set_next, grow_next, leave_next]; first | done | omega))) _ | refine St.WF.grow ?_ _ _ _ | refine St.WF.keep ?_ (by first | assumption | (first | omega | (simp only [RowOk.lo, add_next, set_next, grow_next, leave_next]; first | done | omega))))) _ | refine St.Sub.set ?_ (by (repeat' first | assumption | refine St.WF.leave ?_ _ | refine St.WF.add ?_ _ | refine St.WF.set ?_ (by (first | omega | (simp only [RowOk.lo, add_next, set_next, grow_next, leave_next]; first | done | omega))) _ | refine St.WF.grow ?_ _ _ _ | refine St.WF.keep ?_ (by first | assumption | (first | omega | (simp only [RowOk.lo, add_next, set_next, grow_next, leave_next]; first | done | omega))))) (by (first | omega | (simp only [RowOk.lo, add_next, set_next, grow_next, leave_next]; first | done | omega))) _ | refine St.Sub.keep ?_ (by first | assumption | (first | omega | (simp only [RowOk.lo, add_next, set_next, grow_next, leave_next]; first | done | omega)))))⟩
      rw [decide_eq_true]
      · rfl
      · refine List.ext_getElem? fun j => ?_
        by_cases hj : j < i
        · exact hsame j hj
        · rw [List.getElem?_eq_none (by omega), List.getElem?_eq_none (by omega)]
  · have b0 : ((p.length : Int) != (q.length : Int)) = true := by simp; omega
    (simp (disch := first | decide | omega | (simp only [add_next, set_next, grow_next, leave_next, List.length_map]; first | done | omega)) only [go_sem, ↓reduceIte, Nat.reduceBEq, Nat.reduceAdd, Nat.reduceLeDiff, Nat.reduceEqDiff, Nat.reduceLT, ob_hit, ob_skip, ob_set, ob_old, getD_map, Int.natCast_nonneg, true_and, and_true, int_zero, beq_self_eq_true, Int.toNat_zero, List.getD_cons_zero, List.getD_cons_succ, List.range_zero, List.mem_cons, List.not_mem_nil, or_false, forall_eq, forall_eq_or_imp, false_implies, implies_true, Nat.reduceMul, Option.isSome_some, bnd, or_true, Int.toNat_one, Int.le_refl, ge_iff_le, gt_iff_lt, b0]; (repeat (with_reducible refine And.intro (by first | omega | assumption | rfl) ?_)))
    refine ⟨?_, (by (repeat' first | exact St.Sub.refl _ | assumption | (exact RowOk.sub (by assumption) (by assumption)) | (refine St.Sub.trans ?_ (RowOk.sub (by assumption) (by assumption))) | (exact St.Sub.keep (St.Sub.refl _) (by first | assumption | (first | omega | (simp only [RowOk.lo, add_next, set_next, grow_next, leave_next]; first | done | omega)))) | refine St.Sub.add ?_ (by (repeat' first | assumption | refine St.WF.leave ?_ _ | refine St.WF.add ?_ _ | refine St.WF.set ?_ (by (first | omega | (simp only [RowOk.lo, add_next, set_next, grow_next, leave_next]; first | done | omega))) _ | refine St.WF.grow ?_ _ _ _ | refine St.WF.keep ?_ (by first | assumption | (first | omega | (simp only [RowOk.lo, add_next, set_next, grow_next, leave_next]; first | done | omega))))) _ | refine St.Sub.set ?_ (by (repeat' first | assumption | refine St.WF.leave ?_ _ | refine St.WF.add ?_ _ | refine St.WF.set ?_ (by (first | omega | (simp only [RowOk.lo, add_next, set_next, grow_next, leave_next]; first | done | omega))) _ | refine St.WF.grow ?_ _ _ _ | refine St.WF.keep ?_ (by first | assumption | (first | omega | (simp only [RowOk.lo, add_next, set_next, grow_next, leave_next]; first | done | omega))))) (by (first | omega | (simp only [RowOk.lo, add_next, set_next, grow_next, leave_next]; first | done | omega))) _ | refine St.Sub.keep ?_ (by first | assumption | (first | omega | (simp only [RowOk.lo, add_next, set_next, grow_next, leave_next]; first | done | omega)))))⟩
    rw [decide_eq_false]
    · rfl
    · intro e; subst e; exact hl rfl
theorem bin_bneq {x y : Operand} (a b : Bool) : dbin Try.prog .neq 4 x y (.v (.bool a)) (.v (.bool b)) = some (True, .v (.bool (a != b))) := by cases a <;> cases b <;> kernel_rfl
theorem greatP_false {p : List DStp} (h : greatP p = false) : p.length ≤ 40 ∧ ∀ x ∈ p, x.1.length ≤ 100 := by
  unfold greatP at h
  rw [Bool.or_eq_false_iff, decide_eq_false_iff_not, List.any_eq_false] at h
  exact ⟨by omega, fun x hx => by have := h.2 x hx; simpa using this⟩
set_option maxRecDepth 200000 in
set_option maxHeartbeats 16000000 in
theorem pathBytes_d (own own2 : Own) (p q : List DStp) (hp : ∀ x ∈ p, x.1.length ≤ maxLen ∧ IsU64 x.2) (hq : ∀ x ∈ q, x.1.length ≤ maxLen ∧ IsU64 x.2) : DPure Try.prog 10 [.sl own (p.map encP), .sl own2 (q.map encP)] (.v (.bool true)) := by
  refine dpure_of_dwp mixed Try.func10 rfl (fun _ _ => by kernel_rfl) (rs := [.tmp 4]) rfl (by kernel_rfl) trivial (fun S hS => ?_)
  (simp (disch := first | decide | omega | (simp only [add_next, set_next, grow_next, leave_next, List.length_map]; first | done | omega)) only [go_sem, ↓reduceIte, Nat.reduceBEq, Nat.reduceAdd, Nat.reduceLeDiff, Nat.reduceEqDiff, Nat.reduceLT, ob_hit, ob_skip, ob_set, ob_old, getD_map, Int.natCast_nonneg, true_and, and_true, int_zero, beq_self_eq_true, Int.toNat_zero, List.getD_cons_zero, List.getD_cons_succ, List.range_zero, List.mem_cons, List.not_mem_nil, or_false, forall_eq, forall_eq_or_imp, false_implies, implies_true, Nat.reduceMul, Option.isSome_some, bnd, or_true, Int.toNat_one, Int.le_refl, ge_iff_le, gt_iff_lt]; (repeat (with_reducible refine And.intro (by first | omega | assumption | rfl) ?_)))
  refine DCalls.of_pure (greatP_d p own) ?_
  cases hg1 : greatP p
  rotate_left
  · (simp (disch := first | decide | omega | (simp only [add_next, set_next, grow_next, leave_next, List.length_map]; first | done | omega)) only [go_sem, ↓reduceIte, Nat.reduceBEq, Nat.reduceAdd, Nat.reduceLeDiff, Nat.reduceEqDiff, Nat.reduceLT, ob_hit, ob_skip, ob_set, ob_old, getD_map, Int.natCast_nonneg, true_and, and_true, int_zero, beq_self_eq_true, Int.toNat_zero, List.getD_cons_zero, List.getD_cons_succ, List.range_zero, List.mem_cons, List.not_mem_nil, or_false, forall_eq, forall_eq_or_imp, false_implies, implies_true, Nat.reduceMul, Option.isSome_some, bnd, or_true, Int.toNat_one, Int.le_refl, ge_iff_le, gt_iff_lt]; (repeat (with_reducible refine And.intro (by first | omega | assumption | rfl) ?_)))
    refine DCalls.of_pure awake10_d ?_
    (simp (disch := first | decide | omega | (simp only [add_next, set_next, grow_next, leave_next, List.length_map]; first | done | omega)) only [go_sem, ↓reduceIte, Nat.reduceBEq, Nat.reduceAdd, Nat.reduceLeDiff, Nat.reduceEqDiff, Nat.reduceLT, ob_hit, ob_skip, ob_set, ob_old, getD_map, Int.natCast_nonneg, true_and, and_true, int_zero, beq_self_eq_true, Int.toNat_zero, List.getD_cons_zero, List.getD_cons_succ, List.range_zero, List.mem_cons, List.not_mem_nil, or_false, forall_eq, forall_eq_or_imp, false_implies, implies_true, Nat.reduceMul, Option.isSome_some, bnd, or_true, Int.toNat_one, Int.le_refl, ge_iff_le, gt_iff_lt]; (repeat (with_reducible refine And.intro (by first | omega | assumption | rfl) ?_)))
    refine ⟨?_, (by (repeat' first | exact St.Sub.refl _ | assumption | (exact RowOk.sub (by assumption) (by assumption)) | (refine St.Sub.trans ?_ (RowOk.sub (by assumption) (by assumption))) | (exact St.Sub.keep (St.Sub.refl _) (by first | assumption | (first | omega | (simp only [RowOk.lo, add_next, set_next, grow_next, leave_next]; first | done | omega)))) | refine St.Sub.add ?_ (by (repeat' first | assumption | refine St.WF.leave ?_ _ | refine St.WF.add ?_ _ | refine St.WF.set ?_ (by (first | omega | (simp only [RowOk.lo, add_next, set_next, grow_next, leave_next]; first | done | omega))) _ | refine St.WF.grow ?_ _ _ _ | refine St.WF.keep ?_ (by first | assumption | (first | omega | (simp only [RowOk.lo, add_next, set_next, grow_next, leave_next]; first | done | omega))))) _ | refine St.Sub.set ?_ (by (repeat' first | assumption | refine St.WF.leave ?_ _ | refine St.WF.add ?_ _ | refine St.WF.set ?_ (by (first | omega | (simp only [RowOk.lo, add_next, set_next, grow_next, leave_next]; first | done | omega))) _ | refine St.WF.grow ?_ _ _ _ | refine St.WF.keep ?_ (by first | assumption | (first | omega | (simp only [RowOk.lo, add_next, set_next, grow_next, leave_next]; first | done | omega))))) (by (first | omega | (simp only [RowOk.lo, add_next, set_next, grow_next, leave_next]; first | done | omega))) _ | refine St.Sub.keep ?_ (by first | assumption | (first | omega | (simp only [RowOk.lo, add_next, set_next, grow_next, leave_next]; first | done | omega)))))⟩
    rfl
  · (simp (disch := first | decide | omega | (simp only [add_next, set_next, grow_next, leave_next, List.length_map]; first | done | omega)) only [go_sem, ↓reduceIte, Nat.reduceBEq, Nat.reduceAdd, Nat.reduceLeDiff, Nat.reduceEqDiff, Nat.reduceLT, ob_hit, ob_skip, ob_set, ob_old, getD_map, Int.natCast_nonneg, true_and, and_true, int_zero, beq_self_eq_true, Int.toNat_zero, List.getD_cons_zero, List.getD_cons_succ, List.range_zero, List.mem_cons, List.not_mem_nil, or_false, forall_eq, forall_eq_or_imp, false_implies, implies_true, Nat.reduceMul, Option.isSome_some, bnd, or_true, Int.toNat_one, Int.le_refl, ge_iff_le, gt_iff_lt]; (repeat (with_reducible refine And.intro (by first | omega | assumption | rfl) ?_)))
    refine DCalls.of_pure (greatP_d q own2) ?_
    cases hg2 : greatP q
    rotate_left
    · (simp (disch := first | decide | omega | (simp only [add_next, set_next, grow_next, leave_next, List.length_map]; first | done | omega)) only [go_sem, ↓reduceIte, Nat.reduceBEq, Nat.reduceAdd, Nat.reduceLeDiff, Nat.reduceEqDiff, Nat.reduceLT, ob_hit, ob_skip, ob_set, ob_old, getD_map, Int.natCast_nonneg, true_and, and_true, int_zero, beq_self_eq_true, Int.toNat_zero, List.getD_cons_zero, List.getD_cons_succ, List.range_zero, List.mem_cons, List.not_mem_nil, or_false, forall_eq, forall_eq_or_imp, false_implies, implies_true, Nat.reduceMul, Option.isSome_some, bnd, or_true, Int.toNat_one, Int.le_refl, ge_iff_le, gt_iff_lt]; (repeat (with_reducible refine And.intro (by first | omega | assumption | rfl) ?_)))
      refine DCalls.of_pure awake10_d ?_
      (simp (disch := first | decide | omega | (simp only [add_next, set_next, grow_next, leave_next, List.length_map]; first | done | omega)) only [go_sem, ↓reduceIte, Nat.reduceBEq, Nat.reduceAdd, Nat.reduceLeDiff, Nat.reduceEqDiff, Nat.reduceLT, ob_hit, ob_skip, ob_set, ob_old, getD_map, Int.natCast_nonneg, true_and, and_true, int_zero, beq_self_eq_true, Int.toNat_zero, List.getD_cons_zero, List.getD_cons_succ, List.range_zero, List.mem_cons, List.not_mem_nil, or_false, forall_eq, forall_eq_or_imp, false_implies, implies_true, Nat.reduceMul, Option.isSome_some, bnd, or_true, Int.toNat_one, Int.le_refl, ge_iff_le, gt_iff_lt]; (repeat (with_reducible refine And.intro (by first | omega | assumption | rfl) ?_)))
      refine ⟨?_, (by (repeat' first | exact St.Sub.refl _ | assumption | (exact RowOk.sub (by assumption) (by assumption)) | (refine St.Sub.trans ?_ (RowOk.sub (by assumption) (by assumption))) | (exact St.Sub.keep (St.Sub.refl _) (by first | assumption | (first | omega | (simp only [RowOk.lo, add_next, set_next, grow_next, leave_next]; first | done | omega)))) | refine St.Sub.add ?_ (by (repeat' first | assumption | refine St.WF.leave ?_ _ | refine St.WF.add ?_ _ | refine St.WF.set ?_ (by (first | omega | (simp only [RowOk.lo, add_next, set_next, grow_next, leave_next]; first | done | omega))) _ | refine St.WF.grow ?_ _ _ _ | refine St.WF.keep ?_ (by first | assumption | (first | omega | (simp only [RowOk.lo, add_next, set_next, grow_next, leave_next]; first | done | omega))))) _ | refine St.Sub.set ?_ (by (repeat' first | assumption | refine St.WF.leave ?_ _ | refine St.WF.add ?_ _ | refine St.WF.set ?_ (by (first | omega | (simp only [RowOk.lo, add_next, set_next, grow_next, leave_next]; first | done | omega))) _ | refine St.WF.grow ?_ _ _ _ | refine St.WF.keep ?_ (by first | assumption | (first | omega | (simp only [RowOk.lo, add_next, set_next, grow_next, leave_next]; first | done | omega))))) (by (first | omega | (simp only [RowOk.lo, add_next, set_next, grow_next, leave_next]; first | done | omega))) _ | refine St.Sub.keep ?_ (by first | assumption | (first | omega | (simp only [RowOk.lo, add_next, set_next, grow_next, leave_next]; first | done | omega)))))⟩
      rfl
    · (simp (disch := first | decide | omega | (simp only [add_next, set_next, grow_next, leave_next, List.length_map]; first | done | omega)) only [go_sem, ↓reduceIte, Nat.reduceBEq, Nat.reduceAdd, Nat.reduceLeDiff, Nat.reduceEqDiff, Nat.reduceLT, ob_hit, ob_skip, ob_set, ob_old, getD_map, Int.natCast_nonneg, true_and, and_true, int_zero, beq_self_eq_true, Int.toNat_zero, List.getD_cons_zero, List.getD_cons_succ, List.range_zero, List.mem_cons, List.not_mem_nil, or_false, forall_eq, forall_eq_or_imp, false_implies, implies_true, Nat.reduceMul, Option.isSome_some, bnd, or_true, Int.toNat_one, Int.le_refl, ge_iff_le, gt_iff_lt]; (repeat (with_reducible refine And.intro (by first | omega | assumption | rfl) ?_)))
      have hpl := greatP_false hg1
      have hql := greatP_false hg2
      have hps : ∀ x ∈ p, x.1.length ≤ 100 ∧ IsU64 x.2 := fun x hx => ⟨hpl.2 x hx, (hp x hx).2⟩
      refine (write_w own p (k := S.next) (bs := []) (by show S.next < S.next + 1; omega) ⟨.full, add_eq, .inl ⟨rfl, rfl⟩⟩ hpl.1 hps (by simp)).wf.mono ?_
      rintro _ T ⟨⟨rfl, hW, hF⟩, hT⟩
      rw [List.nil_append] at hW
      have hn1 : S.next + 1 ≤ T.next := hF.next
      have hsubT : S.Sub T := ⟨by omega, fun j o e => by have := hS.lt e; exact hF.ob j o (.inl this) (add_keep hS _ _ _ e)⟩
      have hpm : ∀ x ∈ p, x.1.length ≤ maxLen := fun x hx => (hp x hx).1
      have hpB : (pathB p).length ≤ 5000 := by
        have h1 := flatB_len p hps
        have h2 := numB_length_le p.length (by omega)
        rw [pathB, List.length_append]; omega
      by_cases hl : p.length ≤ q.length
      · have c1 : decide ((p.length : Int) ≤ (q.length : Int)) = true := by simp; omega
        have mn : (if (q.length : Int) < (p.length : Int) then (q.length : Int) else (p.length : Int)) = (p.length : Int) := by split <;> omega
        have hle : (p.length : Int) ≤ (q.length : Int) := by omega
        (simp (disch := first | decide | omega | (simp only [add_next, set_next, grow_next, leave_next, List.length_map]; first | done | omega)) only [go_sem, ↓reduceIte, Nat.reduceBEq, Nat.reduceAdd, Nat.reduceLeDiff, Nat.reduceEqDiff, Nat.reduceLT, ob_hit, ob_skip, ob_set, ob_old, getD_map, Int.natCast_nonneg, true_and, and_true, int_zero, beq_self_eq_true, Int.toNat_zero, List.getD_cons_zero, List.getD_cons_succ, List.range_zero, List.mem_cons, List.not_mem_nil, or_false, forall_eq, forall_eq_or_imp, false_implies, implies_true, Nat.reduceMul, Option.isSome_some, bnd, or_true, Int.toNat_one, Int.le_refl, ge_iff_le, gt_iff_lt, c1, mn, take_map', hle]; (repeat (with_reducible refine And.intro (by first | omega | assumption | rfl) ?_)))
        refine DCalls.of_pure (refSameP_d own .no p (q.take p.length) (by omega) (by rw [List.length_take]; omega)) ?_
        have hbb : begB p q = decide (p = q.take p.length) := by rw [begB, decide_eq_true hl, Bool.true_and]
        (simp (disch := first | decide | omega | (simp only [add_next, set_next, grow_next, leave_next, List.length_map]; first | done | omega)) only [go_sem, ↓reduceIte, Nat.reduceBEq, Nat.reduceAdd, Nat.reduceLeDiff, Nat.reduceEqDiff, Nat.reduceLT, ob_hit, ob_skip, ob_set, ob_old, getD_map, Int.natCast_nonneg, true_and, and_true, int_zero, beq_self_eq_true, Int.toNat_zero, List.getD_cons_zero, List.getD_cons_succ, List.range_zero, List.mem_cons, List.not_mem_nil, or_false, forall_eq, forall_eq_or_imp, false_implies, implies_true, Nat.reduceMul, Option.isSome_some, bnd, or_true, Int.toNat_one, Int.le_refl, ge_iff_le, gt_iff_lt]; (repeat (with_reducible refine And.intro (by first | omega | assumption | rfl) ?_)))
        refine DCalls.of_pure (begins_d own own2 p q (by omega) (by omega)) ?_
        rw [hbb]
        have bs : (decide (p = q.take p.length) != decide (p = q.take p.length)) = false := by simp
        (simp (disch := first | decide | omega | (simp only [add_next, set_next, grow_next, leave_next, List.length_map]; first | done | omega)) only [go_sem, ↓reduceIte, Nat.reduceBEq, Nat.reduceAdd, Nat.reduceLeDiff, Nat.reduceEqDiff, Nat.reduceLT, ob_hit, ob_skip, ob_set, ob_old, getD_map, Int.natCast_nonneg, true_and, and_true, int_zero, beq_self_eq_true, Int.toNat_zero, List.getD_cons_zero, List.getD_cons_succ, List.range_zero, List.mem_cons, List.not_mem_nil, or_false, forall_eq, forall_eq_or_imp, false_implies, implies_true, Nat.reduceMul, Option.isSome_some, bnd, or_true, Int.toNat_one, Int.le_refl, ge_iff_le, gt_iff_lt, bin_bneq, bs]; (repeat (with_reducible refine And.intro (by first | omega | assumption | rfl) ?_)))
        refine DCalls.of_pure (refRight_d own p (by omega) hpm) ?_
        cases hR : rightP p
        · (simp (disch := first | decide | omega | (simp only [add_next, set_next, grow_next, leave_next, List.length_map]; first | done | omega)) only [go_sem, ↓reduceIte, Nat.reduceBEq, Nat.reduceAdd, Nat.reduceLeDiff, Nat.reduceEqDiff, Nat.reduceLT, ob_hit, ob_skip, ob_set, ob_old, getD_map, Int.natCast_nonneg, true_and, and_true, int_zero, beq_self_eq_true, Int.toNat_zero, List.getD_cons_zero, List.getD_cons_succ, List.range_zero, List.mem_cons, List.not_mem_nil, or_false, forall_eq, forall_eq_or_imp, false_implies, implies_true, Nat.reduceMul, Option.isSome_some, bnd, or_true, Int.toNat_one, Int.le_refl, ge_iff_le, gt_iff_lt]; (repeat (with_reducible refine And.intro (by first | omega | assumption | rfl) ?_)))
          rw [writeB, if_neg (by rw [hR]; decide)] at hW
          refine (out_w hW (by simp)).wf.mono ?_
          rintro _ T1 ⟨⟨o1, rfl, hW1, hF1⟩, hT1⟩
          have hs1 : S.Sub T1 := ⟨Nat.le_trans hsubT.next hF1.next, fun j o e => hF1.ob j o (.inl (hS.lt e)) (hsubT.ob j o e)⟩
          (simp (disch := first | decide | omega | (simp only [add_next, set_next, grow_next, leave_next, List.length_map]; first | done | omega)) only [go_sem, ↓reduceIte, Nat.reduceBEq, Nat.reduceAdd, Nat.reduceLeDiff, Nat.reduceEqDiff, Nat.reduceLT, ob_hit, ob_skip, ob_set, ob_old, getD_map, Int.natCast_nonneg, true_and, and_true, int_zero, beq_self_eq_true, Int.toNat_zero, List.getD_cons_zero, List.getD_cons_succ, List.range_zero, List.mem_cons, List.not_mem_nil, or_false, forall_eq, forall_eq_or_imp, false_implies, implies_true, Nat.reduceMul, Option.isSome_some, bnd, or_true, Int.toNat_one, Int.le_refl, ge_iff_le, gt_iff_lt]; (repeat (with_reducible refine And.intro (by first | omega | assumption | rfl) ?_)))
          refine DCalls.of_pure awake10_d ?_
          (simp (disch := first | decide | omega | (simp only [add_next, set_next, grow_next, leave_next, List.length_map]; first | done | omega)) only [go_sem, ↓reduceIte, Nat.reduceBEq, Nat.reduceAdd, Nat.reduceLeDiff, Nat.reduceEqDiff, Nat.reduceLT, ob_hit, ob_skip, ob_set, ob_old, getD_map, Int.natCast_nonneg, true_and, and_true, int_zero, beq_self_eq_true, Int.toNat_zero, List.getD_cons_zero, List.getD_cons_succ, List.range_zero, List.mem_cons, List.not_mem_nil, or_false, forall_eq, forall_eq_or_imp, false_implies, implies_true, Nat.reduceMul, Option.isSome_some, bnd, or_true, Int.toNat_one, Int.le_refl, ge_iff_le, gt_iff_lt]; (repeat (with_reducible refine And.intro (by first | omega | assumption | rfl) ?_)))
          refine ⟨?_, (by (repeat' first | exact St.Sub.refl _ | assumption | (exact RowOk.sub (by assumption) (by assumption)) | (refine St.Sub.trans ?_ (RowOk.sub (by assumption) (by assumption))) | (exact St.Sub.keep (St.Sub.refl _) (by first | assumption | (first | omega | (simp only [RowOk.lo, add_next, set_next, grow_next, leave_next]; first | done | omega)))) | refine St.Sub.add ?_ (by (repeat' first | assumption | refine St.WF.leave ?_ _ | refine St.WF.add ?_ _ | refine St.WF.set ?_ (by (first | omega | (simp only [RowOk.lo, add_next, set_next, grow_next, leave_next]; first | done | omega))) _ | refine St.WF.grow ?_ _ _ _ | refine St.WF.keep ?_ (by first | assumption | (first | omega | (simp only [RowOk.lo, add_next, set_next, grow_next, leave_next]; first | done | omega))))) _ | refine St.Sub.set ?_ (by (repeat' first | assumption | refine St.WF.leave ?_ _ | refine St.WF.add ?_ _ | refine St.WF.set ?_ (by (first | omega | (simp only [RowOk.lo, add_next, set_next, grow_next, leave_next]; first | done | omega))) _ | refine St.WF.grow ?_ _ _ _ | refine St.WF.keep ?_ (by first | assumption | (first | omega | (simp only [RowOk.lo, add_next, set_next, grow_next, leave_next]; first | done | omega))))) (by (first | omega | (simp only [RowOk.lo, add_next, set_next, grow_next, leave_next]; first | done | omega))) _ | refine St.Sub.keep ?_ (by first | assumption | (first | omega | (simp only [RowOk.lo, add_next, set_next, grow_next, leave_next]; first | done | omega)))))⟩
          rfl
        · (simp (disch := first | decide | omega | (simp only [add_next, set_next, grow_next, leave_next, List.length_map]; first | done | omega)) only [go_sem, ↓reduceIte, Nat.reduceBEq, Nat.reduceAdd, Nat.reduceLeDiff, Nat.reduceEqDiff, Nat.reduceLT, ob_hit, ob_skip, ob_set, ob_old, getD_map, Int.natCast_nonneg, true_and, and_true, int_zero, beq_self_eq_true, Int.toNat_zero, List.getD_cons_zero, List.getD_cons_succ, List.range_zero, List.mem_cons, List.not_mem_nil, or_false, forall_eq, forall_eq_or_imp, false_implies, implies_true, Nat.reduceMul, Option.isSome_some, bnd, or_true, Int.toNat_one, Int.le_refl, ge_iff_le, gt_iff_lt]; (repeat (with_reducible refine And.intro (by first | omega | assumption | rfl) ?_)))
          rw [writeB, if_pos hR] at hW
          refine (out_w hW (by omega)).wf.mono ?_
          rintro _ T1 ⟨⟨o1, rfl, hW1, hF1⟩, hT1⟩
          have hs1 : S.Sub T1 := ⟨Nat.le_trans hsubT.next hF1.next, fun j o e => hF1.ob j o (.inl (hS.lt e)) (hsubT.ob j o e)⟩
          have hm1 := hF1.next
          (simp (disch := first | decide | omega | (simp only [add_next, set_next, grow_next, leave_next, List.length_map]; first | done | omega)) only [go_sem, ↓reduceIte, Nat.reduceBEq, Nat.reduceAdd, Nat.reduceLeDiff, Nat.reduceEqDiff, Nat.reduceLT, ob_hit, ob_skip, ob_set, ob_old, getD_map, Int.natCast_nonneg, true_and, and_true, int_zero, beq_self_eq_true, Int.toNat_zero, List.getD_cons_zero, List.getD_cons_succ, List.range_zero, List.mem_cons, List.not_mem_nil, or_false, forall_eq, forall_eq_or_imp, false_implies, implies_true, Nat.reduceMul, Option.isSome_some, bnd, or_true, Int.toNat_one, Int.le_refl, ge_iff_le, gt_iff_lt]; (repeat (with_reducible refine And.intro (by first | omega | assumption | rfl) ?_)))
          refine (new_r (l := pathB p) (by omega)).wf.mono ?_
          rintro _ T2 ⟨⟨k2, rfl, hk2, hk2', hR2, hob2⟩, hT2⟩
          (simp (disch := first | decide | omega | (simp only [add_next, set_next, grow_next, leave_next, List.length_map]; first | done | omega)) only [go_sem, ↓reduceIte, Nat.reduceBEq, Nat.reduceAdd, Nat.reduceLeDiff, Nat.reduceEqDiff, Nat.reduceLT, ob_hit, ob_skip, ob_set, ob_old, getD_map, Int.natCast_nonneg, true_and, and_true, int_zero, beq_self_eq_true, Int.toNat_zero, List.getD_cons_zero, List.getD_cons_succ, List.range_zero, List.mem_cons, List.not_mem_nil, or_false, forall_eq, forall_eq_or_imp, false_implies, implies_true, Nat.reduceMul, Option.isSome_some, bnd, or_true, Int.toNat_one, Int.le_refl, ge_iff_le, gt_iff_lt]; (repeat (with_reducible refine And.intro (by first | omega | assumption | rfl) ?_)))
          refine (read_r (rest := []) (i := 0) p hk2' hR2 (by omega) (by omega) (by simp) hR (fun x hx => (hp x hx).2)).wf.mono ?_
          rintro _ T3 ⟨⟨⟨o3, rfl⟩, hR3, hF3⟩, hT3⟩
          have hm3 := hF3.next
          (simp (disch := first | decide | omega | (simp only [add_next, set_next, grow_next, leave_next, List.length_map]; first | done | omega)) only [go_sem, ↓reduceIte, Nat.reduceBEq, Nat.reduceAdd, Nat.reduceLeDiff, Nat.reduceEqDiff, Nat.reduceLT, ob_hit, ob_skip, ob_set, ob_old, getD_map, Int.natCast_nonneg, true_and, and_true, int_zero, beq_self_eq_true, Int.toNat_zero, List.getD_cons_zero, List.getD_cons_succ, List.range_zero, List.mem_cons, List.not_mem_nil, or_false, forall_eq, forall_eq_or_imp, false_implies, implies_true, Nat.reduceMul, Option.isSome_some, bnd, or_true, Int.toNat_one, Int.le_refl, ge_iff_le, gt_iff_lt]; (repeat (with_reducible refine And.intro (by first | omega | assumption | rfl) ?_)))
          have hk13 : ∀ j o, T1.ob j = some o → T3.ob j = some o := fun j o e => by have := hT1.lt e; exact hF3.ob j o (by omega) (hob2 j o e)
          have hW3 : WAt S.next (pathB p) T3 := hW1.box (by omega) hT1 hk13
          refine (out_w hW3 (by omega)).wf.mono ?_
          rintro _ T4 ⟨⟨o4, rfl, hW4, hF4⟩, hT4⟩
          have hm4 := hF4.next
          (simp (disch := first | decide | omega | (simp only [add_next, set_next, grow_next, leave_next, List.length_map]; first | done | omega)) only [go_sem, ↓reduceIte, Nat.reduceBEq, Nat.reduceAdd, Nat.reduceLeDiff, Nat.reduceEqDiff, Nat.reduceLT, ob_hit, ob_skip, ob_set, ob_old, getD_map, Int.natCast_nonneg, true_and, and_true, int_zero, beq_self_eq_true, Int.toNat_zero, List.getD_cons_zero, List.getD_cons_succ, List.range_zero, List.mem_cons, List.not_mem_nil, or_false, forall_eq, forall_eq_or_imp, false_implies, implies_true, Nat.reduceMul, Option.isSome_some, bnd, or_true, Int.toNat_one, Int.le_refl, ge_iff_le, gt_iff_lt]; (repeat (with_reducible refine And.intro (by first | omega | assumption | rfl) ?_)))
          refine (refPathB_w own p hpl.1 hps).wf.mono ?_
          rintro _ T5 ⟨⟨o5, rfl, ho5, hn5, hob5⟩, hT5⟩
          have hs5 : S.Sub T5 := ⟨by have := hs1.next; omega, fun j o e => hob5 _ _ (hF4.ob j o (.inl (hS.lt e)) (hk13 _ _ (hs1.ob _ _ e)))⟩
          have hR5 : RAt k2 (pathB p) (pathB p).length T5 := by
            obtain ⟨ow, hrk⟩ := hR3
            rw [Nat.zero_add] at hrk
            exact ⟨ow, hob5 _ _ (hF4.box k2 _ _ (by omega) hrk)⟩
          (simp (disch := first | decide | omega | (simp only [add_next, set_next, grow_next, leave_next, List.length_map]; first | done | omega)) only [go_sem, ↓reduceIte, Nat.reduceBEq, Nat.reduceAdd, Nat.reduceLeDiff, Nat.reduceEqDiff, Nat.reduceLT, ob_hit, ob_skip, ob_set, ob_old, getD_map, Int.natCast_nonneg, true_and, and_true, int_zero, beq_self_eq_true, Int.toNat_zero, List.getD_cons_zero, List.getD_cons_succ, List.range_zero, List.mem_cons, List.not_mem_nil, or_false, forall_eq, forall_eq_or_imp, false_implies, implies_true, Nat.reduceMul, Option.isSome_some, bnd, or_true, Int.toNat_one, Int.le_refl, ge_iff_le, gt_iff_lt]; (repeat (with_reducible refine And.intro (by first | omega | assumption | rfl) ?_)))
          refine DCalls.of_pure (bytesEq_d o4 o5 (pathB p) (pathB p) (by omega) (by omega)) ?_
          rw [decide_eq_true (rfl : pathB p = pathB p)]
          (simp (disch := first | decide | omega | (simp only [add_next, set_next, grow_next, leave_next, List.length_map]; first | done | omega)) only [go_sem, ↓reduceIte, Nat.reduceBEq, Nat.reduceAdd, Nat.reduceLeDiff, Nat.reduceEqDiff, Nat.reduceLT, ob_hit, ob_skip, ob_set, ob_old, getD_map, Int.natCast_nonneg, true_and, and_true, int_zero, beq_self_eq_true, Int.toNat_zero, List.getD_cons_zero, List.getD_cons_succ, List.range_zero, List.mem_cons, List.not_mem_nil, or_false, forall_eq, forall_eq_or_imp, false_implies, implies_true, Nat.reduceMul, Option.isSome_some, bnd, or_true, Int.toNat_one, Int.le_refl, ge_iff_le, gt_iff_lt]; (repeat (with_reducible refine And.intro (by first | omega | assumption | rfl) ?_)))
          refine DCalls.of_pure (refSameP_d o3 own p p (by omega) (by omega)) ?_
          rw [decide_eq_true (rfl : p = p)]
          (simp (disch := first | decide | omega | (simp only [add_next, set_next, grow_next, leave_next, List.length_map]; first | done | omega)) only [go_sem, ↓reduceIte, Nat.reduceBEq, Nat.reduceAdd, Nat.reduceLeDiff, Nat.reduceEqDiff, Nat.reduceLT, ob_hit, ob_skip, ob_set, ob_old, getD_map, Int.natCast_nonneg, true_and, and_true, int_zero, beq_self_eq_true, Int.toNat_zero, List.getD_cons_zero, List.getD_cons_succ, List.range_zero, List.mem_cons, List.not_mem_nil, or_false, forall_eq, forall_eq_or_imp, false_implies, implies_true, Nat.reduceMul, Option.isSome_some, bnd, or_true, Int.toNat_one, Int.le_refl, ge_iff_le, gt_iff_lt]; (repeat (with_reducible refine And.intro (by first | omega | assumption | rfl) ?_)))
          refine (end_r hR5).mono ?_
          rintro _ T6 ⟨rfl, rfl⟩
          (simp (disch := first | decide | omega | (simp only [add_next, set_next, grow_next, leave_next, List.length_map]; first | done | omega)) only [go_sem, ↓reduceIte, Nat.reduceBEq, Nat.reduceAdd, Nat.reduceLeDiff, Nat.reduceEqDiff, Nat.reduceLT, ob_hit, ob_skip, ob_set, ob_old, getD_map, Int.natCast_nonneg, true_and, and_true, int_zero, beq_self_eq_true, Int.toNat_zero, List.getD_cons_zero, List.getD_cons_succ, List.range_zero, List.mem_cons, List.not_mem_nil, or_false, forall_eq, forall_eq_or_imp, false_implies, implies_true, Nat.reduceMul, Option.isSome_some, bnd, or_true, Int.toNat_one, Int.le_refl, ge_iff_le, gt_iff_lt]; (repeat (with_reducible refine And.intro (by first | omega | assumption | rfl) ?_)))
          refine DCalls.of_pure awake10_d ?_
          (simp (disch := first | decide | omega | (simp only [add_next, set_next, grow_next, leave_next, List.length_map]; first | done | omega)) only [go_sem, ↓reduceIte, Nat.reduceBEq, Nat.reduceAdd, Nat.reduceLeDiff, Nat.reduceEqDiff, Nat.reduceLT, ob_hit, ob_skip, ob_set, ob_old, getD_map, Int.natCast_nonneg, true_and, and_true, int_zero, beq_self_eq_true, Int.toNat_zero, List.getD_cons_zero, List.getD_cons_succ, List.range_zero, List.mem_cons, List.not_mem_nil, or_false, forall_eq, forall_eq_or_imp, false_implies, implies_true, Nat.reduceMul, Option.isSome_some, bnd, or_true, Int.toNat_one, Int.le_refl, ge_iff_le, gt_iff_lt]; (repeat (with_reducible refine And.intro (by first | omega | assumption | rfl) ?_)))
          refine ⟨?_, (by (repeat' first | exact St.Sub.refl _ | assumption | (exact RowOk.sub (by assumption) (by assumption)) | (refine St.Sub.trans ?_ (RowOk.sub (by assumption) (by assumption))) | (exact St.Sub.keep (St.Sub.refl _) (by first | assumption | (first | omega | (simp only [RowOk.lo, add_next, set_next, grow_next, leave_next]; first | done | omega)))) | refine St.Sub.add ?_ (by (repeat' first | assumption | refine St.WF.leave ?_ _ | refine St.WF.add ?_ _ | refine St.WF.set ?_ (by (first | omega | (simp only [RowOk.lo, add_next, set_next, grow_next, leave_next]; first | done | omega))) _ | refine St.WF.grow ?_ _ _ _ | refine St.WF.keep ?_ (by first | assumption | (first | omega | (simp only [RowOk.lo, add_next, set_next, grow_next, leave_next]; first | done | omega))))) _ | refine St.Sub.set ?_ (by (repeat' first | assumption | refine St.WF.leave ?_ _ | refine St.WF.add ?_ _ | refine St.WF.set ?_ (by (first | omega | (simp only [RowOk.lo, add_next, set_next, grow_next, leave_next]; first | done | omega))) _ | refine St.WF.grow ?_ _ _ _ | refine St.WF.keep ?_ (by first | assumption | (first | omega | (simp only [RowOk.lo, add_next, set_next, grow_next, leave_next]; first | done | omega))))) (by (first | omega | (simp only [RowOk.lo, add_next, set_next, grow_next, leave_next]; first | done | omega))) _ | refine St.Sub.keep ?_ (by first | assumption | (first | omega | (simp only [RowOk.lo, add_next, set_next, grow_next, leave_next]; first | done | omega)))))⟩
          rfl
      · have c1 : decide ((p.length : Int) ≤ (q.length : Int)) = false := by simp; omega
        (simp (disch := first | decide | omega | (simp only [add_next, set_next, grow_next, leave_next, List.length_map]; first | done | omega)) only [go_sem, ↓reduceIte, Nat.reduceBEq, Nat.reduceAdd, Nat.reduceLeDiff, Nat.reduceEqDiff, Nat.reduceLT, ob_hit, ob_skip, ob_set, ob_old, getD_map, Int.natCast_nonneg, true_and, and_true, int_zero, beq_self_eq_true, Int.toNat_zero, List.getD_cons_zero, List.getD_cons_succ, List.range_zero, List.mem_cons, List.not_mem_nil, or_false, forall_eq, forall_eq_or_imp, false_implies, implies_true, Nat.reduceMul, Option.isSome_some, bnd, or_true, Int.toNat_one, Int.le_refl, ge_iff_le, gt_iff_lt, c1]; (repeat (with_reducible refine And.intro (by first | omega | assumption | rfl) ?_)))
        refine DCalls.of_pure (begins_d own own2 p q (by omega) (by omega)) ?_
        have hbb : begB p q = false := by rw [begB, decide_eq_false hl, Bool.false_and]
        rw [hbb]
        have bs : (false != false) = false := rfl
        (simp (disch := first | decide | omega | (simp only [add_next, set_next, grow_next, leave_next, List.length_map]; first | done | omega)) only [go_sem, ↓reduceIte, Nat.reduceBEq, Nat.reduceAdd, Nat.reduceLeDiff, Nat.reduceEqDiff, Nat.reduceLT, ob_hit, ob_skip, ob_set, ob_old, getD_map, Int.natCast_nonneg, true_and, and_true, int_zero, beq_self_eq_true, Int.toNat_zero, List.getD_cons_zero, List.getD_cons_succ, List.range_zero, List.mem_cons, List.not_mem_nil, or_false, forall_eq, forall_eq_or_imp, false_implies, implies_true, Nat.reduceMul, Option.isSome_some, bnd, or_true, Int.toNat_one, Int.le_refl, ge_iff_le, gt_iff_lt, bin_bneq, bs]; (repeat (with_reducible refine And.intro (by first | omega | assumption | rfl) ?_)))
        refine DCalls.of_pure (refRight_d own p (by omega) hpm) ?_
        cases hR : rightP p
        · (simp (disch := first | decide | omega | (simp only [add_next, set_next, grow_next, leave_next, List.length_map]; first | done | omega)) only [go_sem, ↓reduceIte, Nat.reduceBEq, Nat.reduceAdd, Nat.reduceLeDiff, Nat.reduceEqDiff, Nat.reduceLT, ob_hit, ob_skip, ob_set, ob_old, getD_map, Int.natCast_nonneg, true_and, and_true, int_zero, beq_self_eq_true, Int.toNat_zero, List.getD_cons_zero, List.getD_cons_succ, List.range_zero, List.mem_cons, List.not_mem_nil, or_false, forall_eq, forall_eq_or_imp, false_implies, implies_true, Nat.reduceMul, Option.isSome_some, bnd, or_true, Int.toNat_one, Int.le_refl, ge_iff_le, gt_iff_lt]; (repeat (with_reducible refine And.intro (by first | omega | assumption | rfl) ?_)))
          rw [writeB, if_neg (by rw [hR]; decide)] at hW
          refine (out_w hW (by simp)).wf.mono ?_
          rintro _ T1 ⟨⟨o1, rfl, hW1, hF1⟩, hT1⟩
          have hs1 : S.Sub T1 := ⟨Nat.le_trans hsubT.next hF1.next, fun j o e => hF1.ob j o (.inl (hS.lt e)) (hsubT.ob j o e)⟩
          (simp (disch := first | decide | omega | (simp only [add_next, set_next, grow_next, leave_next, List.length_map]; first | done | omega)) only [go_sem, ↓reduceIte, Nat.reduceBEq, Nat.reduceAdd, Nat.reduceLeDiff, Nat.reduceEqDiff, Nat.reduceLT, ob_hit, ob_skip, ob_set, ob_old, getD_map, Int.natCast_nonneg, true_and, and_true, int_zero, beq_self_eq_true, Int.toNat_zero, List.getD_cons_zero, List.getD_cons_succ, List.range_zero, List.mem_cons, List.not_mem_nil, or_false, forall_eq, forall_eq_or_imp, false_implies, implies_true, Nat.reduceMul, Option.isSome_some, bnd, or_true, Int.toNat_one, Int.le_refl, ge_iff_le, gt_iff_lt]; (repeat (with_reducible refine And.intro (by first | omega | assumption | rfl) ?_)))
          refine DCalls.of_pure awake10_d ?_
          (simp (disch := first | decide | omega | (simp only [add_next, set_next, grow_next, leave_next, List.length_map]; first | done | omega)) only [go_sem, ↓reduceIte, Nat.reduceBEq, Nat.reduceAdd, Nat.reduceLeDiff, Nat.reduceEqDiff, Nat.reduceLT, ob_hit, ob_skip, ob_set, ob_old, getD_map, Int.natCast_nonneg, true_and, and_true, int_zero, beq_self_eq_true, Int.toNat_zero, List.getD_cons_zero, List.getD_cons_succ, List.range_zero, List.mem_cons, List.not_mem_nil, or_false, forall_eq, forall_eq_or_imp, false_implies, implies_true, Nat.reduceMul, Option.isSome_some, bnd, or_true, Int.toNat_one, Int.le_refl, ge_iff_le, gt_iff_lt]; (repeat (with_reducible refine And.intro (by first | omega | assumption | rfl) ?_)))
          refine ⟨?_, (by (repeat' first | exact St.Sub.refl _ | assumption | (exact RowOk.sub (by assumption) (by assumption)) | (refine St.Sub.trans ?_ (RowOk.sub (by assumption) (by assumption))) | (exact St.Sub.keep (St.Sub.refl _) (by first | assumption | (first | omega | (simp only [RowOk.lo, add_next, set_next, grow_next, leave_next]; first | done | omega)))) | refine St.Sub.add ?_ (by (repeat' first | assumption | refine St.WF.leave ?_ _ | refine St.WF.add ?_ _ | refine St.WF.set ?_ (by (first | omega | (simp only [RowOk.lo, add_next, set_next, grow_next, leave_next]; first | done | omega))) _ | refine St.WF.grow ?_ _ _ _ | refine St.WF.keep ?_ (by first | assumption | (first | omega | (simp only [RowOk.lo, add_next, set_next, grow_next, leave_next]; first | done | omega))))) _ | refine St.Sub.set ?_ (by (repeat' first | assumption | refine St.WF.leave ?_ _ | refine St.WF.add ?_ _ | refine St.WF.set ?_ (by (first | omega | (simp only [RowOk.lo, add_next, set_next, grow_next, leave_next]; first | done | omega))) _ | refine St.WF.grow ?_ _ _ _ | refine St.WF.keep ?_ (by first | assumption | (first | omega | (simp only [RowOk.lo, add_next, set_next, grow_next, leave_next]; first | done | omega))))) (by (first | omega | (simp only [RowOk.lo, add_next, set_next, grow_next, leave_next]; first | done | omega))) _ | refine St.Sub.keep ?_ (by first | assumption | (first | omega | (simp only [RowOk.lo, add_next, set_next, grow_next, leave_next]; first | done | omega)))))⟩
          rfl
        · (simp (disch := first | decide | omega | (simp only [add_next, set_next, grow_next, leave_next, List.length_map]; first | done | omega)) only [go_sem, ↓reduceIte, Nat.reduceBEq, Nat.reduceAdd, Nat.reduceLeDiff, Nat.reduceEqDiff, Nat.reduceLT, ob_hit, ob_skip, ob_set, ob_old, getD_map, Int.natCast_nonneg, true_and, and_true, int_zero, beq_self_eq_true, Int.toNat_zero, List.getD_cons_zero, List.getD_cons_succ, List.range_zero, List.mem_cons, List.not_mem_nil, or_false, forall_eq, forall_eq_or_imp, false_implies, implies_true, Nat.reduceMul, Option.isSome_some, bnd, or_true, Int.toNat_one, Int.le_refl, ge_iff_le, gt_iff_lt]; (repeat (with_reducible refine And.intro (by first | omega | assumption | rfl) ?_)))
          rw [writeB, if_pos hR] at hW
          refine (out_w hW (by omega)).wf.mono ?_
          rintro _ T1 ⟨⟨o1, rfl, hW1, hF1⟩, hT1⟩
          have hs1 : S.Sub T1 := ⟨Nat.le_trans hsubT.next hF1.next, fun j o e => hF1.ob j o (.inl (hS.lt e)) (hsubT.ob j o e)⟩
          have hm1 := hF1.next
          (simp (disch := first | decide | omega | (simp only [add_next, set_next, grow_next, leave_next, List.length_map]; first | done | omega)) only [go_sem, ↓reduceIte, Nat.reduceBEq, Nat.reduceAdd, Nat.reduceLeDiff, Nat.reduceEqDiff, Nat.reduceLT, ob_hit, ob_skip, ob_set, ob_old, getD_map, Int.natCast_nonneg, true_and, and_true, int_zero, beq_self_eq_true, Int.toNat_zero, List.getD_cons_zero, List.getD_cons_succ, List.range_zero, List.mem_cons, List.not_mem_nil, or_false, forall_eq, forall_eq_or_imp, false_implies, implies_true, Nat.reduceMul, Option.isSome_some, bnd, or_true, Int.toNat_one, Int.le_refl, ge_iff_le, gt_iff_lt]; (repeat (with_reducible refine And.intro (by first | omega | assumption | rfl) ?_)))
          refine (new_r (l := pathB p) (by omega)).wf.mono ?_
          rintro _ T2 ⟨⟨k2, rfl, hk2, hk2', hR2, hob2⟩, hT2⟩
          (simp (disch := first | decide | omega | (simp only [add_next, set_next, grow_next, leave_next, List.length_map]; first | done | omega)) only [go_sem, ↓reduceIte, Nat.reduceBEq, Nat.reduceAdd, Nat.reduceLeDiff, Nat.reduceEqDiff, Nat.reduceLT, ob_hit, ob_skip, ob_set, ob_old, getD_map, Int.natCast_nonneg, true_and, and_true, int_zero, beq_self_eq_true, Int.toNat_zero, List.getD_cons_zero, List.getD_cons_succ, List.range_zero, List.mem_cons, List.not_mem_nil, or_false, forall_eq, forall_eq_or_imp, false_implies, implies_true, Nat.reduceMul, Option.isSome_some, bnd, or_true, Int.toNat_one, Int.le_refl, ge_iff_le, gt_iff_lt]; (repeat (with_reducible refine And.intro (by first | omega | assumption | rfl) ?_)))
          refine (read_r (rest := []) (i := 0) p hk2' hR2 (by omega) (by omega) (by simp) hR (fun x hx => (hp x hx).2)).wf.mono ?_
          rintro _ T3 ⟨⟨⟨o3, rfl⟩, hR3, hF3⟩, hT3⟩
          have hm3 := hF3.next
          (simp (disch := first | decide | omega | (simp only [add_next, set_next, grow_next, leave_next, List.length_map]; first | done | omega)) only [go_sem, ↓reduceIte, Nat.reduceBEq, Nat.reduceAdd, Nat.reduceLeDiff, Nat.reduceEqDiff, Nat.reduceLT, ob_hit, ob_skip, ob_set, ob_old, getD_map, Int.natCast_nonneg, true_and, and_true, int_zero, beq_self_eq_true, Int.toNat_zero, List.getD_cons_zero, List.getD_cons_succ, List.range_zero, List.mem_cons, List.not_mem_nil, or_false, forall_eq, forall_eq_or_imp, false_implies, implies_true, Nat.reduceMul, Option.isSome_some, bnd, or_true, Int.toNat_one, Int.le_refl, ge_iff_le, gt_iff_lt]; (repeat (with_reducible refine And.intro (by first | omega | assumption | rfl) ?_)))
          have hk13 : ∀ j o, T1.ob j = some o → T3.ob j = some o := fun j o e => by have := hT1.lt e; exact hF3.ob j o (by omega) (hob2 j o e)
          have hW3 : WAt S.next (pathB p) T3 := hW1.box (by omega) hT1 hk13
          refine (out_w hW3 (by omega)).wf.mono ?_
          rintro _ T4 ⟨⟨o4, rfl, hW4, hF4⟩, hT4⟩
          have hm4 := hF4.next
          (simp (disch := first | decide | omega | (simp only [add_next, set_next, grow_next, leave_next, List.length_map]; first | done | omega)) only [go_sem, ↓reduceIte, Nat.reduceBEq, Nat.reduceAdd, Nat.reduceLeDiff, Nat.reduceEqDiff, Nat.reduceLT, ob_hit, ob_skip, ob_set, ob_old, getD_map, Int.natCast_nonneg, true_and, and_true, int_zero, beq_self_eq_true, Int.toNat_zero, List.getD_cons_zero, List.getD_cons_succ, List.range_zero, List.mem_cons, List.not_mem_nil, or_false, forall_eq, forall_eq_or_imp, false_implies, implies_true, Nat.reduceMul, Option.isSome_some, bnd, or_true, Int.toNat_one, Int.le_refl, ge_iff_le, gt_iff_lt]; (repeat (with_reducible refine And.intro (by first | omega | assumption | rfl) ?_)))
          refine (refPathB_w own p hpl.1 hps).wf.mono ?_
          rintro _ T5 ⟨⟨o5, rfl, ho5, hn5, hob5⟩, hT5⟩
          have hs5 : S.Sub T5 := ⟨by have := hs1.next; omega, fun j o e => hob5 _ _ (hF4.ob j o (.inl (hS.lt e)) (hk13 _ _ (hs1.ob _ _ e)))⟩
          have hR5 : RAt k2 (pathB p) (pathB p).length T5 := by
            obtain ⟨ow, hrk⟩ := hR3
            rw [Nat.zero_add] at hrk
            exact ⟨ow, hob5 _ _ (hF4.box k2 _ _ (by omega) hrk)⟩
          (simp (disch := first | decide | omega | (simp only [add_next, set_next, grow_next, leave_next, List.length_map]; first | done | omega)) only [go_sem, ↓reduceIte, Nat.reduceBEq, Nat.reduceAdd, Nat.reduceLeDiff, Nat.reduceEqDiff, Nat.reduceLT, ob_hit, ob_skip, ob_set, ob_old, getD_map, Int.natCast_nonneg, true_and, and_true, int_zero, beq_self_eq_true, Int.toNat_zero, List.getD_cons_zero, List.getD_cons_succ, List.range_zero, List.mem_cons, List.not_mem_nil, or_false, forall_eq, forall_eq_or_imp, false_implies, implies_true, Nat.reduceMul, Option.isSome_some, bnd, or_true, Int.toNat_one, Int.le_refl, ge_iff_le, gt_iff_lt]; (repeat (with_reducible refine And.intro (by first | omega | assumption | rfl) ?_)))
          refine DCalls.of_pure (bytesEq_d o4 o5 (pathB p) (pathB p) (by omega) (by omega)) ?_
          rw [decide_eq_true (rfl : pathB p = pathB p)]
          (simp (disch := first | decide | omega | (simp only [add_next, set_next, grow_next, leave_next, List.length_map]; first | done | omega)) only [go_sem, ↓reduceIte, Nat.reduceBEq, Nat.reduceAdd, Nat.reduceLeDiff, Nat.reduceEqDiff, Nat.reduceLT, ob_hit, ob_skip, ob_set, ob_old, getD_map, Int.natCast_nonneg, true_and, and_true, int_zero, beq_self_eq_true, Int.toNat_zero, List.getD_cons_zero, List.getD_cons_succ, List.range_zero, List.mem_cons, List.not_mem_nil, or_false, forall_eq, forall_eq_or_imp, false_implies, implies_true, Nat.reduceMul, Option.isSome_some, bnd, or_true, Int.toNat_one, Int.le_refl, ge_iff_le, gt_iff_lt]; (repeat (with_reducible refine And.intro (by first | omega | assumption | rfl) ?_)))
          refine DCalls.of_pure (refSameP_d o3 own p p (by omega) (by omega)) ?_
          rw [decide_eq_true (rfl : p = p)]
          (simp (disch := first | decide | omega | (simp only [add_next, set_next, grow_next, leave_next, List.length_map]; first | done | omega)) only [go_sem, ↓reduceIte, Nat.reduceBEq, Nat.reduceAdd, Nat.reduceLeDiff, Nat.reduceEqDiff, Nat.reduceLT, ob_hit, ob_skip, ob_set, ob_old, getD_map, Int.natCast_nonneg, true_and, and_true, int_zero, beq_self_eq_true, Int.toNat_zero, List.getD_cons_zero, List.getD_cons_succ, List.range_zero, List.mem_cons, List.not_mem_nil, or_false, forall_eq, forall_eq_or_imp, false_implies, implies_true, Nat.reduceMul, Option.isSome_some, bnd, or_true, Int.toNat_one, Int.le_refl, ge_iff_le, gt_iff_lt]; (repeat (with_reducible refine And.intro (by first | omega | assumption | rfl) ?_)))
          refine (end_r hR5).mono ?_
          rintro _ T6 ⟨rfl, rfl⟩
          (simp (disch := first | decide | omega | (simp only [add_next, set_next, grow_next, leave_next, List.length_map]; first | done | omega)) only [go_sem, ↓reduceIte, Nat.reduceBEq, Nat.reduceAdd, Nat.reduceLeDiff, Nat.reduceEqDiff, Nat.reduceLT, ob_hit, ob_skip, ob_set, ob_old, getD_map, Int.natCast_nonneg, true_and, and_true, int_zero, beq_self_eq_true, Int.toNat_zero, List.getD_cons_zero, List.getD_cons_succ, List.range_zero, List.mem_cons, List.not_mem_nil, or_false, forall_eq, forall_eq_or_imp, false_implies, implies_true, Nat.reduceMul, Option.isSome_some, bnd, or_true, Int.toNat_one, Int.le_refl, ge_iff_le, gt_iff_lt]; (repeat (with_reducible refine And.intro (by first | omega | assumption | rfl) ?_)))
          refine DCalls.of_pure awake10_d ?_
          (simp (disch := first | decide | omega | (simp only [add_next, set_next, grow_next, leave_next, List.length_map]; first | done | omega)) only [go_sem, ↓reduceIte, Nat.reduceBEq, Nat.reduceAdd, Nat.reduceLeDiff, Nat.reduceEqDiff, Nat.reduceLT, ob_hit, ob_skip, ob_set, ob_old, getD_map, Int.natCast_nonneg, true_and, and_true, int_zero, beq_self_eq_true, Int.toNat_zero, List.getD_cons_zero, List.getD_cons_succ, List.range_zero, List.mem_cons, List.not_mem_nil, or_false, forall_eq, forall_eq_or_imp, false_implies, implies_true, Nat.reduceMul, Option.isSome_some, bnd, or_true, Int.toNat_one, Int.le_refl, ge_iff_le, gt_iff_lt]; (repeat (with_reducible refine And.intro (by first | omega | assumption | rfl) ?_)))
          refine ⟨?_, (by (repeat' first | exact St.Sub.refl _ | assumption | (exact RowOk.sub (by assumption) (by assumption)) | (refine St.Sub.trans ?_ (RowOk.sub (by assumption) (by assumption))) | (exact St.Sub.keep (St.Sub.refl _) (by first | assumption | (first | omega | (simp only [RowOk.lo, add_next, set_next, grow_next, leave_next]; first | done | omega)))) | refine St.Sub.add ?_ (by (repeat' first | assumption | refine St.WF.leave ?_ _ | refine St.WF.add ?_ _ | refine St.WF.set ?_ (by (first | omega | (simp only [RowOk.lo, add_next, set_next, grow_next, leave_next]; first | done | omega))) _ | refine St.WF.grow ?_ _ _ _ | refine St.WF.keep ?_ (by first | assumption | (first | omega | (simp only [RowOk.lo, add_next, set_next, grow_next, leave_next]; first | done | omega))))) _ | refine St.Sub.set ?_ (by (repeat' first | assumption | refine St.WF.leave ?_ _ | refine St.WF.add ?_ _ | refine St.WF.set ?_ (by (first | omega | (simp only [RowOk.lo, add_next, set_next, grow_next, leave_next]; first | done | omega))) _ | refine St.WF.grow ?_ _ _ _ | refine St.WF.keep ?_ (by first | assumption | (first | omega | (simp only [RowOk.lo, add_next, set_next, grow_next, leave_next]; first | done | omega))))) (by (first | omega | (simp only [RowOk.lo, add_next, set_next, grow_next, leave_next]; first | done | omega))) _ | refine St.Sub.keep ?_ (by first | assumption | (first | omega | (simp only [RowOk.lo, add_next, set_next, grow_next, leave_next]; first | done | omega)))))⟩
          rfl
theorem pathBytes_calls (p q : List DStp) (x y : Value) (w : World) (hp : ∀ z ∈ p, z.1.length ≤ maxLen ∧ IsU64 z.2) (hq : ∀ z ∈ q, z.1.length ≤ maxLen ∧ IsU64 z.2) (hx : ∀ (η : Names) (X : Nat → Nat → Prop), (∀ b i, X b i) → Rep Try.prog w η X (.sl .no (p.map encP)) x) (hy : ∀ (η : Names) (X : Nat → Nat → Prop), (∀ b i, X b i) → Rep Try.prog w η X (.sl .no (q.map encP)) y) :
    Calls Try.prog 10 #[x, y] w (Gives (.bool true) w) :=
  gives_of_dpure (vs := [x, y]) (pathBytes_d .no .no p q hp hq) (by
    simp only [RepL]
    exact ⟨_, _, rfl, hx _ _ (fun b i => fix_nil b i), _, _, rfl, hy _ _ (fun b i => fix_nil b i), rfl⟩)
end Go.Proofs.Ytpnjkebjdclkfaa

/- PathBytes answers true for any two paths, and leaves its arguments as they were. Conditions: none but the statement's own. -/
namespace Go.Proofs.Ytpnjkebjdclkfaa
open Go.ChangeShapes Go.WideShapes Go.ChangeAt Go.RowKit
theorem steps_u64 {l : List DStp} (h : ∀ q ∈ l, q.1.length ≤ maxLen ∧ U64 (q.2 : Int)) : ∀ q ∈ l, q.1.length ≤ maxLen ∧ IsU64 q.2 := fun q hq => ⟨(h q hq).1, by have := bounds_u64 (h q hq).2; unfold IsU64; omega⟩
theorem pathBytes_own : ownKnob Try.prog.godebug = none := by kernel_rfl
theorem pathBytes_laidOut : laidOutB Try.prog = true := by kernel_rfl
set_option maxRecDepth 100000 in
theorem pathBytes_lifted (os : Os) (started : os.Started) (H : Type) (enc : TypeId × Value → H) :
    ReturnsInHanded {} Try.checked os 10 .any (Rows.pathBytesSpec.pre6 enc Try.prog Try.f10 Rows.pathBytesRow.domain false) (Rows.pathBytesSpec.post enc Try.prog Try.f10 false true false false) := by
  refine returnsInHanded_of_change_sized (C := Try.checked) pathBytes_own started (by kernel_rfl) Try.func10
    (ChangeSpec.witness6 (enc := enc) (C := Try.checked) false ⟨#[], #[.slice none 0 0, .slice none 0 0], []⟩ 8 (by kernel_rfl) (by kernel_rfl) (by kernel_rfl) (by kernel_rfl)) ?_
  intro W base args ds gs before hval0 hW hcnd hsz0 _
  have hval : ∀ (j : Nat) t v, Try.f10.params[j]? = some t → args[j]? = some v → Value.okWide Try.prog W .any base t v := hval0
  have hsz : (DataW.weightsEach Try.prog (Try.f10.params.toList ++ Rows.pathBytesSpec.plain.varTypes Try.prog) (ds ++ gs)).all (· ≤ reachBytes) = true := hsz0
  have hW' := hW
  obtain ⟨p, q, hA0, hV, rfl, hfz, hnd⟩ := hW
  have hA : DataW.TrodAll enc Try.prog W 0 (fun _ => true) true Try.f10.params.toList args.toList ds p := hA0
  obtain ⟨rfl, rfl⟩ := trodVars_none hV
  rw [Try.params10] at hA hval hsz
  have hA1 := hA
  obtain ⟨v0, vs0, d0, ds0, p0, q0, hargs, rfl, rfl, h0, r0⟩ := trodAll_cons hA
  obtain ⟨v1, vs1, d1, ds1, p1, q1, rfl, rfl, rfl, h1, r1⟩ := trodAll_cons r0
  obtain ⟨rfl, rfl, rfl⟩ := trodAll_nil r1
  obtain rfl : args = #[v0, v1] := by cases args; simp_all
  have z0 : Sized Try.prog 42 d0 := sized_of_each (j := 0) hsz rfl rfl
  have k0 : Value.okWide Try.prog W .any base 42 v0 := hval 0 _ _ rfl rfl
  have z1 : Sized Try.prog 42 d1 := sized_of_each (j := 1) hsz rfl rfl
  have k1 : Value.okWide Try.prog W .any base 42 v1 := hval 1 _ _ rfl rfl
  clear hA0 hval0 hsz hsz0 hval
  have key : Calls Try.prog 10 #[v0, v1] W (Gives (.bool true) W) := by
    obtain ⟨l, hu, hp⟩ := open_steps h0 z0 k0
    obtain ⟨m, hv, hq⟩ := open_steps h1 z1 k1
    exact pathBytes_calls l m _ _ W (steps_u64 hu) (steps_u64 hv) hp hq
  refine key.mono fun e W' ⟨he, bel⟩ => ?_
  subst he
  exact ⟨_, rfl, _, _, _, [], _, [], hW', trodAll_mk1 (shut_bool Try.underlying4 _), trodAll_below pathBytes_laidOut bel (by kernel_rfl) hA1, rfl, bel.frame _, fun h => by cases h⟩

theorem pathBytes_holds : Rows.PathBytesSaid :=
  OpenClaim.holds_of_wide 10 Try.f10 rfl rfl rfl rfl rfl rfl rfl ⟨rfl, rfl, rfl, rfl, rfl⟩ rfl rfl rfl rfl rfl (by kernel_rfl) Try.func10 (by kernel_rfl)
    (of_decide_eq_true (by kernel_rfl)) (by unfold Func.isWrapper; first | (rw [if_pos (by decide +kernel)]; kernel_rfl) | (rw [if_neg (by decide +kernel)]; exact ⟨rfl, rfl⟩))
    (fun os started H enc _ => pathBytes_lifted os started H enc)
#print axioms pathBytes_holds
end Go.Proofs.Ytpnjkebjdclkfaa
