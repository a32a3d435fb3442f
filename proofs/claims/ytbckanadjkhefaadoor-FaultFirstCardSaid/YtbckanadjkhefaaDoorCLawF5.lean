/- Texts of a proof, part 5. Conditions: none. -/
import Derived.Test.YtbckanadjkhefaaDoorCLawF4
import Derived.Stop.Asserts
set_option linter.unusedVariables false
set_option linter.unusedSimpArgs false
/- errors.As at the program's errors, walked. Conditions: none. -/
namespace Go.Proofs.YtbckanadjkhefaaDoor
open Go.RowKit
set_option linter.unusedSimpArgs false
set_option linter.unusedVariables false
@[go_sem] theorem bnil_eq (k : Nat) : dbin Tryd.prog .eql 24 (.tmp k) (.const .nilIface) (.v .nilIface) (.v .nilIface) = some (True, .v (.bool true)) := by kernel_rfl
@[go_sem] theorem bnil_ne (k : Nat) : dbin Tryd.prog .neq 24 (.tmp k) (.const .nilIface) (.v .nilIface) (.v .nilIface) = some (True, .v (.bool false)) := by kernel_rfl
@[go_sem] theorem bpnil_eq (k : Nat) : dbin Tryd.prog .eql 38 (.tmp k) (.const (.pointer none)) (.v (.pointer none)) (.v (.pointer none)) = some (True, .v (.bool true)) := by kernel_rfl
@[go_sem] theorem bpnil_ne (k : Nat) : dbin Tryd.prog .neq 38 (.tmp k) (.const (.pointer none)) (.v (.pointer none)) (.v (.pointer none)) = some (True, .v (.bool false)) := by kernel_rfl
/-- A contract at one state, by the walk of its body. -/
theorem dat_of_dwp {P : Program} (hm : P.follows .mixedOrders = true) {g : FuncId} {fn : Func} {c : Code} (hf : P.funcs[g]? = some fn) (hb : fn.body = some c) (hent : ∀ vs w, (callFunc g vs).run P w = .ok (.enter g vs) w) {rs : List ResultVar} (hrs : fn.results.toList = rs) {args : List D} (hok : (codeOk fn.ntmps c && fn.results.all (resOk fn.ntmps) && Nat.ble args.length fn.ntmps) = true) {d : D} (hc : d.closed) {S : St}
    (h : S.WF → dwp P c (DQ.pfin P rs S d) (argF args) S) : DAt P g args S d :=
  dcalls_of_dwp hm hf hb hent hrs hok fun hw => dwp_mono c (pfin_fin hw hc) (h hw)
theorem Chain.fn {S : St} {ps : List Int} {n : Int} {d : D} (hc : Chain S ps n d) : ∃ e : Nat → D, e 0 = d ∧ e ps.length = erD n ∧ ∀ i (h : i < ps.length), ∃ k, e i = atD k ∧ S.ob k = some (.box 42 [.v (.int .i64 ps[i]), e (i + 1)]) := by
  induction hc with
  | code n => exact ⟨fun _ => erD n, rfl, rfl, fun i h => absurd h (Nat.not_lt_zero _)⟩
  | @at_ p ps n k d hk _ ih =>
    obtain ⟨e, e0, en, h⟩ := ih
    refine ⟨fun i => match i with | 0 => atD k | i + 1 => e i, rfl, en, fun i hi => ?_⟩
    cases i with
    | zero => exact ⟨k, rfl, by rw [hk, ← e0]; rfl⟩
    | succ i => exact h i (Nat.lt_of_succ_lt_succ hi)
theorem unwrap_at {S : St} {K : D → St → Prop} {k : Nat} {p d : D} (hp : p.width = 1) (hk : S.ob k = some (.box 42 [p, d])) (h : K d S) : DCalls Tryd.prog 18 [.loc k 0] S K := by
  refine dcalls_inline mixed Tryd.func18 rfl (fun _ _ => by kernel_rfl) (rs := [.tmp 2]) rfl (by kernel_rfl) (fun hS => ?_)
  (simp (disch := first | decide | omega | (simp only [add_next, set_next, grow_next, leave_next, drop_next, List.length_map]; first | done | omega)) only [go_sem, ↓reduceIte, Nat.reduceBEq, Nat.reduceAdd, Nat.reduceLeDiff, Nat.reduceEqDiff, Nat.reduceLT, Nat.reduceMul, hk]; (repeat (with_reducible refine And.intro (by first | omega | assumption | rfl) ?_)))
  exact h
set_option maxRecDepth 200000 in
set_option maxHeartbeats 4000000 in
theorem asWalkEr {S : St} {ps : List Int} {n : Int} {d x0 : D} {kb kc : Nat} {K : D → St → Prop} (hc : Chain S ps n d) (hk : S.ob kc = some (.box 29 [x0])) (hb : S.ob kb = some (.box 55 [.loc kc 0])) (hl : ps.length < 1000000)
    (h : ∀ T, S.next ≤ T.next → T.WF → (∀ j o, j ≠ kc → S.ob j = some o → T.ob j = some o) → T.ob kc = some (.box 29 [.v (.int .i64 n)]) → K (.v (.bool true)) T) :
    DCalls Tryd.prog 29 [d, .ifc 55 (.loc kc 0), .agg [.v (tyV 55), .loc kb 0, .v (.int .u64 150)], rtD 29] S K := by
  obtain ⟨e, e0, en, he⟩ := hc.fn
  refine dcalls_inline mixed Tryd.func29 rfl (fun _ _ => by kernel_rfl) (rs := [.tmp 8]) rfl (by kernel_rfl) (fun hS => ?_)
  (simp (disch := first | decide | omega | (simp only [add_next, set_next, grow_next, leave_next, drop_next, List.length_map]; first | done | omega)) only [go_sem, ↓reduceIte, Nat.reduceBEq, Nat.reduceAdd, Nat.reduceLeDiff, Nat.reduceEqDiff, Nat.reduceLT, Nat.reduceMul]; (repeat (with_reducible refine And.intro (by first | omega | assumption | rfl) ?_)))
  (refine dloop_st (fun t => List.contains [0, 8, 9, 10, 11, 12, 14, 15, 16, 17, 18, 19, 20, 21, 22, 23, 24, 25, 26, 27, 28, 29, 30, 31, 32, 33, 34, 35, 36, 37, 38, 39, 40, 41, 42, 43, 44, 45, 46, 47, 48, 49, 50, 51, 52, 53, 54, 55, 56, 57, 58, 59, 60, 61] t) (by kernel_rfl) ?_ (ps.length) (fun i f => i ≤ ps.length ∧ f 0 = e i ∧ f 8 = .v (.bool false)) ?_ ?_; (exact (by (repeat' first | assumption | refine St.WF.leave ?_ _ | refine St.WF.add ?_ _ | refine St.WF.set ?_ ?_ _ | refine St.WF.grow ?_ _ _ _ | refine St.WF.keep ?_ ?_ | (first | omega | (simp only [RowOk.lo, add_next, set_next, grow_next, leave_next, drop_next]; first | done | omega))))); (exact ⟨(by omega), (by (first | (simp (disch := first | decide | omega | (simp only [add_next, set_next, grow_next, leave_next, drop_next, List.length_map]; first | done | omega)) only [go_sem, ↓reduceIte, Nat.reduceBEq, Nat.reduceAdd, Nat.reduceLeDiff, Nat.reduceEqDiff, Nat.reduceLT, Nat.reduceMul, e0]; first | done | rfl) | rfl)), (by (first | (simp (disch := first | decide | omega | (simp only [add_next, set_next, grow_next, leave_next, drop_next, List.length_map]; first | done | omega)) only [go_sem, ↓reduceIte, Nat.reduceBEq, Nat.reduceAdd, Nat.reduceLeDiff, Nat.reduceEqDiff, Nat.reduceLT, Nat.reduceMul, e0]; first | done | rfl) | rfl))⟩); intro i g tn hn hT hg hI; obtain ⟨le, q0, q8⟩ := hI; have q1 := hg 1 rfl; have q3 := hg 3 rfl; have q6 := hg 6 rfl; simp (disch := first | decide | omega | (simp only [add_next, set_next, grow_next, leave_next, drop_next, List.length_map]; first | done | omega)) only [go_sem, ↓reduceIte, Nat.reduceBEq, Nat.reduceAdd, Nat.reduceLeDiff, Nat.reduceEqDiff, Nat.reduceLT, Nat.reduceMul, e0] at q1 q3 q6; clear hg; have hn' := hn; try simp only [add_next, set_next, grow_next, leave_next, drop_next] at hn')
  have hB : ∀ j o, S.ob j = some o → (St.mk tn (S.add (.box 64 [.v (tyV 55), .loc kb 0, .v (.int .u64 150)])).ob).ob j = some o := fun j o ho => by
    have hkl := hS.lt ho
    show (if j = S.next then _ else S.ob j) = _
    rw [if_neg (by omega), ho]
  by_cases hlt : i < ps.length
  · obtain ⟨k, ek, hok⟩ := he i hlt
    rw [ek] at q0
    (simp (disch := first | decide | omega | (simp only [add_next, set_next, grow_next, leave_next, drop_next, List.length_map]; first | done | omega)) only [go_sem, ↓reduceIte, Nat.reduceBEq, Nat.reduceAdd, Nat.reduceLeDiff, Nat.reduceEqDiff, Nat.reduceLT, Nat.reduceMul, q0, q1, q3, q6]; (repeat (with_reducible refine And.intro (by first | omega | assumption | rfl) ?_)))
    refine rlTypeOfAt ?_
    (simp (disch := first | decide | omega | (simp only [add_next, set_next, grow_next, leave_next, drop_next, List.length_map]; first | done | omega)) only [go_sem, ↓reduceIte, Nat.reduceBEq, Nat.reduceAdd, Nat.reduceLeDiff, Nat.reduceEqDiff, Nat.reduceLT, Nat.reduceMul, q0, q1, q3, q6]; (repeat (with_reducible refine And.intro (by first | omega | assumption | rfl) ?_)))
    refine dinvoke_mk methAsgAt (rlAsgAtEr ?_)
    (simp (disch := first | decide | omega | (simp only [add_next, set_next, grow_next, leave_next, drop_next, List.length_map]; first | done | omega)) only [go_sem, ↓reduceIte, Nat.reduceBEq, Nat.reduceAdd, Nat.reduceLeDiff, Nat.reduceEqDiff, Nat.reduceLT, Nat.reduceMul, q0, q1, q3, q6]; (repeat (with_reducible refine And.intro (by first | omega | assumption | rfl) ?_)))
    refine asrAtAs ?_
    (simp (disch := first | decide | omega | (simp only [add_next, set_next, grow_next, leave_next, drop_next, List.length_map]; first | done | omega)) only [go_sem, ↓reduceIte, Nat.reduceBEq, Nat.reduceAdd, Nat.reduceLeDiff, Nat.reduceEqDiff, Nat.reduceLT, Nat.reduceMul, q0, q1, q3, q6]; (repeat (with_reducible refine And.intro (by first | omega | assumption | rfl) ?_)))
    refine asrAtUn ?_
    (simp (disch := first | decide | omega | (simp only [add_next, set_next, grow_next, leave_next, drop_next, List.length_map]; first | done | omega)) only [go_sem, ↓reduceIte, Nat.reduceBEq, Nat.reduceAdd, Nat.reduceLeDiff, Nat.reduceEqDiff, Nat.reduceLT, Nat.reduceMul, q0, q1, q3, q6]; (repeat (with_reducible refine And.intro (by first | omega | assumption | rfl) ?_)))
    obtain ⟨t', u', eu⟩ : ∃ t u, e (i + 1) = .ifc t u := by
      by_cases h2 : i + 1 < ps.length
      · obtain ⟨k', ek', _⟩ := he (i + 1) h2
        exact ⟨_, _, ek'⟩
      · rw [show i + 1 = ps.length by omega, en]; exact ⟨_, _, rfl⟩
    refine dinvoke_mk methUn (unwrap_at rfl (hB _ _ hok) ?_)
    (simp (disch := first | decide | omega | (simp only [add_next, set_next, grow_next, leave_next, drop_next, List.length_map]; first | done | omega)) only [go_sem, ↓reduceIte, Nat.reduceBEq, Nat.reduceAdd, Nat.reduceLeDiff, Nat.reduceEqDiff, Nat.reduceLT, Nat.reduceMul, q0, eu, q1, q3, q6]; (repeat (with_reducible refine And.intro (by first | omega | assumption | rfl) ?_)))
    (refine ⟨by omega, (by (repeat' first | assumption | exact St.Sub.refl _ | exact RowOk.sub (by assumption) (by assumption) | refine St.Sub.trans ?_ (RowOk.sub (by assumption) (by assumption)) | refine St.Sub.add ?_ ?_ _ | refine St.Sub.set ?_ ?_ ?_ _ | refine St.Sub.keep ?_ ?_ | refine St.WF.leave ?_ _ | refine St.WF.add ?_ _ | refine St.WF.set ?_ ?_ _ | refine St.WF.grow ?_ _ _ _ | refine St.WF.keep ?_ ?_ | (first | omega | (simp only [RowOk.lo, add_next, set_next, grow_next, leave_next, drop_next]; first | done | omega)))), ?_⟩; refine ⟨by omega, ?_, ?_⟩; all_goals (try (first | (simp (disch := first | decide | omega | (simp only [add_next, set_next, grow_next, leave_next, drop_next, List.length_map]; first | done | omega)) only [go_sem, ↓reduceIte, Nat.reduceBEq, Nat.reduceAdd, Nat.reduceLeDiff, Nat.reduceEqDiff, Nat.reduceLT, Nat.reduceMul, eu, q8]; first | done | rfl) | rfl)))
  · have hil : i = ps.length := by omega
    subst hil
    rw [en] at q0
    (simp (disch := first | decide | omega | (simp only [add_next, set_next, grow_next, leave_next, drop_next, List.length_map]; first | done | omega)) only [go_sem, ↓reduceIte, Nat.reduceBEq, Nat.reduceAdd, Nat.reduceLeDiff, Nat.reduceEqDiff, Nat.reduceLT, Nat.reduceMul, q0, q1, q3, q6]; (repeat (with_reducible refine And.intro (by first | omega | assumption | rfl) ?_)))
    refine rlTypeOfEr ?_
    (simp (disch := first | decide | omega | (simp only [add_next, set_next, grow_next, leave_next, drop_next, List.length_map]; first | done | omega)) only [go_sem, ↓reduceIte, Nat.reduceBEq, Nat.reduceAdd, Nat.reduceLeDiff, Nat.reduceEqDiff, Nat.reduceLT, Nat.reduceMul, q0, q1, q3, q6]; (repeat (with_reducible refine And.intro (by first | omega | assumption | rfl) ?_)))
    refine dinvoke_mk methAsgEr (rlAsgEr ?_)
    (simp (disch := first | decide | omega | (simp only [add_next, set_next, grow_next, leave_next, drop_next, List.length_map]; first | done | omega)) only [go_sem, ↓reduceIte, Nat.reduceBEq, Nat.reduceAdd, Nat.reduceLeDiff, Nat.reduceEqDiff, Nat.reduceLT, Nat.reduceMul, q0, q1, q3, q6]; (repeat (with_reducible refine And.intro (by first | omega | assumption | rfl) ?_)))
    refine rlElemPEr (hB _ _ hb) ?_
    (simp (disch := first | decide | omega | (simp only [add_next, set_next, grow_next, leave_next, drop_next, List.length_map]; first | done | omega)) only [go_sem, ↓reduceIte, Nat.reduceBEq, Nat.reduceAdd, Nat.reduceLeDiff, Nat.reduceEqDiff, Nat.reduceLT, Nat.reduceMul, q0, q1, q3, q6]; (repeat (with_reducible refine And.intro (by first | omega | assumption | rfl) ?_)))
    refine rlValueOfEr ?_
    (simp (disch := first | decide | omega | (simp only [add_next, set_next, grow_next, leave_next, drop_next, List.length_map]; first | done | omega)) only [go_sem, ↓reduceIte, Nat.reduceBEq, Nat.reduceAdd, Nat.reduceLeDiff, Nat.reduceEqDiff, Nat.reduceLT, Nat.reduceMul, q0, q1, q3, q6]; (repeat (with_reducible refine And.intro (by first | omega | assumption | rfl) ?_)))
    have hkc := hS.lt hk
    have hkn : kc ≠ tn := by omega
    refine rlSetEr (d0 := x0) (n := n) ?_ ?_ ?_
    · show (if kc = tn then _ else _) = _
      rw [if_neg hkn]; exact hB _ _ hk
    · show (if tn = tn then _ else _) = _
      rw [if_pos rfl]
    (simp (disch := first | decide | omega | (simp only [add_next, set_next, grow_next, leave_next, drop_next, List.length_map]; first | done | omega)) only [go_sem, ↓reduceIte, Nat.reduceBEq, Nat.reduceAdd, Nat.reduceLeDiff, Nat.reduceEqDiff, Nat.reduceLT, Nat.reduceMul, q0, q1, q3, q6]; (repeat (with_reducible refine And.intro (by first | omega | assumption | rfl) ?_)))
    refine h _ ?_ ?_ (fun j o hj ho => ?_) ?_
    · show S.next ≤ tn + 1
      omega
    · exact (by (repeat' first | assumption | refine St.WF.leave ?_ _ | refine St.WF.add ?_ _ | refine St.WF.set ?_ ?_ _ | refine St.WF.grow ?_ _ _ _ | refine St.WF.keep ?_ ?_ | (first | omega | (simp only [RowOk.lo, add_next, set_next, grow_next, leave_next, drop_next]; first | done | omega))))
    · show (if j = kc then _ else if j = tn then _ else _) = _
      have := hS.lt ho
      rw [if_neg hj, if_neg (by omega)]; exact hB _ _ ho
    · show (if kc = kc then _ else _) = _
      rw [if_pos rfl]
set_option maxRecDepth 200000 in
set_option maxHeartbeats 4000000 in
/-- errors.As at a *api.Errno: the number is put there. -/
theorem asEr {S : St} {ps : List Int} {n : Int} {d x0 : D} {kc : Nat} {K : D → St → Prop} (hc : Chain S ps n d) (hk : S.ob kc = some (.box 29 [x0])) (hl : ps.length < 1000000)
    (h : ∀ T, S.next ≤ T.next → T.WF → (∀ j o, j ≠ kc → S.ob j = some o → T.ob j = some o) → T.ob kc = some (.box 29 [.v (.int .i64 n)]) → K (.v (.bool true)) T) :
    DCalls Tryd.prog 15 [d, .ifc 55 (.loc kc 0)] S K := by
  have hne : ∃ t u, d = .ifc t u := by cases hc <;> exact ⟨_, _, rfl⟩
  obtain ⟨t, u, rfl⟩ := hne
  refine dcalls_inline mixed Tryd.func15 rfl (fun _ _ => by kernel_rfl) (rs := [.tmp 4]) rfl (by kernel_rfl) (fun hS => ?_)
  (simp (disch := first | decide | omega | (simp only [add_next, set_next, grow_next, leave_next, drop_next, List.length_map]; first | done | omega)) only [go_sem, ↓reduceIte, Nat.reduceBEq, Nat.reduceAdd, Nat.reduceLeDiff, Nat.reduceEqDiff, Nat.reduceLT, Nat.reduceMul]; (repeat (with_reducible refine And.intro (by first | omega | assumption | rfl) ?_)))
  refine rlValueOfPEr ?_
  (simp (disch := first | decide | omega | (simp only [add_next, set_next, grow_next, leave_next, drop_next, List.length_map]; first | done | omega)) only [go_sem, ↓reduceIte, Nat.reduceBEq, Nat.reduceAdd, Nat.reduceLeDiff, Nat.reduceEqDiff, Nat.reduceLT, Nat.reduceMul]; (repeat (with_reducible refine And.intro (by first | omega | assumption | rfl) ?_)))
  refine rlTypePEr ?_
  (simp (disch := first | decide | omega | (simp only [add_next, set_next, grow_next, leave_next, drop_next, List.length_map]; first | done | omega)) only [go_sem, ↓reduceIte, Nat.reduceBEq, Nat.reduceAdd, Nat.reduceLeDiff, Nat.reduceEqDiff, Nat.reduceLT, Nat.reduceMul]; (repeat (with_reducible refine And.intro (by first | omega | assumption | rfl) ?_)))
  have k22 : ((22 : Int) != 22) = false := by decide
  have k20 : ((2 : Int) != 20) = true := by decide
  refine dinvoke_mk methKindPEr (rlKindPEr ?_)
  (simp (disch := first | decide | omega | (simp only [add_next, set_next, grow_next, leave_next, drop_next, List.length_map]; first | done | omega)) only [go_sem, ↓reduceIte, Nat.reduceBEq, Nat.reduceAdd, Nat.reduceLeDiff, Nat.reduceEqDiff, Nat.reduceLT, Nat.reduceMul, k22]; (repeat (with_reducible refine And.intro (by first | omega | assumption | rfl) ?_)))
  refine rlIsNilPEr (k := kc) (off := 0) ?_ ?_
  · (first | (simp (disch := first | decide | omega | (simp only [add_next, set_next, grow_next, leave_next, drop_next, List.length_map]; first | done | omega)) only [go_sem, ↓reduceIte, Nat.reduceBEq, Nat.reduceAdd, Nat.reduceLeDiff, Nat.reduceEqDiff, Nat.reduceLT, Nat.reduceMul]; first | done | rfl) | rfl)
  (simp (disch := first | decide | omega | (simp only [add_next, set_next, grow_next, leave_next, drop_next, List.length_map]; first | done | omega)) only [go_sem, ↓reduceIte, Nat.reduceBEq, Nat.reduceAdd, Nat.reduceLeDiff, Nat.reduceEqDiff, Nat.reduceLT, Nat.reduceMul, k22]; (repeat (with_reducible refine And.intro (by first | omega | assumption | rfl) ?_)))
  refine dinvoke_mk methElemPEr (rlTElemPEr ?_)
  (simp (disch := first | decide | omega | (simp only [add_next, set_next, grow_next, leave_next, drop_next, List.length_map]; first | done | omega)) only [go_sem, ↓reduceIte, Nat.reduceBEq, Nat.reduceAdd, Nat.reduceLeDiff, Nat.reduceEqDiff, Nat.reduceLT, Nat.reduceMul]; (repeat (with_reducible refine And.intro (by first | omega | assumption | rfl) ?_)))
  refine dinvoke_mk methKindEr (rlKindEr ?_)
  (simp (disch := first | decide | omega | (simp only [add_next, set_next, grow_next, leave_next, drop_next, List.length_map]; first | done | omega)) only [go_sem, ↓reduceIte, Nat.reduceBEq, Nat.reduceAdd, Nat.reduceLeDiff, Nat.reduceEqDiff, Nat.reduceLT, Nat.reduceMul, k20]; (repeat (with_reducible refine And.intro (by first | omega | assumption | rfl) ?_)))
  refine dinvoke_mk methImplEr (rlImplEr ?_)
  (simp (disch := first | decide | omega | (simp only [add_next, set_next, grow_next, leave_next, drop_next, List.length_map]; first | done | omega)) only [go_sem, ↓reduceIte, Nat.reduceBEq, Nat.reduceAdd, Nat.reduceLeDiff, Nat.reduceEqDiff, Nat.reduceLT, Nat.reduceMul]; (repeat (with_reducible refine And.intro (by first | omega | assumption | rfl) ?_)))
  have hkc := hS.lt hk
  have hB : ∀ j o, S.ob j = some o → (((S.add (.box 55 [.loc kc 0])).add (.box 64 [.v (.pointer none), .v (.pointer none), .v (.int .u64 0)])).set (S.next + 1) (.box 64 [.v (tyV 55), .loc S.next 0, .v (.int .u64 150)])).ob j = some o := fun j o ho => by
    have hkl := hS.lt ho
    show (if j = S.next + 1 then _ else if j = S.next + 1 then _ else if j = S.next then _ else S.ob j) = _
    rw [if_neg (by omega), if_neg (by omega), if_neg (by omega), ho]
  refine asWalkEr (hc.mono fun k cs hq => hB _ _ hq) (hB _ _ hk) (kb := S.next) ?_ hl fun T t1 t2 t3 t4 => ?_
  · (first | (simp (disch := first | decide | omega | (simp only [add_next, set_next, grow_next, leave_next, drop_next, List.length_map]; first | done | omega)) only [go_sem, ↓reduceIte, Nat.reduceBEq, Nat.reduceAdd, Nat.reduceLeDiff, Nat.reduceEqDiff, Nat.reduceLT, Nat.reduceMul]; first | done | rfl) | rfl)
  (simp (disch := first | decide | omega | (simp only [add_next, set_next, grow_next, leave_next, drop_next, List.length_map]; first | done | omega)) only [go_sem, ↓reduceIte, Nat.reduceBEq, Nat.reduceAdd, Nat.reduceLeDiff, Nat.reduceEqDiff, Nat.reduceLT, Nat.reduceMul]; (repeat (with_reducible refine And.intro (by first | omega | assumption | rfl) ?_)))
  exact h T (by have : S.next + 1 + 1 ≤ T.next := t1; omega) t2 (fun j o hj ho => t3 j o hj (hB _ _ ho)) t4
/-- fault.Code. -/
theorem code_at {S : St} {ps : List Int} {n : Int} {d : D} (hc : Chain S ps n d) (hl : ps.length < 1000000) : DAt Tryd.prog 8 [d] S (.v (.int .i64 n)) := by
  refine dat_of_dwp (d := .v (.int .i64 n)) mixed Tryd.func8 rfl (fun _ _ => by kernel_rfl) (rs := [.tmp 2]) rfl (by kernel_rfl) trivial (fun hS => ?_)
  (simp (disch := first | decide | omega | (simp only [add_next, set_next, grow_next, leave_next, drop_next, List.length_map]; first | done | omega)) only [go_sem, ↓reduceIte, Nat.reduceBEq, Nat.reduceAdd, Nat.reduceLeDiff, Nat.reduceEqDiff, Nat.reduceLT, Nat.reduceMul]; (repeat (with_reducible refine And.intro (by first | omega | assumption | rfl) ?_)))
  refine asEr (x0 := .v (.int .i64 0)) (hc.mono fun k cs hq => ?_) ?_ hl fun T t1 t2 t3 t4 => ?_
  · have hkl := hS.lt hq
    show (if k = S.next then _ else _) = _
    rw [if_neg (by omega), hq]
  · show (if S.next = S.next then _ else _) = _
    rw [if_pos rfl]
  (simp (disch := first | decide | omega | (simp only [add_next, set_next, grow_next, leave_next, drop_next, List.length_map]; first | done | omega)) only [go_sem, ↓reduceIte, Nat.reduceBEq, Nat.reduceAdd, Nat.reduceLeDiff, Nat.reduceEqDiff, Nat.reduceLT, Nat.reduceMul, t4]; (repeat (with_reducible refine And.intro (by first | omega | assumption | rfl) ?_)))
  have hsub : S.Sub T := ⟨by have : S.next + 1 ≤ T.next := t1; omega, fun j o ho => t3 j o (by have := hS.lt ho; omega) (by have := hS.lt ho; show (if j = S.next then _ else _) = _; rw [if_neg (by omega), ho])⟩
  refine ⟨?_, (by (repeat' first | assumption | exact St.Sub.refl _ | exact RowOk.sub (by assumption) (by assumption) | refine St.Sub.trans ?_ (RowOk.sub (by assumption) (by assumption)) | refine St.Sub.add ?_ ?_ _ | refine St.Sub.set ?_ ?_ ?_ _ | refine St.Sub.keep ?_ ?_ | refine St.WF.leave ?_ _ | refine St.WF.add ?_ _ | refine St.WF.set ?_ ?_ _ | refine St.WF.grow ?_ _ _ _ | refine St.WF.keep ?_ ?_ | (first | omega | (simp only [RowOk.lo, add_next, set_next, grow_next, leave_next, drop_next]; first | done | omega))))⟩
  rfl
/-- Of nothing nothing is told. -/
theorem asNil {S : St} {K : D → St → Prop} {x : D} (h : K (.v (.bool false)) S) : DCalls Tryd.prog 15 [.v .nilIface, x] S K := by
  refine dcalls_inline mixed Tryd.func15 rfl (fun _ _ => by kernel_rfl) (rs := [.tmp 4]) rfl (by kernel_rfl) (fun hS => ?_)
  (simp (disch := first | decide | omega | (simp only [add_next, set_next, grow_next, leave_next, drop_next, List.length_map]; first | done | omega)) only [go_sem, ↓reduceIte, Nat.reduceBEq, Nat.reduceAdd, Nat.reduceLeDiff, Nat.reduceEqDiff, Nat.reduceLT, Nat.reduceMul]; (repeat (with_reducible refine And.intro (by first | omega | assumption | rfl) ?_)))
  exact h
theorem code_nil : DPure Tryd.prog 8 [.v .nilIface] (.v (.int .i64 0)) := by
  refine dpure_of_dwp mixed Tryd.func8 rfl (fun _ _ => by kernel_rfl) (rs := [.tmp 2]) rfl (by kernel_rfl) trivial (fun S hS => ?_)
  (simp (disch := first | decide | omega | (simp only [add_next, set_next, grow_next, leave_next, drop_next, List.length_map]; first | done | omega)) only [go_sem, ↓reduceIte, Nat.reduceBEq, Nat.reduceAdd, Nat.reduceLeDiff, Nat.reduceEqDiff, Nat.reduceLT, Nat.reduceMul]; (repeat (with_reducible refine And.intro (by first | omega | assumption | rfl) ?_)))
  refine asNil ?_
  (simp (disch := first | decide | omega | (simp only [add_next, set_next, grow_next, leave_next, drop_next, List.length_map]; first | done | omega)) only [go_sem, ↓reduceIte, Nat.reduceBEq, Nat.reduceAdd, Nat.reduceLeDiff, Nat.reduceEqDiff, Nat.reduceLT, Nat.reduceMul]; (repeat (with_reducible refine And.intro (by first | omega | assumption | rfl) ?_)))
  refine ⟨?_, (by (repeat' first | assumption | exact St.Sub.refl _ | exact RowOk.sub (by assumption) (by assumption) | refine St.Sub.trans ?_ (RowOk.sub (by assumption) (by assumption)) | refine St.Sub.add ?_ ?_ _ | refine St.Sub.set ?_ ?_ ?_ _ | refine St.Sub.keep ?_ ?_ | refine St.WF.leave ?_ _ | refine St.WF.add ?_ _ | refine St.WF.set ?_ ?_ _ | refine St.WF.grow ?_ _ _ _ | refine St.WF.keep ?_ ?_ | (first | omega | (simp only [RowOk.lo, add_next, set_next, grow_next, leave_next, drop_next]; first | done | omega))))⟩
  rfl
end Go.Proofs.YtbckanadjkhefaaDoor

/- errors.As at an error in a place, walked; fault's functions. Conditions: none. -/
namespace Go.Proofs.YtbckanadjkhefaaDoor
open Go.RowKit
set_option linter.unusedSimpArgs false
set_option linter.unusedVariables false
set_option maxRecDepth 200000 in
set_option maxHeartbeats 4000000 in
theorem asWalkAt {S : St} {x0 : D} {kb kc : Nat} {K : D → St → Prop} {k off : Nat} (hk : S.ob kc = some (.box 38 [x0])) (hb : S.ob kb = some (.box 40 [.loc kc 0]))
    (h : ∀ T, S.next ≤ T.next → T.WF → (∀ j o, j ≠ kc → S.ob j = some o → T.ob j = some o) → T.ob kc = some (.box 38 [.loc k off]) → K (.v (.bool true)) T) :
    DCalls Tryd.prog 29 [.ifc 38 (.loc k off), .ifc 40 (.loc kc 0), .agg [.v (tyV 40), .loc kb 0, .v (.int .u64 150)], rtD 38] S K := by
  refine dcalls_inline mixed Tryd.func29 rfl (fun _ _ => by kernel_rfl) (rs := [.tmp 8]) rfl (by kernel_rfl) (fun hS => ?_)
  (simp (disch := first | decide | omega | (simp only [add_next, set_next, grow_next, leave_next, drop_next, List.length_map]; first | done | omega)) only [go_sem, ↓reduceIte, Nat.reduceBEq, Nat.reduceAdd, Nat.reduceLeDiff, Nat.reduceEqDiff, Nat.reduceLT, Nat.reduceMul]; (repeat (with_reducible refine And.intro (by first | omega | assumption | rfl) ?_)))
  (refine dloop_st (fun t => List.contains [0, 8, 9, 10, 11, 12, 14, 15, 16, 17, 18, 19, 20, 21, 22, 23, 24, 25, 26, 27, 28, 29, 30, 31, 32, 33, 34, 35, 36, 37, 38, 39, 40, 41, 42, 43, 44, 45, 46, 47, 48, 49, 50, 51, 52, 53, 54, 55, 56, 57, 58, 59, 60, 61] t) (by kernel_rfl) ?_ (0) (fun i f => i ≤ 0 ∧ f 0 = .ifc 38 (.loc k off) ∧ f 8 = .v (.bool false)) ?_ ?_; (exact (by (repeat' first | assumption | refine St.WF.leave ?_ _ | refine St.WF.add ?_ _ | refine St.WF.set ?_ ?_ _ | refine St.WF.grow ?_ _ _ _ | refine St.WF.keep ?_ ?_ | (first | omega | (simp only [RowOk.lo, add_next, set_next, grow_next, leave_next, drop_next]; first | done | omega))))); (exact ⟨(by omega), (by (first | (simp (disch := first | decide | omega | (simp only [add_next, set_next, grow_next, leave_next, drop_next, List.length_map]; first | done | omega)) only [go_sem, ↓reduceIte, Nat.reduceBEq, Nat.reduceAdd, Nat.reduceLeDiff, Nat.reduceEqDiff, Nat.reduceLT, Nat.reduceMul]; first | done | rfl) | rfl)), (by (first | (simp (disch := first | decide | omega | (simp only [add_next, set_next, grow_next, leave_next, drop_next, List.length_map]; first | done | omega)) only [go_sem, ↓reduceIte, Nat.reduceBEq, Nat.reduceAdd, Nat.reduceLeDiff, Nat.reduceEqDiff, Nat.reduceLT, Nat.reduceMul]; first | done | rfl) | rfl))⟩); intro i g tn hn hT hg hI; obtain ⟨le, q0, q8⟩ := hI; have q1 := hg 1 rfl; have q3 := hg 3 rfl; have q6 := hg 6 rfl; simp (disch := first | decide | omega | (simp only [add_next, set_next, grow_next, leave_next, drop_next, List.length_map]; first | done | omega)) only [go_sem, ↓reduceIte, Nat.reduceBEq, Nat.reduceAdd, Nat.reduceLeDiff, Nat.reduceEqDiff, Nat.reduceLT, Nat.reduceMul] at q1 q3 q6; clear hg; have hn' := hn; try simp only [add_next, set_next, grow_next, leave_next, drop_next] at hn')
  have hB : ∀ j o, S.ob j = some o → (St.mk tn (S.add (.box 64 [.v (tyV 40), .loc kb 0, .v (.int .u64 150)])).ob).ob j = some o := fun j o ho => by
    have hkl := hS.lt ho
    show (if j = S.next then _ else S.ob j) = _
    rw [if_neg (by omega), ho]
  (simp (disch := first | decide | omega | (simp only [add_next, set_next, grow_next, leave_next, drop_next, List.length_map]; first | done | omega)) only [go_sem, ↓reduceIte, Nat.reduceBEq, Nat.reduceAdd, Nat.reduceLeDiff, Nat.reduceEqDiff, Nat.reduceLT, Nat.reduceMul, q0, q1, q3, q6]; (repeat (with_reducible refine And.intro (by first | omega | assumption | rfl) ?_)))
  refine rlTypeOfAt ?_
  (simp (disch := first | decide | omega | (simp only [add_next, set_next, grow_next, leave_next, drop_next, List.length_map]; first | done | omega)) only [go_sem, ↓reduceIte, Nat.reduceBEq, Nat.reduceAdd, Nat.reduceLeDiff, Nat.reduceEqDiff, Nat.reduceLT, Nat.reduceMul, q0, q1, q3, q6]; (repeat (with_reducible refine And.intro (by first | omega | assumption | rfl) ?_)))
  refine dinvoke_mk methAsgAt (rlAsgAt ?_)
  (simp (disch := first | decide | omega | (simp only [add_next, set_next, grow_next, leave_next, drop_next, List.length_map]; first | done | omega)) only [go_sem, ↓reduceIte, Nat.reduceBEq, Nat.reduceAdd, Nat.reduceLeDiff, Nat.reduceEqDiff, Nat.reduceLT, Nat.reduceMul, q0, q1, q3, q6]; (repeat (with_reducible refine And.intro (by first | omega | assumption | rfl) ?_)))
  refine rlElemPAt (hB _ _ hb) ?_
  (simp (disch := first | decide | omega | (simp only [add_next, set_next, grow_next, leave_next, drop_next, List.length_map]; first | done | omega)) only [go_sem, ↓reduceIte, Nat.reduceBEq, Nat.reduceAdd, Nat.reduceLeDiff, Nat.reduceEqDiff, Nat.reduceLT, Nat.reduceMul, q0, q1, q3, q6]; (repeat (with_reducible refine And.intro (by first | omega | assumption | rfl) ?_)))
  refine rlValueOfAt ?_
  (simp (disch := first | decide | omega | (simp only [add_next, set_next, grow_next, leave_next, drop_next, List.length_map]; first | done | omega)) only [go_sem, ↓reduceIte, Nat.reduceBEq, Nat.reduceAdd, Nat.reduceLeDiff, Nat.reduceEqDiff, Nat.reduceLT, Nat.reduceMul, q0, q1, q3, q6]; (repeat (with_reducible refine And.intro (by first | omega | assumption | rfl) ?_)))
  have hkc := hS.lt hk
  have hkn : kc ≠ tn := by omega
  refine rlSetAt (d0 := x0) (k := k) (off := off) ?_ ?_ ?_
  · show (if kc = tn then _ else _) = _
    rw [if_neg hkn]; exact hB _ _ hk
  · show (if tn = tn then _ else _) = _
    rw [if_pos rfl]
  (simp (disch := first | decide | omega | (simp only [add_next, set_next, grow_next, leave_next, drop_next, List.length_map]; first | done | omega)) only [go_sem, ↓reduceIte, Nat.reduceBEq, Nat.reduceAdd, Nat.reduceLeDiff, Nat.reduceEqDiff, Nat.reduceLT, Nat.reduceMul, q0, q1, q3, q6]; (repeat (with_reducible refine And.intro (by first | omega | assumption | rfl) ?_)))
  refine h _ ?_ ?_ (fun j o hj ho => ?_) ?_
  · show S.next ≤ tn + 1
    omega
  · exact (by (repeat' first | assumption | refine St.WF.leave ?_ _ | refine St.WF.add ?_ _ | refine St.WF.set ?_ ?_ _ | refine St.WF.grow ?_ _ _ _ | refine St.WF.keep ?_ ?_ | (first | omega | (simp only [RowOk.lo, add_next, set_next, grow_next, leave_next, drop_next]; first | done | omega))))
  · show (if j = kc then _ else if j = tn then _ else _) = _
    have := hS.lt ho
    rw [if_neg hj, if_neg (by omega)]; exact hB _ _ ho
  · show (if kc = kc then _ else _) = _
    rw [if_pos rfl]
set_option maxRecDepth 200000 in
set_option maxHeartbeats 4000000 in
theorem asMissAt {S : St} {x0 : D} {kb kc : Nat} {K : D → St → Prop} {n : Int} (hk : S.ob kc = some (.box 38 [x0])) (hb : S.ob kb = some (.box 40 [.loc kc 0]))
    (h : ∀ T, S.next ≤ T.next → T.WF → (∀ j o, S.ob j = some o → T.ob j = some o) → K (.v (.bool false)) T) :
    DCalls Tryd.prog 29 [erD n, .ifc 40 (.loc kc 0), .agg [.v (tyV 40), .loc kb 0, .v (.int .u64 150)], rtD 38] S K := by
  refine dcalls_inline mixed Tryd.func29 rfl (fun _ _ => by kernel_rfl) (rs := [.tmp 8]) rfl (by kernel_rfl) (fun hS => ?_)
  (simp (disch := first | decide | omega | (simp only [add_next, set_next, grow_next, leave_next, drop_next, List.length_map]; first | done | omega)) only [go_sem, ↓reduceIte, Nat.reduceBEq, Nat.reduceAdd, Nat.reduceLeDiff, Nat.reduceEqDiff, Nat.reduceLT, Nat.reduceMul]; (repeat (with_reducible refine And.intro (by first | omega | assumption | rfl) ?_)))
  (refine dloop_st (fun t => List.contains [0, 8, 9, 10, 11, 12, 14, 15, 16, 17, 18, 19, 20, 21, 22, 23, 24, 25, 26, 27, 28, 29, 30, 31, 32, 33, 34, 35, 36, 37, 38, 39, 40, 41, 42, 43, 44, 45, 46, 47, 48, 49, 50, 51, 52, 53, 54, 55, 56, 57, 58, 59, 60, 61] t) (by kernel_rfl) ?_ (0) (fun i f => i ≤ 0 ∧ f 0 = erD n ∧ f 8 = .v (.bool false)) ?_ ?_; (exact (by (repeat' first | assumption | refine St.WF.leave ?_ _ | refine St.WF.add ?_ _ | refine St.WF.set ?_ ?_ _ | refine St.WF.grow ?_ _ _ _ | refine St.WF.keep ?_ ?_ | (first | omega | (simp only [RowOk.lo, add_next, set_next, grow_next, leave_next, drop_next]; first | done | omega))))); (exact ⟨(by omega), (by (first | (simp (disch := first | decide | omega | (simp only [add_next, set_next, grow_next, leave_next, drop_next, List.length_map]; first | done | omega)) only [go_sem, ↓reduceIte, Nat.reduceBEq, Nat.reduceAdd, Nat.reduceLeDiff, Nat.reduceEqDiff, Nat.reduceLT, Nat.reduceMul]; first | done | rfl) | rfl)), (by (first | (simp (disch := first | decide | omega | (simp only [add_next, set_next, grow_next, leave_next, drop_next, List.length_map]; first | done | omega)) only [go_sem, ↓reduceIte, Nat.reduceBEq, Nat.reduceAdd, Nat.reduceLeDiff, Nat.reduceEqDiff, Nat.reduceLT, Nat.reduceMul]; first | done | rfl) | rfl))⟩); intro i g tn hn hT hg hI; obtain ⟨le, q0, q8⟩ := hI; have q1 := hg 1 rfl; have q3 := hg 3 rfl; have q6 := hg 6 rfl; simp (disch := first | decide | omega | (simp only [add_next, set_next, grow_next, leave_next, drop_next, List.length_map]; first | done | omega)) only [go_sem, ↓reduceIte, Nat.reduceBEq, Nat.reduceAdd, Nat.reduceLeDiff, Nat.reduceEqDiff, Nat.reduceLT, Nat.reduceMul] at q1 q3 q6; clear hg; have hn' := hn; try simp only [add_next, set_next, grow_next, leave_next, drop_next] at hn')
  have hB : ∀ j o, S.ob j = some o → (St.mk tn (S.add (.box 64 [.v (tyV 40), .loc kb 0, .v (.int .u64 150)])).ob).ob j = some o := fun j o ho => by
    have hkl := hS.lt ho
    show (if j = S.next then _ else S.ob j) = _
    rw [if_neg (by omega), ho]
  (simp (disch := first | decide | omega | (simp only [add_next, set_next, grow_next, leave_next, drop_next, List.length_map]; first | done | omega)) only [go_sem, ↓reduceIte, Nat.reduceBEq, Nat.reduceAdd, Nat.reduceLeDiff, Nat.reduceEqDiff, Nat.reduceLT, Nat.reduceMul, q0, q1, q3, q6]; (repeat (with_reducible refine And.intro (by first | omega | assumption | rfl) ?_)))
  refine rlTypeOfEr ?_
  (simp (disch := first | decide | omega | (simp only [add_next, set_next, grow_next, leave_next, drop_next, List.length_map]; first | done | omega)) only [go_sem, ↓reduceIte, Nat.reduceBEq, Nat.reduceAdd, Nat.reduceLeDiff, Nat.reduceEqDiff, Nat.reduceLT, Nat.reduceMul, q0, q1, q3, q6]; (repeat (with_reducible refine And.intro (by first | omega | assumption | rfl) ?_)))
  refine dinvoke_mk methAsgEr (rlAsgErAt ?_)
  (simp (disch := first | decide | omega | (simp only [add_next, set_next, grow_next, leave_next, drop_next, List.length_map]; first | done | omega)) only [go_sem, ↓reduceIte, Nat.reduceBEq, Nat.reduceAdd, Nat.reduceLeDiff, Nat.reduceEqDiff, Nat.reduceLT, Nat.reduceMul, q0, q1, q3, q6]; (repeat (with_reducible refine And.intro (by first | omega | assumption | rfl) ?_)))
  refine asrErAs ?_
  (simp (disch := first | decide | omega | (simp only [add_next, set_next, grow_next, leave_next, drop_next, List.length_map]; first | done | omega)) only [go_sem, ↓reduceIte, Nat.reduceBEq, Nat.reduceAdd, Nat.reduceLeDiff, Nat.reduceEqDiff, Nat.reduceLT, Nat.reduceMul, q0, q1, q3, q6]; (repeat (with_reducible refine And.intro (by first | omega | assumption | rfl) ?_)))
  refine asrErUn ?_
  (simp (disch := first | decide | omega | (simp only [add_next, set_next, grow_next, leave_next, drop_next, List.length_map]; first | done | omega)) only [go_sem, ↓reduceIte, Nat.reduceBEq, Nat.reduceAdd, Nat.reduceLeDiff, Nat.reduceEqDiff, Nat.reduceLT, Nat.reduceMul, q0, q1, q3, q6]; (repeat (with_reducible refine And.intro (by first | omega | assumption | rfl) ?_)))
  refine asrErUs ?_
  (simp (disch := first | decide | omega | (simp only [add_next, set_next, grow_next, leave_next, drop_next, List.length_map]; first | done | omega)) only [go_sem, ↓reduceIte, Nat.reduceBEq, Nat.reduceAdd, Nat.reduceLeDiff, Nat.reduceEqDiff, Nat.reduceLT, Nat.reduceMul, q0, q1, q3, q6]; (repeat (with_reducible refine And.intro (by first | omega | assumption | rfl) ?_)))
  exact h _ (by show S.next ≤ tn; omega) hT (fun j o ho => hB _ _ ho)
set_option maxRecDepth 200000 in
set_option maxHeartbeats 4000000 in
theorem asAt {S : St} {x0 : D} {kc : Nat} {K : D → St → Prop} {k off : Nat} (hk : S.ob kc = some (.box 38 [x0]))
    (h : ∀ T, S.next ≤ T.next → T.WF → (∀ j o, j ≠ kc → S.ob j = some o → T.ob j = some o) → T.ob kc = some (.box 38 [.loc k off]) → K (.v (.bool true)) T) :
    DCalls Tryd.prog 15 [.ifc 38 (.loc k off), .ifc 40 (.loc kc 0)] S K := by
  refine dcalls_inline mixed Tryd.func15 rfl (fun _ _ => by kernel_rfl) (rs := [.tmp 4]) rfl (by kernel_rfl) (fun hS => ?_)
  (simp (disch := first | decide | omega | (simp only [add_next, set_next, grow_next, leave_next, drop_next, List.length_map]; first | done | omega)) only [go_sem, ↓reduceIte, Nat.reduceBEq, Nat.reduceAdd, Nat.reduceLeDiff, Nat.reduceEqDiff, Nat.reduceLT, Nat.reduceMul]; (repeat (with_reducible refine And.intro (by first | omega | assumption | rfl) ?_)))
  refine rlValueOfPAt ?_
  (simp (disch := first | decide | omega | (simp only [add_next, set_next, grow_next, leave_next, drop_next, List.length_map]; first | done | omega)) only [go_sem, ↓reduceIte, Nat.reduceBEq, Nat.reduceAdd, Nat.reduceLeDiff, Nat.reduceEqDiff, Nat.reduceLT, Nat.reduceMul]; (repeat (with_reducible refine And.intro (by first | omega | assumption | rfl) ?_)))
  refine rlTypePAt ?_
  (simp (disch := first | decide | omega | (simp only [add_next, set_next, grow_next, leave_next, drop_next, List.length_map]; first | done | omega)) only [go_sem, ↓reduceIte, Nat.reduceBEq, Nat.reduceAdd, Nat.reduceLeDiff, Nat.reduceEqDiff, Nat.reduceLT, Nat.reduceMul]; (repeat (with_reducible refine And.intro (by first | omega | assumption | rfl) ?_)))
  have k22 : ((22 : Int) != 22) = false := by decide
  have k20 : ((22 : Int) != 20) = true := by decide
  refine dinvoke_mk methKindPAt (rlKindPAt ?_)
  (simp (disch := first | decide | omega | (simp only [add_next, set_next, grow_next, leave_next, drop_next, List.length_map]; first | done | omega)) only [go_sem, ↓reduceIte, Nat.reduceBEq, Nat.reduceAdd, Nat.reduceLeDiff, Nat.reduceEqDiff, Nat.reduceLT, Nat.reduceMul, k22]; (repeat (with_reducible refine And.intro (by first | omega | assumption | rfl) ?_)))
  refine rlIsNilPAt (k := kc) (off := 0) ?_ ?_
  · (first | (simp (disch := first | decide | omega | (simp only [add_next, set_next, grow_next, leave_next, drop_next, List.length_map]; first | done | omega)) only [go_sem, ↓reduceIte, Nat.reduceBEq, Nat.reduceAdd, Nat.reduceLeDiff, Nat.reduceEqDiff, Nat.reduceLT, Nat.reduceMul]; first | done | rfl) | rfl)
  (simp (disch := first | decide | omega | (simp only [add_next, set_next, grow_next, leave_next, drop_next, List.length_map]; first | done | omega)) only [go_sem, ↓reduceIte, Nat.reduceBEq, Nat.reduceAdd, Nat.reduceLeDiff, Nat.reduceEqDiff, Nat.reduceLT, Nat.reduceMul, k22]; (repeat (with_reducible refine And.intro (by first | omega | assumption | rfl) ?_)))
  refine dinvoke_mk methElemPAt (rlTElemPAt ?_)
  (simp (disch := first | decide | omega | (simp only [add_next, set_next, grow_next, leave_next, drop_next, List.length_map]; first | done | omega)) only [go_sem, ↓reduceIte, Nat.reduceBEq, Nat.reduceAdd, Nat.reduceLeDiff, Nat.reduceEqDiff, Nat.reduceLT, Nat.reduceMul]; (repeat (with_reducible refine And.intro (by first | omega | assumption | rfl) ?_)))
  refine dinvoke_mk methKindAt (rlKindAt ?_)
  (simp (disch := first | decide | omega | (simp only [add_next, set_next, grow_next, leave_next, drop_next, List.length_map]; first | done | omega)) only [go_sem, ↓reduceIte, Nat.reduceBEq, Nat.reduceAdd, Nat.reduceLeDiff, Nat.reduceEqDiff, Nat.reduceLT, Nat.reduceMul, k20]; (repeat (with_reducible refine And.intro (by first | omega | assumption | rfl) ?_)))
  refine dinvoke_mk methImplAt (rlImplAt ?_)
  (simp (disch := first | decide | omega | (simp only [add_next, set_next, grow_next, leave_next, drop_next, List.length_map]; first | done | omega)) only [go_sem, ↓reduceIte, Nat.reduceBEq, Nat.reduceAdd, Nat.reduceLeDiff, Nat.reduceEqDiff, Nat.reduceLT, Nat.reduceMul]; (repeat (with_reducible refine And.intro (by first | omega | assumption | rfl) ?_)))
  have hkc := hS.lt hk
  have hB : ∀ j o, S.ob j = some o → (((S.add (.box 40 [.loc kc 0])).add (.box 64 [.v (.pointer none), .v (.pointer none), .v (.int .u64 0)])).set (S.next + 1) (.box 64 [.v (tyV 40), .loc S.next 0, .v (.int .u64 150)])).ob j = some o := fun j o ho => by
    have hkl := hS.lt ho
    show (if j = S.next + 1 then _ else if j = S.next + 1 then _ else if j = S.next then _ else S.ob j) = _
    rw [if_neg (by omega), if_neg (by omega), if_neg (by omega), ho]
  refine asWalkAt (hB _ _ hk) (kb := S.next) ?_ fun T t1 t2 t3 t4 => ?_
  · (first | (simp (disch := first | decide | omega | (simp only [add_next, set_next, grow_next, leave_next, drop_next, List.length_map]; first | done | omega)) only [go_sem, ↓reduceIte, Nat.reduceBEq, Nat.reduceAdd, Nat.reduceLeDiff, Nat.reduceEqDiff, Nat.reduceLT, Nat.reduceMul]; first | done | rfl) | rfl)
  (simp (disch := first | decide | omega | (simp only [add_next, set_next, grow_next, leave_next, drop_next, List.length_map]; first | done | omega)) only [go_sem, ↓reduceIte, Nat.reduceBEq, Nat.reduceAdd, Nat.reduceLeDiff, Nat.reduceEqDiff, Nat.reduceLT, Nat.reduceMul]; (repeat (with_reducible refine And.intro (by first | omega | assumption | rfl) ?_)))
  exact h T (by have : S.next + 1 + 1 ≤ T.next := t1; omega) t2 (fun j o hj ho => t3 j o hj (hB _ _ ho)) t4
set_option maxRecDepth 200000 in
set_option maxHeartbeats 4000000 in
theorem asNoAt {S : St} {x0 : D} {kc : Nat} {K : D → St → Prop} {n : Int} (hk : S.ob kc = some (.box 38 [x0]))
    (h : ∀ T, S.next ≤ T.next → T.WF → (∀ j o, S.ob j = some o → T.ob j = some o) → K (.v (.bool false)) T) :
    DCalls Tryd.prog 15 [erD n, .ifc 40 (.loc kc 0)] S K := by
  refine dcalls_inline mixed Tryd.func15 rfl (fun _ _ => by kernel_rfl) (rs := [.tmp 4]) rfl (by kernel_rfl) (fun hS => ?_)
  (simp (disch := first | decide | omega | (simp only [add_next, set_next, grow_next, leave_next, drop_next, List.length_map]; first | done | omega)) only [go_sem, ↓reduceIte, Nat.reduceBEq, Nat.reduceAdd, Nat.reduceLeDiff, Nat.reduceEqDiff, Nat.reduceLT, Nat.reduceMul]; (repeat (with_reducible refine And.intro (by first | omega | assumption | rfl) ?_)))
  refine rlValueOfPAt ?_
  (simp (disch := first | decide | omega | (simp only [add_next, set_next, grow_next, leave_next, drop_next, List.length_map]; first | done | omega)) only [go_sem, ↓reduceIte, Nat.reduceBEq, Nat.reduceAdd, Nat.reduceLeDiff, Nat.reduceEqDiff, Nat.reduceLT, Nat.reduceMul]; (repeat (with_reducible refine And.intro (by first | omega | assumption | rfl) ?_)))
  refine rlTypePAt ?_
  (simp (disch := first | decide | omega | (simp only [add_next, set_next, grow_next, leave_next, drop_next, List.length_map]; first | done | omega)) only [go_sem, ↓reduceIte, Nat.reduceBEq, Nat.reduceAdd, Nat.reduceLeDiff, Nat.reduceEqDiff, Nat.reduceLT, Nat.reduceMul]; (repeat (with_reducible refine And.intro (by first | omega | assumption | rfl) ?_)))
  have k22 : ((22 : Int) != 22) = false := by decide
  have k20 : ((22 : Int) != 20) = true := by decide
  refine dinvoke_mk methKindPAt (rlKindPAt ?_)
  (simp (disch := first | decide | omega | (simp only [add_next, set_next, grow_next, leave_next, drop_next, List.length_map]; first | done | omega)) only [go_sem, ↓reduceIte, Nat.reduceBEq, Nat.reduceAdd, Nat.reduceLeDiff, Nat.reduceEqDiff, Nat.reduceLT, Nat.reduceMul, k22]; (repeat (with_reducible refine And.intro (by first | omega | assumption | rfl) ?_)))
  refine rlIsNilPAt (k := kc) (off := 0) ?_ ?_
  · (first | (simp (disch := first | decide | omega | (simp only [add_next, set_next, grow_next, leave_next, drop_next, List.length_map]; first | done | omega)) only [go_sem, ↓reduceIte, Nat.reduceBEq, Nat.reduceAdd, Nat.reduceLeDiff, Nat.reduceEqDiff, Nat.reduceLT, Nat.reduceMul]; first | done | rfl) | rfl)
  (simp (disch := first | decide | omega | (simp only [add_next, set_next, grow_next, leave_next, drop_next, List.length_map]; first | done | omega)) only [go_sem, ↓reduceIte, Nat.reduceBEq, Nat.reduceAdd, Nat.reduceLeDiff, Nat.reduceEqDiff, Nat.reduceLT, Nat.reduceMul, k22]; (repeat (with_reducible refine And.intro (by first | omega | assumption | rfl) ?_)))
  refine dinvoke_mk methElemPAt (rlTElemPAt ?_)
  (simp (disch := first | decide | omega | (simp only [add_next, set_next, grow_next, leave_next, drop_next, List.length_map]; first | done | omega)) only [go_sem, ↓reduceIte, Nat.reduceBEq, Nat.reduceAdd, Nat.reduceLeDiff, Nat.reduceEqDiff, Nat.reduceLT, Nat.reduceMul]; (repeat (with_reducible refine And.intro (by first | omega | assumption | rfl) ?_)))
  refine dinvoke_mk methKindAt (rlKindAt ?_)
  (simp (disch := first | decide | omega | (simp only [add_next, set_next, grow_next, leave_next, drop_next, List.length_map]; first | done | omega)) only [go_sem, ↓reduceIte, Nat.reduceBEq, Nat.reduceAdd, Nat.reduceLeDiff, Nat.reduceEqDiff, Nat.reduceLT, Nat.reduceMul, k20]; (repeat (with_reducible refine And.intro (by first | omega | assumption | rfl) ?_)))
  refine dinvoke_mk methImplAt (rlImplAt ?_)
  (simp (disch := first | decide | omega | (simp only [add_next, set_next, grow_next, leave_next, drop_next, List.length_map]; first | done | omega)) only [go_sem, ↓reduceIte, Nat.reduceBEq, Nat.reduceAdd, Nat.reduceLeDiff, Nat.reduceEqDiff, Nat.reduceLT, Nat.reduceMul]; (repeat (with_reducible refine And.intro (by first | omega | assumption | rfl) ?_)))
  have hkc := hS.lt hk
  have hB : ∀ j o, S.ob j = some o → (((S.add (.box 40 [.loc kc 0])).add (.box 64 [.v (.pointer none), .v (.pointer none), .v (.int .u64 0)])).set (S.next + 1) (.box 64 [.v (tyV 40), .loc S.next 0, .v (.int .u64 150)])).ob j = some o := fun j o ho => by
    have hkl := hS.lt ho
    show (if j = S.next + 1 then _ else if j = S.next + 1 then _ else if j = S.next then _ else S.ob j) = _
    rw [if_neg (by omega), if_neg (by omega), if_neg (by omega), ho]
  refine asMissAt (hB _ _ hk) (kb := S.next) ?_ fun T t1 t2 t3 => ?_
  · (first | (simp (disch := first | decide | omega | (simp only [add_next, set_next, grow_next, leave_next, drop_next, List.length_map]; first | done | omega)) only [go_sem, ↓reduceIte, Nat.reduceBEq, Nat.reduceAdd, Nat.reduceLeDiff, Nat.reduceEqDiff, Nat.reduceLT, Nat.reduceMul]; first | done | rfl) | rfl)
  (simp (disch := first | decide | omega | (simp only [add_next, set_next, grow_next, leave_next, drop_next, List.length_map]; first | done | omega)) only [go_sem, ↓reduceIte, Nat.reduceBEq, Nat.reduceAdd, Nat.reduceLeDiff, Nat.reduceEqDiff, Nat.reduceLT, Nat.reduceMul]; (repeat (with_reducible refine And.intro (by first | omega | assumption | rfl) ?_)))
  exact h T (by have : S.next + 1 + 1 ≤ T.next := t1; omega) t2 (fun j o ho => t3 j o (hB _ _ ho))
end Go.Proofs.YtbckanadjkhefaaDoor

/- fault's functions, walked. Conditions: none. -/
namespace Go.Proofs.YtbckanadjkhefaaDoor
open Go.RowKit
set_option linter.unusedSimpArgs false
set_option linter.unusedVariables false
theorem pfin_finA {P : Program} {rs : List ResultVar} {S : St} {d : D} (hw : S.WF) (hc : d.all (· < S.next)) : ∀ e f S', DQ.pfin P rs S d e f S' → DQ.fin P rs S (fun d' T => d' = d ∧ T = S) e f S' := by
  have key : ∀ f S', dresL P f S' rs (fun ds => PFin S S' (one ds) d) → dresL P f S' rs (fun ds => DFinT P S S' (one ds) fun d' T => d' = d ∧ T = S) := fun f S' h =>
    dresL_mono (fun ds ⟨h1, h2⟩ => DFin.t ⟨d, S, h1 ▸ DLe.frz _, hc, h2.next, Nat.le_refl _, fun k o hk => ⟨h2.ob k o hk, hw.lt hk, fun _ _ _ => .inl hk⟩, rfl, rfl⟩) h
  intro e f S' h
  cases e with
  | normal => exact key f S' h
  | ret => exact key f S' h
  | exit i => exact h
/-- A contract at one state, by the walk of its body; the answer may name what is there. -/
theorem dat_of_dwpA {P : Program} (hm : P.follows .mixedOrders = true) {g : FuncId} {fn : Func} {c : Code} (hf : P.funcs[g]? = some fn) (hb : fn.body = some c) (hent : ∀ vs w, (callFunc g vs).run P w = .ok (.enter g vs) w) {rs : List ResultVar} (hrs : fn.results.toList = rs) {args : List D} (hok : (codeOk fn.ntmps c && fn.results.all (resOk fn.ntmps) && Nat.ble args.length fn.ntmps) = true) {d : D} {S : St} (hc : S.WF → d.all (· < S.next))
    (h : S.WF → dwp P c (DQ.pfin P rs S d) (argF args) S) : DAt P g args S d :=
  dcalls_of_dwp hm hf hb hent hrs hok fun hw => dwp_mono c (pfin_finA hw (hc hw)) (h hw)
theorem DAt.go {P : Program} {g : FuncId} {args : List D} {S : St} {d : D} {K : D → St → Prop} (h : DAt P g args S d) (k : K d S) : DCalls P g args S K := h.mono fun _ _ hq => by rw [hq.1, hq.2]; exact k
section
variable {S : St}
/-- fault.outer. -/
theorem outer_at {k : Nat} {o : Ob} (hk : S.ob k = some o) : DAt Tryd.prog 23 [atD k] S (.loc k 0) := by
  refine dat_of_dwpA (d := .loc k 0) mixed Tryd.func23 rfl (fun _ _ => by kernel_rfl) (rs := [.tmp 2]) rfl (by kernel_rfl) (fun hS => hS.lt hk) (fun hS => ?_)
  (simp (disch := first | decide | omega | (simp only [add_next, set_next, grow_next, leave_next, drop_next, List.length_map]; first | done | omega)) only [go_sem, ↓reduceIte, Nat.reduceBEq, Nat.reduceAdd, Nat.reduceLeDiff, Nat.reduceEqDiff, Nat.reduceLT, Nat.reduceMul]; (repeat (with_reducible refine And.intro (by first | omega | assumption | rfl) ?_)))
  refine asAt (x0 := .v (.pointer none)) ?_ fun T t1 t2 t3 t4 => ?_
  · show (if S.next = S.next then _ else _) = _
    rw [if_pos rfl]
  (simp (disch := first | decide | omega | (simp only [add_next, set_next, grow_next, leave_next, drop_next, List.length_map]; first | done | omega)) only [go_sem, ↓reduceIte, Nat.reduceBEq, Nat.reduceAdd, Nat.reduceLeDiff, Nat.reduceEqDiff, Nat.reduceLT, Nat.reduceMul, t4]; (repeat (with_reducible refine And.intro (by first | omega | assumption | rfl) ?_)))
  have hsub : S.Sub T := ⟨by have : S.next + 1 ≤ T.next := t1; omega, fun j o ho => t3 j o (by have := hS.lt ho; omega) (by have := hS.lt ho; show (if j = S.next then _ else _) = _; rw [if_neg (by omega), ho])⟩
  refine ⟨?_, (by (repeat' first | assumption | exact St.Sub.refl _ | exact RowOk.sub (by assumption) (by assumption) | refine St.Sub.trans ?_ (RowOk.sub (by assumption) (by assumption)) | refine St.Sub.add ?_ ?_ _ | refine St.Sub.set ?_ ?_ ?_ _ | refine St.Sub.keep ?_ ?_ | refine St.WF.leave ?_ _ | refine St.WF.add ?_ _ | refine St.WF.set ?_ ?_ _ | refine St.WF.grow ?_ _ _ _ | refine St.WF.keep ?_ ?_ | (first | omega | (simp only [RowOk.lo, add_next, set_next, grow_next, leave_next, drop_next]; first | done | omega))))⟩
  rfl
theorem outer_no {n : Int} : DAt Tryd.prog 23 [erD n] S (.v (.pointer none)) := by
  refine dat_of_dwpA (d := .v (.pointer none)) mixed Tryd.func23 rfl (fun _ _ => by kernel_rfl) (rs := [.tmp 2]) rfl (by kernel_rfl) (fun hS => trivial) (fun hS => ?_)
  (simp (disch := first | decide | omega | (simp only [add_next, set_next, grow_next, leave_next, drop_next, List.length_map]; first | done | omega)) only [go_sem, ↓reduceIte, Nat.reduceBEq, Nat.reduceAdd, Nat.reduceLeDiff, Nat.reduceEqDiff, Nat.reduceLT, Nat.reduceMul]; (repeat (with_reducible refine And.intro (by first | omega | assumption | rfl) ?_)))
  refine asNoAt (x0 := .v (.pointer none)) ?_ fun T t1 t2 t3 => ?_
  · show (if S.next = S.next then _ else _) = _
    rw [if_pos rfl]
  (simp (disch := first | decide | omega | (simp only [add_next, set_next, grow_next, leave_next, drop_next, List.length_map]; first | done | omega)) only [go_sem, ↓reduceIte, Nat.reduceBEq, Nat.reduceAdd, Nat.reduceLeDiff, Nat.reduceEqDiff, Nat.reduceLT, Nat.reduceMul]; (repeat (with_reducible refine And.intro (by first | omega | assumption | rfl) ?_)))
  have hsub : S.Sub T := ⟨by have : S.next + 1 ≤ T.next := t1; omega, fun j o ho => t3 j o (by have := hS.lt ho; show (if j = S.next then _ else _) = _; rw [if_neg (by omega), ho])⟩
  refine ⟨?_, (by (repeat' first | assumption | exact St.Sub.refl _ | exact RowOk.sub (by assumption) (by assumption) | refine St.Sub.trans ?_ (RowOk.sub (by assumption) (by assumption)) | refine St.Sub.add ?_ ?_ _ | refine St.Sub.set ?_ ?_ ?_ _ | refine St.Sub.keep ?_ ?_ | refine St.WF.leave ?_ _ | refine St.WF.add ?_ _ | refine St.WF.set ?_ ?_ _ | refine St.WF.grow ?_ _ _ _ | refine St.WF.keep ?_ ?_ | (first | omega | (simp only [RowOk.lo, add_next, set_next, grow_next, leave_next, drop_next]; first | done | omega))))⟩
  rfl
theorem outer_nil : DAt Tryd.prog 23 [.v .nilIface] S (.v (.pointer none)) := by
  refine dat_of_dwpA (d := .v (.pointer none)) mixed Tryd.func23 rfl (fun _ _ => by kernel_rfl) (rs := [.tmp 2]) rfl (by kernel_rfl) (fun hS => trivial) (fun hS => ?_)
  (simp (disch := first | decide | omega | (simp only [add_next, set_next, grow_next, leave_next, drop_next, List.length_map]; first | done | omega)) only [go_sem, ↓reduceIte, Nat.reduceBEq, Nat.reduceAdd, Nat.reduceLeDiff, Nat.reduceEqDiff, Nat.reduceLT, Nat.reduceMul]; (repeat (with_reducible refine And.intro (by first | omega | assumption | rfl) ?_)))
  refine asNil ?_
  (simp (disch := first | decide | omega | (simp only [add_next, set_next, grow_next, leave_next, drop_next, List.length_map]; first | done | omega)) only [go_sem, ↓reduceIte, Nat.reduceBEq, Nat.reduceAdd, Nat.reduceLeDiff, Nat.reduceEqDiff, Nat.reduceLT, Nat.reduceMul]; (repeat (with_reducible refine And.intro (by first | omega | assumption | rfl) ?_)))
  refine ⟨?_, (by (repeat' first | assumption | exact St.Sub.refl _ | exact RowOk.sub (by assumption) (by assumption) | refine St.Sub.trans ?_ (RowOk.sub (by assumption) (by assumption)) | refine St.Sub.add ?_ ?_ _ | refine St.Sub.set ?_ ?_ ?_ _ | refine St.Sub.keep ?_ ?_ | refine St.WF.leave ?_ _ | refine St.WF.add ?_ _ | refine St.WF.set ?_ ?_ _ | refine St.WF.grow ?_ _ _ _ | refine St.WF.keep ?_ ?_ | (first | omega | (simp only [RowOk.lo, add_next, set_next, grow_next, leave_next, drop_next]; first | done | omega))))⟩
  rfl
/-- fault.Wrap. -/
theorem wrap_at {K : D → St → Prop} {t : TypeId} {u : D} {p : Int} (h : K (atD S.next) (S.add (.box 42 [.v (.int .i64 p), .ifc t u]))) : DCalls Tryd.prog 14 [.ifc t u, .v (.int .i64 p)] S K := by
  refine dcalls_inline mixed Tryd.func14 rfl (fun _ _ => by kernel_rfl) (rs := [.tmp 4]) rfl (by kernel_rfl) (fun hS => ?_)
  (simp (disch := first | decide | omega | (simp only [add_next, set_next, grow_next, leave_next, drop_next, List.length_map]; first | done | omega)) only [go_sem, ↓reduceIte, Nat.reduceBEq, Nat.reduceAdd, Nat.reduceLeDiff, Nat.reduceEqDiff, Nat.reduceLT, Nat.reduceMul]; (repeat (with_reducible refine And.intro (by first | omega | assumption | rfl) ?_)))
  exact h
theorem wrap_nil {p : Int} : DPure Tryd.prog 14 [.v .nilIface, .v (.int .i64 p)] (.v .nilIface) := by
  refine dpure_of_dwp mixed Tryd.func14 rfl (fun _ _ => by kernel_rfl) (rs := [.tmp 4]) rfl (by kernel_rfl) trivial (fun S hS => ?_)
  (simp (disch := first | decide | omega | (simp only [add_next, set_next, grow_next, leave_next, drop_next, List.length_map]; first | done | omega)) only [go_sem, ↓reduceIte, Nat.reduceBEq, Nat.reduceAdd, Nat.reduceLeDiff, Nat.reduceEqDiff, Nat.reduceLT, Nat.reduceMul]; (repeat (with_reducible refine And.intro (by first | omega | assumption | rfl) ?_)))
  refine ⟨?_, (by (repeat' first | assumption | exact St.Sub.refl _ | exact RowOk.sub (by assumption) (by assumption) | refine St.Sub.trans ?_ (RowOk.sub (by assumption) (by assumption)) | refine St.Sub.add ?_ ?_ _ | refine St.Sub.set ?_ ?_ ?_ _ | refine St.Sub.keep ?_ ?_ | refine St.WF.leave ?_ _ | refine St.WF.add ?_ _ | refine St.WF.set ?_ ?_ _ | refine St.WF.grow ?_ _ _ _ | refine St.WF.keep ?_ ?_ | (first | omega | (simp only [RowOk.lo, add_next, set_next, grow_next, leave_next, drop_next]; first | done | omega))))⟩
  rfl
/-- What the outermost place is: -1, if there is none. -/
def outP : List Int → Int
  | [] => -1
  | p :: _ => p
theorem place_at {ps : List Int} {n : Int} {d : D} (hc : Chain S ps n d) : DAt Tryd.prog 11 [d] S (.v (.int .i64 (outP ps))) := by
  refine dat_of_dwpA (d := .v (.int .i64 (outP ps))) mixed Tryd.func11 rfl (fun _ _ => by kernel_rfl) (rs := [.tmp 2]) rfl (by kernel_rfl) (fun hS => trivial) (fun hS => ?_)
  cases hc with
  | code n =>
    (simp (disch := first | decide | omega | (simp only [add_next, set_next, grow_next, leave_next, drop_next, List.length_map]; first | done | omega)) only [go_sem, ↓reduceIte, Nat.reduceBEq, Nat.reduceAdd, Nat.reduceLeDiff, Nat.reduceEqDiff, Nat.reduceLT, Nat.reduceMul]; (repeat (with_reducible refine And.intro (by first | omega | assumption | rfl) ?_)))
    refine outer_no.go ?_
    (simp (disch := first | decide | omega | (simp only [add_next, set_next, grow_next, leave_next, drop_next, List.length_map]; first | done | omega)) only [go_sem, ↓reduceIte, Nat.reduceBEq, Nat.reduceAdd, Nat.reduceLeDiff, Nat.reduceEqDiff, Nat.reduceLT, Nat.reduceMul]; (repeat (with_reducible refine And.intro (by first | omega | assumption | rfl) ?_)))
    refine ⟨?_, (by (repeat' first | assumption | exact St.Sub.refl _ | exact RowOk.sub (by assumption) (by assumption) | refine St.Sub.trans ?_ (RowOk.sub (by assumption) (by assumption)) | refine St.Sub.add ?_ ?_ _ | refine St.Sub.set ?_ ?_ ?_ _ | refine St.Sub.keep ?_ ?_ | refine St.WF.leave ?_ _ | refine St.WF.add ?_ _ | refine St.WF.set ?_ ?_ _ | refine St.WF.grow ?_ _ _ _ | refine St.WF.keep ?_ ?_ | (first | omega | (simp only [RowOk.lo, add_next, set_next, grow_next, leave_next, drop_next]; first | done | omega))))⟩
    rfl
  | at_ hk hq =>
    (simp (disch := first | decide | omega | (simp only [add_next, set_next, grow_next, leave_next, drop_next, List.length_map]; first | done | omega)) only [go_sem, ↓reduceIte, Nat.reduceBEq, Nat.reduceAdd, Nat.reduceLeDiff, Nat.reduceEqDiff, Nat.reduceLT, Nat.reduceMul]; (repeat (with_reducible refine And.intro (by first | omega | assumption | rfl) ?_)))
    refine (outer_at hk).go ?_
    (simp (disch := first | decide | omega | (simp only [add_next, set_next, grow_next, leave_next, drop_next, List.length_map]; first | done | omega)) only [go_sem, ↓reduceIte, Nat.reduceBEq, Nat.reduceAdd, Nat.reduceLeDiff, Nat.reduceEqDiff, Nat.reduceLT, Nat.reduceMul, hk]; (repeat (with_reducible refine And.intro (by first | omega | assumption | rfl) ?_)))
    refine ⟨?_, (by (repeat' first | assumption | exact St.Sub.refl _ | exact RowOk.sub (by assumption) (by assumption) | refine St.Sub.trans ?_ (RowOk.sub (by assumption) (by assumption)) | refine St.Sub.add ?_ ?_ _ | refine St.Sub.set ?_ ?_ ?_ _ | refine St.Sub.keep ?_ ?_ | refine St.WF.leave ?_ _ | refine St.WF.add ?_ _ | refine St.WF.set ?_ ?_ _ | refine St.WF.grow ?_ _ _ _ | refine St.WF.keep ?_ ?_ | (first | omega | (simp only [RowOk.lo, add_next, set_next, grow_next, leave_next, drop_next]; first | done | omega))))⟩
    rfl
theorem place_nil : DAt Tryd.prog 11 [.v .nilIface] S (.v (.int .i64 (-1))) := by
  refine dat_of_dwpA (d := .v (.int .i64 (-1))) mixed Tryd.func11 rfl (fun _ _ => by kernel_rfl) (rs := [.tmp 2]) rfl (by kernel_rfl) (fun hS => trivial) (fun hS => ?_)
  (simp (disch := first | decide | omega | (simp only [add_next, set_next, grow_next, leave_next, drop_next, List.length_map]; first | done | omega)) only [go_sem, ↓reduceIte, Nat.reduceBEq, Nat.reduceAdd, Nat.reduceLeDiff, Nat.reduceEqDiff, Nat.reduceLT, Nat.reduceMul]; (repeat (with_reducible refine And.intro (by first | omega | assumption | rfl) ?_)))
  refine outer_nil.go ?_
  (simp (disch := first | decide | omega | (simp only [add_next, set_next, grow_next, leave_next, drop_next, List.length_map]; first | done | omega)) only [go_sem, ↓reduceIte, Nat.reduceBEq, Nat.reduceAdd, Nat.reduceLeDiff, Nat.reduceEqDiff, Nat.reduceLT, Nat.reduceMul]; (repeat (with_reducible refine And.intro (by first | omega | assumption | rfl) ?_)))
  refine ⟨?_, (by (repeat' first | assumption | exact St.Sub.refl _ | exact RowOk.sub (by assumption) (by assumption) | refine St.Sub.trans ?_ (RowOk.sub (by assumption) (by assumption)) | refine St.Sub.add ?_ ?_ _ | refine St.Sub.set ?_ ?_ ?_ _ | refine St.Sub.keep ?_ ?_ | refine St.WF.leave ?_ _ | refine St.WF.add ?_ _ | refine St.WF.set ?_ ?_ _ | refine St.WF.grow ?_ _ _ _ | refine St.WF.keep ?_ ?_ | (first | omega | (simp only [RowOk.lo, add_next, set_next, grow_next, leave_next, drop_next]; first | done | omega))))⟩
  rfl
def iD (p : Int) : D := .v (.int .i64 p)
def encIs (l : List Int) : D := .sl .no (l.map iD)
/-- What fault.outer answers. -/
def outD : D → D
  | .ifc _ (.loc k o) => .loc k o
  | _ => .v (.pointer none)
theorem closed_encIs (l : List Int) : (encIs l).closed := by
  simp only [encIs, D.closed, D.all, Own.all, true_and]
  refine allL_iff.2 fun d hd => ?_
  obtain ⟨p, _, rfl⟩ := List.mem_map.1 hd
  trivial
theorem frz_iD (p : Int) : (iD p).frz = iD p := rfl
theorem frz_is (l : List Int) : frzL (l.map iD) = l.map iD := by simp [frzL_map, frz_iD, Function.comp_def]
set_option maxRecDepth 200000 in
set_option maxHeartbeats 4000000 in
theorem places_at {ps : List Int} {n : Int} {d : D} (hc : Chain S ps n d) (hl : ps.length < 1000000) : DAt Tryd.prog 10 [d] S (encIs ps) := by
  obtain ⟨e, e0, en, he⟩ := hc.fn
  have hout : ∀ i, i ≤ ps.length → ∀ T : St, (∀ j o, S.ob j = some o → T.ob j = some o) → DAt Tryd.prog 23 [e i] T (outD (e i)) := fun i hi T hT => by
    by_cases h : i < ps.length
    · obtain ⟨k, ek, hk⟩ := he i h
      rw [ek]; exact outer_at (hT _ _ hk)
    · rw [show i = ps.length by omega, en]; exact outer_no
  refine dat_of_dwpA (d := encIs ps) mixed Tryd.func10 rfl (fun _ _ => by kernel_rfl) (rs := [.tmp 2]) rfl (by kernel_rfl) (fun hS => D.all_mono (fun _ h => h.elim) (closed_encIs ps)) (fun hS => ?_)
  (simp (disch := first | decide | omega | (simp only [add_next, set_next, grow_next, leave_next, drop_next, List.length_map]; first | done | omega)) only [go_sem, ↓reduceIte, Nat.reduceBEq, Nat.reduceAdd, Nat.reduceLeDiff, Nat.reduceEqDiff, Nat.reduceLT, Nat.reduceMul]; (repeat (with_reducible refine And.intro (by first | omega | assumption | rfl) ?_)))
  refine (e0 ▸ hout 0 (by omega) S fun _ _ h => h).go ?_
  (simp (disch := first | decide | omega | (simp only [add_next, set_next, grow_next, leave_next, drop_next, List.length_map]; first | done | omega)) only [go_sem, ↓reduceIte, Nat.reduceBEq, Nat.reduceAdd, Nat.reduceLeDiff, Nat.reduceEqDiff, Nat.reduceLT, Nat.reduceMul]; (repeat (with_reducible refine And.intro (by first | omega | assumption | rfl) ?_)))
  (refine dloop_row (fun t => List.contains [3, 4, 7, 8, 9, 10, 11, 12, 13, 14, 15, 16, 17, 18, 19, 20] t) (by kernel_rfl) ?_ (ps.length) (3) (fun i own m f => i ≤ ps.length ∧ f 3 = .sl own ((ps.take i).map iD) ∧ f 4 = outD (e i) ∧ (own = .full ∨ m = i)) ?_ ?_; (exact (by (repeat' first | assumption | refine St.WF.leave ?_ _ | refine St.WF.add ?_ _ | refine St.WF.set ?_ ?_ _ | refine St.WF.grow ?_ _ _ _ | refine St.WF.keep ?_ ?_ | (first | omega | (simp only [RowOk.lo, add_next, set_next, grow_next, leave_next, drop_next]; first | done | omega))))); (exact ⟨(by omega), (by (first | (simp (disch := first | decide | omega | (simp only [add_next, set_next, grow_next, leave_next, drop_next, List.length_map]; first | done | omega)) only [go_sem, ↓reduceIte, Nat.reduceBEq, Nat.reduceAdd, Nat.reduceLeDiff, Nat.reduceEqDiff, Nat.reduceLT, Nat.reduceMul, e0]; first | done | rfl) | rfl)), (by (first | (simp (disch := first | decide | omega | (simp only [add_next, set_next, grow_next, leave_next, drop_next, List.length_map]; first | done | omega)) only [go_sem, ↓reduceIte, Nat.reduceBEq, Nat.reduceAdd, Nat.reduceLeDiff, Nat.reduceEqDiff, Nat.reduceLT, Nat.reduceMul, e0]; first | done | rfl) | rfl)), (.inl rfl)⟩); intro i g tn own m hn hr hT hg hI; obtain ⟨le, q3, q4, hm⟩ := hI; have q2 := hg 2 rfl; simp (disch := first | decide | omega | (simp only [add_next, set_next, grow_next, leave_next, drop_next, List.length_map]; first | done | omega)) only [go_sem, ↓reduceIte, Nat.reduceBEq, Nat.reduceAdd, Nat.reduceLeDiff, Nat.reduceEqDiff, Nat.reduceLT, Nat.reduceMul, e0] at q2; clear hg; have hn' := hn; try simp only [add_next, set_next, grow_next, leave_next, drop_next] at hn')
  have hro := fun {e m k} => rowOf_lt hr (e := e) (m := m) (k := k)
  by_cases hlt : i < ps.length
  · obtain ⟨k, ek, hk⟩ := he i hlt
    have hkl := hS.lt hk
    rw [ek] at q4
    replace q4 : g 4 = .loc k 0 := q4
    have hT : ∀ j o, S.ob j = some o → (St.mk tn (rowOf S own 3 m)).ob j = some o := fun j o ho => by
      show rowOf S own _ m j = _
      rw [rowOf_lt hr (hS.lt ho), ho]
    (simp (disch := first | decide | omega | (simp only [add_next, set_next, grow_next, leave_next, drop_next, List.length_map]; first | done | omega)) only [go_sem, ↓reduceIte, Nat.reduceBEq, Nat.reduceAdd, Nat.reduceLeDiff, Nat.reduceEqDiff, Nat.reduceLT, Nat.reduceMul, q3, q4, hro, hk]; (repeat (with_reducible refine And.intro (by first | omega | assumption | rfl) ?_)))
    (refine dapp_grow (by (first | (simp (disch := first | decide | omega | (simp only [add_next, set_next, grow_next, leave_next, drop_next, List.length_map]; first | done | omega)) only [go_sem, ↓reduceIte, Nat.reduceBEq, Nat.reduceAdd, Nat.reduceLeDiff, Nat.reduceEqDiff, Nat.reduceLT, Nat.reduceMul]; first | done | rfl) | rfl)) (by (first | (simp (disch := first | decide | omega | (simp only [add_next, set_next, grow_next, leave_next, drop_next, List.length_map]; first | done | omega)) only [go_sem, ↓reduceIte, Nat.reduceBEq, Nat.reduceAdd, Nat.reduceLeDiff, Nat.reduceEqDiff, Nat.reduceLT, Nat.reduceMul]; first | done | rfl) | rfl)) (by (first | (simp (disch := first | decide | omega | (simp only [add_next, set_next, grow_next, leave_next, drop_next, List.length_map]; first | done | omega)) only [go_sem, ↓reduceIte, Nat.reduceBEq, Nat.reduceAdd, Nat.reduceLeDiff, Nat.reduceEqDiff, Nat.reduceLT, Nat.reduceMul]; first | done | rfl) | rfl)) (fun d hd => ?_) (fun d hd => ?_) hr (by (repeat' first | assumption | exact St.Sub.refl _ | exact RowOk.sub (by assumption) (by assumption) | refine St.Sub.trans ?_ (RowOk.sub (by assumption) (by assumption)) | refine St.Sub.add ?_ ?_ _ | refine St.Sub.set ?_ ?_ ?_ _ | refine St.Sub.keep ?_ ?_ | refine St.WF.leave ?_ _ | refine St.WF.add ?_ _ | refine St.WF.set ?_ ?_ _ | refine St.WF.grow ?_ _ _ _ | refine St.WF.keep ?_ ?_ | (first | omega | (simp only [RowOk.lo, add_next, set_next, grow_next, leave_next, drop_next]; first | done | omega)))) ?_ ?_ ?_ ?_; (exact (by first | (simp (disch := first | decide | omega | (simp only [add_next, set_next, grow_next, leave_next, drop_next, List.length_map]; first | done | omega)) only [go_sem, ↓reduceIte, Nat.reduceBEq, Nat.reduceAdd, Nat.reduceLeDiff, Nat.reduceEqDiff, Nat.reduceLT, Nat.reduceMul]; done) | (simp (disch := first | decide | omega | (simp only [add_next, set_next, grow_next, leave_next, drop_next, List.length_map]; first | done | omega)) only [go_sem, ↓reduceIte, Nat.reduceBEq, Nat.reduceAdd, Nat.reduceLeDiff, Nat.reduceEqDiff, Nat.reduceLT, Nat.reduceMul]; exact (by obtain ⟨q, _, rfl⟩ := List.mem_map.1 hd; rfl)))); (exact (by first | (simp (disch := first | decide | omega | (simp only [add_next, set_next, grow_next, leave_next, drop_next, List.length_map]; first | done | omega)) only [go_sem, ↓reduceIte, Nat.reduceBEq, Nat.reduceAdd, Nat.reduceLeDiff, Nat.reduceEqDiff, Nat.reduceLT, Nat.reduceMul]; done) | (simp (disch := first | decide | omega | (simp only [add_next, set_next, grow_next, leave_next, drop_next, List.length_map]; first | done | omega)) only [go_sem, ↓reduceIte, Nat.reduceBEq, Nat.reduceAdd, Nat.reduceLeDiff, Nat.reduceEqDiff, Nat.reduceLT, Nat.reduceMul]; exact (by obtain rfl := List.mem_singleton.1 hd; rfl)))); (exact (by rw [List.length_map, List.length_take, Nat.min_eq_left le]; exact hm)))
    · simp only [List.length_map, List.length_take, List.length_cons, List.length_nil]; omega
    · simp (disch := first | decide | omega | (simp only [add_next, set_next, grow_next, leave_next, drop_next, List.length_map]; first | done | omega)) only [go_sem, ↓reduceIte, Nat.reduceBEq, Nat.reduceAdd, Nat.reduceLeDiff, Nat.reduceEqDiff, Nat.reduceLT, Nat.reduceMul]; simp only [List.length_take]; omega
    have hsub : S.Sub ((St.mk tn (rowOf S own 3 m)).grow own 3 ((ps.take i).length + 1)) := (RowOk.sub hr hn).grow hS (fun g0 hg0 => by
      rcases hr with hr | ⟨g1, hr, h1, _⟩
      · rw [hr] at hg0; cases hg0
      · rw [hr] at hg0; cases hg0; exact h1) _ _
    have hk2 := hsub.ob _ _ hk
    (simp (disch := first | decide | omega | (simp only [add_next, set_next, grow_next, leave_next, drop_next, List.length_map]; first | done | omega)) only [go_sem, ↓reduceIte, Nat.reduceBEq, Nat.reduceAdd, Nat.reduceLeDiff, Nat.reduceEqDiff, Nat.reduceLT, Nat.reduceMul, q3, q4, hk2]; (repeat (with_reducible refine And.intro (by first | omega | assumption | rfl) ?_)))
    refine (hout (i + 1) (by omega) _ hsub.ob).go ?_
    (simp (disch := first | decide | omega | (simp only [add_next, set_next, grow_next, leave_next, drop_next, List.length_map]; first | done | omega)) only [go_sem, ↓reduceIte, Nat.reduceBEq, Nat.reduceAdd, Nat.reduceLeDiff, Nat.reduceEqDiff, Nat.reduceLT, Nat.reduceMul, q3, q4]; (repeat (with_reducible refine And.intro (by first | omega | assumption | rfl) ?_)))
    (refine ⟨by omega, _, _, RowNext.grow (m := m) ?_ ?_ hr hn ?_ (St.Sub.refl _), ?_⟩; (exact (by (repeat' first | assumption | refine St.WF.leave ?_ _ | refine St.WF.add ?_ _ | refine St.WF.set ?_ ?_ _ | refine St.WF.grow ?_ _ _ _ | refine St.WF.keep ?_ ?_ | (first | omega | (simp only [RowOk.lo, add_next, set_next, grow_next, leave_next, drop_next]; first | done | omega))))); (exact (by (first | omega | (simp only [RowOk.lo, add_next, set_next, grow_next, leave_next, drop_next]; first | done | omega)))); (exact (by (repeat' first | assumption | exact St.Sub.refl _ | exact RowOk.sub (by assumption) (by assumption) | refine St.Sub.trans ?_ (RowOk.sub (by assumption) (by assumption)) | refine St.Sub.add ?_ ?_ _ | refine St.Sub.set ?_ ?_ ?_ _ | refine St.Sub.keep ?_ ?_ | refine St.WF.leave ?_ _ | refine St.WF.add ?_ _ | refine St.WF.set ?_ ?_ _ | refine St.WF.grow ?_ _ _ _ | refine St.WF.keep ?_ ?_ | (first | omega | (simp only [RowOk.lo, add_next, set_next, grow_next, leave_next, drop_next]; first | done | omega))))); refine ⟨by omega, ?_, ?_, ?_⟩; all_goals (try (first | (simp (disch := first | decide | omega | (simp only [add_next, set_next, grow_next, leave_next, drop_next, List.length_map]; first | done | omega)) only [go_sem, ↓reduceIte, Nat.reduceBEq, Nat.reduceAdd, Nat.reduceLeDiff, Nat.reduceEqDiff, Nat.reduceLT, Nat.reduceMul]; first | done | rfl) | rfl)))
    · simp (disch := first | decide | omega | (simp only [add_next, set_next, grow_next, leave_next, drop_next, List.length_map]; first | done | omega)) only [go_sem, ↓reduceIte, Nat.reduceBEq, Nat.reduceAdd, Nat.reduceLeDiff, Nat.reduceEqDiff, Nat.reduceLT, Nat.reduceMul]
      rw [List.take_succ_eq_append_getElem hlt, List.map_append]; rfl
    · exact .inr (by simp only [List.length_take]; omega)
  · have hil : i = ps.length := by omega
    subst hil
    rw [en] at q4
    replace q4 : g 4 = .v (.pointer none) := q4
    (simp (disch := first | decide | omega | (simp only [add_next, set_next, grow_next, leave_next, drop_next, List.length_map]; first | done | omega)) only [go_sem, ↓reduceIte, Nat.reduceBEq, Nat.reduceAdd, Nat.reduceLeDiff, Nat.reduceEqDiff, Nat.reduceLT, Nat.reduceMul, q3, q4]; (repeat (with_reducible refine And.intro (by first | omega | assumption | rfl) ?_)))
    refine ⟨?_, (by (repeat' first | assumption | exact St.Sub.refl _ | exact RowOk.sub (by assumption) (by assumption) | refine St.Sub.trans ?_ (RowOk.sub (by assumption) (by assumption)) | refine St.Sub.add ?_ ?_ _ | refine St.Sub.set ?_ ?_ ?_ _ | refine St.Sub.keep ?_ ?_ | refine St.WF.leave ?_ _ | refine St.WF.add ?_ _ | refine St.WF.set ?_ ?_ _ | refine St.WF.grow ?_ _ _ _ | refine St.WF.keep ?_ ?_ | (first | omega | (simp only [RowOk.lo, add_next, set_next, grow_next, leave_next, drop_next]; first | done | omega))))⟩
    rw [List.take_of_length_le (Nat.le_refl _)]
    simp only [D.frz, frz_is]
    rfl
end
end Go.Proofs.YtbckanadjkhefaaDoor

/- How a slice of ints reads that came in. Conditions: none. -/
namespace Go.Proofs.YtbckanadjkhefaaDoor
open Go.ChangeShapes Go.WideShapes Go.ChangeAt Go.RowKit Go.Deep Go.Joins
section
variable {H : Type} {enc : TypeId × Value → H} {w : World}
theorem door_fix (P : Program) (b i : Nat) : Fix P door_st (fun _ => none) b i := fun _ _ h => by cases h
def IsInt (w : World) (b o : Nat) (n : Int) : Prop := w.cell? ⟨b, o, none⟩ = some (.int .i64 n)
set_option maxRecDepth 20000 in
theorem open_ints {v : Value} {d : DataW H} {p : List MemPlace} {W : World} {base : Nat} (h : DataW.Trod enc Tryd.prog w 0 (fun _ => true) true 22 v d p) (hs : Sized Tryd.prog 22 d) (hk : Value.okWide Tryd.prog W .any base 22 v) :
    ∃ l : List Int, l.length ≤ 140737488355328 ∧ ∀ (η : Names) (X : Nat → Nat → Prop), (∀ b i, X b i) → Rep Tryd.prog w η X (.sl .no (l.map iD)) v := by
  have elem : ∀ (fuel : Nat) (cs : List Value) (x : DataW H × List MemPlace) (b o : Nat), b < w.heap.size → DataW.trod enc Tryd.prog w 0 (fun _ => true) true fuel 3 cs = some x → Sized Tryd.prog 3 x.1 → cs.length = 1 → (∀ j u, cs[j]? = some u → w.cell? ⟨b, o + j, none⟩ = some u) → ∃ n, IsInt w b o n := by
    intro fuel cs x b o _ h _ hlen hcell
    obtain ⟨n, rfl, _, _⟩ := DataW.trod_int Tryd.underlying3 h
    exact ⟨n, hcell 0 _ rfl⟩
  obtain ⟨A, c, l, rfl, hc, hr, hb⟩ := open_rows (P := Tryd.prog) (size := 1) (bytes := 8) Tryd.underlying22 (by kernel_rfl) (by omega) (by kernel_rfl) (by omega) (IsInt w) elem h hs hk
  refine ⟨l, by omega, fun η X hX => ?_⟩
  simp only [Rep]
  refine ⟨A, c, by rw [List.length_map], by rw [List.length_map]; exact hc, by rw [List.length_map]; omega, trivial, fun h0 => ?_⟩
  rw [List.length_map] at h0
  obtain ⟨b, o, e, hbl, hf⟩ := hr h0
  refine ⟨b, o, 1, e, by omega, RepE.mk fun i d hd => ?_⟩
  rw [List.getElem?_map] at hd
  cases hi : l[i]? with
  | none => rw [hi] at hd; cases hd
  | some a =>
    rw [hi] at hd
    injection hd with hd
    subst hd
    exact ⟨by simp only [iD, RepA], fun _ => ⟨rfl, hX _ _, .int .i64 a, hf i a hi, rfl, by simp only [iD, Rep]⟩⟩
end
end Go.Proofs.YtbckanadjkhefaaDoor

/- How a slice of bytes reads that came in. Conditions: none. -/
namespace Go.Proofs.YtbckanadjkhefaaDoor
open Go.ChangeShapes Go.WideShapes Go.ChangeAt Go.RowKit Go.Deep Go.Joins
section
variable {H : Type} {enc : TypeId × Value → H} {w : World}
def IsU8 (w : World) (b o : Nat) (n : UInt8) : Prop := w.cell? ⟨b, o, none⟩ = some (.int .u8 (n.toNat : Int))
set_option maxRecDepth 20000 in
theorem open_u8s {v : Value} {d : DataW H} {p : List MemPlace} {W : World} {base : Nat} (h : DataW.Trod enc Tryd.prog w 0 (fun _ => true) true 47 v d p) (hs : Sized Tryd.prog 47 d) (hk : Value.okWide Tryd.prog W .any base 47 v) :
    ∃ l : List UInt8, l.length ≤ 140737488355328 ∧ ∀ (η : Names) (X : Nat → Nat → Prop), (∀ b i, X b i) → Rep Tryd.prog w η X (.sl .no (l.map bD)) v := by
  have elem : ∀ (fuel : Nat) (cs : List Value) (x : DataW H × List MemPlace) (b o : Nat), b < w.heap.size → DataW.trod enc Tryd.prog w 0 (fun _ => true) true fuel 5 cs = some x → Sized Tryd.prog 5 x.1 → cs.length = 1 → (∀ j u, cs[j]? = some u → w.cell? ⟨b, o + j, none⟩ = some u) → ∃ n, IsU8 w b o n := by
    intro fuel cs x b o _ h _ hlen hcell
    obtain ⟨n, rfl, _, hw⟩ := DataW.trod_int Tryd.underlying5 h
    have hb := bounds_u8 hw
    refine ⟨UInt8.ofNat n.toNat, ?_⟩
    have e : (((UInt8.ofNat n.toNat).toNat : Nat) : Int) = n := by
      rw [UInt8.toNat_ofNat_of_lt' (by show n.toNat < 256; omega)]; omega
    show _ = some (Value.int .u8 _)
    rw [e]
    exact hcell 0 _ rfl
  obtain ⟨A, c, l, rfl, hc, hr, hb⟩ := open_rows (P := Tryd.prog) (size := 1) (bytes := 1) Tryd.underlying47 (by kernel_rfl) (by omega) (by kernel_rfl) (by omega) (IsU8 w) elem h hs hk
  refine ⟨l, by omega, fun η X hX => ?_⟩
  simp only [Rep]
  refine ⟨A, c, by rw [List.length_map], by rw [List.length_map]; exact hc, by rw [List.length_map]; omega, trivial, fun h0 => ?_⟩
  rw [List.length_map] at h0
  obtain ⟨b, o, e, hbl, hf⟩ := hr h0
  refine ⟨b, o, 1, e, by omega, RepE.mk fun i d hd => ?_⟩
  rw [List.getElem?_map] at hd
  cases hi : l[i]? with
  | none => rw [hi] at hd; cases hd
  | some a =>
    rw [hi] at hd
    injection hd with hd
    subst hd
    exact ⟨by simp only [bD, RepA], fun _ => ⟨rfl, hX _ _, .int .u8 (a.toNat : Int), hf i a hi, rfl, by simp only [bD, Rep]⟩⟩
end
end Go.Proofs.YtbckanadjkhefaaDoor

/- fault's functions of nothing; the document's Ints; the example, walked. Conditions: none. -/
namespace Go.Proofs.YtbckanadjkhefaaDoor
open Go.RowKit
set_option linter.unusedSimpArgs false
set_option linter.unusedVariables false
theorem ine (x y : Int) : (x != y) = !decide (x = y) := by
  by_cases h : x = y
  · subst h; simp
  · simp [h, bne]
set_option maxRecDepth 200000 in
set_option maxHeartbeats 8000000 in
theorem ints_d (own own2 : Own) (p q : List Int) (hp : p.length ≤ 1000000) (hq : q.length ≤ 1000000) : DPure Tryd.prog 9 [.sl own (p.map iD), .sl own2 (q.map iD)] (.v (.bool (decide (p = q)))) := by
  refine dpure_of_dwp mixed Tryd.func9 rfl (fun _ _ => by kernel_rfl) (rs := [.tmp 4]) rfl (by kernel_rfl) trivial (fun S hS => ?_)
  by_cases hl : p.length = q.length
  · have b0 : ((p.length : Int) != (q.length : Int)) = false := by simp [hl]
    (simp (disch := first | decide | omega | (simp only [add_next, set_next, grow_next, leave_next, drop_next, List.length_map]; first | done | omega)) only [go_sem, ↓reduceIte, Nat.reduceBEq, Nat.reduceAdd, Nat.reduceLeDiff, Nat.reduceEqDiff, Nat.reduceLT, Nat.reduceMul, b0]; (repeat (with_reducible refine And.intro (by first | omega | assumption | rfl) ?_)))
    (refine dloop_st (fun t => List.contains [4, 5, 11, 12, 13, 14, 15, 16, 17, 18, 19, 20, 21, 22, 23, 24, 25] t) (by kernel_rfl) ?_ (p.length) (fun i f => i ≤ p.length ∧ f 5 = .v (.int .i64 (i : Nat)) ∧ (∀ j, j < i → p[j]? = q[j]?)) ?_ ?_; (exact (by (repeat' first | assumption | refine St.WF.leave ?_ _ | refine St.WF.add ?_ _ | refine St.WF.set ?_ ?_ _ | refine St.WF.grow ?_ _ _ _ | refine St.WF.keep ?_ ?_ | (first | omega | (simp only [RowOk.lo, add_next, set_next, grow_next, leave_next, drop_next]; first | done | omega))))); (exact ⟨(by omega), (by (first | (simp (disch := first | decide | omega | (simp only [add_next, set_next, grow_next, leave_next, drop_next, List.length_map]; first | done | omega)) only [go_sem, ↓reduceIte, Nat.reduceBEq, Nat.reduceAdd, Nat.reduceLeDiff, Nat.reduceEqDiff, Nat.reduceLT, Nat.reduceMul]; first | done | rfl) | rfl)), (fun j hj => by omega)⟩); intro i g tn hn hT hg hI; obtain ⟨le, q5, hsame⟩ := hI; have q0 := hg 0 rfl; have q1 := hg 1 rfl; simp (disch := first | decide | omega | (simp only [add_next, set_next, grow_next, leave_next, drop_next, List.length_map]; first | done | omega)) only [go_sem, ↓reduceIte, Nat.reduceBEq, Nat.reduceAdd, Nat.reduceLeDiff, Nat.reduceEqDiff, Nat.reduceLT, Nat.reduceMul] at q0 q1; clear hg; have hn' := hn; try simp only [add_next, set_next, grow_next, leave_next, drop_next] at hn')
    by_cases hlt : i < p.length
    · have b1 : decide ((i : Int) < (p.length : Int)) = true := by simp; omega
      have w1 : IntKind.i64.wrap ((i : Int) + 1) = ((i + 1 : Nat) : Int) := IntWalk.i64_in _ ⟨by omega, by omega⟩
      have hlt2 : i < q.length := by omega
      by_cases hx : p[i] = q[i]
      · have b2 : (!decide (p[i] = q[i])) = false := by simp [hx]
        (simp (disch := first | decide | omega | (simp only [add_next, set_next, grow_next, leave_next, drop_next, List.length_map]; first | done | omega)) only [go_sem, ↓reduceIte, Nat.reduceBEq, Nat.reduceAdd, Nat.reduceLeDiff, Nat.reduceEqDiff, Nat.reduceLT, Nat.reduceMul, q0, q1, q5, b1, w1]; (repeat (with_reducible refine And.intro (by first | omega | assumption | rfl) ?_)))
        refine ddraw_mk 9 (by kernel_rfl) ?_
        (simp (disch := first | decide | omega | (simp only [add_next, set_next, grow_next, leave_next, drop_next, List.length_map]; first | done | omega)) only [go_sem, ↓reduceIte, Nat.reduceBEq, Nat.reduceAdd, Nat.reduceLeDiff, Nat.reduceEqDiff, Nat.reduceLT, Nat.reduceMul, q0, q1, q5, b1, b2, w1, iD, ine]; (repeat (with_reducible refine And.intro (by first | omega | assumption | rfl) ?_)))
        (refine ⟨by omega, (by (repeat' first | assumption | exact St.Sub.refl _ | exact RowOk.sub (by assumption) (by assumption) | refine St.Sub.trans ?_ (RowOk.sub (by assumption) (by assumption)) | refine St.Sub.add ?_ ?_ _ | refine St.Sub.set ?_ ?_ ?_ _ | refine St.Sub.keep ?_ ?_ | refine St.WF.leave ?_ _ | refine St.WF.add ?_ _ | refine St.WF.set ?_ ?_ _ | refine St.WF.grow ?_ _ _ _ | refine St.WF.keep ?_ ?_ | (first | omega | (simp only [RowOk.lo, add_next, set_next, grow_next, leave_next, drop_next]; first | done | omega)))), ?_⟩; refine ⟨by omega, ?_, ?_⟩; all_goals (try (first | (simp (disch := first | decide | omega | (simp only [add_next, set_next, grow_next, leave_next, drop_next, List.length_map]; first | done | omega)) only [go_sem, ↓reduceIte, Nat.reduceBEq, Nat.reduceAdd, Nat.reduceLeDiff, Nat.reduceEqDiff, Nat.reduceLT, Nat.reduceMul, w1]; first | done | rfl) | rfl)))
        intro j hj
        by_cases e : j = i
        · subst e; rw [List.getElem?_eq_getElem hlt, List.getElem?_eq_getElem hlt2, hx]
        · exact hsame j (by omega)
      · have b2 : (!decide (p[i] = q[i])) = true := by simp [hx]
        (simp (disch := first | decide | omega | (simp only [add_next, set_next, grow_next, leave_next, drop_next, List.length_map]; first | done | omega)) only [go_sem, ↓reduceIte, Nat.reduceBEq, Nat.reduceAdd, Nat.reduceLeDiff, Nat.reduceEqDiff, Nat.reduceLT, Nat.reduceMul, q0, q1, q5, b1]; (repeat (with_reducible refine And.intro (by first | omega | assumption | rfl) ?_)))
        refine ddraw_mk 9 (by kernel_rfl) ?_
        (simp (disch := first | decide | omega | (simp only [add_next, set_next, grow_next, leave_next, drop_next, List.length_map]; first | done | omega)) only [go_sem, ↓reduceIte, Nat.reduceBEq, Nat.reduceAdd, Nat.reduceLeDiff, Nat.reduceEqDiff, Nat.reduceLT, Nat.reduceMul, q0, q1, q5, b1, b2, iD, ine]; (repeat (with_reducible refine And.intro (by first | omega | assumption | rfl) ?_)))
        refine ⟨?_, (by (repeat' first | assumption | exact St.Sub.refl _ | exact RowOk.sub (by assumption) (by assumption) | refine St.Sub.trans ?_ (RowOk.sub (by assumption) (by assumption)) | refine St.Sub.add ?_ ?_ _ | refine St.Sub.set ?_ ?_ ?_ _ | refine St.Sub.keep ?_ ?_ | refine St.WF.leave ?_ _ | refine St.WF.add ?_ _ | refine St.WF.set ?_ ?_ _ | refine St.WF.grow ?_ _ _ _ | refine St.WF.keep ?_ ?_ | (first | omega | (simp only [RowOk.lo, add_next, set_next, grow_next, leave_next, drop_next]; first | done | omega))))⟩
        rw [decide_eq_false]
        · rfl
        · intro e; subst e; exact hx rfl
    · have b1 : decide ((i : Int) < (p.length : Int)) = false := by simp; omega
      (simp (disch := first | decide | omega | (simp only [add_next, set_next, grow_next, leave_next, drop_next, List.length_map]; first | done | omega)) only [go_sem, ↓reduceIte, Nat.reduceBEq, Nat.reduceAdd, Nat.reduceLeDiff, Nat.reduceEqDiff, Nat.reduceLT, Nat.reduceMul, q0, q1, q5, b1]; (repeat (with_reducible refine And.intro (by first | omega | assumption | rfl) ?_)))
      refine ⟨?_, (by (repeat' first | assumption | exact St.Sub.refl _ | exact RowOk.sub (by assumption) (by assumption) | refine St.Sub.trans ?_ (RowOk.sub (by assumption) (by assumption)) | refine St.Sub.add ?_ ?_ _ | refine St.Sub.set ?_ ?_ ?_ _ | refine St.Sub.keep ?_ ?_ | refine St.WF.leave ?_ _ | refine St.WF.add ?_ _ | refine St.WF.set ?_ ?_ _ | refine St.WF.grow ?_ _ _ _ | refine St.WF.keep ?_ ?_ | (first | omega | (simp only [RowOk.lo, add_next, set_next, grow_next, leave_next, drop_next]; first | done | omega))))⟩
      rw [decide_eq_true]
      · rfl
      · refine List.ext_getElem? fun j => ?_
        by_cases hj : j < i
        · exact hsame j hj
        · rw [List.getElem?_eq_none (by omega), List.getElem?_eq_none (by omega)]
  · have b0 : ((p.length : Int) != (q.length : Int)) = true := by simp; omega
    (simp (disch := first | decide | omega | (simp only [add_next, set_next, grow_next, leave_next, drop_next, List.length_map]; first | done | omega)) only [go_sem, ↓reduceIte, Nat.reduceBEq, Nat.reduceAdd, Nat.reduceLeDiff, Nat.reduceEqDiff, Nat.reduceLT, Nat.reduceMul, b0]; (repeat (with_reducible refine And.intro (by first | omega | assumption | rfl) ?_)))
    refine ⟨?_, (by (repeat' first | assumption | exact St.Sub.refl _ | exact RowOk.sub (by assumption) (by assumption) | refine St.Sub.trans ?_ (RowOk.sub (by assumption) (by assumption)) | refine St.Sub.add ?_ ?_ _ | refine St.Sub.set ?_ ?_ ?_ _ | refine St.Sub.keep ?_ ?_ | refine St.WF.leave ?_ _ | refine St.WF.add ?_ _ | refine St.WF.set ?_ ?_ _ | refine St.WF.grow ?_ _ _ _ | refine St.WF.keep ?_ ?_ | (first | omega | (simp only [RowOk.lo, add_next, set_next, grow_next, leave_next, drop_next]; first | done | omega))))⟩
    rw [decide_eq_false]
    · rfl
    · intro e; subst e; exact hl rfl
section
variable {S : St}
theorem places_nil : DAt Tryd.prog 10 [.v .nilIface] S (encIs []) := by
  refine dat_of_dwpA (d := encIs []) mixed Tryd.func10 rfl (fun _ _ => by kernel_rfl) (rs := [.tmp 2]) rfl (by kernel_rfl) (fun hS => D.all_mono (fun _ h => h.elim) (closed_encIs [])) (fun hS => ?_)
  (simp (disch := first | decide | omega | (simp only [add_next, set_next, grow_next, leave_next, drop_next, List.length_map]; first | done | omega)) only [go_sem, ↓reduceIte, Nat.reduceBEq, Nat.reduceAdd, Nat.reduceLeDiff, Nat.reduceEqDiff, Nat.reduceLT, Nat.reduceMul]; (repeat (with_reducible refine And.intro (by first | omega | assumption | rfl) ?_)))
  refine outer_nil.go ?_
  (simp (disch := first | decide | omega | (simp only [add_next, set_next, grow_next, leave_next, drop_next, List.length_map]; first | done | omega)) only [go_sem, ↓reduceIte, Nat.reduceBEq, Nat.reduceAdd, Nat.reduceLeDiff, Nat.reduceEqDiff, Nat.reduceLT, Nat.reduceMul]; (repeat (with_reducible refine And.intro (by first | omega | assumption | rfl) ?_)))
  (refine dloop_st (fun t => List.contains [3, 4, 7, 8, 9, 10, 11, 12, 13, 14, 15, 16, 17, 18, 19, 20] t) (by kernel_rfl) ?_ (0) (fun i f => i ≤ 0 ∧ f 3 = .sl .full [] ∧ f 4 = .v (.pointer none)) ?_ ?_; (exact (by (repeat' first | assumption | refine St.WF.leave ?_ _ | refine St.WF.add ?_ _ | refine St.WF.set ?_ ?_ _ | refine St.WF.grow ?_ _ _ _ | refine St.WF.keep ?_ ?_ | (first | omega | (simp only [RowOk.lo, add_next, set_next, grow_next, leave_next, drop_next]; first | done | omega))))); (exact ⟨(by omega), (by (first | (simp (disch := first | decide | omega | (simp only [add_next, set_next, grow_next, leave_next, drop_next, List.length_map]; first | done | omega)) only [go_sem, ↓reduceIte, Nat.reduceBEq, Nat.reduceAdd, Nat.reduceLeDiff, Nat.reduceEqDiff, Nat.reduceLT, Nat.reduceMul]; first | done | rfl) | rfl)), (by (first | (simp (disch := first | decide | omega | (simp only [add_next, set_next, grow_next, leave_next, drop_next, List.length_map]; first | done | omega)) only [go_sem, ↓reduceIte, Nat.reduceBEq, Nat.reduceAdd, Nat.reduceLeDiff, Nat.reduceEqDiff, Nat.reduceLT, Nat.reduceMul]; first | done | rfl) | rfl))⟩); intro i g tn hn hT hg hI; obtain ⟨le, q3, q4⟩ := hI; have q2 := hg 2 rfl; simp (disch := first | decide | omega | (simp only [add_next, set_next, grow_next, leave_next, drop_next, List.length_map]; first | done | omega)) only [go_sem, ↓reduceIte, Nat.reduceBEq, Nat.reduceAdd, Nat.reduceLeDiff, Nat.reduceEqDiff, Nat.reduceLT, Nat.reduceMul] at q2; clear hg; have hn' := hn; try simp only [add_next, set_next, grow_next, leave_next, drop_next] at hn')
  (simp (disch := first | decide | omega | (simp only [add_next, set_next, grow_next, leave_next, drop_next, List.length_map]; first | done | omega)) only [go_sem, ↓reduceIte, Nat.reduceBEq, Nat.reduceAdd, Nat.reduceLeDiff, Nat.reduceEqDiff, Nat.reduceLT, Nat.reduceMul, q3, q4]; (repeat (with_reducible refine And.intro (by first | omega | assumption | rfl) ?_)))
  refine ⟨?_, (by (repeat' first | assumption | exact St.Sub.refl _ | exact RowOk.sub (by assumption) (by assumption) | refine St.Sub.trans ?_ (RowOk.sub (by assumption) (by assumption)) | refine St.Sub.add ?_ ?_ _ | refine St.Sub.set ?_ ?_ ?_ _ | refine St.Sub.keep ?_ ?_ | refine St.WF.leave ?_ _ | refine St.WF.add ?_ _ | refine St.WF.set ?_ ?_ _ | refine St.WF.grow ?_ _ _ _ | refine St.WF.keep ?_ ?_ | (first | omega | (simp only [RowOk.lo, add_next, set_next, grow_next, leave_next, drop_next]; first | done | omega))))⟩
  rfl
theorem unwrap_nil : DPure Tryd.prog 18 [.v (.pointer none)] (.v .nilIface) := by
  refine dpure_of_dwp mixed Tryd.func18 rfl (fun _ _ => by kernel_rfl) (rs := [.tmp 2]) rfl (by kernel_rfl) trivial (fun S hS => ?_)
  (simp (disch := first | decide | omega | (simp only [add_next, set_next, grow_next, leave_next, drop_next, List.length_map]; first | done | omega)) only [go_sem, ↓reduceIte, Nat.reduceBEq, Nat.reduceAdd, Nat.reduceLeDiff, Nat.reduceEqDiff, Nat.reduceLT, Nat.reduceMul]; (repeat (with_reducible refine And.intro (by first | omega | assumption | rfl) ?_)))
  refine ⟨?_, (by (repeat' first | assumption | exact St.Sub.refl _ | exact RowOk.sub (by assumption) (by assumption) | refine St.Sub.trans ?_ (RowOk.sub (by assumption) (by assumption)) | refine St.Sub.add ?_ ?_ _ | refine St.Sub.set ?_ ?_ ?_ _ | refine St.Sub.keep ?_ ?_ | refine St.WF.leave ?_ _ | refine St.WF.add ?_ _ | refine St.WF.set ?_ ?_ _ | refine St.WF.grow ?_ _ _ _ | refine St.WF.keep ?_ ?_ | (first | omega | (simp only [RowOk.lo, add_next, set_next, grow_next, leave_next, drop_next]; first | done | omega))))⟩
  rfl
/-- The first error that there is. -/
def firstD : List D → D
  | [] => .v .nilIface
  | .ifc t u :: _ => .ifc t u
  | _ :: l => firstD l
theorem is_nil (own : Own) (cs : List Int) (hl : cs.length < 1000000) : DPure Tryd.prog 21 [.v .nilIface, .sl own (cs.map iD)] (.v (.bool false)) := by
  refine dpure_of_dwp mixed Tryd.func21 rfl (fun _ _ => by kernel_rfl) (rs := [.tmp 4]) rfl (by kernel_rfl) trivial (fun S hS => ?_)
  (simp (disch := first | decide | omega | (simp only [add_next, set_next, grow_next, leave_next, drop_next, List.length_map]; first | done | omega)) only [go_sem, ↓reduceIte, Nat.reduceBEq, Nat.reduceAdd, Nat.reduceLeDiff, Nat.reduceEqDiff, Nat.reduceLT, Nat.reduceMul]; (repeat (with_reducible refine And.intro (by first | omega | assumption | rfl) ?_)))
  (refine dloop_st (fun t => List.contains [4, 6, 9, 10, 11, 12, 13, 14, 15, 16, 17, 18, 19, 20, 21, 22, 23, 24, 25, 26, 27] t) (by kernel_rfl) ?_ (cs.length) (fun i f => i ≤ cs.length ∧ f 9 = .v (.int .i64 (i : Nat)) ∧ f 4 = .v (.bool false)) ?_ ?_; (exact (by (repeat' first | assumption | refine St.WF.leave ?_ _ | refine St.WF.add ?_ _ | refine St.WF.set ?_ ?_ _ | refine St.WF.grow ?_ _ _ _ | refine St.WF.keep ?_ ?_ | (first | omega | (simp only [RowOk.lo, add_next, set_next, grow_next, leave_next, drop_next]; first | done | omega))))); (exact ⟨(by omega), (by (first | (simp (disch := first | decide | omega | (simp only [add_next, set_next, grow_next, leave_next, drop_next, List.length_map]; first | done | omega)) only [go_sem, ↓reduceIte, Nat.reduceBEq, Nat.reduceAdd, Nat.reduceLeDiff, Nat.reduceEqDiff, Nat.reduceLT, Nat.reduceMul]; first | done | rfl) | rfl)), (by (first | (simp (disch := first | decide | omega | (simp only [add_next, set_next, grow_next, leave_next, drop_next, List.length_map]; first | done | omega)) only [go_sem, ↓reduceIte, Nat.reduceBEq, Nat.reduceAdd, Nat.reduceLeDiff, Nat.reduceEqDiff, Nat.reduceLT, Nat.reduceMul]; first | done | rfl) | rfl))⟩); intro i g tn hn hT hg hI; obtain ⟨le, q9, q4⟩ := hI; have q0 := hg 0 rfl; have q7 := hg 7 rfl; have q8 := hg 8 rfl; simp (disch := first | decide | omega | (simp only [add_next, set_next, grow_next, leave_next, drop_next, List.length_map]; first | done | omega)) only [go_sem, ↓reduceIte, Nat.reduceBEq, Nat.reduceAdd, Nat.reduceLeDiff, Nat.reduceEqDiff, Nat.reduceLT, Nat.reduceMul] at q0 q7 q8; clear hg; have hn' := hn; try simp only [add_next, set_next, grow_next, leave_next, drop_next] at hn')
  by_cases hlt : i < cs.length
  · have b1 : decide ((i : Int) < (cs.length : Int)) = true := by simp; omega
    have w1 : IntKind.i64.wrap ((i : Int) + 1) = ((i + 1 : Nat) : Int) := IntWalk.i64_in _ ⟨by omega, by omega⟩
    (simp (disch := first | decide | omega | (simp only [add_next, set_next, grow_next, leave_next, drop_next, List.length_map]; first | done | omega)) only [go_sem, ↓reduceIte, Nat.reduceBEq, Nat.reduceAdd, Nat.reduceLeDiff, Nat.reduceEqDiff, Nat.reduceLT, Nat.reduceMul, q0, q7, q8, q9, b1, w1, iD]; (repeat (with_reducible refine And.intro (by first | omega | assumption | rfl) ?_)))
    (refine ⟨by omega, (by (repeat' first | assumption | exact St.Sub.refl _ | exact RowOk.sub (by assumption) (by assumption) | refine St.Sub.trans ?_ (RowOk.sub (by assumption) (by assumption)) | refine St.Sub.add ?_ ?_ _ | refine St.Sub.set ?_ ?_ ?_ _ | refine St.Sub.keep ?_ ?_ | refine St.WF.leave ?_ _ | refine St.WF.add ?_ _ | refine St.WF.set ?_ ?_ _ | refine St.WF.grow ?_ _ _ _ | refine St.WF.keep ?_ ?_ | (first | omega | (simp only [RowOk.lo, add_next, set_next, grow_next, leave_next, drop_next]; first | done | omega)))), ?_⟩; refine ⟨by omega, ?_, ?_⟩; all_goals (try (first | (simp (disch := first | decide | omega | (simp only [add_next, set_next, grow_next, leave_next, drop_next, List.length_map]; first | done | omega)) only [go_sem, ↓reduceIte, Nat.reduceBEq, Nat.reduceAdd, Nat.reduceLeDiff, Nat.reduceEqDiff, Nat.reduceLT, Nat.reduceMul, w1, q4]; first | done | rfl) | rfl)))
  · have b1 : decide ((i : Int) < (cs.length : Int)) = false := by simp; omega
    (simp (disch := first | decide | omega | (simp only [add_next, set_next, grow_next, leave_next, drop_next, List.length_map]; first | done | omega)) only [go_sem, ↓reduceIte, Nat.reduceBEq, Nat.reduceAdd, Nat.reduceLeDiff, Nat.reduceEqDiff, Nat.reduceLT, Nat.reduceMul, q0, q7, q8, q9, b1]; (repeat (with_reducible refine And.intro (by first | omega | assumption | rfl) ?_)))
    refine ⟨?_, (by (repeat' first | assumption | exact St.Sub.refl _ | exact RowOk.sub (by assumption) (by assumption) | refine St.Sub.trans ?_ (RowOk.sub (by assumption) (by assumption)) | refine St.Sub.add ?_ ?_ _ | refine St.Sub.set ?_ ?_ ?_ _ | refine St.Sub.keep ?_ ?_ | refine St.WF.leave ?_ _ | refine St.WF.add ?_ _ | refine St.WF.set ?_ ?_ _ | refine St.WF.grow ?_ _ _ _ | refine St.WF.keep ?_ ?_ | (first | omega | (simp only [RowOk.lo, add_next, set_next, grow_next, leave_next, drop_next]; first | done | omega))))⟩
    rfl
/-- fault.First of nothing but nil. -/
theorem first_nils (own : Own) (l : List D) (hnl : ∀ d ∈ l, d = .v .nilIface) (hl : l.length < 1000000) : DPure Tryd.prog 20 [.sl own l] (.v .nilIface) := by
  refine dpure_of_dwp mixed Tryd.func20 rfl (fun _ _ => by kernel_rfl) (rs := [.tmp 2]) rfl (by kernel_rfl) trivial (fun S hS => ?_)
  (simp (disch := first | decide | omega | (simp only [add_next, set_next, grow_next, leave_next, drop_next, List.length_map]; first | done | omega)) only [go_sem, ↓reduceIte, Nat.reduceBEq, Nat.reduceAdd, Nat.reduceLeDiff, Nat.reduceEqDiff, Nat.reduceLT, Nat.reduceMul]; (repeat (with_reducible refine And.intro (by first | omega | assumption | rfl) ?_)))
  (refine dloop_st (fun t => List.contains [2, 4, 7, 8, 9, 10, 11, 12, 13, 14] t) (by kernel_rfl) ?_ (l.length) (fun i f => i ≤ l.length ∧ f 7 = .v (.int .i64 (i : Nat)) ∧ f 2 = .v .nilIface) ?_ ?_; (exact (by (repeat' first | assumption | refine St.WF.leave ?_ _ | refine St.WF.add ?_ _ | refine St.WF.set ?_ ?_ _ | refine St.WF.grow ?_ _ _ _ | refine St.WF.keep ?_ ?_ | (first | omega | (simp only [RowOk.lo, add_next, set_next, grow_next, leave_next, drop_next]; first | done | omega))))); (exact ⟨(by omega), (by (first | (simp (disch := first | decide | omega | (simp only [add_next, set_next, grow_next, leave_next, drop_next, List.length_map]; first | done | omega)) only [go_sem, ↓reduceIte, Nat.reduceBEq, Nat.reduceAdd, Nat.reduceLeDiff, Nat.reduceEqDiff, Nat.reduceLT, Nat.reduceMul]; first | done | rfl) | rfl)), (by (first | (simp (disch := first | decide | omega | (simp only [add_next, set_next, grow_next, leave_next, drop_next, List.length_map]; first | done | omega)) only [go_sem, ↓reduceIte, Nat.reduceBEq, Nat.reduceAdd, Nat.reduceLeDiff, Nat.reduceEqDiff, Nat.reduceLT, Nat.reduceMul]; first | done | rfl) | rfl))⟩); intro i g tn hn hT hg hI; obtain ⟨le, q7, q2⟩ := hI; have q5 := hg 5 rfl; have q6 := hg 6 rfl; simp (disch := first | decide | omega | (simp only [add_next, set_next, grow_next, leave_next, drop_next, List.length_map]; first | done | omega)) only [go_sem, ↓reduceIte, Nat.reduceBEq, Nat.reduceAdd, Nat.reduceLeDiff, Nat.reduceEqDiff, Nat.reduceLT, Nat.reduceMul] at q5 q6; clear hg; have hn' := hn; try simp only [add_next, set_next, grow_next, leave_next, drop_next] at hn')
  by_cases hlt : i < l.length
  · have b1 : decide ((i : Int) < (l.length : Int)) = true := by simp; omega
    have w1 : IntKind.i64.wrap ((i : Int) + 1) = ((i + 1 : Nat) : Int) := IntWalk.i64_in _ ⟨by omega, by omega⟩
    have hx : l.getD i undefD = .v .nilIface := by rw [List.getD_eq_getElem?_getD, List.getElem?_eq_getElem hlt]; exact hnl _ (List.getElem_mem hlt)
    (simp (disch := first | decide | omega | (simp only [add_next, set_next, grow_next, leave_next, drop_next, List.length_map]; first | done | omega)) only [go_sem, ↓reduceIte, Nat.reduceBEq, Nat.reduceAdd, Nat.reduceLeDiff, Nat.reduceEqDiff, Nat.reduceLT, Nat.reduceMul, q5, q6, q7, b1, w1, hx]; (repeat (with_reducible refine And.intro (by first | omega | assumption | rfl) ?_)))
    (refine ⟨by omega, (by (repeat' first | assumption | exact St.Sub.refl _ | exact RowOk.sub (by assumption) (by assumption) | refine St.Sub.trans ?_ (RowOk.sub (by assumption) (by assumption)) | refine St.Sub.add ?_ ?_ _ | refine St.Sub.set ?_ ?_ ?_ _ | refine St.Sub.keep ?_ ?_ | refine St.WF.leave ?_ _ | refine St.WF.add ?_ _ | refine St.WF.set ?_ ?_ _ | refine St.WF.grow ?_ _ _ _ | refine St.WF.keep ?_ ?_ | (first | omega | (simp only [RowOk.lo, add_next, set_next, grow_next, leave_next, drop_next]; first | done | omega)))), ?_⟩; refine ⟨by omega, ?_, ?_⟩; all_goals (try (first | (simp (disch := first | decide | omega | (simp only [add_next, set_next, grow_next, leave_next, drop_next, List.length_map]; first | done | omega)) only [go_sem, ↓reduceIte, Nat.reduceBEq, Nat.reduceAdd, Nat.reduceLeDiff, Nat.reduceEqDiff, Nat.reduceLT, Nat.reduceMul, w1, q2]; first | done | rfl) | rfl)))
  · have b1 : decide ((i : Int) < (l.length : Int)) = false := by simp; omega
    (simp (disch := first | decide | omega | (simp only [add_next, set_next, grow_next, leave_next, drop_next, List.length_map]; first | done | omega)) only [go_sem, ↓reduceIte, Nat.reduceBEq, Nat.reduceAdd, Nat.reduceLeDiff, Nat.reduceEqDiff, Nat.reduceLT, Nat.reduceMul, q5, q6, q7, b1]; (repeat (with_reducible refine And.intro (by first | omega | assumption | rfl) ?_)))
    refine ⟨?_, (by (repeat' first | assumption | exact St.Sub.refl _ | exact RowOk.sub (by assumption) (by assumption) | refine St.Sub.trans ?_ (RowOk.sub (by assumption) (by assumption)) | refine St.Sub.add ?_ ?_ _ | refine St.Sub.set ?_ ?_ ?_ _ | refine St.Sub.keep ?_ ?_ | refine St.WF.leave ?_ _ | refine St.WF.add ?_ _ | refine St.WF.set ?_ ?_ _ | refine St.WF.grow ?_ _ _ _ | refine St.WF.keep ?_ ?_ | (first | omega | (simp only [RowOk.lo, add_next, set_next, grow_next, leave_next, drop_next]; first | done | omega))))⟩
    rfl
/-- The example: places. -/
theorem awake_d : DPure Tryd.prog 12 [] (.v (.bool true)) := by
  refine dpure_of_dwp mixed Tryd.func12 rfl (fun _ _ => by kernel_rfl) (rs := [.tmp 0]) rfl (by kernel_rfl) trivial (fun S hS => ?_)
  (simp (disch := first | decide | omega | (simp only [add_next, set_next, grow_next, leave_next, drop_next, List.length_map]; first | done | omega)) only [go_sem, ↓reduceIte, Nat.reduceBEq, Nat.reduceAdd, Nat.reduceLeDiff, Nat.reduceEqDiff, Nat.reduceLT, Nat.reduceMul]; (repeat (with_reducible refine And.intro (by first | omega | assumption | rfl) ?_)))
  refine wrap_at ?_
  (simp (disch := first | decide | omega | (simp only [add_next, set_next, grow_next, leave_next, drop_next, List.length_map]; first | done | omega)) only [go_sem, ↓reduceIte, Nat.reduceBEq, Nat.reduceAdd, Nat.reduceLeDiff, Nat.reduceEqDiff, Nat.reduceLT, Nat.reduceMul]; (repeat (with_reducible refine And.intro (by first | omega | assumption | rfl) ?_)))
  refine wrap_at ?_
  (simp (disch := first | decide | omega | (simp only [add_next, set_next, grow_next, leave_next, drop_next, List.length_map]; first | done | omega)) only [go_sem, ↓reduceIte, Nat.reduceBEq, Nat.reduceAdd, Nat.reduceLeDiff, Nat.reduceEqDiff, Nat.reduceLT, Nat.reduceMul]; (repeat (with_reducible refine And.intro (by first | omega | assumption | rfl) ?_)))
  have hT : ((S.add (.box 42 [.v (.int .i64 3), erD 2])).add (.box 42 [.v (.int .i64 7), atD S.next])).WF := (by (repeat' first | assumption | refine St.WF.leave ?_ _ | refine St.WF.add ?_ _ | refine St.WF.set ?_ ?_ _ | refine St.WF.grow ?_ _ _ _ | refine St.WF.keep ?_ ?_ | (first | omega | (simp only [RowOk.lo, add_next, set_next, grow_next, leave_next, drop_next]; first | done | omega))))
  have hc : Chain ((S.add (.box 42 [.v (.int .i64 3), erD 2])).add (.box 42 [.v (.int .i64 7), atD S.next])) [7, 3] 2 (atD (S.next + 1)) := by
    refine .at_ (d := atD S.next) ?_ (.at_ (d := erD 2) ?_ (.code 2))
    · show (if S.next + 1 = S.next + 1 then _ else _) = _
      rw [if_pos rfl]
    · show (if S.next = S.next + 1 then _ else if S.next = S.next then _ else _) = _
      rw [if_neg (by omega), if_pos rfl]
  refine (code_at hc (by decide)).go ?_
  (simp (disch := first | decide | omega | (simp only [add_next, set_next, grow_next, leave_next, drop_next, List.length_map]; first | done | omega)) only [go_sem, ↓reduceIte, Nat.reduceBEq, Nat.reduceAdd, Nat.reduceLeDiff, Nat.reduceEqDiff, Nat.reduceLT, Nat.reduceMul]; (repeat (with_reducible refine And.intro (by first | omega | assumption | rfl) ?_)))
  refine (place_at hc).go ?_
  have o7 : outP [7, 3] = 7 := rfl
  (simp (disch := first | decide | omega | (simp only [add_next, set_next, grow_next, leave_next, drop_next, List.length_map]; first | done | omega)) only [go_sem, ↓reduceIte, Nat.reduceBEq, Nat.reduceAdd, Nat.reduceLeDiff, Nat.reduceEqDiff, Nat.reduceLT, Nat.reduceMul, o7]; (repeat (with_reducible refine And.intro (by first | omega | assumption | rfl) ?_)))
  refine (places_at hc (by decide)).go ?_
  (simp (disch := first | decide | omega | (simp only [add_next, set_next, grow_next, leave_next, drop_next, List.length_map]; first | done | omega)) only [go_sem, ↓reduceIte, Nat.reduceBEq, Nat.reduceAdd, Nat.reduceLeDiff, Nat.reduceEqDiff, Nat.reduceLT, Nat.reduceMul]; (repeat (with_reducible refine And.intro (by first | omega | assumption | rfl) ?_)))
  refine DCalls.of_pure (ints_d .no .full [7, 3] [7, 3] (by decide) (by decide)) ?_
  have o8 : decide (([7, 3] : List Int) = [7, 3]) = true := by decide
  (simp (disch := first | decide | omega | (simp only [add_next, set_next, grow_next, leave_next, drop_next, List.length_map]; first | done | omega)) only [go_sem, ↓reduceIte, Nat.reduceBEq, Nat.reduceAdd, Nat.reduceLeDiff, Nat.reduceEqDiff, Nat.reduceLT, Nat.reduceMul, o8]; (repeat (with_reducible refine And.intro (by first | omega | assumption | rfl) ?_)))
  refine ⟨?_, (by (repeat' first | assumption | exact St.Sub.refl _ | exact RowOk.sub (by assumption) (by assumption) | refine St.Sub.trans ?_ (RowOk.sub (by assumption) (by assumption)) | refine St.Sub.add ?_ ?_ _ | refine St.Sub.set ?_ ?_ ?_ _ | refine St.Sub.keep ?_ ?_ | refine St.WF.leave ?_ _ | refine St.WF.add ?_ _ | refine St.WF.set ?_ ?_ _ | refine St.WF.grow ?_ _ _ _ | refine St.WF.keep ?_ ?_ | (first | omega | (simp only [RowOk.lo, add_next, set_next, grow_next, leave_next, drop_next]; first | done | omega))))⟩
  rfl
end
end Go.Proofs.YtbckanadjkhefaaDoor

/- errors.Is at an error that is there, walked. Conditions: none. -/
namespace Go.Proofs.YtbckanadjkhefaaDoor
open Go.RowKit Go.Extern.Stop Go.Stop Go.Extern
set_option linter.unusedSimpArgs false
set_option linter.unusedVariables false
theorem eql_er (n m : Int) (w : World) : (binOp .eql 24 (.iface 29 (.int .i64 n)) (.iface 29 (.int .i64 m))).run Tryd.prog w = .ok (.bool (n == m)) w := by kernel_rfl
theorem ifcB_er (n m : Int) : ifcB 29 (.v (.int .i64 n)) 29 (.v (.int .i64 m)) = (n == m) := by
  simp [ifcB, valsEq, cellEq]
theorem ifc_er (x y : Operand) (n m : Int) : IfcEq Tryd.prog 24 x y 29 (.v (.int .i64 n)) 29 (.v (.int .i64 m)) = True := eq_true fun w η X u v hu hv => by
  simp only [Rep] at hu hv
  subst hu hv
  rw [ifcB_er]
  exact eql_er n m w
theorem ifcB_at (d : D) (m : Int) : ifcB 38 d 29 (.v (.int .i64 m)) = false := rfl
theorem ifc_at (x y : Operand) (d : D) (m : Int) : IfcEq Tryd.prog 24 x y 38 d 29 (.v (.int .i64 m)) = True := eq_true fun w η X u v hu hv => by
  rw [ifcB_at]
  exact run_eql_iface_types 38 29 u v Tryd.underlying24 (by decide) w
section
variable {S : St} {K : D → St → Prop} {u : D}
theorem asrErIs (hk : K (.tup [.v .nilIface, .v (.bool false)]) S) : dassert Tryd.prog (.ifc 29 u) 24 76 true S K := dassert_no (fun x w => run_typeAssert_lacksB Tryd.underlying76 (by kernel_rfl) (by kernel_rfl) x 24 w) hk
theorem asrAtIs (hk : K (.tup [.v .nilIface, .v (.bool false)]) S) : dassert Tryd.prog (.ifc 38 u) 24 76 true S K := dassert_no (fun x w => run_typeAssert_lacksB Tryd.underlying76 (by kernel_rfl) (by kernel_rfl) x 24 w) hk
theorem methComp : DMeth Tryd.prog 74 (tyD 29) "Comparable" 55 (tyD 29) := dmeth_pure rfl rfl fun w => by kernel_rfl
theorem rlComp (h : K (.v (.bool true)) S) : DCalls Tryd.prog 55 [tyD 29] S K :=
  dext_pure (e := ReflectliteType.method fun t => do Rtype.noPackHeld "Comparable" t; pure (.bool (← typeInfo t).comparable)) Tryd.func55 (by kernel_rfl) (by kernel_rfl) (by kernel_rfl) (by kernel_rfl) (r := .bool true) rfl (fun w => by kernel_rfl) rfl h
end
set_option maxRecDepth 200000 in
set_option maxHeartbeats 4000000 in
theorem isWalk {S : St} {ps : List Int} {n m : Int} {d : D} {K : D → St → Prop} (hc : Chain S ps n d) (hl : ps.length < 1000000) (h : ∀ T, S.next ≤ T.next → T.ob = S.ob → K (.v (.bool (n == m))) T) : DCalls Tryd.prog 25 [d, erD m, .v (.bool true)] S K := by
  obtain ⟨e, e0, en, he⟩ := hc.fn
  refine dcalls_inline mixed Tryd.func25 rfl (fun _ _ => by kernel_rfl) (rs := [.tmp 6]) rfl (by kernel_rfl) (fun hS => ?_)
  (simp (disch := first | decide | omega | (simp only [add_next, set_next, grow_next, leave_next, drop_next, List.length_map]; first | done | omega)) only [go_sem, ↓reduceIte, Nat.reduceBEq, Nat.reduceAdd, Nat.reduceLeDiff, Nat.reduceEqDiff, Nat.reduceLT, Nat.reduceMul]; (repeat (with_reducible refine And.intro (by first | omega | assumption | rfl) ?_)))
  (refine dloop_st (fun t => List.contains [0, 6, 7, 8, 9, 10, 12, 13, 14, 15, 16, 17, 18, 19, 20, 21, 22, 23, 24, 25, 26, 27, 28, 29, 30, 31, 32, 33, 34, 35, 36, 37, 38, 39, 40, 41, 42, 43, 44, 45, 46, 47, 48, 49, 50, 51, 52, 53] t) (by kernel_rfl) ?_ (ps.length) (fun i f => i ≤ ps.length ∧ f 0 = e i ∧ f 6 = .v (.bool false)) ?_ ?_; (exact (by (repeat' first | assumption | refine St.WF.leave ?_ _ | refine St.WF.add ?_ _ | refine St.WF.set ?_ ?_ _ | refine St.WF.grow ?_ _ _ _ | refine St.WF.keep ?_ ?_ | (first | omega | (simp only [RowOk.lo, add_next, set_next, grow_next, leave_next, drop_next]; first | done | omega))))); (exact ⟨(by omega), (by (first | (simp (disch := first | decide | omega | (simp only [add_next, set_next, grow_next, leave_next, drop_next, List.length_map]; first | done | omega)) only [go_sem, ↓reduceIte, Nat.reduceBEq, Nat.reduceAdd, Nat.reduceLeDiff, Nat.reduceEqDiff, Nat.reduceLT, Nat.reduceMul, e0]; first | done | rfl) | rfl)), (by (first | (simp (disch := first | decide | omega | (simp only [add_next, set_next, grow_next, leave_next, drop_next, List.length_map]; first | done | omega)) only [go_sem, ↓reduceIte, Nat.reduceBEq, Nat.reduceAdd, Nat.reduceLeDiff, Nat.reduceEqDiff, Nat.reduceLT, Nat.reduceMul, e0]; first | done | rfl) | rfl))⟩); intro i g tn hn hT hg hI; obtain ⟨le, q0, q6⟩ := hI; have q1 := hg 1 rfl; have q2 := hg 2 rfl; simp (disch := first | decide | omega | (simp only [add_next, set_next, grow_next, leave_next, drop_next, List.length_map]; first | done | omega)) only [go_sem, ↓reduceIte, Nat.reduceBEq, Nat.reduceAdd, Nat.reduceLeDiff, Nat.reduceEqDiff, Nat.reduceLT, Nat.reduceMul, e0] at q1 q2; clear hg; have hn' := hn; try simp only [add_next, set_next, grow_next, leave_next, drop_next] at hn')
  by_cases hlt : i < ps.length
  · obtain ⟨k, ek, hok⟩ := he i hlt
    rw [ek] at q0
    obtain ⟨t', u', eu⟩ : ∃ t u, e (i + 1) = .ifc t u := by
      by_cases h2 : i + 1 < ps.length
      · obtain ⟨k', ek', _⟩ := he (i + 1) h2
        exact ⟨_, _, ek'⟩
      · rw [show i + 1 = ps.length by omega, en]; exact ⟨_, _, rfl⟩
    (simp (disch := first | decide | omega | (simp only [add_next, set_next, grow_next, leave_next, drop_next, List.length_map]; first | done | omega)) only [go_sem, ↓reduceIte, Nat.reduceBEq, Nat.reduceAdd, Nat.reduceLeDiff, Nat.reduceEqDiff, Nat.reduceLT, Nat.reduceMul, q0, q1, q2, ifc_at, ifcB_at]; (repeat (with_reducible refine And.intro (by first | omega | assumption | rfl) ?_)))
    refine asrAtIs ?_
    (simp (disch := first | decide | omega | (simp only [add_next, set_next, grow_next, leave_next, drop_next, List.length_map]; first | done | omega)) only [go_sem, ↓reduceIte, Nat.reduceBEq, Nat.reduceAdd, Nat.reduceLeDiff, Nat.reduceEqDiff, Nat.reduceLT, Nat.reduceMul, q0, q1, q2]; (repeat (with_reducible refine And.intro (by first | omega | assumption | rfl) ?_)))
    refine asrAtUn ?_
    (simp (disch := first | decide | omega | (simp only [add_next, set_next, grow_next, leave_next, drop_next, List.length_map]; first | done | omega)) only [go_sem, ↓reduceIte, Nat.reduceBEq, Nat.reduceAdd, Nat.reduceLeDiff, Nat.reduceEqDiff, Nat.reduceLT, Nat.reduceMul, q0, q1, q2]; (repeat (with_reducible refine And.intro (by first | omega | assumption | rfl) ?_)))
    refine dinvoke_mk methUn (unwrap_at rfl hok ?_)
    (simp (disch := first | decide | omega | (simp only [add_next, set_next, grow_next, leave_next, drop_next, List.length_map]; first | done | omega)) only [go_sem, ↓reduceIte, Nat.reduceBEq, Nat.reduceAdd, Nat.reduceLeDiff, Nat.reduceEqDiff, Nat.reduceLT, Nat.reduceMul, q0, eu, q1, q2]; (repeat (with_reducible refine And.intro (by first | omega | assumption | rfl) ?_)))
    (refine ⟨by omega, (by (repeat' first | assumption | exact St.Sub.refl _ | exact RowOk.sub (by assumption) (by assumption) | refine St.Sub.trans ?_ (RowOk.sub (by assumption) (by assumption)) | refine St.Sub.add ?_ ?_ _ | refine St.Sub.set ?_ ?_ ?_ _ | refine St.Sub.keep ?_ ?_ | refine St.WF.leave ?_ _ | refine St.WF.add ?_ _ | refine St.WF.set ?_ ?_ _ | refine St.WF.grow ?_ _ _ _ | refine St.WF.keep ?_ ?_ | (first | omega | (simp only [RowOk.lo, add_next, set_next, grow_next, leave_next, drop_next]; first | done | omega)))), ?_⟩; refine ⟨by omega, ?_, ?_⟩; all_goals (try (first | (simp (disch := first | decide | omega | (simp only [add_next, set_next, grow_next, leave_next, drop_next, List.length_map]; first | done | omega)) only [go_sem, ↓reduceIte, Nat.reduceBEq, Nat.reduceAdd, Nat.reduceLeDiff, Nat.reduceEqDiff, Nat.reduceLT, Nat.reduceMul, eu, q6]; first | done | rfl) | rfl)))
  · have hil : i = ps.length := by omega
    subst hil
    rw [en] at q0
    cases hnm : (n == m) with
    | true =>
      (simp (disch := first | decide | omega | (simp only [add_next, set_next, grow_next, leave_next, drop_next, List.length_map]; first | done | omega)) only [go_sem, ↓reduceIte, Nat.reduceBEq, Nat.reduceAdd, Nat.reduceLeDiff, Nat.reduceEqDiff, Nat.reduceLT, Nat.reduceMul, q0, q1, q2, ifc_er, ifcB_er, hnm]; (repeat (with_reducible refine And.intro (by first | omega | assumption | rfl) ?_)))
      have := h ⟨tn, S.ob⟩ hn rfl
      rw [hnm] at this
      exact this
    | false =>
      (simp (disch := first | decide | omega | (simp only [add_next, set_next, grow_next, leave_next, drop_next, List.length_map]; first | done | omega)) only [go_sem, ↓reduceIte, Nat.reduceBEq, Nat.reduceAdd, Nat.reduceLeDiff, Nat.reduceEqDiff, Nat.reduceLT, Nat.reduceMul, q0, q1, q2, ifc_er, ifcB_er, hnm]; (repeat (with_reducible refine And.intro (by first | omega | assumption | rfl) ?_)))
      refine asrErIs ?_
      (simp (disch := first | decide | omega | (simp only [add_next, set_next, grow_next, leave_next, drop_next, List.length_map]; first | done | omega)) only [go_sem, ↓reduceIte, Nat.reduceBEq, Nat.reduceAdd, Nat.reduceLeDiff, Nat.reduceEqDiff, Nat.reduceLT, Nat.reduceMul, q0, q1, q2]; (repeat (with_reducible refine And.intro (by first | omega | assumption | rfl) ?_)))
      refine asrErUn ?_
      (simp (disch := first | decide | omega | (simp only [add_next, set_next, grow_next, leave_next, drop_next, List.length_map]; first | done | omega)) only [go_sem, ↓reduceIte, Nat.reduceBEq, Nat.reduceAdd, Nat.reduceLeDiff, Nat.reduceEqDiff, Nat.reduceLT, Nat.reduceMul, q0, q1, q2]; (repeat (with_reducible refine And.intro (by first | omega | assumption | rfl) ?_)))
      refine asrErUs ?_
      (simp (disch := first | decide | omega | (simp only [add_next, set_next, grow_next, leave_next, drop_next, List.length_map]; first | done | omega)) only [go_sem, ↓reduceIte, Nat.reduceBEq, Nat.reduceAdd, Nat.reduceLeDiff, Nat.reduceEqDiff, Nat.reduceLT, Nat.reduceMul, q0, q1, q2]; (repeat (with_reducible refine And.intro (by first | omega | assumption | rfl) ?_)))
      have := h ⟨tn, S.ob⟩ hn rfl
      rw [hnm] at this
      exact this
end Go.Proofs.YtbckanadjkhefaaDoor
