/- FaultFirst answers true, whatever comes. Conditions: none but the statement's own. -/
import Derived.Test.YtbckanadjkhefaaDoorCLawF5
import Derived.Test.YtbckanadjkhefaaDoorCards
import Derived.Test.YtbckanadjkhefaaDoorTie
import Derived.SevenTiedAt
import Derived.RowKit
import Derived.RowKitTokens
set_option linter.unusedVariables false
set_option linter.unusedSimpArgs false
/- The document's Wrap; the laws' made, walked. Conditions: none. -/
namespace Go.Proofs.YtbckanadjkhefaaDoor
open Go.RowKit
set_option linter.unusedSimpArgs false
set_option linter.unusedVariables false
/-- A fault, as a tree. -/
def encF (c : Int) (ps : List Int) : D := .agg [.v (.int .i64 c), encIs ps]
theorem closed_encF (c : Int) (ps : List Int) : (encF c ps).closed := by
  simp only [encF, D.closed, D.all, allL]
  exact ⟨trivial, closed_encIs ps, trivial⟩
theorem elI : elT Tryd.prog 22 = some 3 := by kernel_rfl
set_option maxRecDepth 200000 in
set_option maxHeartbeats 4000000 in
theorem refWrap_d (c p : Int) (own : Own) (ps : List Int) (hl : ps.length < 1000000) : DPure Tryd.prog 22 [.agg [.v (.int .i64 c), .sl own (ps.map iD)], .v (.int .i64 p)] (if c = 0 then encF 0 [] else encF c (p :: ps)) := by
  have hcl : (if c = 0 then encF 0 [] else encF c (p :: ps)).closed := by split <;> exact closed_encF _ _
  refine dpure_of_dwp mixed Tryd.func22 rfl (fun _ _ => by kernel_rfl) (rs := [.cell 4 26]) rfl (by kernel_rfl) hcl (fun S hS => ?_)
  (simp (disch := first | decide | omega | (simp only [add_next, set_next, grow_next, leave_next, drop_next, List.length_map]; first | done | omega)) only [go_sem, ↓reduceIte, Nat.reduceBEq, Nat.reduceAdd, Nat.reduceLeDiff, Nat.reduceEqDiff, Nat.reduceLT, Nat.reduceMul]; (repeat (with_reducible refine And.intro (by first | omega | assumption | rfl) ?_)))
  by_cases h0 : c = 0
  · have b0 : (c == 0) = true := by simp [h0]
    (simp (disch := first | decide | omega | (simp only [add_next, set_next, grow_next, leave_next, drop_next, List.length_map]; first | done | omega)) only [go_sem, ↓reduceIte, Nat.reduceBEq, Nat.reduceAdd, Nat.reduceLeDiff, Nat.reduceEqDiff, Nat.reduceLT, Nat.reduceMul, b0]; (repeat (with_reducible refine And.intro (by first | omega | assumption | rfl) ?_)))
    refine ⟨?_, (by (repeat' first | assumption | exact St.Sub.refl _ | exact RowOk.sub (by assumption) (by assumption) | refine St.Sub.trans ?_ (RowOk.sub (by assumption) (by assumption)) | refine St.Sub.add ?_ ?_ _ | refine St.Sub.set ?_ ?_ ?_ _ | refine St.Sub.keep ?_ ?_ | refine St.WF.leave ?_ _ | refine St.WF.add ?_ _ | refine St.WF.set ?_ ?_ _ | refine St.WF.grow ?_ _ _ _ | refine St.WF.keep ?_ ?_ | (first | omega | (simp only [RowOk.lo, add_next, set_next, grow_next, leave_next, drop_next]; first | done | omega))))⟩
    rw [if_pos h0]
    rfl
  · have b0 : (c == 0) = false := by simp [h0]
    (simp (disch := first | decide | omega | (simp only [add_next, set_next, grow_next, leave_next, drop_next, List.length_map]; first | done | omega)) only [go_sem, ↓reduceIte, Nat.reduceBEq, Nat.reduceAdd, Nat.reduceLeDiff, Nat.reduceEqDiff, Nat.reduceLT, Nat.reduceMul, b0]; (repeat (with_reducible refine And.intro (by first | omega | assumption | rfl) ?_)))
    refine ddraw_mk 8 (by kernel_rfl) ?_
    (simp (disch := first | decide | omega | (simp only [add_next, set_next, grow_next, leave_next, drop_next, List.length_map]; first | done | omega)) only [go_sem, ↓reduceIte, Nat.reduceBEq, Nat.reduceAdd, Nat.reduceLeDiff, Nat.reduceEqDiff, Nat.reduceLT, Nat.reduceMul]; (repeat (with_reducible refine And.intro (by first | omega | assumption | rfl) ?_)))
    refine ⟨⟨fun d hd => by obtain ⟨q, _, rfl⟩ := List.mem_map.1 hd; rfl, by omega, by omega⟩, ?_⟩
    refine ⟨?_, (by (repeat' first | assumption | exact St.Sub.refl _ | exact RowOk.sub (by assumption) (by assumption) | refine St.Sub.trans ?_ (RowOk.sub (by assumption) (by assumption)) | refine St.Sub.add ?_ ?_ _ | refine St.Sub.set ?_ ?_ ?_ _ | refine St.Sub.keep ?_ ?_ | refine St.WF.leave ?_ _ | refine St.WF.add ?_ _ | refine St.WF.set ?_ ?_ _ | refine St.WF.grow ?_ _ _ _ | refine St.WF.keep ?_ ?_ | (first | omega | (simp only [RowOk.lo, add_next, set_next, grow_next, leave_next, drop_next]; first | done | omega))))⟩
    rw [if_neg h0]
    simp only [D.frz, frzL, frz_is, encF, encIs, List.map_cons, iD]
theorem code_st {S : St} {ps : List Int} {n : Int} {d : D} (hc : Chain S ps n d) (hl : ps.length < 1000000) : DSt Tryd.prog 8 [d] S (.v (.int .i64 n)) := fun T _ h => code_at (hc.mono fun k cs hk => h _ _ hk) hl
theorem places_st {S : St} {ps : List Int} {n : Int} {d : D} (hc : Chain S ps n d) (hl : ps.length < 1000000) : DSt Tryd.prog 10 [d] S (encIs ps) := fun T _ h => places_at (hc.mono fun k cs hk => h _ _ hk) hl
theorem place_st {S : St} {ps : List Int} {n : Int} {d : D} (hc : Chain S ps n d) : DSt Tryd.prog 11 [d] S (.v (.int .i64 (outP ps))) := fun T _ h => place_at (hc.mono fun k cs hk => h _ _ hk)
section
variable {P : Program} {f : Fm} {K : D → St → Prop}
@[go_sem] theorem inl_ret_tc (u x : Tmp) (t : TypeId) (S' : St) : DQ.inl P [.tmp u, .cell x t] K .ret f S' = dcellR P S' t (f x) (fun r => K (.tup [f u, r]) S') := by
  show (True ∧ onVal (dres P f S' (.cell x t)) fun d2 => K (one [f u, d2]) S') = _
  rw [true_and]
  exact onVal_cell x t _
@[go_sem] theorem inl_normal_tc (u x : Tmp) (t : TypeId) (S' : St) : DQ.inl P [.tmp u, .cell x t] K .normal f S' = dcellR P S' t (f x) (fun r => K (.tup [f u, r]) S') := by
  show (True ∧ onVal (dres P f S' (.cell x t)) fun d2 => K (one [f u, d2]) S') = _
  rw [true_and]
  exact onVal_cell x t _
end
/-- The places so far, the last one outermost; of no number none. -/
def plc (n : Int) (ps : List Int) (i : Nat) : List Int := if n = 0 then [] else (ps.take i).reverse
theorem plc_succ {n : Int} (h : n ≠ 0) {ps : List Int} {i : Nat} (hi : i < ps.length) : plc n ps (i + 1) = ps[i] :: plc n ps i := by
  simp only [plc, if_neg h, List.take_succ_eq_append_getElem hi, List.reverse_append, List.reverse_cons, List.reverse_nil, List.nil_append, List.singleton_append]
theorem plc_len {n : Int} {ps : List Int} {i : Nat} : (plc n ps i).length ≤ i := by
  unfold plc; split
  · simp
  · simp only [List.length_reverse, List.length_take]; omega
/-- What made answers. -/
def IsErr (S : St) (n : Int) (l : List Int) (d : D) : Prop := (n = 0 ∧ d = .v .nilIface) ∨ (n ≠ 0 ∧ Chain S l n d)
theorem bin_rem16 {P : Program} {t : TypeId} {x y : Operand} (c : Nat) : dbin P .rem t x y (.v (.int .u8 c)) (.v (.int .u8 16)) = some (True, .v (.int .u8 ((c % 16 : Nat) : Int))) := by
  simp [dbin, eqGuard, binOp, Op.intDiv, pureRun_bind, pureRun_pure, Int.tmod_eq_emod_of_nonneg]
theorem cv_u8i (n : Int) : pureRun Tryd.prog (convert 5 3 (.int .u8 n)) = some (.int .i64 (IntKind.i64.wrap n)) := by kernel_rfl
set_option maxRecDepth 200000 in
set_option maxHeartbeats 4000000 in
theorem made_c {S : St} {own : Own} {c : Nat} (hc : c < 256) {ps : List Int} (hl : ps.length ≤ 140737488355328) {K : D → St → Prop}
    (h : ∀ d T o, S.next ≤ T.next → T.WF → (∀ j ob, S.ob j = some ob → T.ob j = some ob) → IsErr T (c % 16 : Nat) (plc (c % 16 : Nat) ps (min ps.length 40)) d →
      K (.tup [d, .agg [.v (.int .i64 (c % 16 : Nat)), .sl o ((plc (c % 16 : Nat) ps (min ps.length 40)).map iD)]]) T) :
    DCalls Tryd.prog 7 [.v (.int .u8 c), .sl own (ps.map iD)] S K := by
  obtain ⟨n, hn⟩ : ∃ n, c % 16 = n := ⟨_, rfl⟩
  have hn16 : n < 16 := by omega
  rw [hn] at h
  refine dcalls_inline mixed Tryd.func7 rfl (fun _ _ => by kernel_rfl) (rs := [.tmp 4, .cell 5 26]) rfl (by kernel_rfl) (fun hS => ?_)
  have w0 : IntKind.i64.wrap ((n : Nat) : Int) = (n : Int) := IntWalk.i64_in _ ⟨by omega, by omega⟩
  (simp (disch := first | decide | omega | (simp only [add_next, set_next, grow_next, leave_next, drop_next, List.length_map]; first | done | omega)) only [go_sem, ↓reduceIte, Nat.reduceBEq, Nat.reduceAdd, Nat.reduceLeDiff, Nat.reduceEqDiff, Nat.reduceLT, Nat.reduceMul, bin_rem16, hn, cv_u8i, w0, Option.map_some]; (repeat (with_reducible refine And.intro (by first | omega | assumption | rfl) ?_)))
  by_cases hz0 : n = 0
  · have hn0 : ((n : Nat) : Int) = 0 := by omega
    have b0 : decide ((0 : Int) < (n : Int)) = false := by simp; omega
    (simp (disch := first | decide | omega | (simp only [add_next, set_next, grow_next, leave_next, drop_next, List.length_map]; first | done | omega)) only [go_sem, ↓reduceIte, Nat.reduceBEq, Nat.reduceAdd, Nat.reduceLeDiff, Nat.reduceEqDiff, Nat.reduceLT, Nat.reduceMul, b0]; (repeat (with_reducible refine And.intro (by first | omega | assumption | rfl) ?_)))
    have hS2 : (((S.add (.box 26 [.v (.int .i64 0), .sl .full []])).add (.box 26 [.v (.int .i64 0), .sl .full []])).set (S.next + 1) (.box 26 [.v (.int .i64 n), .sl .full []])).WF := (by (repeat' first | assumption | refine St.WF.leave ?_ _ | refine St.WF.add ?_ _ | refine St.WF.set ?_ ?_ _ | refine St.WF.grow ?_ _ _ _ | refine St.WF.keep ?_ ?_ | (first | omega | (simp only [RowOk.lo, add_next, set_next, grow_next, leave_next, drop_next]; first | done | omega))))
    refine dloop_up (fun t => List.contains [6, 9, 19, 20, 21, 22, 23, 24, 25, 26, 27, 28, 29, 30, 31, 32, 33, 34, 35, 36, 37, 38, 39, 40] t) (by kernel_rfl) hS2 (min ps.length 40) (fun i g T => i ≤ min ps.length 40 ∧ g 9 = .v (.int .i64 ((i : Nat) : Int)) ∧ (g 6 = .v .nilIface) ∧ S.next + 2 ≤ T.next ∧ (∀ j ob, S.ob j = some ob → T.ob j = some ob) ∧ T.ob S.next = some (.box 26 [.v (.int .i64 0), .sl .full []]) ∧ ∃ o, T.ob (S.next + 1) = some (.box 26 [.v (.int .i64 n), .sl o ((plc n ps i).map iD)])) ?_ ?_
    · refine ⟨by omega, by (first | (simp (disch := first | decide | omega | (simp only [add_next, set_next, grow_next, leave_next, drop_next, List.length_map]; first | done | omega)) only [go_sem, ↓reduceIte, Nat.reduceBEq, Nat.reduceAdd, Nat.reduceLeDiff, Nat.reduceEqDiff, Nat.reduceLT, Nat.reduceMul]; first | done | rfl) | rfl), by (first | (simp (disch := first | decide | omega | (simp only [add_next, set_next, grow_next, leave_next, drop_next, List.length_map]; first | done | omega)) only [go_sem, ↓reduceIte, Nat.reduceBEq, Nat.reduceAdd, Nat.reduceLeDiff, Nat.reduceEqDiff, Nat.reduceLT, Nat.reduceMul]; first | done | rfl) | rfl), Nat.le_refl _, fun j ob ho => ?_, ?_, .full, ?_⟩
      · have := hS.lt ho
        show (if j = S.next + 1 then _ else if j = S.next + 1 then _ else if j = S.next then _ else S.ob j) = _
        rw [if_neg (by omega), if_neg (by omega), if_neg (by omega), ho]
      · show (if S.next = S.next + 1 then _ else if S.next = S.next + 1 then _ else if S.next = S.next then _ else _) = _
        rw [if_neg (by omega), if_neg (by omega), if_pos rfl]
      · show (if S.next + 1 = S.next + 1 then _ else _) = _
        rw [if_pos rfl]
        simp [plc]
    rintro i g T hT hg ⟨le, q9, hE, hnx, hsb, hz, o, hv⟩
    have q1 := hg 1 rfl
    have q8 := hg 8 rfl
    have q5 := hg 5 rfl
    simp (disch := first | decide | omega | (simp only [add_next, set_next, grow_next, leave_next, drop_next, List.length_map]; first | done | omega)) only [go_sem, ↓reduceIte, Nat.reduceBEq, Nat.reduceAdd, Nat.reduceLeDiff, Nat.reduceEqDiff, Nat.reduceLT, Nat.reduceMul] at q1 q8 q5
    clear hg
    by_cases hlt : i < min ps.length 40
    · have hlt1 : i < ps.length := by omega
      have b1 : decide ((i : Int) < (ps.length : Int)) = true := by simp; omega
      have b2 : decide ((i : Int) < 40) = true := by simp; omega
      have w1 : IntKind.i64.wrap ((i : Int) + 1) = ((i + 1 : Nat) : Int) := IntWalk.i64_in _ ⟨by omega, by omega⟩
      have q6 := hE
      (simp (disch := first | decide | omega | (simp only [add_next, set_next, grow_next, leave_next, drop_next, List.length_map]; first | done | omega)) only [go_sem, ↓reduceIte, Nat.reduceBEq, Nat.reduceAdd, Nat.reduceLeDiff, Nat.reduceEqDiff, Nat.reduceLT, Nat.reduceMul, q1, q9, b1, b2, q6, iD]; (repeat (with_reducible refine And.intro (by first | omega | assumption | rfl) ?_)))
      refine DCalls.of_pure wrap_nil ?_
      (simp (disch := first | decide | omega | (simp only [add_next, set_next, grow_next, leave_next, drop_next, List.length_map]; first | done | omega)) only [go_sem, ↓reduceIte, Nat.reduceBEq, Nat.reduceAdd, Nat.reduceLeDiff, Nat.reduceEqDiff, Nat.reduceLT, Nat.reduceMul, q1, q9, q8, b1, b2, iD]; (repeat (with_reducible refine And.intro (by first | omega | assumption | rfl) ?_)))
      refine ddraw_mk 6 (by kernel_rfl) ?_
      (simp (disch := first | decide | omega | (simp only [add_next, set_next, grow_next, leave_next, drop_next, List.length_map]; first | done | omega)) only [go_sem, ↓reduceIte, Nat.reduceBEq, Nat.reduceAdd, Nat.reduceLeDiff, Nat.reduceEqDiff, Nat.reduceLT, Nat.reduceMul, q1, q9, q8, b1, b2, hv, iD]; (repeat (with_reducible refine And.intro (by first | omega | assumption | rfl) ?_)))
      refine dqgo_mk (refWrap_d n ps[i] o (plc n ps i) (by have := plc_len (n := n) (ps := ps) (i := i); omega)) ?_
      rw [if_pos hn0]
      (simp (disch := first | decide | omega | (simp only [add_next, set_next, grow_next, leave_next, drop_next, List.length_map]; first | done | omega)) only [go_sem, ↓reduceIte, Nat.reduceBEq, Nat.reduceAdd, Nat.reduceLeDiff, Nat.reduceEqDiff, Nat.reduceLT, Nat.reduceMul, q1, q9, q8, b1, b2, hv, w1, encF, encIs]; (repeat (with_reducible refine And.intro (by first | omega | assumption | rfl) ?_)))
      refine ⟨hlt, _, fun _ _ h => h, by omega, by (first | (simp (disch := first | decide | omega | (simp only [add_next, set_next, grow_next, leave_next, drop_next, List.length_map]; first | done | omega)) only [go_sem, ↓reduceIte, Nat.reduceBEq, Nat.reduceAdd, Nat.reduceLeDiff, Nat.reduceEqDiff, Nat.reduceLT, Nat.reduceMul, w1]; first | done | rfl) | rfl), by (first | (simp (disch := first | decide | omega | (simp only [add_next, set_next, grow_next, leave_next, drop_next, List.length_map]; first | done | omega)) only [go_sem, ↓reduceIte, Nat.reduceBEq, Nat.reduceAdd, Nat.reduceLeDiff, Nat.reduceEqDiff, Nat.reduceLT, Nat.reduceMul]; first | done | rfl) | rfl), ?_, ?_, ?_, .no, ?_⟩
      · show S.next + 2 ≤ T.next
        omega
      · intro j ob ho
        show (if j = S.next + 1 then _ else T.ob j) = _
        have := hS.lt ho
        rw [if_neg (by omega), hsb _ _ ho]
      · show (if S.next = S.next + 1 then _ else T.ob S.next) = _
        rw [if_neg (by omega), hz]
      · show (if S.next + 1 = S.next + 1 then _ else _) = _
        rw [if_pos rfl, plc, if_pos hn0]
        simp [hn0]
    · have hil : i = min ps.length 40 := by omega
      have hvT : S.next + 1 < T.next := by omega
      have q6 := hE
      by_cases hll : i < ps.length
      · have b1 : decide ((i : Int) < (ps.length : Int)) = true := by simp; omega
        have b2 : decide ((i : Int) < 40) = false := by simp; omega
        (simp (disch := first | decide | omega | (simp only [add_next, set_next, grow_next, leave_next, drop_next, List.length_map]; first | done | omega)) only [go_sem, ↓reduceIte, Nat.reduceBEq, Nat.reduceAdd, Nat.reduceLeDiff, Nat.reduceEqDiff, Nat.reduceLT, Nat.reduceMul, q1, q9, b1, b2, q6]; (repeat (with_reducible refine And.intro (by first | omega | assumption | rfl) ?_)))
        refine ddraw_any (fun U => U.ob (S.next + 1) = some (.box 26 [.v (.int .i64 n), .sl o ((plc n ps i).map iD)])) 4 (by (first | (simp (disch := first | decide | omega | (simp only [add_next, set_next, grow_next, leave_next, drop_next, List.length_map]; first | done | omega)) only [go_sem, ↓reduceIte, Nat.reduceBEq, Nat.reduceAdd, Nat.reduceLeDiff, Nat.reduceEqDiff, Nat.reduceLT, Nat.reduceMul, q8, hv]; first | done | rfl) | rfl)) (by kernel_rfl) ?_
        (refine s_take 0 rfl (by kernel_rfl) (by kernel_rfl) (v := ?v1) (fun S' hz => dquietR_of ?h1) ?k1; (case h1 => ((simp (disch := first | decide | omega | (simp only [add_next, set_next, grow_next, leave_next, drop_next, List.length_map]; first | done | omega)) only [go_sem, ↓reduceIte, Nat.reduceBEq, Nat.reduceAdd, Nat.reduceLeDiff, Nat.reduceEqDiff, Nat.reduceLT, Nat.reduceMul, q6, q8, hz]; (repeat (with_reducible refine And.intro (by first | omega | assumption | rfl) ?_))); first | done | exact rfl | omega)); refine s_take 1 rfl (by kernel_rfl) (by kernel_rfl) (v := ?v2) (fun S' hz => dquietR_of ?h2) ?k2; (case h2 => ((simp (disch := first | decide | omega | (simp only [add_next, set_next, grow_next, leave_next, drop_next, List.length_map]; first | done | omega)) only [go_sem, ↓reduceIte, Nat.reduceBEq, Nat.reduceAdd, Nat.reduceLeDiff, Nat.reduceEqDiff, Nat.reduceLT, Nat.reduceMul, q6, q8, hz]; (repeat (with_reducible refine And.intro (by first | omega | assumption | rfl) ?_))); first | done | exact rfl | omega)); refine s_take 2 rfl (by kernel_rfl) (by kernel_rfl) (v := ?v3) (fun S' hz => dquietR_of ?h3) ?k3; (case h3 => ((simp (disch := first | decide | omega | (simp only [add_next, set_next, grow_next, leave_next, drop_next, List.length_map]; first | done | omega)) only [go_sem, ↓reduceIte, Nat.reduceBEq, Nat.reduceAdd, Nat.reduceLeDiff, Nat.reduceEqDiff, Nat.reduceLT, Nat.reduceMul, q6, q8, hz]; (repeat (with_reducible refine And.intro (by first | omega | assumption | rfl) ?_))); first | done | exact rfl | omega)))
        (refine s_split [3] (by kernel_rfl) (by simp) ?_; intro j_ hj_; obtain rfl : j_ = 3 := (by simpa using hj_); clear hj_; refine s_op rfl ?_; (simp (disch := first | decide | omega | (simp only [add_next, set_next, grow_next, leave_next, drop_next, List.length_map]; first | done | omega)) only [go_sem, ↓reduceIte, Nat.reduceBEq, Nat.reduceAdd, Nat.reduceLeDiff, Nat.reduceEqDiff, Nat.reduceLT, Nat.reduceMul, q5, hz]; (repeat (with_reducible refine And.intro (by first | omega | assumption | rfl) ?_))))
        (refine s_done (by kernel_rfl) ?_; (simp (disch := first | decide | omega | (simp only [add_next, set_next, grow_next, leave_next, drop_next, List.length_map]; first | done | omega)) only [go_sem, ↓reduceIte, Nat.reduceBEq, Nat.reduceAdd, Nat.reduceLeDiff, Nat.reduceEqDiff, Nat.reduceLT, Nat.reduceMul]; (repeat (with_reducible refine And.intro (by first | omega | assumption | rfl) ?_))))
        (simp (disch := first | decide | omega | (simp only [add_next, set_next, grow_next, leave_next, drop_next, List.length_map]; first | done | omega)) only [go_sem, ↓reduceIte, Nat.reduceBEq, Nat.reduceAdd, Nat.reduceLeDiff, Nat.reduceEqDiff, Nat.reduceLT, Nat.reduceMul, q5]; (repeat (with_reducible refine And.intro (by first | omega | assumption | rfl) ?_)))
        rw [hil]
        refine h _ _ o ?_ ?_ (fun j ob ho => ?_) ?_
        · show S.next ≤ T.next
          omega
        · exact (by (repeat' first | assumption | refine St.WF.leave ?_ _ | refine St.WF.add ?_ _ | refine St.WF.set ?_ ?_ _ | refine St.WF.grow ?_ _ _ _ | refine St.WF.keep ?_ ?_ | (first | omega | (simp only [RowOk.lo, add_next, set_next, grow_next, leave_next, drop_next]; first | done | omega))))
        · show (if j = S.next then _ else T.ob j) = _
          have := hS.lt ho
          rw [if_neg (by omega), hsb _ _ ho]
        · exact .inl ⟨hn0, rfl⟩
      · have b1 : decide ((i : Int) < (ps.length : Int)) = false := by simp; omega
        (simp (disch := first | decide | omega | (simp only [add_next, set_next, grow_next, leave_next, drop_next, List.length_map]; first | done | omega)) only [go_sem, ↓reduceIte, Nat.reduceBEq, Nat.reduceAdd, Nat.reduceLeDiff, Nat.reduceEqDiff, Nat.reduceLT, Nat.reduceMul, q1, q9, b1, q6]; (repeat (with_reducible refine And.intro (by first | omega | assumption | rfl) ?_)))
        refine ddraw_any (fun U => U.ob (S.next + 1) = some (.box 26 [.v (.int .i64 n), .sl o ((plc n ps i).map iD)])) 4 (by (first | (simp (disch := first | decide | omega | (simp only [add_next, set_next, grow_next, leave_next, drop_next, List.length_map]; first | done | omega)) only [go_sem, ↓reduceIte, Nat.reduceBEq, Nat.reduceAdd, Nat.reduceLeDiff, Nat.reduceEqDiff, Nat.reduceLT, Nat.reduceMul, q8, hv]; first | done | rfl) | rfl)) (by kernel_rfl) ?_
        (refine s_take 0 rfl (by kernel_rfl) (by kernel_rfl) (v := ?v4) (fun S' hz => dquietR_of ?h4) ?k4; (case h4 => ((simp (disch := first | decide | omega | (simp only [add_next, set_next, grow_next, leave_next, drop_next, List.length_map]; first | done | omega)) only [go_sem, ↓reduceIte, Nat.reduceBEq, Nat.reduceAdd, Nat.reduceLeDiff, Nat.reduceEqDiff, Nat.reduceLT, Nat.reduceMul, q6, q8, hz]; (repeat (with_reducible refine And.intro (by first | omega | assumption | rfl) ?_))); first | done | exact rfl | omega)); refine s_take 1 rfl (by kernel_rfl) (by kernel_rfl) (v := ?v5) (fun S' hz => dquietR_of ?h5) ?k5; (case h5 => ((simp (disch := first | decide | omega | (simp only [add_next, set_next, grow_next, leave_next, drop_next, List.length_map]; first | done | omega)) only [go_sem, ↓reduceIte, Nat.reduceBEq, Nat.reduceAdd, Nat.reduceLeDiff, Nat.reduceEqDiff, Nat.reduceLT, Nat.reduceMul, q6, q8, hz]; (repeat (with_reducible refine And.intro (by first | omega | assumption | rfl) ?_))); first | done | exact rfl | omega)); refine s_take 2 rfl (by kernel_rfl) (by kernel_rfl) (v := ?v6) (fun S' hz => dquietR_of ?h6) ?k6; (case h6 => ((simp (disch := first | decide | omega | (simp only [add_next, set_next, grow_next, leave_next, drop_next, List.length_map]; first | done | omega)) only [go_sem, ↓reduceIte, Nat.reduceBEq, Nat.reduceAdd, Nat.reduceLeDiff, Nat.reduceEqDiff, Nat.reduceLT, Nat.reduceMul, q6, q8, hz]; (repeat (with_reducible refine And.intro (by first | omega | assumption | rfl) ?_))); first | done | exact rfl | omega)))
        (refine s_split [3] (by kernel_rfl) (by simp) ?_; intro j_ hj_; obtain rfl : j_ = 3 := (by simpa using hj_); clear hj_; refine s_op rfl ?_; (simp (disch := first | decide | omega | (simp only [add_next, set_next, grow_next, leave_next, drop_next, List.length_map]; first | done | omega)) only [go_sem, ↓reduceIte, Nat.reduceBEq, Nat.reduceAdd, Nat.reduceLeDiff, Nat.reduceEqDiff, Nat.reduceLT, Nat.reduceMul, q5, hz]; (repeat (with_reducible refine And.intro (by first | omega | assumption | rfl) ?_))))
        (refine s_done (by kernel_rfl) ?_; (simp (disch := first | decide | omega | (simp only [add_next, set_next, grow_next, leave_next, drop_next, List.length_map]; first | done | omega)) only [go_sem, ↓reduceIte, Nat.reduceBEq, Nat.reduceAdd, Nat.reduceLeDiff, Nat.reduceEqDiff, Nat.reduceLT, Nat.reduceMul]; (repeat (with_reducible refine And.intro (by first | omega | assumption | rfl) ?_))))
        (simp (disch := first | decide | omega | (simp only [add_next, set_next, grow_next, leave_next, drop_next, List.length_map]; first | done | omega)) only [go_sem, ↓reduceIte, Nat.reduceBEq, Nat.reduceAdd, Nat.reduceLeDiff, Nat.reduceEqDiff, Nat.reduceLT, Nat.reduceMul, q5]; (repeat (with_reducible refine And.intro (by first | omega | assumption | rfl) ?_)))
        rw [hil]
        refine h _ _ o ?_ ?_ (fun j ob ho => ?_) ?_
        · show S.next ≤ T.next
          omega
        · exact (by (repeat' first | assumption | refine St.WF.leave ?_ _ | refine St.WF.add ?_ _ | refine St.WF.set ?_ ?_ _ | refine St.WF.grow ?_ _ _ _ | refine St.WF.keep ?_ ?_ | (first | omega | (simp only [RowOk.lo, add_next, set_next, grow_next, leave_next, drop_next]; first | done | omega))))
        · show (if j = S.next then _ else T.ob j) = _
          have := hS.lt ho
          rw [if_neg (by omega), hsb _ _ ho]
        · exact .inl ⟨hn0, rfl⟩
  · have hn0 : ((n : Nat) : Int) ≠ 0 := by omega
    have b0 : decide ((0 : Int) < (n : Int)) = true := by simp; omega
    (simp (disch := first | decide | omega | (simp only [add_next, set_next, grow_next, leave_next, drop_next, List.length_map]; first | done | omega)) only [go_sem, ↓reduceIte, Nat.reduceBEq, Nat.reduceAdd, Nat.reduceLeDiff, Nat.reduceEqDiff, Nat.reduceLT, Nat.reduceMul, b0]; (repeat (with_reducible refine And.intro (by first | omega | assumption | rfl) ?_)))
    have hS2 : (((S.add (.box 26 [.v (.int .i64 0), .sl .full []])).add (.box 26 [.v (.int .i64 0), .sl .full []])).set (S.next + 1) (.box 26 [.v (.int .i64 n), .sl .full []])).WF := (by (repeat' first | assumption | refine St.WF.leave ?_ _ | refine St.WF.add ?_ _ | refine St.WF.set ?_ ?_ _ | refine St.WF.grow ?_ _ _ _ | refine St.WF.keep ?_ ?_ | (first | omega | (simp only [RowOk.lo, add_next, set_next, grow_next, leave_next, drop_next]; first | done | omega))))
    refine dloop_up (fun t => List.contains [6, 9, 19, 20, 21, 22, 23, 24, 25, 26, 27, 28, 29, 30, 31, 32, 33, 34, 35, 36, 37, 38, 39, 40] t) (by kernel_rfl) hS2 (min ps.length 40) (fun i g T => i ≤ min ps.length 40 ∧ g 9 = .v (.int .i64 ((i : Nat) : Int)) ∧ (∃ t u, g 6 = .ifc t u ∧ Chain T (plc n ps i) n (.ifc t u)) ∧ S.next + 2 ≤ T.next ∧ (∀ j ob, S.ob j = some ob → T.ob j = some ob) ∧ T.ob S.next = some (.box 26 [.v (.int .i64 0), .sl .full []]) ∧ ∃ o, T.ob (S.next + 1) = some (.box 26 [.v (.int .i64 n), .sl o ((plc n ps i).map iD)])) ?_ ?_
    · refine ⟨by omega, by (first | (simp (disch := first | decide | omega | (simp only [add_next, set_next, grow_next, leave_next, drop_next, List.length_map]; first | done | omega)) only [go_sem, ↓reduceIte, Nat.reduceBEq, Nat.reduceAdd, Nat.reduceLeDiff, Nat.reduceEqDiff, Nat.reduceLT, Nat.reduceMul]; first | done | rfl) | rfl), ⟨_, _, by (first | (simp (disch := first | decide | omega | (simp only [add_next, set_next, grow_next, leave_next, drop_next, List.length_map]; first | done | omega)) only [go_sem, ↓reduceIte, Nat.reduceBEq, Nat.reduceAdd, Nat.reduceLeDiff, Nat.reduceEqDiff, Nat.reduceLT, Nat.reduceMul]; first | done | rfl) | rfl), by simp only [plc, if_neg hn0, List.take_zero, List.reverse_nil]; exact .code n⟩, Nat.le_refl _, fun j ob ho => ?_, ?_, .full, ?_⟩
      · have := hS.lt ho
        show (if j = S.next + 1 then _ else if j = S.next + 1 then _ else if j = S.next then _ else S.ob j) = _
        rw [if_neg (by omega), if_neg (by omega), if_neg (by omega), ho]
      · show (if S.next = S.next + 1 then _ else if S.next = S.next + 1 then _ else if S.next = S.next then _ else _) = _
        rw [if_neg (by omega), if_neg (by omega), if_pos rfl]
      · show (if S.next + 1 = S.next + 1 then _ else _) = _
        rw [if_pos rfl]
        simp [plc]
    rintro i g T hT hg ⟨le, q9, hE, hnx, hsb, hz, o, hv⟩
    have q1 := hg 1 rfl
    have q8 := hg 8 rfl
    have q5 := hg 5 rfl
    simp (disch := first | decide | omega | (simp only [add_next, set_next, grow_next, leave_next, drop_next, List.length_map]; first | done | omega)) only [go_sem, ↓reduceIte, Nat.reduceBEq, Nat.reduceAdd, Nat.reduceLeDiff, Nat.reduceEqDiff, Nat.reduceLT, Nat.reduceMul] at q1 q8 q5
    clear hg
    by_cases hlt : i < min ps.length 40
    · have hlt1 : i < ps.length := by omega
      have b1 : decide ((i : Int) < (ps.length : Int)) = true := by simp; omega
      have b2 : decide ((i : Int) < 40) = true := by simp; omega
      have w1 : IntKind.i64.wrap ((i : Int) + 1) = ((i + 1 : Nat) : Int) := IntWalk.i64_in _ ⟨by omega, by omega⟩
      obtain ⟨t, u, q6, hC⟩ := hE
      (simp (disch := first | decide | omega | (simp only [add_next, set_next, grow_next, leave_next, drop_next, List.length_map]; first | done | omega)) only [go_sem, ↓reduceIte, Nat.reduceBEq, Nat.reduceAdd, Nat.reduceLeDiff, Nat.reduceEqDiff, Nat.reduceLT, Nat.reduceMul, q1, q9, b1, b2, q6, iD]; (repeat (with_reducible refine And.intro (by first | omega | assumption | rfl) ?_)))
      refine wrap_at ?_
      (simp (disch := first | decide | omega | (simp only [add_next, set_next, grow_next, leave_next, drop_next, List.length_map]; first | done | omega)) only [go_sem, ↓reduceIte, Nat.reduceBEq, Nat.reduceAdd, Nat.reduceLeDiff, Nat.reduceEqDiff, Nat.reduceLT, Nat.reduceMul, q1, q9, q8, b1, b2, iD]; (repeat (with_reducible refine And.intro (by first | omega | assumption | rfl) ?_)))
      refine ddraw_mk 6 (by kernel_rfl) ?_
      (simp (disch := first | decide | omega | (simp only [add_next, set_next, grow_next, leave_next, drop_next, List.length_map]; first | done | omega)) only [go_sem, ↓reduceIte, Nat.reduceBEq, Nat.reduceAdd, Nat.reduceLeDiff, Nat.reduceEqDiff, Nat.reduceLT, Nat.reduceMul, q1, q9, q8, b1, b2, hv, iD]; (repeat (with_reducible refine And.intro (by first | omega | assumption | rfl) ?_)))
      refine dqgo_mk (refWrap_d n ps[i] o (plc n ps i) (by have := plc_len (n := n) (ps := ps) (i := i); omega)) ?_
      rw [if_neg hn0]
      (simp (disch := first | decide | omega | (simp only [add_next, set_next, grow_next, leave_next, drop_next, List.length_map]; first | done | omega)) only [go_sem, ↓reduceIte, Nat.reduceBEq, Nat.reduceAdd, Nat.reduceLeDiff, Nat.reduceEqDiff, Nat.reduceLT, Nat.reduceMul, q1, q9, q8, b1, b2, hv, w1, encF, encIs]; (repeat (with_reducible refine And.intro (by first | omega | assumption | rfl) ?_)))
      refine ⟨hlt, _, fun _ _ h => h, by omega, by (first | (simp (disch := first | decide | omega | (simp only [add_next, set_next, grow_next, leave_next, drop_next, List.length_map]; first | done | omega)) only [go_sem, ↓reduceIte, Nat.reduceBEq, Nat.reduceAdd, Nat.reduceLeDiff, Nat.reduceEqDiff, Nat.reduceLT, Nat.reduceMul, w1]; first | done | rfl) | rfl), ⟨_, _, by (first | (simp (disch := first | decide | omega | (simp only [add_next, set_next, grow_next, leave_next, drop_next, List.length_map]; first | done | omega)) only [go_sem, ↓reduceIte, Nat.reduceBEq, Nat.reduceAdd, Nat.reduceLeDiff, Nat.reduceEqDiff, Nat.reduceLT, Nat.reduceMul]; first | done | rfl) | rfl), ?_⟩, ?_, ?_, ?_, .no, ?_⟩
      · rw [plc_succ hn0 hlt1]
        refine .at_ (d := .ifc t u) ?_ (hC.mono fun k cs hk => ?_)
        · show (if T.next = S.next + 1 then _ else if T.next = T.next then _ else _) = _
          rw [if_neg (by omega), if_pos rfl]
        · show (if k = S.next + 1 then _ else if k = T.next then _ else T.ob k) = _
          have := hT.lt hk
          rw [if_neg (fun e => by rw [e, hv] at hk; injection hk with hk; injection hk with hk _; exact absurd hk (by decide)), if_neg (by omega), hk]
      · show S.next + 2 ≤ T.next + 1
        omega
      · intro j ob ho
        show (if j = S.next + 1 then _ else if j = T.next then _ else T.ob j) = _
        have := hS.lt ho
        rw [if_neg (by omega), if_neg (by omega), hsb _ _ ho]
      · show (if S.next = S.next + 1 then _ else if S.next = T.next then _ else T.ob S.next) = _
        rw [if_neg (by omega), if_neg (by omega), hz]
      · show (if S.next + 1 = S.next + 1 then _ else _) = _
        rw [if_pos rfl, plc_succ hn0 hlt1]
        rfl
    · have hil : i = min ps.length 40 := by omega
      have hvT : S.next + 1 < T.next := by omega
      obtain ⟨t, u, q6, hC⟩ := hE
      by_cases hll : i < ps.length
      · have b1 : decide ((i : Int) < (ps.length : Int)) = true := by simp; omega
        have b2 : decide ((i : Int) < 40) = false := by simp; omega
        (simp (disch := first | decide | omega | (simp only [add_next, set_next, grow_next, leave_next, drop_next, List.length_map]; first | done | omega)) only [go_sem, ↓reduceIte, Nat.reduceBEq, Nat.reduceAdd, Nat.reduceLeDiff, Nat.reduceEqDiff, Nat.reduceLT, Nat.reduceMul, q1, q9, b1, b2, q6]; (repeat (with_reducible refine And.intro (by first | omega | assumption | rfl) ?_)))
        refine ddraw_any (fun U => U.ob (S.next + 1) = some (.box 26 [.v (.int .i64 n), .sl o ((plc n ps i).map iD)])) 4 (by (first | (simp (disch := first | decide | omega | (simp only [add_next, set_next, grow_next, leave_next, drop_next, List.length_map]; first | done | omega)) only [go_sem, ↓reduceIte, Nat.reduceBEq, Nat.reduceAdd, Nat.reduceLeDiff, Nat.reduceEqDiff, Nat.reduceLT, Nat.reduceMul, q8, hv]; first | done | rfl) | rfl)) (by kernel_rfl) ?_
        (refine s_take 0 rfl (by kernel_rfl) (by kernel_rfl) (v := ?v7) (fun S' hz => dquietR_of ?h7) ?k7; (case h7 => ((simp (disch := first | decide | omega | (simp only [add_next, set_next, grow_next, leave_next, drop_next, List.length_map]; first | done | omega)) only [go_sem, ↓reduceIte, Nat.reduceBEq, Nat.reduceAdd, Nat.reduceLeDiff, Nat.reduceEqDiff, Nat.reduceLT, Nat.reduceMul, q6, q8, hz]; (repeat (with_reducible refine And.intro (by first | omega | assumption | rfl) ?_))); first | done | exact rfl | omega)); refine s_take 1 rfl (by kernel_rfl) (by kernel_rfl) (v := ?v8) (fun S' hz => dquietR_of ?h8) ?k8; (case h8 => ((simp (disch := first | decide | omega | (simp only [add_next, set_next, grow_next, leave_next, drop_next, List.length_map]; first | done | omega)) only [go_sem, ↓reduceIte, Nat.reduceBEq, Nat.reduceAdd, Nat.reduceLeDiff, Nat.reduceEqDiff, Nat.reduceLT, Nat.reduceMul, q6, q8, hz]; (repeat (with_reducible refine And.intro (by first | omega | assumption | rfl) ?_))); first | done | exact rfl | omega)); refine s_take 2 rfl (by kernel_rfl) (by kernel_rfl) (v := ?v9) (fun S' hz => dquietR_of ?h9) ?k9; (case h9 => ((simp (disch := first | decide | omega | (simp only [add_next, set_next, grow_next, leave_next, drop_next, List.length_map]; first | done | omega)) only [go_sem, ↓reduceIte, Nat.reduceBEq, Nat.reduceAdd, Nat.reduceLeDiff, Nat.reduceEqDiff, Nat.reduceLT, Nat.reduceMul, q6, q8, hz]; (repeat (with_reducible refine And.intro (by first | omega | assumption | rfl) ?_))); first | done | exact rfl | omega)))
        (refine s_split [3] (by kernel_rfl) (by simp) ?_; intro j_ hj_; obtain rfl : j_ = 3 := (by simpa using hj_); clear hj_; refine s_op rfl ?_; (simp (disch := first | decide | omega | (simp only [add_next, set_next, grow_next, leave_next, drop_next, List.length_map]; first | done | omega)) only [go_sem, ↓reduceIte, Nat.reduceBEq, Nat.reduceAdd, Nat.reduceLeDiff, Nat.reduceEqDiff, Nat.reduceLT, Nat.reduceMul, q5, hz]; (repeat (with_reducible refine And.intro (by first | omega | assumption | rfl) ?_))))
        (refine s_done (by kernel_rfl) ?_; (simp (disch := first | decide | omega | (simp only [add_next, set_next, grow_next, leave_next, drop_next, List.length_map]; first | done | omega)) only [go_sem, ↓reduceIte, Nat.reduceBEq, Nat.reduceAdd, Nat.reduceLeDiff, Nat.reduceEqDiff, Nat.reduceLT, Nat.reduceMul]; (repeat (with_reducible refine And.intro (by first | omega | assumption | rfl) ?_))))
        (simp (disch := first | decide | omega | (simp only [add_next, set_next, grow_next, leave_next, drop_next, List.length_map]; first | done | omega)) only [go_sem, ↓reduceIte, Nat.reduceBEq, Nat.reduceAdd, Nat.reduceLeDiff, Nat.reduceEqDiff, Nat.reduceLT, Nat.reduceMul, q5]; (repeat (with_reducible refine And.intro (by first | omega | assumption | rfl) ?_)))
        rw [hil]
        refine h _ _ o ?_ ?_ (fun j ob ho => ?_) ?_
        · show S.next ≤ T.next
          omega
        · exact (by (repeat' first | assumption | refine St.WF.leave ?_ _ | refine St.WF.add ?_ _ | refine St.WF.set ?_ ?_ _ | refine St.WF.grow ?_ _ _ _ | refine St.WF.keep ?_ ?_ | (first | omega | (simp only [RowOk.lo, add_next, set_next, grow_next, leave_next, drop_next]; first | done | omega))))
        · show (if j = S.next then _ else T.ob j) = _
          have := hS.lt ho
          rw [if_neg (by omega), hsb _ _ ho]
        · rw [hil] at hC
          exact .inr ⟨hn0, hC.mono fun k cs hk => by
            show (if k = S.next then _ else T.ob k) = _
            rw [if_neg (fun e => by rw [e, hz] at hk; injection hk with hk; injection hk with hk _; exact absurd hk (by decide)), hk]⟩
      · have b1 : decide ((i : Int) < (ps.length : Int)) = false := by simp; omega
        (simp (disch := first | decide | omega | (simp only [add_next, set_next, grow_next, leave_next, drop_next, List.length_map]; first | done | omega)) only [go_sem, ↓reduceIte, Nat.reduceBEq, Nat.reduceAdd, Nat.reduceLeDiff, Nat.reduceEqDiff, Nat.reduceLT, Nat.reduceMul, q1, q9, b1, q6]; (repeat (with_reducible refine And.intro (by first | omega | assumption | rfl) ?_)))
        refine ddraw_any (fun U => U.ob (S.next + 1) = some (.box 26 [.v (.int .i64 n), .sl o ((plc n ps i).map iD)])) 4 (by (first | (simp (disch := first | decide | omega | (simp only [add_next, set_next, grow_next, leave_next, drop_next, List.length_map]; first | done | omega)) only [go_sem, ↓reduceIte, Nat.reduceBEq, Nat.reduceAdd, Nat.reduceLeDiff, Nat.reduceEqDiff, Nat.reduceLT, Nat.reduceMul, q8, hv]; first | done | rfl) | rfl)) (by kernel_rfl) ?_
        (refine s_take 0 rfl (by kernel_rfl) (by kernel_rfl) (v := ?v10) (fun S' hz => dquietR_of ?h10) ?k10; (case h10 => ((simp (disch := first | decide | omega | (simp only [add_next, set_next, grow_next, leave_next, drop_next, List.length_map]; first | done | omega)) only [go_sem, ↓reduceIte, Nat.reduceBEq, Nat.reduceAdd, Nat.reduceLeDiff, Nat.reduceEqDiff, Nat.reduceLT, Nat.reduceMul, q6, q8, hz]; (repeat (with_reducible refine And.intro (by first | omega | assumption | rfl) ?_))); first | done | exact rfl | omega)); refine s_take 1 rfl (by kernel_rfl) (by kernel_rfl) (v := ?v11) (fun S' hz => dquietR_of ?h11) ?k11; (case h11 => ((simp (disch := first | decide | omega | (simp only [add_next, set_next, grow_next, leave_next, drop_next, List.length_map]; first | done | omega)) only [go_sem, ↓reduceIte, Nat.reduceBEq, Nat.reduceAdd, Nat.reduceLeDiff, Nat.reduceEqDiff, Nat.reduceLT, Nat.reduceMul, q6, q8, hz]; (repeat (with_reducible refine And.intro (by first | omega | assumption | rfl) ?_))); first | done | exact rfl | omega)); refine s_take 2 rfl (by kernel_rfl) (by kernel_rfl) (v := ?v12) (fun S' hz => dquietR_of ?h12) ?k12; (case h12 => ((simp (disch := first | decide | omega | (simp only [add_next, set_next, grow_next, leave_next, drop_next, List.length_map]; first | done | omega)) only [go_sem, ↓reduceIte, Nat.reduceBEq, Nat.reduceAdd, Nat.reduceLeDiff, Nat.reduceEqDiff, Nat.reduceLT, Nat.reduceMul, q6, q8, hz]; (repeat (with_reducible refine And.intro (by first | omega | assumption | rfl) ?_))); first | done | exact rfl | omega)))
        (refine s_split [3] (by kernel_rfl) (by simp) ?_; intro j_ hj_; obtain rfl : j_ = 3 := (by simpa using hj_); clear hj_; refine s_op rfl ?_; (simp (disch := first | decide | omega | (simp only [add_next, set_next, grow_next, leave_next, drop_next, List.length_map]; first | done | omega)) only [go_sem, ↓reduceIte, Nat.reduceBEq, Nat.reduceAdd, Nat.reduceLeDiff, Nat.reduceEqDiff, Nat.reduceLT, Nat.reduceMul, q5, hz]; (repeat (with_reducible refine And.intro (by first | omega | assumption | rfl) ?_))))
        (refine s_done (by kernel_rfl) ?_; (simp (disch := first | decide | omega | (simp only [add_next, set_next, grow_next, leave_next, drop_next, List.length_map]; first | done | omega)) only [go_sem, ↓reduceIte, Nat.reduceBEq, Nat.reduceAdd, Nat.reduceLeDiff, Nat.reduceEqDiff, Nat.reduceLT, Nat.reduceMul]; (repeat (with_reducible refine And.intro (by first | omega | assumption | rfl) ?_))))
        (simp (disch := first | decide | omega | (simp only [add_next, set_next, grow_next, leave_next, drop_next, List.length_map]; first | done | omega)) only [go_sem, ↓reduceIte, Nat.reduceBEq, Nat.reduceAdd, Nat.reduceLeDiff, Nat.reduceEqDiff, Nat.reduceLT, Nat.reduceMul, q5]; (repeat (with_reducible refine And.intro (by first | omega | assumption | rfl) ?_)))
        rw [hil]
        refine h _ _ o ?_ ?_ (fun j ob ho => ?_) ?_
        · show S.next ≤ T.next
          omega
        · exact (by (repeat' first | assumption | refine St.WF.leave ?_ _ | refine St.WF.add ?_ _ | refine St.WF.set ?_ ?_ _ | refine St.WF.grow ?_ _ _ _ | refine St.WF.keep ?_ ?_ | (first | omega | (simp only [RowOk.lo, add_next, set_next, grow_next, leave_next, drop_next]; first | done | omega))))
        · show (if j = S.next then _ else T.ob j) = _
          have := hS.lt ho
          rw [if_neg (by omega), hsb _ _ ho]
        · rw [hil] at hC
          exact .inr ⟨hn0, hC.mono fun k cs hk => by
            show (if k = S.next then _ else T.ob k) = _
            rw [if_neg (fun e => by rw [e, hz] at hk; injection hk with hk; injection hk with hk _; exact absurd hk (by decide)), hk]⟩
end Go.Proofs.YtbckanadjkhefaaDoor

/- FaultWraps, walked. Conditions: none. -/
namespace Go.Proofs.YtbckanadjkhefaaDoor
open Go.RowKit
set_option linter.unusedSimpArgs false
set_option linter.unusedVariables false
theorem plc_len40 {n : Int} {ps : List Int} : (plc n ps (min ps.length 40)).length ≤ 40 := by
  have := plc_len (n := n) (ps := ps) (i := min ps.length 40); omega
theorem Chain.ifc {S : St} {ps : List Int} {n : Int} {d : D} (hc : Chain S ps n d) : ∃ t u, d = .ifc t u := by cases hc <;> exact ⟨_, _, rfl⟩
theorem bb_ne (k j : Nat) (a b : Bool) : dbin Tryd.prog .neq 4 (.tmp k) (.tmp j) (.v (.bool a)) (.v (.bool b)) = some (True, .v (.bool (a != b))) := by cases a <;> cases b <;> kernel_rfl
theorem ints_self (o o2 : Own) (l : List Int) (hl : l.length ≤ 1000000) : DPure Tryd.prog 9 [.sl o (l.map iD), .sl o2 (l.map iD)] (.v (.bool true)) := by
  have h := ints_d o o2 l l hl hl
  rw [decide_eq_true rfl] at h
  exact h
set_option maxRecDepth 200000 in
set_option maxHeartbeats 4000000 in
theorem wraps_d (c : Nat) (hc : c < 256) (own : Own) (ps : List Int) (hl : ps.length ≤ 140737488355328) : DPure Tryd.prog 3 [.v (.int .u8 c), .sl own (ps.map iD)] (.v (.bool true)) := by
  refine dpure_of_dwp mixed Tryd.func3 rfl (fun _ _ => by kernel_rfl) (rs := [.tmp 4]) rfl (by kernel_rfl) trivial (fun S hS => ?_)
  (simp (disch := first | decide | omega | (simp only [add_next, set_next, grow_next, leave_next, drop_next, List.length_map]; first | done | omega)) only [go_sem, ↓reduceIte, Nat.reduceBEq, Nat.reduceAdd, Nat.reduceLeDiff, Nat.reduceEqDiff, Nat.reduceLT, Nat.reduceMul]; (repeat (with_reducible refine And.intro (by first | omega | assumption | rfl) ?_)))
  refine made_c hc hl fun d T o t1 t2 t3 t4 => ?_
  obtain ⟨n, hn⟩ : ∃ n, c % 16 = n := ⟨_, rfl⟩
  have hn16 : n < 16 := by omega
  rw [hn] at t4 ⊢
  obtain ⟨l, hll⟩ : ∃ l, plc (n : Int) ps (min ps.length 40) = l := ⟨_, rfl⟩
  have hl40 : l.length ≤ 40 := by rw [← hll]; exact plc_len40
  rw [hll] at t4 ⊢
  have hst : S.Sub T := ⟨t1, t3⟩
  have f1 : (true != true) = false := rfl
  have f0 : (false != false) = false := rfl
  rcases t4 with ⟨hn0, rfl⟩ | ⟨hn0, hC⟩
  · have hl0 : l = [] := by rw [← hll, plc, if_pos hn0]
    have e0 : ((n : Int) == 0) = true := by simp; omega
    have e1 : ((0 : Int) != (n : Int)) = false := by simp; omega
    subst hl0
    (simp (disch := first | decide | omega | (simp only [add_next, set_next, grow_next, leave_next, drop_next, List.length_map]; first | done | omega)) only [go_sem, ↓reduceIte, Nat.reduceBEq, Nat.reduceAdd, Nat.reduceLeDiff, Nat.reduceEqDiff, Nat.reduceLT, Nat.reduceMul]; (repeat (with_reducible refine And.intro (by first | omega | assumption | rfl) ?_)))
    refine ddraw_mk 21 (by kernel_rfl) ?_
    (simp (disch := first | decide | omega | (simp only [add_next, set_next, grow_next, leave_next, drop_next, List.length_map]; first | done | omega)) only [go_sem, ↓reduceIte, Nat.reduceBEq, Nat.reduceAdd, Nat.reduceLeDiff, Nat.reduceEqDiff, Nat.reduceLT, Nat.reduceMul, e0, bb_ne, f1]; (repeat (with_reducible refine And.intro (by first | omega | assumption | rfl) ?_)))
    refine dqgo_mk code_nil ?_
    (simp (disch := first | decide | omega | (simp only [add_next, set_next, grow_next, leave_next, drop_next, List.length_map]; first | done | omega)) only [go_sem, ↓reduceIte, Nat.reduceBEq, Nat.reduceAdd, Nat.reduceLeDiff, Nat.reduceEqDiff, Nat.reduceLT, Nat.reduceMul, e1]; (repeat (with_reducible refine And.intro (by first | omega | assumption | rfl) ?_)))
    refine dqgo_mk (fun S => places_nil) ?_
    (simp (disch := first | decide | omega | (simp only [add_next, set_next, grow_next, leave_next, drop_next, List.length_map]; first | done | omega)) only [go_sem, ↓reduceIte, Nat.reduceBEq, Nat.reduceAdd, Nat.reduceLeDiff, Nat.reduceEqDiff, Nat.reduceLT, Nat.reduceMul]; (repeat (with_reducible refine And.intro (by first | omega | assumption | rfl) ?_)))
    refine dqgo_mk (ints_self .no o [] (by simp)) ?_
    (simp (disch := first | decide | omega | (simp only [add_next, set_next, grow_next, leave_next, drop_next, List.length_map]; first | done | omega)) only [go_sem, ↓reduceIte, Nat.reduceBEq, Nat.reduceAdd, Nat.reduceLeDiff, Nat.reduceEqDiff, Nat.reduceLT, Nat.reduceMul]; (repeat (with_reducible refine And.intro (by first | omega | assumption | rfl) ?_)))
    have f2 : decide ((0 : Int) < 0) = false := by decide
    have f3 : ((-1 : Int) == -1) = true := by decide
    (simp (disch := first | decide | omega | (simp only [add_next, set_next, grow_next, leave_next, drop_next, List.length_map]; first | done | omega)) only [go_sem, ↓reduceIte, Nat.reduceBEq, Nat.reduceAdd, Nat.reduceLeDiff, Nat.reduceEqDiff, Nat.reduceLT, Nat.reduceMul, f2]; (repeat (with_reducible refine And.intro (by first | omega | assumption | rfl) ?_)))
    refine place_nil.go ?_
    (simp (disch := first | decide | omega | (simp only [add_next, set_next, grow_next, leave_next, drop_next, List.length_map]; first | done | omega)) only [go_sem, ↓reduceIte, Nat.reduceBEq, Nat.reduceAdd, Nat.reduceLeDiff, Nat.reduceEqDiff, Nat.reduceLT, Nat.reduceMul, f3]; (repeat (with_reducible refine And.intro (by first | omega | assumption | rfl) ?_)))
    refine DCalls.of_pure awake_d ?_
    (simp (disch := first | decide | omega | (simp only [add_next, set_next, grow_next, leave_next, drop_next, List.length_map]; first | done | omega)) only [go_sem, ↓reduceIte, Nat.reduceBEq, Nat.reduceAdd, Nat.reduceLeDiff, Nat.reduceEqDiff, Nat.reduceLT, Nat.reduceMul]; (repeat (with_reducible refine And.intro (by first | omega | assumption | rfl) ?_)))
    refine ⟨?_, (by (repeat' first | assumption | exact St.Sub.refl _ | exact RowOk.sub (by assumption) (by assumption) | refine St.Sub.trans ?_ (RowOk.sub (by assumption) (by assumption)) | refine St.Sub.add ?_ ?_ _ | refine St.Sub.set ?_ ?_ ?_ _ | refine St.Sub.keep ?_ ?_ | refine St.WF.leave ?_ _ | refine St.WF.add ?_ _ | refine St.WF.set ?_ ?_ _ | refine St.WF.grow ?_ _ _ _ | refine St.WF.keep ?_ ?_ | (first | omega | (simp only [RowOk.lo, add_next, set_next, grow_next, leave_next, drop_next]; first | done | omega))))⟩
    rfl
  · obtain ⟨t, u, rfl⟩ := hC.ifc
    have e0 : ((n : Int) == 0) = false := by simp; omega
    have e1 : ((n : Int) != (n : Int)) = false := by simp
    (simp (disch := first | decide | omega | (simp only [add_next, set_next, grow_next, leave_next, drop_next, List.length_map]; first | done | omega)) only [go_sem, ↓reduceIte, Nat.reduceBEq, Nat.reduceAdd, Nat.reduceLeDiff, Nat.reduceEqDiff, Nat.reduceLT, Nat.reduceMul]; (repeat (with_reducible refine And.intro (by first | omega | assumption | rfl) ?_)))
    refine ddraw_mk 21 (by kernel_rfl) ?_
    (simp (disch := first | decide | omega | (simp only [add_next, set_next, grow_next, leave_next, drop_next, List.length_map]; first | done | omega)) only [go_sem, ↓reduceIte, Nat.reduceBEq, Nat.reduceAdd, Nat.reduceLeDiff, Nat.reduceEqDiff, Nat.reduceLT, Nat.reduceMul, e0, bb_ne, f0]; (repeat (with_reducible refine And.intro (by first | omega | assumption | rfl) ?_)))
    refine dqgo_at (code_st (hC.mono fun k cs hk => ?_) (by omega)) ?_
    · have hkl := t2.lt hk
      (first | (simp (disch := first | decide | omega | (simp only [add_next, set_next, grow_next, leave_next, drop_next, List.length_map]; first | done | omega)) only [go_sem, ↓reduceIte, Nat.reduceBEq, Nat.reduceAdd, Nat.reduceLeDiff, Nat.reduceEqDiff, Nat.reduceLT, Nat.reduceMul, hk]; first | done | rfl) | rfl)
    (simp (disch := first | decide | omega | (simp only [add_next, set_next, grow_next, leave_next, drop_next, List.length_map]; first | done | omega)) only [go_sem, ↓reduceIte, Nat.reduceBEq, Nat.reduceAdd, Nat.reduceLeDiff, Nat.reduceEqDiff, Nat.reduceLT, Nat.reduceMul, e1]; (repeat (with_reducible refine And.intro (by first | omega | assumption | rfl) ?_)))
    refine dqgo_at (places_st (hC.mono fun k cs hk => ?_) (by omega)) ?_
    · have hkl := t2.lt hk
      (first | (simp (disch := first | decide | omega | (simp only [add_next, set_next, grow_next, leave_next, drop_next, List.length_map]; first | done | omega)) only [go_sem, ↓reduceIte, Nat.reduceBEq, Nat.reduceAdd, Nat.reduceLeDiff, Nat.reduceEqDiff, Nat.reduceLT, Nat.reduceMul, hk]; first | done | rfl) | rfl)
    (simp (disch := first | decide | omega | (simp only [add_next, set_next, grow_next, leave_next, drop_next, List.length_map]; first | done | omega)) only [go_sem, ↓reduceIte, Nat.reduceBEq, Nat.reduceAdd, Nat.reduceLeDiff, Nat.reduceEqDiff, Nat.reduceLT, Nat.reduceMul]; (repeat (with_reducible refine And.intro (by first | omega | assumption | rfl) ?_)))
    refine dqgo_mk (ints_self .no o l (by omega)) ?_
    (simp (disch := first | decide | omega | (simp only [add_next, set_next, grow_next, leave_next, drop_next, List.length_map]; first | done | omega)) only [go_sem, ↓reduceIte, Nat.reduceBEq, Nat.reduceAdd, Nat.reduceLeDiff, Nat.reduceEqDiff, Nat.reduceLT, Nat.reduceMul]; (repeat (with_reducible refine And.intro (by first | omega | assumption | rfl) ?_)))
    cases l with
    | nil =>
      have f2 : decide ((0 : Int) < 0) = false := by decide
      have f3 : ((-1 : Int) == -1) = true := by decide
      have f4 : outP [] = -1 := rfl
      (simp (disch := first | decide | omega | (simp only [add_next, set_next, grow_next, leave_next, drop_next, List.length_map]; first | done | omega)) only [go_sem, ↓reduceIte, Nat.reduceBEq, Nat.reduceAdd, Nat.reduceLeDiff, Nat.reduceEqDiff, Nat.reduceLT, Nat.reduceMul, f2]; (repeat (with_reducible refine And.intro (by first | omega | assumption | rfl) ?_)))
      refine (place_at (hC.mono fun k cs hk => ?_)).go ?_
      · have hkl := t2.lt hk
        (first | (simp (disch := first | decide | omega | (simp only [add_next, set_next, grow_next, leave_next, drop_next, List.length_map]; first | done | omega)) only [go_sem, ↓reduceIte, Nat.reduceBEq, Nat.reduceAdd, Nat.reduceLeDiff, Nat.reduceEqDiff, Nat.reduceLT, Nat.reduceMul, hk]; first | done | rfl) | rfl)
      (simp (disch := first | decide | omega | (simp only [add_next, set_next, grow_next, leave_next, drop_next, List.length_map]; first | done | omega)) only [go_sem, ↓reduceIte, Nat.reduceBEq, Nat.reduceAdd, Nat.reduceLeDiff, Nat.reduceEqDiff, Nat.reduceLT, Nat.reduceMul, f3, f4]; (repeat (with_reducible refine And.intro (by first | omega | assumption | rfl) ?_)))
      refine DCalls.of_pure awake_d ?_
      (simp (disch := first | decide | omega | (simp only [add_next, set_next, grow_next, leave_next, drop_next, List.length_map]; first | done | omega)) only [go_sem, ↓reduceIte, Nat.reduceBEq, Nat.reduceAdd, Nat.reduceLeDiff, Nat.reduceEqDiff, Nat.reduceLT, Nat.reduceMul]; (repeat (with_reducible refine And.intro (by first | omega | assumption | rfl) ?_)))
      refine ⟨?_, (by (repeat' first | assumption | exact St.Sub.refl _ | exact RowOk.sub (by assumption) (by assumption) | refine St.Sub.trans ?_ (RowOk.sub (by assumption) (by assumption)) | refine St.Sub.add ?_ ?_ _ | refine St.Sub.set ?_ ?_ ?_ _ | refine St.Sub.keep ?_ ?_ | refine St.WF.leave ?_ _ | refine St.WF.add ?_ _ | refine St.WF.set ?_ ?_ _ | refine St.WF.grow ?_ _ _ _ | refine St.WF.keep ?_ ?_ | (first | omega | (simp only [RowOk.lo, add_next, set_next, grow_next, leave_next, drop_next]; first | done | omega))))⟩
      rfl
    | cons p r =>
      have f2 : decide ((0 : Int) < ((r.length + 1 : Nat) : Int)) = true := decide_eq_true (by omega)
      have f3 : (p == p) = true := by simp
      have f4 : outP (p :: r) = p := rfl
      (simp (disch := first | decide | omega | (simp only [add_next, set_next, grow_next, leave_next, drop_next, List.length_map]; first | done | omega)) only [go_sem, ↓reduceIte, Nat.reduceBEq, Nat.reduceAdd, Nat.reduceLeDiff, Nat.reduceEqDiff, Nat.reduceLT, Nat.reduceMul, f2, iD]; (repeat (with_reducible refine And.intro (by first | omega | assumption | rfl) ?_)))
      refine (place_at (hC.mono fun k cs hk => ?_)).go ?_
      · have hkl := t2.lt hk
        (first | (simp (disch := first | decide | omega | (simp only [add_next, set_next, grow_next, leave_next, drop_next, List.length_map]; first | done | omega)) only [go_sem, ↓reduceIte, Nat.reduceBEq, Nat.reduceAdd, Nat.reduceLeDiff, Nat.reduceEqDiff, Nat.reduceLT, Nat.reduceMul, hk]; first | done | rfl) | rfl)
      (simp (disch := first | decide | omega | (simp only [add_next, set_next, grow_next, leave_next, drop_next, List.length_map]; first | done | omega)) only [go_sem, ↓reduceIte, Nat.reduceBEq, Nat.reduceAdd, Nat.reduceLeDiff, Nat.reduceEqDiff, Nat.reduceLT, Nat.reduceMul, f3, f4]; (repeat (with_reducible refine And.intro (by first | omega | assumption | rfl) ?_)))
      refine DCalls.of_pure awake_d ?_
      (simp (disch := first | decide | omega | (simp only [add_next, set_next, grow_next, leave_next, drop_next, List.length_map]; first | done | omega)) only [go_sem, ↓reduceIte, Nat.reduceBEq, Nat.reduceAdd, Nat.reduceLeDiff, Nat.reduceEqDiff, Nat.reduceLT, Nat.reduceMul]; (repeat (with_reducible refine And.intro (by first | omega | assumption | rfl) ?_)))
      refine ⟨?_, (by (repeat' first | assumption | exact St.Sub.refl _ | exact RowOk.sub (by assumption) (by assumption) | refine St.Sub.trans ?_ (RowOk.sub (by assumption) (by assumption)) | refine St.Sub.add ?_ ?_ _ | refine St.Sub.set ?_ ?_ ?_ _ | refine St.Sub.keep ?_ ?_ | refine St.WF.leave ?_ _ | refine St.WF.add ?_ _ | refine St.WF.set ?_ ?_ _ | refine St.WF.grow ?_ _ _ _ | refine St.WF.keep ?_ ?_ | (first | omega | (simp only [RowOk.lo, add_next, set_next, grow_next, leave_next, drop_next]; first | done | omega))))⟩
      rfl
end Go.Proofs.YtbckanadjkhefaaDoor

/- errors.Is, fault.Is, fault.First, the laws' Code at errors, walked. Conditions: none. -/
namespace Go.Proofs.YtbckanadjkhefaaDoor
open Go.RowKit
set_option linter.unusedSimpArgs false
set_option linter.unusedVariables false
section
variable {S : St} {ps : List Int} {n : Int} {t : TypeId} {u : D}
theorem is_at {m : Int} (hc : Chain S ps n (.ifc t u)) (hl : ps.length < 1000000) : DAt Tryd.prog 13 [.ifc t u, erD m] S (.v (.bool (n == m))) := by
  refine dat_of_dwp (d := .v (.bool (n == m))) mixed Tryd.func13 rfl (fun _ _ => by kernel_rfl) (rs := [.tmp 4]) rfl (by kernel_rfl) trivial (fun hS => ?_)
  (simp (disch := first | decide | omega | (simp only [add_next, set_next, grow_next, leave_next, drop_next, List.length_map]; first | done | omega)) only [go_sem, ↓reduceIte, Nat.reduceBEq, Nat.reduceAdd, Nat.reduceLeDiff, Nat.reduceEqDiff, Nat.reduceLT, Nat.reduceMul]; (repeat (with_reducible refine And.intro (by first | omega | assumption | rfl) ?_)))
  refine rlTypeOfEr ?_
  (simp (disch := first | decide | omega | (simp only [add_next, set_next, grow_next, leave_next, drop_next, List.length_map]; first | done | omega)) only [go_sem, ↓reduceIte, Nat.reduceBEq, Nat.reduceAdd, Nat.reduceLeDiff, Nat.reduceEqDiff, Nat.reduceLT, Nat.reduceMul]; (repeat (with_reducible refine And.intro (by first | omega | assumption | rfl) ?_)))
  refine dinvoke_mk methComp (rlComp ?_)
  (simp (disch := first | decide | omega | (simp only [add_next, set_next, grow_next, leave_next, drop_next, List.length_map]; first | done | omega)) only [go_sem, ↓reduceIte, Nat.reduceBEq, Nat.reduceAdd, Nat.reduceLeDiff, Nat.reduceEqDiff, Nat.reduceLT, Nat.reduceMul]; (repeat (with_reducible refine And.intro (by first | omega | assumption | rfl) ?_)))
  refine isWalk hc hl fun T t1 t2 => ?_
  (simp (disch := first | decide | omega | (simp only [add_next, set_next, grow_next, leave_next, drop_next, List.length_map]; first | done | omega)) only [go_sem, ↓reduceIte, Nat.reduceBEq, Nat.reduceAdd, Nat.reduceLeDiff, Nat.reduceEqDiff, Nat.reduceLT, Nat.reduceMul]; (repeat (with_reducible refine And.intro (by first | omega | assumption | rfl) ?_)))
  have hsub : S.Sub T := ⟨t1, fun j o ho => by rw [t2]; exact ho⟩
  refine ⟨?_, (by (repeat' first | assumption | exact St.Sub.refl _ | exact RowOk.sub (by assumption) (by assumption) | refine St.Sub.trans ?_ (RowOk.sub (by assumption) (by assumption)) | refine St.Sub.add ?_ ?_ _ | refine St.Sub.set ?_ ?_ ?_ _ | refine St.Sub.keep ?_ ?_ | refine St.WF.leave ?_ _ | refine St.WF.add ?_ _ | refine St.WF.set ?_ ?_ _ | refine St.WF.grow ?_ _ _ _ | refine St.WF.keep ?_ ?_ | (first | omega | (simp only [RowOk.lo, add_next, set_next, grow_next, leave_next, drop_next]; first | done | omega))))⟩
  rfl
set_option maxRecDepth 200000 in
set_option maxHeartbeats 4000000 in
theorem fis_at {own : Own} {cs : List Int} (hc : Chain S ps n (.ifc t u)) (hl : ps.length < 1000000) (hcl : cs.length < 1000000) : DAt Tryd.prog 21 [.ifc t u, .sl own (cs.map iD)] S (.v (.bool (cs.contains n))) := by
  refine dat_of_dwp (d := .v (.bool (cs.contains n))) mixed Tryd.func21 rfl (fun _ _ => by kernel_rfl) (rs := [.tmp 4]) rfl (by kernel_rfl) trivial (fun hS => ?_)
  (simp (disch := first | decide | omega | (simp only [add_next, set_next, grow_next, leave_next, drop_next, List.length_map]; first | done | omega)) only [go_sem, ↓reduceIte, Nat.reduceBEq, Nat.reduceAdd, Nat.reduceLeDiff, Nat.reduceEqDiff, Nat.reduceLT, Nat.reduceMul]; (repeat (with_reducible refine And.intro (by first | omega | assumption | rfl) ?_)))
  (refine dloop_st (fun t => List.contains [4, 6, 9, 10, 11, 12, 13, 14, 15, 16, 17, 18, 19, 20, 21, 22, 23, 24, 25, 26, 27] t) (by kernel_rfl) ?_ (cs.length) (fun i f => i ≤ cs.length ∧ f 9 = .v (.int .i64 (i : Nat)) ∧ f 4 = .v (.bool false) ∧ (∀ j (h : j < cs.length), j < i → cs[j] ≠ n)) ?_ ?_; (exact (by (repeat' first | assumption | refine St.WF.leave ?_ _ | refine St.WF.add ?_ _ | refine St.WF.set ?_ ?_ _ | refine St.WF.grow ?_ _ _ _ | refine St.WF.keep ?_ ?_ | (first | omega | (simp only [RowOk.lo, add_next, set_next, grow_next, leave_next, drop_next]; first | done | omega))))); (exact ⟨(by omega), (by (first | (simp (disch := first | decide | omega | (simp only [add_next, set_next, grow_next, leave_next, drop_next, List.length_map]; first | done | omega)) only [go_sem, ↓reduceIte, Nat.reduceBEq, Nat.reduceAdd, Nat.reduceLeDiff, Nat.reduceEqDiff, Nat.reduceLT, Nat.reduceMul]; first | done | rfl) | rfl)), (by (first | (simp (disch := first | decide | omega | (simp only [add_next, set_next, grow_next, leave_next, drop_next, List.length_map]; first | done | omega)) only [go_sem, ↓reduceIte, Nat.reduceBEq, Nat.reduceAdd, Nat.reduceLeDiff, Nat.reduceEqDiff, Nat.reduceLT, Nat.reduceMul]; first | done | rfl) | rfl)), (fun j _ hj => by omega)⟩); intro i g tn hn hT hg hI; obtain ⟨le, q9, q4, hno⟩ := hI; have q0 := hg 0 rfl; have q7 := hg 7 rfl; have q8 := hg 8 rfl; simp (disch := first | decide | omega | (simp only [add_next, set_next, grow_next, leave_next, drop_next, List.length_map]; first | done | omega)) only [go_sem, ↓reduceIte, Nat.reduceBEq, Nat.reduceAdd, Nat.reduceLeDiff, Nat.reduceEqDiff, Nat.reduceLT, Nat.reduceMul] at q0 q7 q8; clear hg; have hn' := hn; try simp only [add_next, set_next, grow_next, leave_next, drop_next] at hn')
  have hCT : Chain ⟨tn, S.ob⟩ ps n (.ifc t u) := Chain.mono (S := S) (T := ⟨tn, S.ob⟩) (fun _ _ h => h) hc
  by_cases hlt : i < cs.length
  · have b1 : decide ((i : Int) < (cs.length : Int)) = true := by simp; omega
    have w1 : IntKind.i64.wrap ((i : Int) + 1) = ((i + 1 : Nat) : Int) := IntWalk.i64_in _ ⟨by omega, by omega⟩
    (simp (disch := first | decide | omega | (simp only [add_next, set_next, grow_next, leave_next, drop_next, List.length_map]; first | done | omega)) only [go_sem, ↓reduceIte, Nat.reduceBEq, Nat.reduceAdd, Nat.reduceLeDiff, Nat.reduceEqDiff, Nat.reduceLT, Nat.reduceMul, q0, q7, q8, q9, b1, iD]; (repeat (with_reducible refine And.intro (by first | omega | assumption | rfl) ?_)))
    refine (is_at (m := cs[i]) hCT hl).go ?_
    cases hnm : (n == cs[i]) with
    | true =>
      (simp (disch := first | decide | omega | (simp only [add_next, set_next, grow_next, leave_next, drop_next, List.length_map]; first | done | omega)) only [go_sem, ↓reduceIte, Nat.reduceBEq, Nat.reduceAdd, Nat.reduceLeDiff, Nat.reduceEqDiff, Nat.reduceLT, Nat.reduceMul, q0, q7, q8, q9, b1, iD]; (repeat (with_reducible refine And.intro (by first | omega | assumption | rfl) ?_)))
      refine ⟨?_, (by (repeat' first | assumption | exact St.Sub.refl _ | exact RowOk.sub (by assumption) (by assumption) | refine St.Sub.trans ?_ (RowOk.sub (by assumption) (by assumption)) | refine St.Sub.add ?_ ?_ _ | refine St.Sub.set ?_ ?_ ?_ _ | refine St.Sub.keep ?_ ?_ | refine St.WF.leave ?_ _ | refine St.WF.add ?_ _ | refine St.WF.set ?_ ?_ _ | refine St.WF.grow ?_ _ _ _ | refine St.WF.keep ?_ ?_ | (first | omega | (simp only [RowOk.lo, add_next, set_next, grow_next, leave_next, drop_next]; first | done | omega))))⟩
      have e := eq_of_beq hnm
      have hm : n ∈ cs := by rw [e]; exact List.getElem_mem hlt
      rw [List.contains_iff_mem.2 hm]
      rfl
    | false =>
      (simp (disch := first | decide | omega | (simp only [add_next, set_next, grow_next, leave_next, drop_next, List.length_map]; first | done | omega)) only [go_sem, ↓reduceIte, Nat.reduceBEq, Nat.reduceAdd, Nat.reduceLeDiff, Nat.reduceEqDiff, Nat.reduceLT, Nat.reduceMul, q0, q7, q8, q9, b1, iD]; (repeat (with_reducible refine And.intro (by first | omega | assumption | rfl) ?_)))
      refine (code_at hCT hl).go ?_
      (simp (disch := first | decide | omega | (simp only [add_next, set_next, grow_next, leave_next, drop_next, List.length_map]; first | done | omega)) only [go_sem, ↓reduceIte, Nat.reduceBEq, Nat.reduceAdd, Nat.reduceLeDiff, Nat.reduceEqDiff, Nat.reduceLT, Nat.reduceMul, q0, q7, q8, q9, b1, w1, hnm, iD]; (repeat (with_reducible refine And.intro (by first | omega | assumption | rfl) ?_)))
      (refine ⟨by omega, (by (repeat' first | assumption | exact St.Sub.refl _ | exact RowOk.sub (by assumption) (by assumption) | refine St.Sub.trans ?_ (RowOk.sub (by assumption) (by assumption)) | refine St.Sub.add ?_ ?_ _ | refine St.Sub.set ?_ ?_ ?_ _ | refine St.Sub.keep ?_ ?_ | refine St.WF.leave ?_ _ | refine St.WF.add ?_ _ | refine St.WF.set ?_ ?_ _ | refine St.WF.grow ?_ _ _ _ | refine St.WF.keep ?_ ?_ | (first | omega | (simp only [RowOk.lo, add_next, set_next, grow_next, leave_next, drop_next]; first | done | omega)))), ?_⟩; refine ⟨by omega, ?_, ?_, ?_⟩; all_goals (try (first | (simp (disch := first | decide | omega | (simp only [add_next, set_next, grow_next, leave_next, drop_next, List.length_map]; first | done | omega)) only [go_sem, ↓reduceIte, Nat.reduceBEq, Nat.reduceAdd, Nat.reduceLeDiff, Nat.reduceEqDiff, Nat.reduceLT, Nat.reduceMul, w1, q4]; first | done | rfl) | rfl)))
      intro j hj hji
      by_cases e : j = i
      · subst e; intro h; rw [h] at hnm; simp at hnm
      · exact hno j hj (by omega)
  · have b1 : decide ((i : Int) < (cs.length : Int)) = false := by simp; omega
    (simp (disch := first | decide | omega | (simp only [add_next, set_next, grow_next, leave_next, drop_next, List.length_map]; first | done | omega)) only [go_sem, ↓reduceIte, Nat.reduceBEq, Nat.reduceAdd, Nat.reduceLeDiff, Nat.reduceEqDiff, Nat.reduceLT, Nat.reduceMul, q0, q7, q8, q9, b1]; (repeat (with_reducible refine And.intro (by first | omega | assumption | rfl) ?_)))
    refine ⟨?_, (by (repeat' first | assumption | exact St.Sub.refl _ | exact RowOk.sub (by assumption) (by assumption) | refine St.Sub.trans ?_ (RowOk.sub (by assumption) (by assumption)) | refine St.Sub.add ?_ ?_ _ | refine St.Sub.set ?_ ?_ ?_ _ | refine St.Sub.keep ?_ ?_ | refine St.WF.leave ?_ _ | refine St.WF.add ?_ _ | refine St.WF.set ?_ ?_ _ | refine St.WF.grow ?_ _ _ _ | refine St.WF.keep ?_ ?_ | (first | omega | (simp only [RowOk.lo, add_next, set_next, grow_next, leave_next, drop_next]; first | done | omega))))⟩
    have hm : ¬ n ∈ cs := fun hm => by
      obtain ⟨j, hj, e⟩ := List.getElem_of_mem hm
      exact hno j hj (by omega) e
    have : cs.contains n = false := by
      cases h : cs.contains n with
      | false => rfl
      | true => exact absurd (List.contains_iff_mem.1 h) hm
    rw [this]
    rfl
theorem code01_nil : DPure Tryd.prog 16 [.v .nilIface] (.v (.int .i64 0)) := by
  refine dpure_of_dwp mixed Tryd.func16 rfl (fun _ _ => by kernel_rfl) (rs := [.tmp 2]) rfl (by kernel_rfl) trivial (fun S hS => ?_)
  (simp (disch := first | decide | omega | (simp only [add_next, set_next, grow_next, leave_next, drop_next, List.length_map]; first | done | omega)) only [go_sem, ↓reduceIte, Nat.reduceBEq, Nat.reduceAdd, Nat.reduceLeDiff, Nat.reduceEqDiff, Nat.reduceLT, Nat.reduceMul]; (repeat (with_reducible refine And.intro (by first | omega | assumption | rfl) ?_)))
  refine ⟨?_, (by (repeat' first | assumption | exact St.Sub.refl _ | exact RowOk.sub (by assumption) (by assumption) | refine St.Sub.trans ?_ (RowOk.sub (by assumption) (by assumption)) | refine St.Sub.add ?_ ?_ _ | refine St.Sub.set ?_ ?_ ?_ _ | refine St.Sub.keep ?_ ?_ | refine St.WF.leave ?_ _ | refine St.WF.add ?_ _ | refine St.WF.set ?_ ?_ _ | refine St.WF.grow ?_ _ _ _ | refine St.WF.keep ?_ ?_ | (first | omega | (simp only [RowOk.lo, add_next, set_next, grow_next, leave_next, drop_next]; first | done | omega))))⟩
  rfl
theorem code01_at (hc : Chain S ps n (.ifc t u)) (hl : ps.length < 1000000) : DAt Tryd.prog 16 [.ifc t u] S (.v (.int .i64 n)) := by
  refine dat_of_dwp (d := .v (.int .i64 n)) mixed Tryd.func16 rfl (fun _ _ => by kernel_rfl) (rs := [.tmp 2]) rfl (by kernel_rfl) trivial (fun hS => ?_)
  (simp (disch := first | decide | omega | (simp only [add_next, set_next, grow_next, leave_next, drop_next, List.length_map]; first | done | omega)) only [go_sem, ↓reduceIte, Nat.reduceBEq, Nat.reduceAdd, Nat.reduceLeDiff, Nat.reduceEqDiff, Nat.reduceLT, Nat.reduceMul]; (repeat (with_reducible refine And.intro (by first | omega | assumption | rfl) ?_)))
  refine asEr (x0 := .v (.int .i64 0)) (hc.mono fun k cs hq => ?_) ?_ hl fun T t1 t2 t3 t4 => ?_
  · have hkl := hS.lt hq
    show (if k = S.next then _ else _) = _
    rw [if_neg (by omega), hq]
  · show (if S.next = S.next then _ else _) = _
    rw [if_pos rfl]
  (simp (disch := first | decide | omega | (simp only [add_next, set_next, grow_next, leave_next, drop_next, List.length_map]; first | done | omega)) only [go_sem, ↓reduceIte, Nat.reduceBEq, Nat.reduceAdd, Nat.reduceLeDiff, Nat.reduceEqDiff, Nat.reduceLT, Nat.reduceMul, t4]; (repeat (with_reducible refine And.intro (by first | omega | assumption | rfl) ?_)))
  have hsub : S.Sub T := ⟨by have : S.next + 1 ≤ T.next := t1; omega, fun j o ho => t3 j o (by have := hS.lt ho; omega) (by have := hS.lt ho; show (if j = S.next then _ else _) = _; rw [if_neg (by omega), ho])⟩
  refine ⟨?_, (by (repeat' first | assumption | exact St.Sub.refl _ | exact RowOk.sub (by assumption) (by assumption) | refine St.Sub.trans ?_ (RowOk.sub (by assumption) (by assumption)) | refine St.Sub.add ?_ ?_ _ | refine St.Sub.set ?_ ?_ ?_ _ | refine St.Sub.keep ?_ ?_ | refine St.WF.leave ?_ _ | refine St.WF.add ?_ _ | refine St.WF.set ?_ ?_ _ | refine St.WF.grow ?_ _ _ _ | refine St.WF.keep ?_ ?_ | (first | omega | (simp only [RowOk.lo, add_next, set_next, grow_next, leave_next, drop_next]; first | done | omega))))⟩
  rfl
end
end Go.Proofs.YtbckanadjkhefaaDoor

/- fault.First, walked. Conditions: none. -/
namespace Go.Proofs.YtbckanadjkhefaaDoor
open Go.RowKit
set_option linter.unusedSimpArgs false
set_option linter.unusedVariables false
theorem first_skip : ∀ {l : List D} {i : Nat}, (∀ j (h : j < l.length), j < i → l[j] = .v .nilIface) → firstD l = firstD (l.drop i)
  | l, 0, _ => by simp
  | [], i + 1, _ => by simp
  | d :: l, i + 1, h => by
    have h0 := h 0 (by simp) (by omega)
    simp only [List.getElem_cons_zero] at h0
    subst h0
    show firstD l = firstD (l.drop i)
    exact first_skip fun j hj hi => h (j + 1) (by simp only [List.length_cons]; omega) (by omega)
/-- Nothing, or an error. -/
def ErrV (d : D) : Prop := d = .v .nilIface ∨ ∃ t u, d = .ifc t u
set_option maxRecDepth 200000 in
set_option maxHeartbeats 4000000 in
theorem first_at {S : St} (own : Own) (l : List D) (he : ∀ d ∈ l, ErrV d) (hz : ∀ d ∈ l, d.frz = d) (hin : S.WF → (firstD l).all (· < S.next)) (hl : l.length < 1000000) : DAt Tryd.prog 20 [.sl own l] S (firstD l) := by
  refine dat_of_dwpA (d := firstD l) mixed Tryd.func20 rfl (fun _ _ => by kernel_rfl) (rs := [.tmp 2]) rfl (by kernel_rfl) hin (fun hS => ?_)
  (simp (disch := first | decide | omega | (simp only [add_next, set_next, grow_next, leave_next, drop_next, List.length_map]; first | done | omega)) only [go_sem, ↓reduceIte, Nat.reduceBEq, Nat.reduceAdd, Nat.reduceLeDiff, Nat.reduceEqDiff, Nat.reduceLT, Nat.reduceMul]; (repeat (with_reducible refine And.intro (by first | omega | assumption | rfl) ?_)))
  (refine dloop_st (fun t => List.contains [2, 4, 7, 8, 9, 10, 11, 12, 13, 14] t) (by kernel_rfl) ?_ (l.length) (fun i f => i ≤ l.length ∧ f 7 = .v (.int .i64 (i : Nat)) ∧ f 2 = .v .nilIface ∧ (∀ j (h : j < l.length), j < i → l[j] = .v .nilIface)) ?_ ?_; (exact (by (repeat' first | assumption | refine St.WF.leave ?_ _ | refine St.WF.add ?_ _ | refine St.WF.set ?_ ?_ _ | refine St.WF.grow ?_ _ _ _ | refine St.WF.keep ?_ ?_ | (first | omega | (simp only [RowOk.lo, add_next, set_next, grow_next, leave_next, drop_next]; first | done | omega))))); (exact ⟨(by omega), (by (first | (simp (disch := first | decide | omega | (simp only [add_next, set_next, grow_next, leave_next, drop_next, List.length_map]; first | done | omega)) only [go_sem, ↓reduceIte, Nat.reduceBEq, Nat.reduceAdd, Nat.reduceLeDiff, Nat.reduceEqDiff, Nat.reduceLT, Nat.reduceMul]; first | done | rfl) | rfl)), (by (first | (simp (disch := first | decide | omega | (simp only [add_next, set_next, grow_next, leave_next, drop_next, List.length_map]; first | done | omega)) only [go_sem, ↓reduceIte, Nat.reduceBEq, Nat.reduceAdd, Nat.reduceLeDiff, Nat.reduceEqDiff, Nat.reduceLT, Nat.reduceMul]; first | done | rfl) | rfl)), (fun j _ hj => by omega)⟩); intro i g tn hn hT hg hI; obtain ⟨le, q7, q2, hno⟩ := hI; have q5 := hg 5 rfl; have q6 := hg 6 rfl; simp (disch := first | decide | omega | (simp only [add_next, set_next, grow_next, leave_next, drop_next, List.length_map]; first | done | omega)) only [go_sem, ↓reduceIte, Nat.reduceBEq, Nat.reduceAdd, Nat.reduceLeDiff, Nat.reduceEqDiff, Nat.reduceLT, Nat.reduceMul] at q5 q6; clear hg; have hn' := hn; try simp only [add_next, set_next, grow_next, leave_next, drop_next] at hn')
  have hsk := first_skip hno
  by_cases hlt : i < l.length
  · have b1 : decide ((i : Int) < (l.length : Int)) = true := by simp; omega
    have w1 : IntKind.i64.wrap ((i : Int) + 1) = ((i + 1 : Nat) : Int) := IntWalk.i64_in _ ⟨by omega, by omega⟩
    have hx0 : l.getD i undefD = l[i] := by rw [List.getD_eq_getElem?_getD, List.getElem?_eq_getElem hlt]; rfl
    rcases he _ (List.getElem_mem hlt) with hx | ⟨t, u, hx⟩
    · rw [hx] at hx0
      (simp (disch := first | decide | omega | (simp only [add_next, set_next, grow_next, leave_next, drop_next, List.length_map]; first | done | omega)) only [go_sem, ↓reduceIte, Nat.reduceBEq, Nat.reduceAdd, Nat.reduceLeDiff, Nat.reduceEqDiff, Nat.reduceLT, Nat.reduceMul, q5, q6, q7, b1, w1, hx0]; (repeat (with_reducible refine And.intro (by first | omega | assumption | rfl) ?_)))
      (refine ⟨by omega, (by (repeat' first | assumption | exact St.Sub.refl _ | exact RowOk.sub (by assumption) (by assumption) | refine St.Sub.trans ?_ (RowOk.sub (by assumption) (by assumption)) | refine St.Sub.add ?_ ?_ _ | refine St.Sub.set ?_ ?_ ?_ _ | refine St.Sub.keep ?_ ?_ | refine St.WF.leave ?_ _ | refine St.WF.add ?_ _ | refine St.WF.set ?_ ?_ _ | refine St.WF.grow ?_ _ _ _ | refine St.WF.keep ?_ ?_ | (first | omega | (simp only [RowOk.lo, add_next, set_next, grow_next, leave_next, drop_next]; first | done | omega)))), ?_⟩; refine ⟨by omega, ?_, ?_, ?_⟩; all_goals (try (first | (simp (disch := first | decide | omega | (simp only [add_next, set_next, grow_next, leave_next, drop_next, List.length_map]; first | done | omega)) only [go_sem, ↓reduceIte, Nat.reduceBEq, Nat.reduceAdd, Nat.reduceLeDiff, Nat.reduceEqDiff, Nat.reduceLT, Nat.reduceMul, w1, q2]; first | done | rfl) | rfl)))
      intro j hj hji
      by_cases e : j = i
      · subst e; exact hx
      · exact hno j hj (by omega)
    · rw [hx] at hx0
      (simp (disch := first | decide | omega | (simp only [add_next, set_next, grow_next, leave_next, drop_next, List.length_map]; first | done | omega)) only [go_sem, ↓reduceIte, Nat.reduceBEq, Nat.reduceAdd, Nat.reduceLeDiff, Nat.reduceEqDiff, Nat.reduceLT, Nat.reduceMul, q5, q6, q7, b1, hx0]; (repeat (with_reducible refine And.intro (by first | omega | assumption | rfl) ?_)))
      refine ⟨?_, (by (repeat' first | assumption | exact St.Sub.refl _ | exact RowOk.sub (by assumption) (by assumption) | refine St.Sub.trans ?_ (RowOk.sub (by assumption) (by assumption)) | refine St.Sub.add ?_ ?_ _ | refine St.Sub.set ?_ ?_ ?_ _ | refine St.Sub.keep ?_ ?_ | refine St.WF.leave ?_ _ | refine St.WF.add ?_ _ | refine St.WF.set ?_ ?_ _ | refine St.WF.grow ?_ _ _ _ | refine St.WF.keep ?_ ?_ | (first | omega | (simp only [RowOk.lo, add_next, set_next, grow_next, leave_next, drop_next]; first | done | omega))))⟩
      rw [hsk, List.drop_eq_getElem_cons hlt, hx]
      have hz0 := hz _ (List.getElem_mem hlt)
      rw [hx] at hz0
      rw [hz0]
      rfl
  · have b1 : decide ((i : Int) < (l.length : Int)) = false := by simp; omega
    (simp (disch := first | decide | omega | (simp only [add_next, set_next, grow_next, leave_next, drop_next, List.length_map]; first | done | omega)) only [go_sem, ↓reduceIte, Nat.reduceBEq, Nat.reduceAdd, Nat.reduceLeDiff, Nat.reduceEqDiff, Nat.reduceLT, Nat.reduceMul, q5, q6, q7, b1]; (repeat (with_reducible refine And.intro (by first | omega | assumption | rfl) ?_)))
    refine ⟨?_, (by (repeat' first | assumption | exact St.Sub.refl _ | exact RowOk.sub (by assumption) (by assumption) | refine St.Sub.trans ?_ (RowOk.sub (by assumption) (by assumption)) | refine St.Sub.add ?_ ?_ _ | refine St.Sub.set ?_ ?_ ?_ _ | refine St.Sub.keep ?_ ?_ | refine St.WF.leave ?_ _ | refine St.WF.add ?_ _ | refine St.WF.set ?_ ?_ _ | refine St.WF.grow ?_ _ _ _ | refine St.WF.keep ?_ ?_ | (first | omega | (simp only [RowOk.lo, add_next, set_next, grow_next, leave_next, drop_next]; first | done | omega))))⟩
    rw [hsk, List.drop_eq_nil_of_le (by omega)]
    rfl
end Go.Proofs.YtbckanadjkhefaaDoor

/- FaultFirst, walked. Conditions: none. NOT BUILT YET: begun. -/
namespace Go.Proofs.YtbckanadjkhefaaDoor
open Go.RowKit
set_option linter.unusedSimpArgs false
set_option linter.unusedVariables false
/-- The numbers' first one that there is. -/
def firstN : List UInt8 → Nat
  | [] => 0
  | c :: l => if c.toNat % 16 = 0 then firstN l else c.toNat % 16
theorem firstN_succ : ∀ {l : List UInt8} {i : Nat} (h : i < l.length), firstN (l.take (i + 1)) = if firstN (l.take i) = 0 then l[i].toNat % 16 else firstN (l.take i)
  | c :: l, 0, _ => by
    by_cases e : c.toNat % 16 = 0
    · simp [firstN, e]
    · simp [firstN, e]
  | c :: l, i + 1, h => by
    have ih := firstN_succ (l := l) (i := i) (by simp at h; omega)
    by_cases e : c.toNat % 16 = 0
    · simp only [List.take_succ_cons, firstN, e, ↓reduceIte, List.getElem_cons_succ]; exact ih
    · simp only [List.take_succ_cons, firstN, e, ↓reduceIte]
/-- Is the first number among those? -/
def isB (cs : List UInt8) (l : List Int) : Bool := l.contains ((firstN cs : Nat) : Int) && decide (firstN cs ≠ 0)
theorem isB_succ {cs : List UInt8} {l : List Int} {i : Nat} (h : i < l.length) : isB cs (l.take (i + 1)) = (isB cs (l.take i) || (decide (firstN cs ≠ 0) && (l[i] == ((firstN cs : Nat) : Int)))) := by
  simp only [isB, List.take_succ_eq_append_getElem h, List.contains_eq_mem, List.mem_append, List.mem_singleton]
  by_cases h0 : firstN cs = 0
  · simp [h0]
  · by_cases h1 : l[i] = ((firstN cs : Nat) : Int)
    · simp [h0, h1]
    · have h2 : ¬ ((firstN cs : Nat) : Int) = l[i] := fun e => h1 e.symm
      simp [h0, h1, h2]
/-- The errors so far. -/
structure ErrsAt (T : St) (l : List UInt8) (es : List D) : Prop where
  len : es.length = l.length
  at_ : ∀ j (h : j < l.length) (h' : j < es.length), IsErr T ((l[j].toNat % 16 : Nat) : Int) (plc ((l[j].toNat % 16 : Nat) : Int) [(j : Int)] 1) es[j]
theorem IsErr.mono {S T : St} {n : Int} {l : List Int} {d : D} (h : ∀ k cs, S.ob k = some (.box 42 cs) → T.ob k = some (.box 42 cs)) (he : IsErr S n l d) : IsErr T n l d := by
  rcases he with h1 | ⟨h1, h2⟩
  · exact .inl h1
  · exact .inr ⟨h1, h2.mono h⟩
theorem Chain.frz {S : St} {l : List Int} {n : Int} {d : D} (h : Chain S l n d) : d.frz = d := by cases h <;> rfl
theorem first_val {T : St} : ∀ {cs : List UInt8} {es : List D}, es.length = cs.length → (∀ j (h : j < cs.length) (h' : j < es.length), ∃ l : List Int, l.length ≤ 1 ∧ IsErr T ((cs[j].toNat % 16 : Nat) : Int) l es[j]) →
    (firstN cs = 0 ∧ firstD es = .v .nilIface) ∨ (firstN cs ≠ 0 ∧ ∃ l : List Int, l.length ≤ 1 ∧ Chain T l ((firstN cs : Nat) : Int) (firstD es))
  | [], [], _, _ => .inl ⟨rfl, rfl⟩
  | c :: cs, d :: es, hl, h => by
    obtain ⟨l, hl1, h0⟩ := h 0 (by simp) (by simp)
    simp only [List.getElem_cons_zero] at h0
    rcases h0 with ⟨hz, hd⟩ | ⟨hz, hC⟩
    · have e : c.toNat % 16 = 0 := by omega
      have ih := first_val (cs := cs) (es := es) (by simpa using hl) fun j hj hj' => h (j + 1) (by simp only [List.length_cons]; omega) (by simp only [List.length_cons]; omega)
      rw [show firstN (c :: cs) = firstN cs from by simp [firstN, e], show firstD (d :: es) = firstD es from by rw [hd]; rfl]
      exact ih
    · have e : c.toNat % 16 ≠ 0 := by omega
      obtain ⟨t, u, rfl⟩ := hC.ifc
      refine .inr ⟨by simp [firstN, e], l, hl1, ?_⟩
      rw [show firstN (c :: cs) = c.toNat % 16 from by simp [firstN, e]]
      exact hC
theorem bb_eq (k j : Nat) (a b : Bool) : dbin Tryd.prog .eql 4 (.tmp k) (.tmp j) (.v (.bool a)) (.v (.bool b)) = some (True, .v (.bool (a == b))) := by cases a <;> cases b <;> kernel_rfl
theorem Chain.inn {S : St} {l : List Int} {n : Int} {d : D} (h : Chain S l n d) (hS : S.WF) : d.all (· < S.next) := by
  cases h with
  | code n => trivial
  | at_ hk _ => exact hS.lt hk
theorem bD_v (b : UInt8) : bD b = .v (.int .u8 (b.toNat : Int)) := rfl
theorem dapp_own {P : Program} {S : St} {t tx ty e : TypeId} {own o2 : Own} {es es2 : List D} {K : D → St → Prop} (he : elT P t = some e) (hx : (elT P tx).isSome = true) (hz : zeroT P e = true) (h1 : ∀ d ∈ es, d.width = szOf P e) (h2 : ∀ d ∈ es2, d.width = szOf P e) (ho : own = .full ∨ ∃ r, own = .row r ∧ S.ob r = some (.row e es.length)) (hb : es.length + es2.length ≤ 140737488355328) (hb2 : (es.length + es2.length) * bytesOf P e ≤ 140737488355328) (k : K (.sl (.row S.next) (es ++ es2)) (S.grow own e (es.length + es2.length))) : dapp P S t tx ty (.sl own es) (.sl o2 es2) K :=
  dapp_row (by
    simp only [dappend, he]
    refine ⟨hx, hz, h1, h2, ?_, hb, hb2, k⟩
    rcases ho with rfl | ⟨r, rfl, hr⟩
    · trivial
    · exact hr)
set_option maxRecDepth 200000 in
set_option maxHeartbeats 4000000 in
theorem ffirst_d (o1 o2 : Own) (cs : List UInt8) (ask : List Int) (h1 : cs.length ≤ 140737488355328) (h2 : ask.length ≤ 140737488355328) : DPure Tryd.prog 5 [.sl o1 (cs.map bD), .sl o2 (ask.map iD)] (.v (.bool true)) := by
  refine dpure_of_dwp mixed Tryd.func5 rfl (fun _ _ => by kernel_rfl) (rs := [.tmp 4]) rfl (by kernel_rfl) trivial (fun S hS => ?_)
  (simp (disch := first | decide | omega | (simp only [add_next, set_next, grow_next, leave_next, drop_next, List.length_map]; first | done | omega)) only [go_sem, ↓reduceIte, Nat.reduceBEq, Nat.reduceAdd, Nat.reduceLeDiff, Nat.reduceEqDiff, Nat.reduceLT, Nat.reduceMul]; (repeat (with_reducible refine And.intro (by first | omega | assumption | rfl) ?_)))
  by_cases hg1 : 40 < cs.length
  · have b1 : decide ((40 : Int) < (cs.length : Int)) = true := by simp; omega
    (simp (disch := first | decide | omega | (simp only [add_next, set_next, grow_next, leave_next, drop_next, List.length_map]; first | done | omega)) only [go_sem, ↓reduceIte, Nat.reduceBEq, Nat.reduceAdd, Nat.reduceLeDiff, Nat.reduceEqDiff, Nat.reduceLT, Nat.reduceMul, b1]; (repeat (with_reducible refine And.intro (by first | omega | assumption | rfl) ?_)))
    refine DCalls.of_pure awake_d ?_
    (simp (disch := first | decide | omega | (simp only [add_next, set_next, grow_next, leave_next, drop_next, List.length_map]; first | done | omega)) only [go_sem, ↓reduceIte, Nat.reduceBEq, Nat.reduceAdd, Nat.reduceLeDiff, Nat.reduceEqDiff, Nat.reduceLT, Nat.reduceMul]; (repeat (with_reducible refine And.intro (by first | omega | assumption | rfl) ?_)))
    refine ⟨?_, (by (repeat' first | assumption | exact St.Sub.refl _ | exact RowOk.sub (by assumption) (by assumption) | refine St.Sub.trans ?_ (RowOk.sub (by assumption) (by assumption)) | refine St.Sub.add ?_ ?_ _ | refine St.Sub.set ?_ ?_ ?_ _ | refine St.Sub.keep ?_ ?_ | refine St.WF.leave ?_ _ | refine St.WF.add ?_ _ | refine St.WF.set ?_ ?_ _ | refine St.WF.grow ?_ _ _ _ | refine St.WF.keep ?_ ?_ | (first | omega | (simp only [RowOk.lo, add_next, set_next, grow_next, leave_next, drop_next]; first | done | omega))))⟩
    rfl
  have b1 : decide ((40 : Int) < (cs.length : Int)) = false := by simp; omega
  by_cases hg2 : 40 < ask.length
  · have b2 : decide ((40 : Int) < (ask.length : Int)) = true := by simp; omega
    (simp (disch := first | decide | omega | (simp only [add_next, set_next, grow_next, leave_next, drop_next, List.length_map]; first | done | omega)) only [go_sem, ↓reduceIte, Nat.reduceBEq, Nat.reduceAdd, Nat.reduceLeDiff, Nat.reduceEqDiff, Nat.reduceLT, Nat.reduceMul, b1, b2]; (repeat (with_reducible refine And.intro (by first | omega | assumption | rfl) ?_)))
    refine DCalls.of_pure awake_d ?_
    (simp (disch := first | decide | omega | (simp only [add_next, set_next, grow_next, leave_next, drop_next, List.length_map]; first | done | omega)) only [go_sem, ↓reduceIte, Nat.reduceBEq, Nat.reduceAdd, Nat.reduceLeDiff, Nat.reduceEqDiff, Nat.reduceLT, Nat.reduceMul]; (repeat (with_reducible refine And.intro (by first | omega | assumption | rfl) ?_)))
    refine ⟨?_, (by (repeat' first | assumption | exact St.Sub.refl _ | exact RowOk.sub (by assumption) (by assumption) | refine St.Sub.trans ?_ (RowOk.sub (by assumption) (by assumption)) | refine St.Sub.add ?_ ?_ _ | refine St.Sub.set ?_ ?_ ?_ _ | refine St.Sub.keep ?_ ?_ | refine St.WF.leave ?_ _ | refine St.WF.add ?_ _ | refine St.WF.set ?_ ?_ _ | refine St.WF.grow ?_ _ _ _ | refine St.WF.keep ?_ ?_ | (first | omega | (simp only [RowOk.lo, add_next, set_next, grow_next, leave_next, drop_next]; first | done | omega))))⟩
    rfl
  have b2 : decide ((40 : Int) < (ask.length : Int)) = false := by simp; omega
  (simp (disch := first | decide | omega | (simp only [add_next, set_next, grow_next, leave_next, drop_next, List.length_map]; first | done | omega)) only [go_sem, ↓reduceIte, Nat.reduceBEq, Nat.reduceAdd, Nat.reduceLeDiff, Nat.reduceEqDiff, Nat.reduceLT, Nat.reduceMul, b1, b2]; (repeat (with_reducible refine And.intro (by first | omega | assumption | rfl) ?_)))
  refine dloop_up (fun t => List.contains [5, 6, 7, 8, 9, 23, 24, 25, 26, 27, 28, 29, 30, 31, 32, 33, 34, 35, 36, 37, 38, 39, 40, 41, 42, 43, 44, 45, 46] t) (by kernel_rfl) hS cs.length (fun i g T => i ≤ cs.length ∧ g 7 = .v (.int .i64 ((i : Nat) : Int)) ∧ g 6 = .v (.int .i64 ((firstN (cs.take i) : Nat) : Int)) ∧ S.Sub T ∧ ∃ own es, g 5 = .sl own es ∧ ErrsAt T (cs.take i) es ∧ (own = .full ∨ ∃ r, own = .row r ∧ T.ob r = some (.row 24 es.length) ∧ S.next ≤ r)) ?_ ?_
  · refine ⟨by omega, by (first | (simp (disch := first | decide | omega | (simp only [add_next, set_next, grow_next, leave_next, drop_next, List.length_map]; first | done | omega)) only [go_sem, ↓reduceIte, Nat.reduceBEq, Nat.reduceAdd, Nat.reduceLeDiff, Nat.reduceEqDiff, Nat.reduceLT, Nat.reduceMul]; first | done | rfl) | rfl), by (first | (simp (disch := first | decide | omega | (simp only [add_next, set_next, grow_next, leave_next, drop_next, List.length_map]; first | done | omega)) only [go_sem, ↓reduceIte, Nat.reduceBEq, Nat.reduceAdd, Nat.reduceLeDiff, Nat.reduceEqDiff, Nat.reduceLT, Nat.reduceMul]; first | done | rfl) | rfl), St.Sub.refl S, .full, [], by (first | (simp (disch := first | decide | omega | (simp only [add_next, set_next, grow_next, leave_next, drop_next, List.length_map]; first | done | omega)) only [go_sem, ↓reduceIte, Nat.reduceBEq, Nat.reduceAdd, Nat.reduceLeDiff, Nat.reduceEqDiff, Nat.reduceLT, Nat.reduceMul]; first | done | rfl) | rfl), ⟨rfl, fun j h => absurd h (Nat.not_lt_zero _)⟩, .inl rfl⟩
  rintro i g T hT hg ⟨le, q7, q6, hst, own, es, q5, hE, hown⟩
  have q0 := hg 0 rfl
  have q1 := hg 1 rfl
  simp (disch := first | decide | omega | (simp only [add_next, set_next, grow_next, leave_next, drop_next, List.length_map]; first | done | omega)) only [go_sem, ↓reduceIte, Nat.reduceBEq, Nat.reduceAdd, Nat.reduceLeDiff, Nat.reduceEqDiff, Nat.reduceLT, Nat.reduceMul] at q0 q1
  clear hg
  have hel : es.length = i := by rw [hE.len, List.length_take]; omega
  by_cases hlt : i < cs.length
  · have c1 : decide ((i : Int) < (cs.length : Int)) = true := by simp; omega
    have w1 : IntKind.i64.wrap ((i : Int) + 1) = ((i + 1 : Nat) : Int) := IntWalk.i64_in _ ⟨by omega, by omega⟩
    (simp (disch := first | decide | omega | (simp only [add_next, set_next, grow_next, leave_next, drop_next, List.length_map]; first | done | omega)) only [go_sem, ↓reduceIte, Nat.reduceBEq, Nat.reduceAdd, Nat.reduceLeDiff, Nat.reduceEqDiff, Nat.reduceLT, Nat.reduceMul, q0, q7, c1, bD_v]; (repeat (with_reducible refine And.intro (by first | omega | assumption | rfl) ?_)))
    refine made_c (c := cs[i].toNat) (own := .full) (ps := [(i : Int)]) (UInt8.toNat_lt _) (by simp) fun d T1 o t1 t2 t3 t4 => ?_
    (simp (disch := first | decide | omega | (simp only [add_next, set_next, grow_next, leave_next, drop_next, List.length_map]; first | done | omega)) only [go_sem, ↓reduceIte, Nat.reduceBEq, Nat.reduceAdd, Nat.reduceLeDiff, Nat.reduceEqDiff, Nat.reduceLT, Nat.reduceMul, q0, q7, c1]; (repeat (with_reducible refine And.intro (by first | omega | assumption | rfl) ?_)))
    have hdw : d.okCell = true ∧ d.cells.length = 1 := by
      rcases t4 with ⟨_, rfl⟩ | ⟨_, hC⟩
      · exact ⟨rfl, rfl⟩
      · obtain ⟨_, _, rfl⟩ := hC.ifc; exact ⟨rfl, rfl⟩
    have hse : szOf Tryd.prog 24 = 1 := by kernel_rfl
    have hbe : bytesOf Tryd.prog 24 = 16 := by kernel_rfl
    have hws : ∀ x ∈ es, x.width = 1 := fun x hx => by
      obtain ⟨j, hj, rfl⟩ := List.getElem_of_mem hx
      rcases hE.at_ j (by rw [← hE.len]; exact hj) hj with ⟨_, e⟩ | ⟨_, hC⟩
      · rw [e]; rfl
      · obtain ⟨_, _, e⟩ := hC.ifc; rw [e]; rfl
    refine ⟨hdw, ?_⟩
    rw [q5]
    refine dapp_own (e := 24) (by kernel_rfl) (by kernel_rfl) (by kernel_rfl) (by rw [hse]; exact hws) (fun x hx => by obtain rfl := List.mem_singleton.1 hx; rw [hse]; exact hdw.2) ?_ (by simp; omega) (by rw [hbe]; simp; omega) ?_
    · rcases hown with rfl | ⟨r, rfl, hr, hlo⟩
      · exact .inl rfl
      · have hr1 := t3 r _ hr
        have hr2 := hT.lt hr
        refine .inr ⟨r, rfl, ?_⟩
        show (if r = T1.next then _ else if r = T1.next then _ else T1.ob r) = _
        rw [if_neg (by omega), if_neg (by omega), hr1]
    have key : ∀ own' : Own, own' = own → ∃ T2, T2 = ((T1.add (.box 26 [.v (.int .i64 0), .sl .full []])).set T1.next (.box 26 [.v (.int .i64 ((cs[i].toNat % 16 : Nat) : Int)), .sl o ((plc ((cs[i].toNat % 16 : Nat) : Int) [(i : Int)] (min 1 40)).map iD)])).grow own' 24 (es.length + 1) ∧ T2.next = T1.next + 2 ∧ T2.ob T1.next = some (.box 26 [.v (.int .i64 ((cs[i].toNat % 16 : Nat) : Int)), .sl o ((plc ((cs[i].toNat % 16 : Nat) : Int) [(i : Int)] (min 1 40)).map iD)]) ∧ T2.ob (T1.next + 1) = some (.row 24 (es.length + 1)) ∧ ∀ k ob, (∀ r, own = .row r → k ≠ r) → T1.ob k = some ob → T2.ob k = some ob := by
      rintro own' rfl
      refine ⟨_, rfl, ?_, ?_, ?_, ?_⟩
      · rw [grow_next]; rfl
      · rcases hown with rfl | ⟨r, rfl, hr, hlo⟩
        · show (if T1.next = T1.next + 1 then _ else if T1.next = T1.next then _ else _) = _
          rw [if_neg (by omega), if_pos rfl]
        · have hr2 := hT.lt hr
          show (if T1.next = T1.next + 1 then _ else if T1.next = r then _ else if T1.next = T1.next then _ else _) = _
          rw [if_neg (by omega), if_neg (by omega), if_pos rfl]
      · rcases hown with rfl | ⟨r, rfl, hr, hlo⟩
        · show (if T1.next + 1 = T1.next + 1 then _ else _) = _
          rw [if_pos rfl]
        · show (if T1.next + 1 = T1.next + 1 then _ else _) = _
          rw [if_pos rfl]
      · intro k ob hne hk
        have hk2 := t2.lt hk
        rcases hown with rfl | ⟨r, rfl, hr, hlo⟩
        · show (if k = T1.next + 1 then _ else if k = T1.next then _ else if k = T1.next then _ else T1.ob k) = _
          rw [if_neg (by omega), if_neg (by omega), if_neg (by omega), hk]
        · show (if k = T1.next + 1 then _ else if k = r then _ else if k = T1.next then _ else if k = T1.next then _ else T1.ob k) = _
          rw [if_neg (by omega), if_neg (hne r rfl), if_neg (by omega), if_neg (by omega), hk]
    obtain ⟨T2, hT2, u1, u2, u3, u4⟩ := key own rfl
    have hsn := hst.next
    have hsub2 : S.Sub T2 := ⟨by omega, fun j ob hj => u4 j ob (fun r hr e => by
      rcases hown with h | ⟨r', h, _, hlo⟩
      · rw [h] at hr; cases hr
      · rw [h] at hr; injection hr with hr; have := hS.lt hj; omega) (t3 j ob (hst.ob j ob hj))⟩
    have hbox : ∀ k cs', T1.ob k = some (.box 42 cs') → T2.ob k = some (.box 42 cs') := fun k cs' hk => u4 k _ (fun r hr e => by
      rcases hown with h | ⟨r', h, hr', _⟩
      · rw [h] at hr; cases hr
      · rw [h] at hr; injection hr with hr; subst hr; subst e; rw [t3 _ _ hr'] at hk; cases hk) hk
    have hfs := firstN_succ hlt
    have hE2 : ErrsAt T2 (cs.take (i + 1)) (es ++ [d]) := by
      refine ⟨by simp; omega, fun j hj hj' => ?_⟩
      by_cases hji : j < i
      · have h3 : (es ++ [d])[j] = es[j]'(by omega) := List.getElem_append_left (by omega)
        have h4 := hE.at_ j (by rw [List.length_take]; omega) (by omega)
        rw [h3]
        simp only [List.getElem_take] at h4 ⊢
        exact (h4.mono fun k cs' hk => t3 _ _ hk).mono hbox
      · have hj2 : j = i := by simp at hj; omega
        subst hj2
        have h3 : (es ++ [d])[j]'hj' = d := by rw [List.getElem_append_right (by omega)]; simp [hel]
        rw [h3]
        simp only [List.getElem_take]
        exact t4.mono hbox
    simp (disch := first | decide | omega | (simp only [add_next, set_next, grow_next, leave_next, drop_next, List.length_map]; first | done | omega)) only [go_sem, ↓reduceIte, Nat.reduceBEq, Nat.reduceAdd, Nat.reduceLeDiff, Nat.reduceEqDiff, Nat.reduceLT, Nat.reduceMul]
    rw [← hT2]
    by_cases hw0 : firstN (cs.take i) = 0
    · rw [if_pos hw0] at hfs
      (simp (disch := first | decide | omega | (simp only [add_next, set_next, grow_next, leave_next, drop_next, List.length_map]; first | done | omega)) only [go_sem, ↓reduceIte, Nat.reduceBEq, Nat.reduceAdd, Nat.reduceLeDiff, Nat.reduceEqDiff, Nat.reduceLT, Nat.reduceMul, q6, q7, hw0, u2, w1]; (repeat (with_reducible refine And.intro (by first | omega | assumption | rfl) ?_)))
      refine ⟨hlt, _, fun _ _ h => h, by omega, by (first | (simp (disch := first | decide | omega | (simp only [add_next, set_next, grow_next, leave_next, drop_next, List.length_map]; first | done | omega)) only [go_sem, ↓reduceIte, Nat.reduceBEq, Nat.reduceAdd, Nat.reduceLeDiff, Nat.reduceEqDiff, Nat.reduceLT, Nat.reduceMul, w1]; first | done | rfl) | rfl), by (first | (simp (disch := first | decide | omega | (simp only [add_next, set_next, grow_next, leave_next, drop_next, List.length_map]; first | done | omega)) only [go_sem, ↓reduceIte, Nat.reduceBEq, Nat.reduceAdd, Nat.reduceLeDiff, Nat.reduceEqDiff, Nat.reduceLT, Nat.reduceMul, hfs, q6]; first | done | rfl) | rfl), hsub2, _, _, by (first | (simp (disch := first | decide | omega | (simp only [add_next, set_next, grow_next, leave_next, drop_next, List.length_map]; first | done | omega)) only [go_sem, ↓reduceIte, Nat.reduceBEq, Nat.reduceAdd, Nat.reduceLeDiff, Nat.reduceEqDiff, Nat.reduceLT, Nat.reduceMul]; first | done | rfl) | rfl), hE2, .inr ⟨_, rfl, ?_, ?_⟩⟩
      · rw [u3, List.length_append]; rfl
      · omega
    · have e0 : (((firstN (cs.take i) : Nat) : Int) == 0) = false := by simp; omega
      rw [if_neg hw0] at hfs
      (simp (disch := first | decide | omega | (simp only [add_next, set_next, grow_next, leave_next, drop_next, List.length_map]; first | done | omega)) only [go_sem, ↓reduceIte, Nat.reduceBEq, Nat.reduceAdd, Nat.reduceLeDiff, Nat.reduceEqDiff, Nat.reduceLT, Nat.reduceMul, q6, q7, e0, w1]; (repeat (with_reducible refine And.intro (by first | omega | assumption | rfl) ?_)))
      refine ⟨hlt, _, fun _ _ h => h, by omega, by (first | (simp (disch := first | decide | omega | (simp only [add_next, set_next, grow_next, leave_next, drop_next, List.length_map]; first | done | omega)) only [go_sem, ↓reduceIte, Nat.reduceBEq, Nat.reduceAdd, Nat.reduceLeDiff, Nat.reduceEqDiff, Nat.reduceLT, Nat.reduceMul, w1]; first | done | rfl) | rfl), by (first | (simp (disch := first | decide | omega | (simp only [add_next, set_next, grow_next, leave_next, drop_next, List.length_map]; first | done | omega)) only [go_sem, ↓reduceIte, Nat.reduceBEq, Nat.reduceAdd, Nat.reduceLeDiff, Nat.reduceEqDiff, Nat.reduceLT, Nat.reduceMul, hfs, q6]; first | done | rfl) | rfl), hsub2, _, _, by (first | (simp (disch := first | decide | omega | (simp only [add_next, set_next, grow_next, leave_next, drop_next, List.length_map]; first | done | omega)) only [go_sem, ↓reduceIte, Nat.reduceBEq, Nat.reduceAdd, Nat.reduceLeDiff, Nat.reduceEqDiff, Nat.reduceLT, Nat.reduceMul]; first | done | rfl) | rfl), hE2, .inr ⟨_, rfl, ?_, ?_⟩⟩
      · rw [u3, List.length_append]; rfl
      · omega
  · have hil : i = cs.length := by omega
    subst hil
    rw [List.take_of_length_le (Nat.le_refl _)] at q6 hE
    have c1 : decide ((cs.length : Int) < (cs.length : Int)) = false := by simp
    (simp (disch := first | decide | omega | (simp only [add_next, set_next, grow_next, leave_next, drop_next, List.length_map]; first | done | omega)) only [go_sem, ↓reduceIte, Nat.reduceBEq, Nat.reduceAdd, Nat.reduceLeDiff, Nat.reduceEqDiff, Nat.reduceLT, Nat.reduceMul, q0, q7, c1]; (repeat (with_reducible refine And.intro (by first | omega | assumption | rfl) ?_)))
    have z0 : isB cs (ask.take 0) = false := by simp [isB]
    (refine dloop_row (fun t => List.contains [10, 11, 12, 47, 48, 49, 50, 51, 52, 53, 54, 55, 56, 57, 58, 59, 60, 61, 62, 63, 64, 65, 66, 67, 68, 69, 70, 71, 72] t) (by kernel_rfl) ?_ (ask.length) (29) (fun ib ownb mb f => ib ≤ ask.length ∧ f 10 = .sl ownb ((ask.take ib).map iD) ∧ f 11 = .v (.bool (isB cs (ask.take ib))) ∧ f 12 = .v (.int .i64 ((ib : Nat) : Int)) ∧ (ownb = .full ∨ mb = ib)) ?_ ?_; (exact (by (repeat' first | assumption | refine St.WF.leave ?_ _ | refine St.WF.add ?_ _ | refine St.WF.set ?_ ?_ _ | refine St.WF.grow ?_ _ _ _ | refine St.WF.keep ?_ ?_ | (first | omega | (simp only [RowOk.lo, add_next, set_next, grow_next, leave_next, drop_next]; first | done | omega))))); (exact ⟨(by omega), (by (first | (simp (disch := first | decide | omega | (simp only [add_next, set_next, grow_next, leave_next, drop_next, List.length_map]; first | done | omega)) only [go_sem, ↓reduceIte, Nat.reduceBEq, Nat.reduceAdd, Nat.reduceLeDiff, Nat.reduceEqDiff, Nat.reduceLT, Nat.reduceMul, q0, q1, q5, q6, z0]; first | done | rfl) | rfl)), (by (first | (simp (disch := first | decide | omega | (simp only [add_next, set_next, grow_next, leave_next, drop_next, List.length_map]; first | done | omega)) only [go_sem, ↓reduceIte, Nat.reduceBEq, Nat.reduceAdd, Nat.reduceLeDiff, Nat.reduceEqDiff, Nat.reduceLT, Nat.reduceMul, q0, q1, q5, q6, z0]; first | done | rfl) | rfl)), (by (first | (simp (disch := first | decide | omega | (simp only [add_next, set_next, grow_next, leave_next, drop_next, List.length_map]; first | done | omega)) only [go_sem, ↓reduceIte, Nat.reduceBEq, Nat.reduceAdd, Nat.reduceLeDiff, Nat.reduceEqDiff, Nat.reduceLT, Nat.reduceMul, q0, q1, q5, q6, z0]; first | done | rfl) | rfl)), (.inl rfl)⟩); intro ib gb tnb ownb mb hnb hrb hTb hgb hIb; obtain ⟨leb, q10b, q11b, q12b, hm⟩ := hIb; have q1b := hgb 1 rfl; have q4b := hgb 4 rfl; have q5b := hgb 5 rfl; have q6b := hgb 6 rfl; simp (disch := first | decide | omega | (simp only [add_next, set_next, grow_next, leave_next, drop_next, List.length_map]; first | done | omega)) only [go_sem, ↓reduceIte, Nat.reduceBEq, Nat.reduceAdd, Nat.reduceLeDiff, Nat.reduceEqDiff, Nat.reduceLT, Nat.reduceMul, q0, q1, q5, q6, z0] at q1b q4b q5b q6b; clear hgb; have hnb' := hnb; try simp only [add_next, set_next, grow_next, leave_next, drop_next] at hnb')
    by_cases hltb : ib < ask.length
    · have c2 : decide ((ib : Int) < (ask.length : Int)) = true := by simp; omega
      have w2 : IntKind.i64.wrap ((ib : Int) + 1) = ((ib + 1 : Nat) : Int) := IntWalk.i64_in _ ⟨by omega, by omega⟩
      have hs := isB_succ (cs := cs) hltb
      (simp (disch := first | decide | omega | (simp only [add_next, set_next, grow_next, leave_next, drop_next, List.length_map]; first | done | omega)) only [go_sem, ↓reduceIte, Nat.reduceBEq, Nat.reduceAdd, Nat.reduceLeDiff, Nat.reduceEqDiff, Nat.reduceLT, Nat.reduceMul, q1b, q5b, q6b, q10b, q11b, q12b, c2, iD]; (repeat (with_reducible refine And.intro (by first | omega | assumption | rfl) ?_)))
      have hmb : ownb = .full ∨ mb = ((ask.take ib).map iD).length := by rw [List.length_map, List.length_take, Nat.min_eq_left leb]; exact hm
      (refine dapp_grow (by (first | (simp (disch := first | decide | omega | (simp only [add_next, set_next, grow_next, leave_next, drop_next, List.length_map]; first | done | omega)) only [go_sem, ↓reduceIte, Nat.reduceBEq, Nat.reduceAdd, Nat.reduceLeDiff, Nat.reduceEqDiff, Nat.reduceLT, Nat.reduceMul]; first | done | rfl) | rfl)) (by (first | (simp (disch := first | decide | omega | (simp only [add_next, set_next, grow_next, leave_next, drop_next, List.length_map]; first | done | omega)) only [go_sem, ↓reduceIte, Nat.reduceBEq, Nat.reduceAdd, Nat.reduceLeDiff, Nat.reduceEqDiff, Nat.reduceLT, Nat.reduceMul]; first | done | rfl) | rfl)) (by (first | (simp (disch := first | decide | omega | (simp only [add_next, set_next, grow_next, leave_next, drop_next, List.length_map]; first | done | omega)) only [go_sem, ↓reduceIte, Nat.reduceBEq, Nat.reduceAdd, Nat.reduceLeDiff, Nat.reduceEqDiff, Nat.reduceLT, Nat.reduceMul]; first | done | rfl) | rfl)) (fun d hd => ?_) (fun d hd => ?_) hrb (by (repeat' first | assumption | exact St.Sub.refl _ | exact RowOk.sub (by assumption) (by assumption) | refine St.Sub.trans ?_ (RowOk.sub (by assumption) (by assumption)) | refine St.Sub.add ?_ ?_ _ | refine St.Sub.set ?_ ?_ ?_ _ | refine St.Sub.keep ?_ ?_ | refine St.WF.leave ?_ _ | refine St.WF.add ?_ _ | refine St.WF.set ?_ ?_ _ | refine St.WF.grow ?_ _ _ _ | refine St.WF.keep ?_ ?_ | (first | omega | (simp only [RowOk.lo, add_next, set_next, grow_next, leave_next, drop_next]; first | done | omega)))) ?_ ?_ ?_ ?_; (exact (by first | (simp (disch := first | decide | omega | (simp only [add_next, set_next, grow_next, leave_next, drop_next, List.length_map]; first | done | omega)) only [go_sem, ↓reduceIte, Nat.reduceBEq, Nat.reduceAdd, Nat.reduceLeDiff, Nat.reduceEqDiff, Nat.reduceLT, Nat.reduceMul]; done) | (simp (disch := first | decide | omega | (simp only [add_next, set_next, grow_next, leave_next, drop_next, List.length_map]; first | done | omega)) only [go_sem, ↓reduceIte, Nat.reduceBEq, Nat.reduceAdd, Nat.reduceLeDiff, Nat.reduceEqDiff, Nat.reduceLT, Nat.reduceMul]; exact (by obtain ⟨q, _, rfl⟩ := List.mem_map.1 hd; rfl)))); (exact (by first | (simp (disch := first | decide | omega | (simp only [add_next, set_next, grow_next, leave_next, drop_next, List.length_map]; first | done | omega)) only [go_sem, ↓reduceIte, Nat.reduceBEq, Nat.reduceAdd, Nat.reduceLeDiff, Nat.reduceEqDiff, Nat.reduceLT, Nat.reduceMul]; done) | (simp (disch := first | decide | omega | (simp only [add_next, set_next, grow_next, leave_next, drop_next, List.length_map]; first | done | omega)) only [go_sem, ↓reduceIte, Nat.reduceBEq, Nat.reduceAdd, Nat.reduceLeDiff, Nat.reduceEqDiff, Nat.reduceLT, Nat.reduceMul]; exact (by obtain rfl := List.mem_singleton.1 hd; rfl)))); (exact (hmb)))
      · simp only [List.length_map, List.length_take, List.length_cons, List.length_nil]; omega
      · simp (disch := first | decide | omega | (simp only [add_next, set_next, grow_next, leave_next, drop_next, List.length_map]; first | done | omega)) only [go_sem, ↓reduceIte, Nat.reduceBEq, Nat.reduceAdd, Nat.reduceLeDiff, Nat.reduceEqDiff, Nat.reduceLT, Nat.reduceMul]; simp only [List.length_take]; omega
      cases hB : isB cs (ask.take ib) with
      | true =>
        rw [hB] at hs q11b
        (simp (disch := first | decide | omega | (simp only [add_next, set_next, grow_next, leave_next, drop_next, List.length_map]; first | done | omega)) only [go_sem, ↓reduceIte, Nat.reduceBEq, Nat.reduceAdd, Nat.reduceLeDiff, Nat.reduceEqDiff, Nat.reduceLT, Nat.reduceMul, q1b, q6b, q11b, q12b, w2]; (repeat (with_reducible refine And.intro (by first | omega | assumption | rfl) ?_)))
        (refine ⟨by omega, _, _, RowNext.grow (m := mb) ?_ ?_ hrb hnb ?_ (St.Sub.refl _), ?_⟩; (exact (by (repeat' first | assumption | refine St.WF.leave ?_ _ | refine St.WF.add ?_ _ | refine St.WF.set ?_ ?_ _ | refine St.WF.grow ?_ _ _ _ | refine St.WF.keep ?_ ?_ | (first | omega | (simp only [RowOk.lo, add_next, set_next, grow_next, leave_next, drop_next]; first | done | omega))))); (exact (by (first | omega | (simp only [RowOk.lo, add_next, set_next, grow_next, leave_next, drop_next]; first | done | omega)))); (exact (by (repeat' first | assumption | exact St.Sub.refl _ | exact RowOk.sub (by assumption) (by assumption) | refine St.Sub.trans ?_ (RowOk.sub (by assumption) (by assumption)) | refine St.Sub.add ?_ ?_ _ | refine St.Sub.set ?_ ?_ ?_ _ | refine St.Sub.keep ?_ ?_ | refine St.WF.leave ?_ _ | refine St.WF.add ?_ _ | refine St.WF.set ?_ ?_ _ | refine St.WF.grow ?_ _ _ _ | refine St.WF.keep ?_ ?_ | (first | omega | (simp only [RowOk.lo, add_next, set_next, grow_next, leave_next, drop_next]; first | done | omega))))); refine ⟨by omega, ?_, ?_, ?_, ?_⟩; all_goals (try (first | (simp (disch := first | decide | omega | (simp only [add_next, set_next, grow_next, leave_next, drop_next, List.length_map]; first | done | omega)) only [go_sem, ↓reduceIte, Nat.reduceBEq, Nat.reduceAdd, Nat.reduceLeDiff, Nat.reduceEqDiff, Nat.reduceLT, Nat.reduceMul, w2, hs]; first | done | rfl) | rfl)))
        · simp (disch := first | decide | omega | (simp only [add_next, set_next, grow_next, leave_next, drop_next, List.length_map]; first | done | omega)) only [go_sem, ↓reduceIte, Nat.reduceBEq, Nat.reduceAdd, Nat.reduceLeDiff, Nat.reduceEqDiff, Nat.reduceLT, Nat.reduceMul]
          rw [List.take_succ_eq_append_getElem hltb, List.map_append]; rfl
        · exact .inr (by simp only [List.length_take]; omega)
      | false =>
        rw [hB] at hs q11b
        by_cases h0 : firstN cs = 0
        · have e0 : (((firstN cs : Nat) : Int) != 0) = false := by simp [h0]
          simp only [h0, ne_eq, not_true_eq_false, decide_false, Bool.false_and, Bool.or_false] at hs
          (simp (disch := first | decide | omega | (simp only [add_next, set_next, grow_next, leave_next, drop_next, List.length_map]; first | done | omega)) only [go_sem, ↓reduceIte, Nat.reduceBEq, Nat.reduceAdd, Nat.reduceLeDiff, Nat.reduceEqDiff, Nat.reduceLT, Nat.reduceMul, q1b, q6b, q11b, q12b, w2, e0]; (repeat (with_reducible refine And.intro (by first | omega | assumption | rfl) ?_)))
          (refine ⟨by omega, _, _, RowNext.grow (m := mb) ?_ ?_ hrb hnb ?_ (St.Sub.refl _), ?_⟩; (exact (by (repeat' first | assumption | refine St.WF.leave ?_ _ | refine St.WF.add ?_ _ | refine St.WF.set ?_ ?_ _ | refine St.WF.grow ?_ _ _ _ | refine St.WF.keep ?_ ?_ | (first | omega | (simp only [RowOk.lo, add_next, set_next, grow_next, leave_next, drop_next]; first | done | omega))))); (exact (by (first | omega | (simp only [RowOk.lo, add_next, set_next, grow_next, leave_next, drop_next]; first | done | omega)))); (exact (by (repeat' first | assumption | exact St.Sub.refl _ | exact RowOk.sub (by assumption) (by assumption) | refine St.Sub.trans ?_ (RowOk.sub (by assumption) (by assumption)) | refine St.Sub.add ?_ ?_ _ | refine St.Sub.set ?_ ?_ ?_ _ | refine St.Sub.keep ?_ ?_ | refine St.WF.leave ?_ _ | refine St.WF.add ?_ _ | refine St.WF.set ?_ ?_ _ | refine St.WF.grow ?_ _ _ _ | refine St.WF.keep ?_ ?_ | (first | omega | (simp only [RowOk.lo, add_next, set_next, grow_next, leave_next, drop_next]; first | done | omega))))); refine ⟨by omega, ?_, ?_, ?_, ?_⟩; all_goals (try (first | (simp (disch := first | decide | omega | (simp only [add_next, set_next, grow_next, leave_next, drop_next, List.length_map]; first | done | omega)) only [go_sem, ↓reduceIte, Nat.reduceBEq, Nat.reduceAdd, Nat.reduceLeDiff, Nat.reduceEqDiff, Nat.reduceLT, Nat.reduceMul, w2, hs]; first | done | rfl) | rfl)))
          · simp (disch := first | decide | omega | (simp only [add_next, set_next, grow_next, leave_next, drop_next, List.length_map]; first | done | omega)) only [go_sem, ↓reduceIte, Nat.reduceBEq, Nat.reduceAdd, Nat.reduceLeDiff, Nat.reduceEqDiff, Nat.reduceLT, Nat.reduceMul]
            rw [List.take_succ_eq_append_getElem hltb, List.map_append]; rfl
          · exact .inr (by simp only [List.length_take]; omega)
        · have e0 : (((firstN cs : Nat) : Int) != 0) = true := by simp [h0, bne]
          cases hA : (ask[ib] == ((firstN cs : Nat) : Int)) with
          | true =>
            simp only [h0, hA, ne_eq, not_false_eq_true, decide_true, Bool.true_and, Bool.or_true, Bool.false_or] at hs
            (simp (disch := first | decide | omega | (simp only [add_next, set_next, grow_next, leave_next, drop_next, List.length_map]; first | done | omega)) only [go_sem, ↓reduceIte, Nat.reduceBEq, Nat.reduceAdd, Nat.reduceLeDiff, Nat.reduceEqDiff, Nat.reduceLT, Nat.reduceMul, q1b, q6b, q11b, q12b, w2, e0, hA, c2, iD]; (repeat (with_reducible refine And.intro (by first | omega | assumption | rfl) ?_)))
            (refine ⟨by omega, _, _, RowNext.grow (m := mb) ?_ ?_ hrb hnb ?_ (St.Sub.refl _), ?_⟩; (exact (by (repeat' first | assumption | refine St.WF.leave ?_ _ | refine St.WF.add ?_ _ | refine St.WF.set ?_ ?_ _ | refine St.WF.grow ?_ _ _ _ | refine St.WF.keep ?_ ?_ | (first | omega | (simp only [RowOk.lo, add_next, set_next, grow_next, leave_next, drop_next]; first | done | omega))))); (exact (by (first | omega | (simp only [RowOk.lo, add_next, set_next, grow_next, leave_next, drop_next]; first | done | omega)))); (exact (by (repeat' first | assumption | exact St.Sub.refl _ | exact RowOk.sub (by assumption) (by assumption) | refine St.Sub.trans ?_ (RowOk.sub (by assumption) (by assumption)) | refine St.Sub.add ?_ ?_ _ | refine St.Sub.set ?_ ?_ ?_ _ | refine St.Sub.keep ?_ ?_ | refine St.WF.leave ?_ _ | refine St.WF.add ?_ _ | refine St.WF.set ?_ ?_ _ | refine St.WF.grow ?_ _ _ _ | refine St.WF.keep ?_ ?_ | (first | omega | (simp only [RowOk.lo, add_next, set_next, grow_next, leave_next, drop_next]; first | done | omega))))); refine ⟨by omega, ?_, ?_, ?_, ?_⟩; all_goals (try (first | (simp (disch := first | decide | omega | (simp only [add_next, set_next, grow_next, leave_next, drop_next, List.length_map]; first | done | omega)) only [go_sem, ↓reduceIte, Nat.reduceBEq, Nat.reduceAdd, Nat.reduceLeDiff, Nat.reduceEqDiff, Nat.reduceLT, Nat.reduceMul, w2, hs]; first | done | rfl) | rfl)))
            · simp (disch := first | decide | omega | (simp only [add_next, set_next, grow_next, leave_next, drop_next, List.length_map]; first | done | omega)) only [go_sem, ↓reduceIte, Nat.reduceBEq, Nat.reduceAdd, Nat.reduceLeDiff, Nat.reduceEqDiff, Nat.reduceLT, Nat.reduceMul]
              rw [List.take_succ_eq_append_getElem hltb, List.map_append]; rfl
            · exact .inr (by simp only [List.length_take]; omega)
          | false =>
            simp only [h0, hA, ne_eq, not_false_eq_true, decide_true, Bool.true_and, Bool.or_false, Bool.false_or] at hs
            (simp (disch := first | decide | omega | (simp only [add_next, set_next, grow_next, leave_next, drop_next, List.length_map]; first | done | omega)) only [go_sem, ↓reduceIte, Nat.reduceBEq, Nat.reduceAdd, Nat.reduceLeDiff, Nat.reduceEqDiff, Nat.reduceLT, Nat.reduceMul, q1b, q6b, q11b, q12b, w2, e0, hA, c2, iD]; (repeat (with_reducible refine And.intro (by first | omega | assumption | rfl) ?_)))
            (refine ⟨by omega, _, _, RowNext.grow (m := mb) ?_ ?_ hrb hnb ?_ (St.Sub.refl _), ?_⟩; (exact (by (repeat' first | assumption | refine St.WF.leave ?_ _ | refine St.WF.add ?_ _ | refine St.WF.set ?_ ?_ _ | refine St.WF.grow ?_ _ _ _ | refine St.WF.keep ?_ ?_ | (first | omega | (simp only [RowOk.lo, add_next, set_next, grow_next, leave_next, drop_next]; first | done | omega))))); (exact (by (first | omega | (simp only [RowOk.lo, add_next, set_next, grow_next, leave_next, drop_next]; first | done | omega)))); (exact (by (repeat' first | assumption | exact St.Sub.refl _ | exact RowOk.sub (by assumption) (by assumption) | refine St.Sub.trans ?_ (RowOk.sub (by assumption) (by assumption)) | refine St.Sub.add ?_ ?_ _ | refine St.Sub.set ?_ ?_ ?_ _ | refine St.Sub.keep ?_ ?_ | refine St.WF.leave ?_ _ | refine St.WF.add ?_ _ | refine St.WF.set ?_ ?_ _ | refine St.WF.grow ?_ _ _ _ | refine St.WF.keep ?_ ?_ | (first | omega | (simp only [RowOk.lo, add_next, set_next, grow_next, leave_next, drop_next]; first | done | omega))))); refine ⟨by omega, ?_, ?_, ?_, ?_⟩; all_goals (try (first | (simp (disch := first | decide | omega | (simp only [add_next, set_next, grow_next, leave_next, drop_next, List.length_map]; first | done | omega)) only [go_sem, ↓reduceIte, Nat.reduceBEq, Nat.reduceAdd, Nat.reduceLeDiff, Nat.reduceEqDiff, Nat.reduceLT, Nat.reduceMul, w2, hs]; first | done | rfl) | rfl)))
            · simp (disch := first | decide | omega | (simp only [add_next, set_next, grow_next, leave_next, drop_next, List.length_map]; first | done | omega)) only [go_sem, ↓reduceIte, Nat.reduceBEq, Nat.reduceAdd, Nat.reduceLeDiff, Nat.reduceEqDiff, Nat.reduceLT, Nat.reduceMul]
              rw [List.take_succ_eq_append_getElem hltb, List.map_append]; rfl
            · exact .inr (by simp only [List.length_take]; omega)
    · have c2 : decide ((ib : Int) < (ask.length : Int)) = false := by simp; omega
      have hib : ib = ask.length := by omega
      rw [hib, List.take_of_length_le (Nat.le_refl _)] at q11b q10b
      have hTU := RowOk.sub (e := 29) (m := mb) hrb hnb
      have hel2 : es.length = cs.length := by rw [hE.len]
      have hErr : ∀ d ∈ es, ErrV d ∧ d.frz = d := fun d hd => by
        obtain ⟨j, hj, rfl⟩ := List.getElem_of_mem hd
        rcases hE.at_ j (by omega) hj with ⟨_, e⟩ | ⟨_, hC⟩
        · rw [e]; exact ⟨.inl rfl, rfl⟩
        · exact ⟨.inr hC.ifc, hC.frz⟩
      have hv := first_val hel2 fun j hj hj' => ⟨_, by have := plc_len (n := ((cs[j].toNat % 16 : Nat) : Int)) (ps := [(j : Int)]) (i := 1); omega, (hE.at_ j hj hj').mono fun k cs' hk => hTU.ob _ _ hk⟩
      (simp (disch := first | decide | omega | (simp only [add_next, set_next, grow_next, leave_next, drop_next, List.length_map]; first | done | omega)) only [go_sem, ↓reduceIte, Nat.reduceBEq, Nat.reduceAdd, Nat.reduceLeDiff, Nat.reduceEqDiff, Nat.reduceLT, Nat.reduceMul, q1b, q5b, q6b, q10b, q11b, q12b, c2]; (repeat (with_reducible refine And.intro (by first | omega | assumption | rfl) ?_)))
      rcases hv with ⟨hn0, hf⟩ | ⟨hn0, l, hl1, hC⟩
      · refine (first_at own es (fun d hd => (hErr d hd).1) (fun d hd => (hErr d hd).2) (fun _ => by rw [hf]; trivial) (by omega)).go ?_
        rw [hf]
        (simp (disch := first | decide | omega | (simp only [add_next, set_next, grow_next, leave_next, drop_next, List.length_map]; first | done | omega)) only [go_sem, ↓reduceIte, Nat.reduceBEq, Nat.reduceAdd, Nat.reduceLeDiff, Nat.reduceEqDiff, Nat.reduceLT, Nat.reduceMul, q1b, q5b, q6b, q10b, q11b, q12b, c2]; (repeat (with_reducible refine And.intro (by first | omega | assumption | rfl) ?_)))
        have eB : isB cs ask = false := by simp [isB, hn0]
        have e0 : ((0 : Int) == ((firstN cs : Nat) : Int)) = true := by simp [hn0]
        have f0 : (false == false) = true := rfl
        rw [eB] at q11b
        refine DCalls.of_pure code01_nil ?_
        (simp (disch := first | decide | omega | (simp only [add_next, set_next, grow_next, leave_next, drop_next, List.length_map]; first | done | omega)) only [go_sem, ↓reduceIte, Nat.reduceBEq, Nat.reduceAdd, Nat.reduceLeDiff, Nat.reduceEqDiff, Nat.reduceLT, Nat.reduceMul, q1b, q5b, q6b, q10b, q11b, q12b, e0]; (repeat (with_reducible refine And.intro (by first | omega | assumption | rfl) ?_)))
        refine DCalls.of_pure (is_nil _ ask (by omega)) ?_
        (simp (disch := first | decide | omega | (simp only [add_next, set_next, grow_next, leave_next, drop_next, List.length_map]; first | done | omega)) only [go_sem, ↓reduceIte, Nat.reduceBEq, Nat.reduceAdd, Nat.reduceLeDiff, Nat.reduceEqDiff, Nat.reduceLT, Nat.reduceMul, q11b, bb_eq, f0]; (repeat (with_reducible refine And.intro (by first | omega | assumption | rfl) ?_)))
        refine DCalls.of_pure awake_d ?_
        (simp (disch := first | decide | omega | (simp only [add_next, set_next, grow_next, leave_next, drop_next, List.length_map]; first | done | omega)) only [go_sem, ↓reduceIte, Nat.reduceBEq, Nat.reduceAdd, Nat.reduceLeDiff, Nat.reduceEqDiff, Nat.reduceLT, Nat.reduceMul]; (repeat (with_reducible refine And.intro (by first | omega | assumption | rfl) ?_)))
        refine ⟨?_, (by (repeat' first | assumption | exact St.Sub.refl _ | exact RowOk.sub (by assumption) (by assumption) | refine St.Sub.trans ?_ (RowOk.sub (by assumption) (by assumption)) | refine St.Sub.add ?_ ?_ _ | refine St.Sub.set ?_ ?_ ?_ _ | refine St.Sub.keep ?_ ?_ | refine St.WF.leave ?_ _ | refine St.WF.add ?_ _ | refine St.WF.set ?_ ?_ _ | refine St.WF.grow ?_ _ _ _ | refine St.WF.keep ?_ ?_ | (first | omega | (simp only [RowOk.lo, add_next, set_next, grow_next, leave_next, drop_next]; first | done | omega))))⟩
        rfl
      · refine (first_at own es (fun d hd => (hErr d hd).1) (fun d hd => (hErr d hd).2) (fun hU => hC.inn hU) (by omega)).go ?_
        obtain ⟨t, u, hf⟩ := hC.ifc
        rw [hf] at hC ⊢
        have eB : isB cs ask = ask.contains ((firstN cs : Nat) : Int) := by simp [isB, hn0]
        have e0 : (((firstN cs : Nat) : Int) == ((firstN cs : Nat) : Int)) = true := by simp
        rw [eB] at q11b
        (simp (disch := first | decide | omega | (simp only [add_next, set_next, grow_next, leave_next, drop_next, List.length_map]; first | done | omega)) only [go_sem, ↓reduceIte, Nat.reduceBEq, Nat.reduceAdd, Nat.reduceLeDiff, Nat.reduceEqDiff, Nat.reduceLT, Nat.reduceMul, q1b, q5b, q6b, q10b, q11b, q12b]; (repeat (with_reducible refine And.intro (by first | omega | assumption | rfl) ?_)))
        refine (code01_at hC (by omega)).go ?_
        (simp (disch := first | decide | omega | (simp only [add_next, set_next, grow_next, leave_next, drop_next, List.length_map]; first | done | omega)) only [go_sem, ↓reduceIte, Nat.reduceBEq, Nat.reduceAdd, Nat.reduceLeDiff, Nat.reduceEqDiff, Nat.reduceLT, Nat.reduceMul, q1b, q5b, q6b, q10b, q11b, q12b, e0]; (repeat (with_reducible refine And.intro (by first | omega | assumption | rfl) ?_)))
        refine (fis_at (cs := ask) hC (by omega) (by omega)).go ?_
        have f0 : (ask.contains ((firstN cs : Nat) : Int) == ask.contains ((firstN cs : Nat) : Int)) = true := by simp
        (simp (disch := first | decide | omega | (simp only [add_next, set_next, grow_next, leave_next, drop_next, List.length_map]; first | done | omega)) only [go_sem, ↓reduceIte, Nat.reduceBEq, Nat.reduceAdd, Nat.reduceLeDiff, Nat.reduceEqDiff, Nat.reduceLT, Nat.reduceMul, q11b, bb_eq, f0]; (repeat (with_reducible refine And.intro (by first | omega | assumption | rfl) ?_)))
        refine DCalls.of_pure awake_d ?_
        (simp (disch := first | decide | omega | (simp only [add_next, set_next, grow_next, leave_next, drop_next, List.length_map]; first | done | omega)) only [go_sem, ↓reduceIte, Nat.reduceBEq, Nat.reduceAdd, Nat.reduceLeDiff, Nat.reduceEqDiff, Nat.reduceLT, Nat.reduceMul]; (repeat (with_reducible refine And.intro (by first | omega | assumption | rfl) ?_)))
        refine ⟨?_, (by (repeat' first | assumption | exact St.Sub.refl _ | exact RowOk.sub (by assumption) (by assumption) | refine St.Sub.trans ?_ (RowOk.sub (by assumption) (by assumption)) | refine St.Sub.add ?_ ?_ _ | refine St.Sub.set ?_ ?_ ?_ _ | refine St.Sub.keep ?_ ?_ | refine St.WF.leave ?_ _ | refine St.WF.add ?_ _ | refine St.WF.set ?_ ?_ _ | refine St.WF.grow ?_ _ _ _ | refine St.WF.keep ?_ ?_ | (first | omega | (simp only [RowOk.lo, add_next, set_next, grow_next, leave_next, drop_next]; first | done | omega))))⟩
        rfl
end Go.Proofs.YtbckanadjkhefaaDoor

/- FaultFirst answers true, whatever comes. Conditions: none but the statement's own. -/
namespace Go.Proofs.YtbckanadjkhefaaDoor
open Go.ChangeShapes Go.WideShapes Go.RowKit
set_option maxRecDepth 100000 in
theorem faultFirst_lifted (os : Os) (started : os.Started) (H : Type) (enc : TypeId × Value → H) :
    ReturnsInHanded {} Tryd.checked os 5 .any (fun w args => (Rows.faultFirstSpec.pre enc Tryd.prog Tryd.f5 [] false w args ∧ laidMetH Tryd.prog doorLaid w) ∧ sizedMet enc Tryd.prog Tryd.f5 (OpenSpec.ofChange Rows.faultFirstSpec) false w args)
      (Rows.faultFirstSpec.post enc Tryd.prog Tryd.f5 false true false false) := by
  refine returnsInHanded_of_change_and (C := Tryd.checked) (X := fun w _ => laidMetH Tryd.prog doorLaid w) (fun _ _ _ hh h => h.of_heap hh) door_own started (by kernel_rfl) Tryd.func5
    (ChangeSpec.witness_at (enc := enc) (C := Tryd.checked) (os := os) (X := fun w _ => laidMetH Tryd.prog doorLaid w) false (laidWorld os) #[.slice none 0 0, .slice none 0 0] 8 rfl (by kernel_rfl) (by kernel_rfl) (by kernel_rfl) (by kernel_rfl) (by kernel_rfl) (laidWorld_met os _)) ?_
  intro W base args ds gs before hval0 hW hcnd hsz0 hL _
  have hG := glob_of_laid hL
  have hval : ∀ (j : Nat) t v, Tryd.f5.params[j]? = some t → args[j]? = some v → Value.okWide Tryd.prog W .any base t v := hval0
  have hsz : (DataW.weightsEach Tryd.prog (Tryd.f5.params.toList ++ Rows.faultFirstSpec.plain.varTypes Tryd.prog) (ds ++ gs)).all (· ≤ reachBytes) = true := hsz0
  have hW' := hW
  obtain ⟨p, q, hA0, hV, rfl, hfz, hnd⟩ := hW
  have hA : DataW.TrodAll enc Tryd.prog W 0 (fun _ => true) true Tryd.f5.params.toList args.toList ds p := hA0
  obtain ⟨rfl, rfl⟩ := trodVars_none hV
  rw [Tryd.params5] at hA hval hsz
  have hA1 := hA
  obtain ⟨v0, vs0, d0, ds0, p0, q0, hargs, rfl, rfl, h0, r0⟩ := trodAll_cons hA
  obtain ⟨v1, vs1, d1, ds1, p1, q1, rfl, rfl, rfl, h1, r1⟩ := trodAll_cons r0
  obtain ⟨rfl, rfl, rfl⟩ := trodAll_nil r1
  obtain rfl : args = #[v0, v1] := by cases args; simp_all
  have z0 : Sized Tryd.prog 47 d0 := sized_of_each (j := 0) hsz rfl rfl
  have k0 : Value.okWide Tryd.prog W .any base 47 v0 := hval 0 _ _ rfl rfl
  have z1 : Sized Tryd.prog 22 d1 := sized_of_each (j := 1) hsz rfl rfl
  have k1 : Value.okWide Tryd.prog W .any base 22 v1 := hval 1 _ _ rfl rfl
  clear hA0 hval0 hsz hsz0 hval
  have key : Calls Tryd.prog 5 #[v0, v1] W (Gives (.bool true) W) := by
    obtain ⟨c, hlc, hc⟩ := open_u8s h0 z0 k0
    obtain ⟨l, hl, hr⟩ := open_ints h1 z1 k1
    exact door_gives (vs := [v0, v1]) (ffirst_d .no .no c l hlc hl) (by simp only [RepL]; exact ⟨_, _, rfl, hc _ _ (door_fix _), _, _, rfl, hr _ _ (door_fix _), rfl⟩) (by intro _ _; kernel_rfl) hG
  refine key.mono fun e W' ⟨he, bel⟩ => ?_
  subst he
  exact ⟨_, rfl, _, _, _, [], _, [], hW', trodAll_mk1 (shut_bool Tryd.underlying4 _), trodAll_below door_laidOut bel (by kernel_rfl) hA1, rfl, bel.frame _, fun h => by cases h⟩

theorem faultFirst_row : Rows.FaultFirstSaid :=
  OpenClaim.holds_of_wide 5 Tryd.f5 rfl rfl rfl rfl rfl rfl rfl ⟨rfl, rfl, rfl, rfl, rfl⟩ rfl rfl rfl rfl rfl (by kernel_rfl) Tryd.func5 (by kernel_rfl)
    (of_decide_eq_true (by kernel_rfl)) (by unfold Func.isWrapper; first | (rw [if_pos (by decide +kernel)]; kernel_rfl) | (rw [if_neg (by decide +kernel)]; exact ⟨rfl, rfl⟩))
    (fun os started H enc _ => faultFirst_lifted os started H enc)
theorem faultFirst_holds : Rows.FaultFirstCardSaid :=
  Claim7.holds_tied_plain_at .later [] [.handle] true Rows.faultFirstCard.stood.harness true
    faultFirst_row (fun _ h => by cases h) (by kernel_rfl) (fun _ h => by cases h) faultFirst_row_tie rfl ⟨rfl, rfl⟩ (by kernel_rfl) rfl
    (fun f fn hf hfn => by
      obtain rfl : f = 5 := Option.some.inj ((show Tryd.prog.funcNamed "dioptre/dioptrelaw01.FaultFirst" = some 5 by kernel_rfl).symm.trans hf) |>.symm
      obtain rfl : fn = Tryd.f5 := (Option.some.inj (Tryd.func5.symm.trans hfn)).symm
      exact ⟨by kernel_rfl, fun j t ht => by
        rw [Tryd.params5] at ht
        have ht' := List.mem_of_getElem? (Array.getElem?_toList ▸ ht)
        simp only [List.mem_cons, List.not_mem_nil, or_false] at ht'
        rcases ht' with rfl | rfl <;> exact (show Tryd.prog.wantsStandIn _ = false by kernel_rfl)⟩)
    (by kernel_rfl)
#print axioms faultFirst_holds
end Go.Proofs.YtbckanadjkhefaaDoor
