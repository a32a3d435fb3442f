/- FaultWraps answers true, whatever comes. Conditions: none but the statement's own. -/
import Derived.Test.YtbckanadjkhefaaDoorCLawP5
import Derived.Test.YtbckanadjkhefaaDoorCards
import Derived.Test.YtbckanadjkhefaaDoorTie
import Derived.SevenTiedAt
import Derived.RowKit
import Derived.RowKitTokens
set_option linter.unusedVariables false
set_option linter.unusedSimpArgs false
/- FaultWraps, walked. Conditions: none. -/
namespace Go.Proofs.YtbckanadjkhefaaDoor
open Go.RowKit
set_option linter.unusedSimpArgs false
set_option linter.unusedVariables false
theorem plc_len40 {n : Int} {ps : List Int} : (plc n ps (min ps.length 40)).length ≤ 40 := by
  have := plc_len (n := n) (ps := ps) (i := min ps.length 40); omega
theorem Chain.ifc {S : St} {ps : List Int} {n : Int} {d : D} (hc : Chain S ps n d) : ∃ t u, d = .ifc t u := by cases hc <;> exact ⟨_, _, rfl⟩
theorem bb_ne (k j : Nat) (a b : Bool) : dbin Tryd.prog .neq 4 (.tmp k) (.tmp j) (.v (.bool a)) (.v (.bool b)) = some (True, .v (.bool (a != b))) := by cases a <;> cases b <;> kernel_rfl
theorem ints_self (o o2 : Own) (l : List Int) (hl : l.length ≤ 1000000) : DPure Tryd.prog 9 [.sl o (l.map iD), .sl o2 (l.map iD)] (.v (.bool true)) := by
  have h := ints_d o o2 l l hl hl
  rw [decide_eq_true rfl] at h
  exact h
set_option maxRecDepth 200000 in
set_option maxHeartbeats 4000000 in
theorem wraps_d (c : Nat) (hc : c < 256) (own : Own) (ps : List Int) (hl : ps.length ≤ 140737488355328) : DPure Tryd.prog 3 [.v (.int .u8 c), .sl own (ps.map iD)] (.v (.bool true)) := by
  refine dpure_of_dwp mixed Tryd.func3 rfl (fun _ _ => by kernel_rfl) (rs := [.tmp 4]) rfl (by kernel_rfl) trivial (fun S hS => ?_)
  (simp (disch := first | decide | omega | (simp only [add_next, set_next, grow_next, leave_next, drop_next, List.length_map]; first | done | omega)) only [go_sem, ↓reduceIte, Nat.reduceBEq, Nat.reduceAdd, Nat.reduceLeDiff, Nat.reduceEqDiff, Nat.reduceLT, Nat.reduceMul]; (repeat (with_reducible refine And.intro (by first | omega | assumption | rfl) ?_)))
  refine made_c hc hl fun d T o t1 t2 t3 t4 => ?_
  obtain ⟨n, hn⟩ : ∃ n, c % 16 = n := ⟨_, rfl⟩
  have hn16 : n < 16 := by omega
  rw [hn] at t4 ⊢
  obtain ⟨l, hll⟩ : ∃ l, plc (n : Int) ps (min ps.length 40) = l := ⟨_, rfl⟩
  have hl40 : l.length ≤ 40 := by rw [← hll]; exact plc_len40
  rw [hll] at t4 ⊢
  have hst : S.Sub T := ⟨t1, t3⟩
  have f1 : (true != true) = false := rfl
  have f0 : (false != false) = false := rfl
  rcases t4 with ⟨hn0, rfl⟩ | ⟨hn0, hC⟩
  · have hl0 : l = [] := by rw [← hll, plc, if_pos hn0]
    have e0 : ((n : Int) == 0) = true := by simp; omega
    have e1 : ((0 : Int) != (n : Int)) = false := by simp; omega
    subst hl0
    (simp (disch := first | decide | omega | (simp only [add_next, set_next, grow_next, leave_next, drop_next, List.length_map]; first | done | omega)) only [go_sem, ↓reduceIte, Nat.reduceBEq, Nat.reduceAdd, Nat.reduceLeDiff, Nat.reduceEqDiff, Nat.reduceLT, Nat.reduceMul]; (repeat (with_reducible refine And.intro (by first | omega | assumption | rfl) ?_)))
    refine ddraw_mk 21 (by kernel_rfl) ?_
    (simp (disch := first | decide | omega | (simp only [add_next, set_next, grow_next, leave_next, drop_next, List.length_map]; first | done | omega)) only [go_sem, ↓reduceIte, Nat.reduceBEq, Nat.reduceAdd, Nat.reduceLeDiff, Nat.reduceEqDiff, Nat.reduceLT, Nat.reduceMul, e0, bb_ne, f1]; (repeat (with_reducible refine And.intro (by first | omega | assumption | rfl) ?_)))
    refine dqgo_mk code_nil ?_
    (simp (disch := first | decide | omega | (simp only [add_next, set_next, grow_next, leave_next, drop_next, List.length_map]; first | done | omega)) only [go_sem, ↓reduceIte, Nat.reduceBEq, Nat.reduceAdd, Nat.reduceLeDiff, Nat.reduceEqDiff, Nat.reduceLT, Nat.reduceMul, e1]; (repeat (with_reducible refine And.intro (by first | omega | assumption | rfl) ?_)))
    refine dqgo_mk (fun S => places_nil) ?_
    (simp (disch := first | decide | omega | (simp only [add_next, set_next, grow_next, leave_next, drop_next, List.length_map]; first | done | omega)) only [go_sem, ↓reduceIte, Nat.reduceBEq, Nat.reduceAdd, Nat.reduceLeDiff, Nat.reduceEqDiff, Nat.reduceLT, Nat.reduceMul]; (repeat (with_reducible refine And.intro (by first | omega | assumption | rfl) ?_)))
    refine dqgo_mk (ints_self .no o [] (by simp)) ?_
    (simp (disch := first | decide | omega | (simp only [add_next, set_next, grow_next, leave_next, drop_next, List.length_map]; first | done | omega)) only [go_sem, ↓reduceIte, Nat.reduceBEq, Nat.reduceAdd, Nat.reduceLeDiff, Nat.reduceEqDiff, Nat.reduceLT, Nat.reduceMul]; (repeat (with_reducible refine And.intro (by first | omega | assumption | rfl) ?_)))
    have f2 : decide ((0 : Int) < 0) = false := by decide
    have f3 : ((-1 : Int) == -1) = true := by decide
    (simp (disch := first | decide | omega | (simp only [add_next, set_next, grow_next, leave_next, drop_next, List.length_map]; first | done | omega)) only [go_sem, ↓reduceIte, Nat.reduceBEq, Nat.reduceAdd, Nat.reduceLeDiff, Nat.reduceEqDiff, Nat.reduceLT, Nat.reduceMul, f2]; (repeat (with_reducible refine And.intro (by first | omega | assumption | rfl) ?_)))
    refine place_nil.go ?_
    (simp (disch := first | decide | omega | (simp only [add_next, set_next, grow_next, leave_next, drop_next, List.length_map]; first | done | omega)) only [go_sem, ↓reduceIte, Nat.reduceBEq, Nat.reduceAdd, Nat.reduceLeDiff, Nat.reduceEqDiff, Nat.reduceLT, Nat.reduceMul, f3]; (repeat (with_reducible refine And.intro (by first | omega | assumption | rfl) ?_)))
    refine DCalls.of_pure awake_d ?_
    (simp (disch := first | decide | omega | (simp only [add_next, set_next, grow_next, leave_next, drop_next, List.length_map]; first | done | omega)) only [go_sem, ↓reduceIte, Nat.reduceBEq, Nat.reduceAdd, Nat.reduceLeDiff, Nat.reduceEqDiff, Nat.reduceLT, Nat.reduceMul]; (repeat (with_reducible refine And.intro (by first | omega | assumption | rfl) ?_)))
    refine ⟨?_, (by (repeat' first | assumption | exact St.Sub.refl _ | exact RowOk.sub (by assumption) (by assumption) | refine St.Sub.trans ?_ (RowOk.sub (by assumption) (by assumption)) | refine St.Sub.add ?_ ?_ _ | refine St.Sub.set ?_ ?_ ?_ _ | refine St.Sub.keep ?_ ?_ | refine St.WF.leave ?_ _ | refine St.WF.add ?_ _ | refine St.WF.set ?_ ?_ _ | refine St.WF.grow ?_ _ _ _ | refine St.WF.keep ?_ ?_ | (first | omega | (simp only [RowOk.lo, add_next, set_next, grow_next, leave_next, drop_next]; first | done | omega))))⟩
    rfl
  · obtain ⟨t, u, rfl⟩ := hC.ifc
    have e0 : ((n : Int) == 0) = false := by simp; omega
    have e1 : ((n : Int) != (n : Int)) = false := by simp
    (simp (disch := first | decide | omega | (simp only [add_next, set_next, grow_next, leave_next, drop_next, List.length_map]; first | done | omega)) only [go_sem, ↓reduceIte, Nat.reduceBEq, Nat.reduceAdd, Nat.reduceLeDiff, Nat.reduceEqDiff, Nat.reduceLT, Nat.reduceMul]; (repeat (with_reducible refine And.intro (by first | omega | assumption | rfl) ?_)))
    refine ddraw_mk 21 (by kernel_rfl) ?_
    (simp (disch := first | decide | omega | (simp only [add_next, set_next, grow_next, leave_next, drop_next, List.length_map]; first | done | omega)) only [go_sem, ↓reduceIte, Nat.reduceBEq, Nat.reduceAdd, Nat.reduceLeDiff, Nat.reduceEqDiff, Nat.reduceLT, Nat.reduceMul, e0, bb_ne, f0]; (repeat (with_reducible refine And.intro (by first | omega | assumption | rfl) ?_)))
    refine dqgo_at (code_st (hC.mono fun k cs hk => ?_) (by omega)) ?_
    · have hkl := t2.lt hk
      (first | (simp (disch := first | decide | omega | (simp only [add_next, set_next, grow_next, leave_next, drop_next, List.length_map]; first | done | omega)) only [go_sem, ↓reduceIte, Nat.reduceBEq, Nat.reduceAdd, Nat.reduceLeDiff, Nat.reduceEqDiff, Nat.reduceLT, Nat.reduceMul, hk]; first | done | rfl) | rfl)
    (simp (disch := first | decide | omega | (simp only [add_next, set_next, grow_next, leave_next, drop_next, List.length_map]; first | done | omega)) only [go_sem, ↓reduceIte, Nat.reduceBEq, Nat.reduceAdd, Nat.reduceLeDiff, Nat.reduceEqDiff, Nat.reduceLT, Nat.reduceMul, e1]; (repeat (with_reducible refine And.intro (by first | omega | assumption | rfl) ?_)))
    refine dqgo_at (places_st (hC.mono fun k cs hk => ?_) (by omega)) ?_
    · have hkl := t2.lt hk
      (first | (simp (disch := first | decide | omega | (simp only [add_next, set_next, grow_next, leave_next, drop_next, List.length_map]; first | done | omega)) only [go_sem, ↓reduceIte, Nat.reduceBEq, Nat.reduceAdd, Nat.reduceLeDiff, Nat.reduceEqDiff, Nat.reduceLT, Nat.reduceMul, hk]; first | done | rfl) | rfl)
    (simp (disch := first | decide | omega | (simp only [add_next, set_next, grow_next, leave_next, drop_next, List.length_map]; first | done | omega)) only [go_sem, ↓reduceIte, Nat.reduceBEq, Nat.reduceAdd, Nat.reduceLeDiff, Nat.reduceEqDiff, Nat.reduceLT, Nat.reduceMul]; (repeat (with_reducible refine And.intro (by first | omega | assumption | rfl) ?_)))
    refine dqgo_mk (ints_self .no o l (by omega)) ?_
    (simp (disch := first | decide | omega | (simp only [add_next, set_next, grow_next, leave_next, drop_next, List.length_map]; first | done | omega)) only [go_sem, ↓reduceIte, Nat.reduceBEq, Nat.reduceAdd, Nat.reduceLeDiff, Nat.reduceEqDiff, Nat.reduceLT, Nat.reduceMul]; (repeat (with_reducible refine And.intro (by first | omega | assumption | rfl) ?_)))
    cases l with
    | nil =>
      have f2 : decide ((0 : Int) < 0) = false := by decide
      have f3 : ((-1 : Int) == -1) = true := by decide
      have f4 : outP [] = -1 := rfl
      (simp (disch := first | decide | omega | (simp only [add_next, set_next, grow_next, leave_next, drop_next, List.length_map]; first | done | omega)) only [go_sem, ↓reduceIte, Nat.reduceBEq, Nat.reduceAdd, Nat.reduceLeDiff, Nat.reduceEqDiff, Nat.reduceLT, Nat.reduceMul, f2]; (repeat (with_reducible refine And.intro (by first | omega | assumption | rfl) ?_)))
      refine (place_at (hC.mono fun k cs hk => ?_)).go ?_
      · have hkl := t2.lt hk
        (first | (simp (disch := first | decide | omega | (simp only [add_next, set_next, grow_next, leave_next, drop_next, List.length_map]; first | done | omega)) only [go_sem, ↓reduceIte, Nat.reduceBEq, Nat.reduceAdd, Nat.reduceLeDiff, Nat.reduceEqDiff, Nat.reduceLT, Nat.reduceMul, hk]; first | done | rfl) | rfl)
      (simp (disch := first | decide | omega | (simp only [add_next, set_next, grow_next, leave_next, drop_next, List.length_map]; first | done | omega)) only [go_sem, ↓reduceIte, Nat.reduceBEq, Nat.reduceAdd, Nat.reduceLeDiff, Nat.reduceEqDiff, Nat.reduceLT, Nat.reduceMul, f3, f4]; (repeat (with_reducible refine And.intro (by first | omega | assumption | rfl) ?_)))
      refine DCalls.of_pure awake_d ?_
      (simp (disch := first | decide | omega | (simp only [add_next, set_next, grow_next, leave_next, drop_next, List.length_map]; first | done | omega)) only [go_sem, ↓reduceIte, Nat.reduceBEq, Nat.reduceAdd, Nat.reduceLeDiff, Nat.reduceEqDiff, Nat.reduceLT, Nat.reduceMul]; (repeat (with_reducible refine And.intro (by first | omega | assumption | rfl) ?_)))
      refine ⟨?_, (by (repeat' first | assumption | exact St.Sub.refl _ | exact RowOk.sub (by assumption) (by assumption) | refine St.Sub.trans ?_ (RowOk.sub (by assumption) (by assumption)) | refine St.Sub.add ?_ ?_ _ | refine St.Sub.set ?_ ?_ ?_ _ | refine St.Sub.keep ?_ ?_ | refine St.WF.leave ?_ _ | refine St.WF.add ?_ _ | refine St.WF.set ?_ ?_ _ | refine St.WF.grow ?_ _ _ _ | refine St.WF.keep ?_ ?_ | (first | omega | (simp only [RowOk.lo, add_next, set_next, grow_next, leave_next, drop_next]; first | done | omega))))⟩
      rfl
    | cons p r =>
      have f2 : decide ((0 : Int) < ((r.length + 1 : Nat) : Int)) = true := decide_eq_true (by omega)
      have f3 : (p == p) = true := by simp
      have f4 : outP (p :: r) = p := rfl
      (simp (disch := first | decide | omega | (simp only [add_next, set_next, grow_next, leave_next, drop_next, List.length_map]; first | done | omega)) only [go_sem, ↓reduceIte, Nat.reduceBEq, Nat.reduceAdd, Nat.reduceLeDiff, Nat.reduceEqDiff, Nat.reduceLT, Nat.reduceMul, f2, iD]; (repeat (with_reducible refine And.intro (by first | omega | assumption | rfl) ?_)))
      refine (place_at (hC.mono fun k cs hk => ?_)).go ?_
      · have hkl := t2.lt hk
        (first | (simp (disch := first | decide | omega | (simp only [add_next, set_next, grow_next, leave_next, drop_next, List.length_map]; first | done | omega)) only [go_sem, ↓reduceIte, Nat.reduceBEq, Nat.reduceAdd, Nat.reduceLeDiff, Nat.reduceEqDiff, Nat.reduceLT, Nat.reduceMul, hk]; first | done | rfl) | rfl)
      (simp (disch := first | decide | omega | (simp only [add_next, set_next, grow_next, leave_next, drop_next, List.length_map]; first | done | omega)) only [go_sem, ↓reduceIte, Nat.reduceBEq, Nat.reduceAdd, Nat.reduceLeDiff, Nat.reduceEqDiff, Nat.reduceLT, Nat.reduceMul, f3, f4]; (repeat (with_reducible refine And.intro (by first | omega | assumption | rfl) ?_)))
      refine DCalls.of_pure awake_d ?_
      (simp (disch := first | decide | omega | (simp only [add_next, set_next, grow_next, leave_next, drop_next, List.length_map]; first | done | omega)) only [go_sem, ↓reduceIte, Nat.reduceBEq, Nat.reduceAdd, Nat.reduceLeDiff, Nat.reduceEqDiff, Nat.reduceLT, Nat.reduceMul]; (repeat (with_reducible refine And.intro (by first | omega | assumption | rfl) ?_)))
      refine ⟨?_, (by (repeat' first | assumption | exact St.Sub.refl _ | exact RowOk.sub (by assumption) (by assumption) | refine St.Sub.trans ?_ (RowOk.sub (by assumption) (by assumption)) | refine St.Sub.add ?_ ?_ _ | refine St.Sub.set ?_ ?_ ?_ _ | refine St.Sub.keep ?_ ?_ | refine St.WF.leave ?_ _ | refine St.WF.add ?_ _ | refine St.WF.set ?_ ?_ _ | refine St.WF.grow ?_ _ _ _ | refine St.WF.keep ?_ ?_ | (first | omega | (simp only [RowOk.lo, add_next, set_next, grow_next, leave_next, drop_next]; first | done | omega))))⟩
      rfl
end Go.Proofs.YtbckanadjkhefaaDoor

/- FaultWraps answers true, whatever comes. Conditions: none but the statement's own. -/
namespace Go.Proofs.YtbckanadjkhefaaDoor
open Go.ChangeShapes Go.WideShapes Go.RowKit
set_option maxRecDepth 100000 in
theorem faultWraps_lifted (os : Os) (started : os.Started) (H : Type) (enc : TypeId × Value → H) :
    ReturnsInHanded {} Tryd.checked os 3 .any (fun w args => (Rows.faultWrapsSpec.pre enc Tryd.prog Tryd.f3 [] false w args ∧ laidMetH Tryd.prog doorLaid w) ∧ sizedMet enc Tryd.prog Tryd.f3 (OpenSpec.ofChange Rows.faultWrapsSpec) false w args)
      (Rows.faultWrapsSpec.post enc Tryd.prog Tryd.f3 false true false false) := by
  refine returnsInHanded_of_change_and (C := Tryd.checked) (X := fun w _ => laidMetH Tryd.prog doorLaid w) (fun _ _ _ hh h => h.of_heap hh) door_own started (by kernel_rfl) Tryd.func3
    (ChangeSpec.witness_at (enc := enc) (C := Tryd.checked) (os := os) (X := fun w _ => laidMetH Tryd.prog doorLaid w) false (laidWorld os) #[.int .u8 0, .slice none 0 0] 8 rfl (by kernel_rfl) (by kernel_rfl) (by kernel_rfl) (by kernel_rfl) (by kernel_rfl) (laidWorld_met os _)) ?_
  intro W base args ds gs before hval0 hW hcnd hsz0 hL _
  have hG := glob_of_laid hL
  have hval : ∀ (j : Nat) t v, Tryd.f3.params[j]? = some t → args[j]? = some v → Value.okWide Tryd.prog W .any base t v := hval0
  have hsz : (DataW.weightsEach Tryd.prog (Tryd.f3.params.toList ++ Rows.faultWrapsSpec.plain.varTypes Tryd.prog) (ds ++ gs)).all (· ≤ reachBytes) = true := hsz0
  have hW' := hW
  obtain ⟨p, q, hA0, hV, rfl, hfz, hnd⟩ := hW
  have hA : DataW.TrodAll enc Tryd.prog W 0 (fun _ => true) true Tryd.f3.params.toList args.toList ds p := hA0
  obtain ⟨rfl, rfl⟩ := trodVars_none hV
  rw [Tryd.params3] at hA hval hsz
  have hA1 := hA
  obtain ⟨v0, vs0, d0, ds0, p0, q0, hargs, rfl, rfl, h0, r0⟩ := trodAll_cons hA
  obtain ⟨v1, vs1, d1, ds1, p1, q1, rfl, rfl, rfl, h1, r1⟩ := trodAll_cons r0
  obtain ⟨rfl, rfl, rfl⟩ := trodAll_nil r1
  obtain rfl : args = #[v0, v1] := by cases args; simp_all
  have z0 : Sized Tryd.prog 5 d0 := sized_of_each (j := 0) hsz rfl rfl
  have k0 : Value.okWide Tryd.prog W .any base 5 v0 := hval 0 _ _ rfl rfl
  have z1 : Sized Tryd.prog 22 d1 := sized_of_each (j := 1) hsz rfl rfl
  have k1 : Value.okWide Tryd.prog W .any base 22 v1 := hval 1 _ _ rfl rfl
  clear hA0 hval0 hsz hsz0 hval
  have key : Calls Tryd.prog 3 #[v0, v1] W (Gives (.bool true) W) := by
    obtain ⟨c, rfl, _, _, hw⟩ := open_int Tryd.underlying5 k0 h0
    have hb := bounds_u8 hw
    obtain ⟨m, rfl⟩ : ∃ m : Nat, c = m := ⟨c.toNat, by omega⟩
    obtain ⟨l, hl, hr⟩ := open_ints h1 z1 k1
    exact door_gives (vs := [.int .u8 m, v1]) (wraps_d m (by omega) .no l hl) (by simp only [RepL]; exact ⟨_, _, rfl, by simp only [Rep], _, _, rfl, hr _ _ (door_fix _), rfl⟩) (by intro _ _; kernel_rfl) hG
  refine key.mono fun e W' ⟨he, bel⟩ => ?_
  subst he
  exact ⟨_, rfl, _, _, _, [], _, [], hW', trodAll_mk1 (shut_bool Tryd.underlying4 _), trodAll_below door_laidOut bel (by kernel_rfl) hA1, rfl, bel.frame _, fun h => by cases h⟩

theorem faultWraps_row : Rows.FaultWrapsSaid :=
  OpenClaim.holds_of_wide 3 Tryd.f3 rfl rfl rfl rfl rfl rfl rfl ⟨rfl, rfl, rfl, rfl, rfl⟩ rfl rfl rfl rfl rfl (by kernel_rfl) Tryd.func3 (by kernel_rfl)
    (of_decide_eq_true (by kernel_rfl)) (by unfold Func.isWrapper; first | (rw [if_pos (by decide +kernel)]; kernel_rfl) | (rw [if_neg (by decide +kernel)]; exact ⟨rfl, rfl⟩))
    (fun os started H enc _ => faultWraps_lifted os started H enc)
theorem faultWraps_holds : Rows.FaultWrapsCardSaid :=
  Claim7.holds_tied_plain_at .later [] [.handle] true Rows.faultWrapsCard.stood.harness true
    faultWraps_row (fun _ h => by cases h) (by kernel_rfl) (fun _ h => by cases h) faultWraps_row_tie rfl ⟨rfl, rfl⟩ (by kernel_rfl) rfl
    (fun f fn hf hfn => by
      obtain rfl : f = 3 := Option.some.inj ((show Tryd.prog.funcNamed "dioptre/dioptrelaw01.FaultWraps" = some 3 by kernel_rfl).symm.trans hf) |>.symm
      obtain rfl : fn = Tryd.f3 := (Option.some.inj (Tryd.func3.symm.trans hfn)).symm
      exact ⟨by kernel_rfl, fun j t ht => by
        rw [Tryd.params3] at ht
        have ht' := List.mem_of_getElem? (Array.getElem?_toList ▸ ht)
        simp only [List.mem_cons, List.not_mem_nil, or_false] at ht'
        rcases ht' with rfl | rfl <;> exact (show Tryd.prog.wantsStandIn _ = false by kernel_rfl)⟩)
    (by kernel_rfl)
#print axioms faultWraps_holds
end Go.Proofs.YtbckanadjkhefaaDoor
