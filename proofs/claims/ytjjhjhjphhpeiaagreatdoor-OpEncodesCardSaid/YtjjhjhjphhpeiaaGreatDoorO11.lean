/- OpEncodes answers true for any operation, and leaves its argument as it was. Conditions: none but the statement's own. -/
import Derived.Test.YtjjhjhjphhpeiaaGreatDoorO10
import Derived.Test.YtjjhjhjphhpeiaaGreatDoorCards
import Derived.Test.YtjjhjhjphhpeiaaGreatDoorTie
import Derived.SevenTiedAt
import Derived.RowKit
import Derived.RowKitTokens
set_option linter.unusedVariables false
set_option linter.unusedSimpArgs false
namespace Go.Proofs.YtjjhjhjphhpeiaaGreatDoor
open Go.RowKit
set_option maxRecDepth 200000 in
set_option maxHeartbeats 8000000 in
theorem opEncodes_d (o : DOp) (ho : InO o) : DPure Tryz.prog 5 [encO o] (.v (.bool true)) := by
  refine dpure_of_dwp mixed Tryz.func5 rfl (fun _ _ => by kernel_rfl) (rs := [.tmp 2]) rfl (by kernel_rfl) trivial (fun S hS => ?_)
  (simp (disch := first | decide | omega | (simp only [nx]; first | done | omega)) only [go_sem]; (repeat with_reducible refine aI ?_))
  refine DCalls.of_pure (greatO_d o ho) ?_
  cases g1 : greatO o with
  | true =>
    (simp (disch := first | decide | omega | (simp only [nx]; first | done | omega)) only [go_sem]; (repeat with_reducible refine aI ?_))
    refine DCalls.of_pure awake12_d ?_
    (simp (disch := first | decide | omega | (simp only [nx]; first | done | omega)) only [go_sem]; (repeat with_reducible refine aI ?_))
    refine ⟨?_, (by (repeat' first | assumption | exact St.Sub.refl _ | exact RowOk.sub (by assumption) (by assumption) | refine St.Sub.trans ?_ (RowOk.sub (by assumption) (by assumption)) | refine St.Sub.add ?_ ?_ _ | refine St.Sub.set ?_ ?_ ?_ _ | refine St.Sub.keep ?_ ?_ | refine St.WF.leave ?_ _ | refine St.WF.add ?_ _ | refine St.WF.set ?_ ?_ _ | refine St.WF.grow ?_ _ _ _ | refine St.WF.keep ?_ ?_ | (first | omega | (simp only [RowOk.lo, nx]; first | done | omega))))⟩
    rfl
  | false =>
  have hoo := ho.ok g1
  have hu : ∀ p ∈ o.path, IsU64 p.2 := fun p hp => isU64 (ho.nums p hp)
  (simp (disch := first | decide | omega | (simp only [nx]; first | done | omega)) only [go_sem]; (repeat with_reducible refine aI ?_))
  refine DCalls.of_pure (encodeO_d o hoo hu) ?_
  by_cases hr : rightO o = true
  rotate_left
  · have hrf := Bool.eq_false_iff.2 hr
    rw [encRO, if_pos hrf]
    (simp (disch := first | decide | omega | (simp only [nx]; first | done | omega)) only [go_sem]; (repeat with_reducible refine aI ?_))
    refine DCalls.of_pure (refOpRight_d o hoo) ?_
    rw [hrf]
    (simp (disch := first | decide | omega | (simp only [nx]; first | done | omega)) only [go_sem]; (repeat with_reducible refine aI ?_))
    refine DCalls.of_pure (code_errO 1) ?_
    have b1 : (((1 : Nat) : Int) == 1) = true := rfl
    have b2 : (((0 : Nat) : Int) == 0) = true := rfl
    (simp (disch := first | decide | omega | (simp only [nx]; first | done | omega)) only [go_sem, b1, b2, List.length_nil]; (repeat with_reducible refine aI ?_))
    refine DCalls.of_pure awake12_d ?_
    (simp (disch := first | decide | omega | (simp only [nx]; first | done | omega)) only [go_sem]; (repeat with_reducible refine aI ?_))
    refine ⟨?_, (by (repeat' first | assumption | exact St.Sub.refl _ | exact RowOk.sub (by assumption) (by assumption) | refine St.Sub.trans ?_ (RowOk.sub (by assumption) (by assumption)) | refine St.Sub.add ?_ ?_ _ | refine St.Sub.set ?_ ?_ ?_ _ | refine St.Sub.keep ?_ ?_ | refine St.WF.leave ?_ _ | refine St.WF.add ?_ _ | refine St.WF.set ?_ ?_ _ | refine St.WF.grow ?_ _ _ _ | refine St.WF.keep ?_ ?_ | (first | omega | (simp only [RowOk.lo, nx]; first | done | omega))))⟩
    rfl
  rw [encRO, if_neg (by rw [hr]; simp)]
  by_cases h4 : 4096 < (bytesO o).length
  · rw [if_pos h4]
    (simp (disch := first | decide | omega | (simp only [nx]; first | done | omega)) only [go_sem]; (repeat with_reducible refine aI ?_))
    refine DCalls.of_pure (refOpRight_d o hoo) ?_
    rw [hr]
    (simp (disch := first | decide | omega | (simp only [nx]; first | done | omega)) only [go_sem]; (repeat with_reducible refine aI ?_))
    refine DCalls.of_pure (refBytesO_d o hoo hr hu) ?_
    have b0 : decide ((4096 : Int) < ((bytesO o).length : Int)) = true := by simp; omega
    (simp (disch := first | decide | omega | (simp only [nx]; first | done | omega)) only [go_sem, b0]; (repeat with_reducible refine aI ?_))
    refine DCalls.of_pure (code_errO 3) ?_
    have b1 : (((3 : Nat) : Int) == 3) = true := rfl
    have b2 : (((0 : Nat) : Int) == 0) = true := rfl
    (simp (disch := first | decide | omega | (simp only [nx]; first | done | omega)) only [go_sem, b1, b2, List.length_nil]; (repeat with_reducible refine aI ?_))
    refine DCalls.of_pure awake12_d ?_
    (simp (disch := first | decide | omega | (simp only [nx]; first | done | omega)) only [go_sem]; (repeat with_reducible refine aI ?_))
    refine ⟨?_, (by (repeat' first | assumption | exact St.Sub.refl _ | exact RowOk.sub (by assumption) (by assumption) | refine St.Sub.trans ?_ (RowOk.sub (by assumption) (by assumption)) | refine St.Sub.add ?_ ?_ _ | refine St.Sub.set ?_ ?_ ?_ _ | refine St.Sub.keep ?_ ?_ | refine St.WF.leave ?_ _ | refine St.WF.add ?_ _ | refine St.WF.set ?_ ?_ _ | refine St.WF.grow ?_ _ _ _ | refine St.WF.keep ?_ ?_ | (first | omega | (simp only [RowOk.lo, nx]; first | done | omega))))⟩
    rfl
  · rw [if_neg h4]
    (simp (disch := first | decide | omega | (simp only [nx]; first | done | omega)) only [go_sem, errO, if_pos]; (repeat with_reducible refine aI ?_))
    refine DCalls.of_pure (refOpRight_d o hoo) ?_
    rw [hr]
    (simp (disch := first | decide | omega | (simp only [nx]; first | done | omega)) only [go_sem]; (repeat with_reducible refine aI ?_))
    refine DCalls.of_pure (refBytesO_d o hoo hr hu) ?_
    have b0 : decide ((4096 : Int) < ((bytesO o).length : Int)) = false := by simp; omega
    (simp (disch := first | decide | omega | (simp only [nx]; first | done | omega)) only [go_sem, b0]; (repeat with_reducible refine aI ?_))
    refine DCalls.of_pure (decodeO_d .no o hoo hr hu (by omega)) ?_
    (simp (disch := first | decide | omega | (simp only [nx]; first | done | omega)) only [go_sem, errO, if_pos]; (repeat with_reducible refine aI ?_))
    refine DCalls.of_pure (bytesEq_d .no .no (bytesO o) (bytesO o) (by omega) (by omega)) ?_
    rw [decide_eq_true rfl]
    (simp (disch := first | decide | omega | (simp only [nx]; first | done | omega)) only [go_sem]; (repeat with_reducible refine aI ?_))
    refine DCalls.of_pure (refSame_o o o hoo hoo) ?_
    rw [sameO_self]
    (simp (disch := first | decide | omega | (simp only [nx]; first | done | omega)) only [go_sem]; (repeat with_reducible refine aI ?_))
    refine DCalls.of_pure awake12_d ?_
    (simp (disch := first | decide | omega | (simp only [nx]; first | done | omega)) only [go_sem]; (repeat with_reducible refine aI ?_))
    refine ⟨?_, (by (repeat' first | assumption | exact St.Sub.refl _ | exact RowOk.sub (by assumption) (by assumption) | refine St.Sub.trans ?_ (RowOk.sub (by assumption) (by assumption)) | refine St.Sub.add ?_ ?_ _ | refine St.Sub.set ?_ ?_ ?_ _ | refine St.Sub.keep ?_ ?_ | refine St.WF.leave ?_ _ | refine St.WF.add ?_ _ | refine St.WF.set ?_ ?_ _ | refine St.WF.grow ?_ _ _ _ | refine St.WF.keep ?_ ?_ | (first | omega | (simp only [RowOk.lo, nx]; first | done | omega))))⟩
    rfl
end Go.Proofs.YtjjhjhjphhpeiaaGreatDoor

namespace Go.Proofs.YtjjhjhjphhpeiaaGreatDoor
open Go.ChangeShapes Go.WideShapes Go.ChangeAt Go.RowKit Go.Deep Go.Joins
section
variable {H : Type} {enc : TypeId × Value → H} {w : World}
set_option maxRecDepth 20000 in
theorem open_op {v : Value} {d : DataW H} {p : List MemPlace} {W : World} {base : Nat} (h : DataW.Trod enc Tryz.prog w 0 (fun _ => true) true 44 v d p) (hs : Sized Tryz.prog 44 d) (hk : Value.okWide Tryz.prog W .any base 44 v) :
    ∃ (o : DOp) (cs : List Value), v = .agg cs.toArray ∧ IsOp w o cs := by
  have : ∃ cs : Array Value, v = .agg cs := by
    simp only [Value.okWide, Tryz.underlying44] at hk
    obtain ⟨cs, h1, _⟩ := hk
    exact ⟨cs, h1⟩
  obtain ⟨cs, rfl⟩ := this
  obtain ⟨fuel, h⟩ := h
  obtain ⟨s, hs⟩ := open_op_trod (x := (d, p)) h hs
  exact ⟨s, cs.toList, by simp, by simpa [Value.cells] using hs⟩
end
set_option maxRecDepth 100000 in
theorem opEncodes_lifted (os : Os) (started : os.Started) (H : Type) (enc : TypeId × Value → H) :
    ReturnsInHanded {} Tryz.checked os 5 .any (fun w args => (Rows.opEncodesSpec.pre enc Tryz.prog Tryz.f5 [] false w args ∧ laidMetH Tryz.prog doorLaid w) ∧ sizedMet enc Tryz.prog Tryz.f5 (OpenSpec.ofChange Rows.opEncodesSpec) false w args)
      (Rows.opEncodesSpec.post enc Tryz.prog Tryz.f5 false true false false) := by
  refine returnsInHanded_of_change_and (C := Tryz.checked) (X := fun w _ => laidMetH Tryz.prog doorLaid w) (fun _ _ _ hh h => h.of_heap hh) door_own started (by kernel_rfl) Tryz.func5
    (ChangeSpec.witness_at (enc := enc) (C := Tryz.checked) (os := os) (X := fun w _ => laidMetH Tryz.prog doorLaid w) false (laidWorld os) #[.agg #[.int .i64 0, .slice none 0 0, .int .u64 0, .int .u64 0, .int .i64 0, .int .i64 0, .string "".toUTF8, .slice none 0 0, .slice none 0 0, .slice none 0 0]] 8 rfl (by kernel_rfl) (by kernel_rfl) (by kernel_rfl) (by kernel_rfl) (by kernel_rfl) (laidWorld_met os _)) ?_
  intro W base args ds gs before hval0 hW hcnd hsz0 hL _
  have hG := glob_of_laid hL
  have hval : ∀ (j : Nat) t v, Tryz.f5.params[j]? = some t → args[j]? = some v → Value.okWide Tryz.prog W .any base t v := hval0
  have hsz : (DataW.weightsEach Tryz.prog (Tryz.f5.params.toList ++ Rows.opEncodesSpec.plain.varTypes Tryz.prog) (ds ++ gs)).all (· ≤ reachBytes) = true := hsz0
  have hW' := hW
  obtain ⟨p, q, hA0, hV, rfl, hfz, hnd⟩ := hW
  have hA : DataW.TrodAll enc Tryz.prog W 0 (fun _ => true) true Tryz.f5.params.toList args.toList ds p := hA0
  obtain ⟨rfl, rfl⟩ := trodVars_none hV
  rw [Tryz.params5] at hA hval hsz
  have hA1 := hA
  obtain ⟨v0, vs0, d0, ds0, p0, q0, hargs, rfl, rfl, h0, r0⟩ := trodAll_cons hA
  obtain ⟨rfl, rfl, rfl⟩ := trodAll_nil r0
  obtain rfl : args = #[v0] := by cases args; simp_all
  have z0 : Sized Tryz.prog 44 d0 := sized_of_each (j := 0) hsz rfl rfl
  have k0 : Value.okWide Tryz.prog W .any base 44 v0 := hval 0 _ _ rfl rfl
  clear hA0 hval0 hsz hsz0 hval
  have key : Calls Tryz.prog 5 #[v0] W (Gives (.bool true) W) := by
    obtain ⟨o, os_, rfl, ho⟩ := open_op h0 z0 k0
    exact door_gives (vs := [.agg os_.toArray]) (opEncodes_d o ho.1) (by simp only [RepL]; exact ⟨_, _, rfl, ho.2 _ _ fix_nilD, rfl⟩) (by intro _ _; kernel_rfl) hG
  refine key.mono fun e W' ⟨he, bel⟩ => ?_
  subst he
  exact ⟨_, rfl, _, _, _, [], _, [], hW', trodAll_mk1 (shut_bool Tryz.underlying4 _), trodAll_below door_laidOut bel (by kernel_rfl) hA1, rfl, bel.frame _, fun h => by cases h⟩

theorem opEncodes_row : Rows.OpEncodesSaid :=
  OpenClaim.holds_of_wide 5 Tryz.f5 rfl rfl rfl rfl rfl rfl rfl ⟨rfl, rfl, rfl, rfl, rfl⟩ rfl rfl rfl rfl rfl (by kernel_rfl) Tryz.func5 (by kernel_rfl)
    (of_decide_eq_true (by kernel_rfl)) (by unfold Func.isWrapper; first | (rw [if_pos (by decide +kernel)]; kernel_rfl) | (rw [if_neg (by decide +kernel)]; exact ⟨rfl, rfl⟩))
    (fun os started H enc _ => opEncodes_lifted os started H enc)
theorem opEncodes_holds : Rows.OpEncodesCardSaid :=
  Claim7.holds_tied_plain_at .later [] [.handle] true Rows.opEncodesCard.stood.harness true
    opEncodes_row (fun _ h => by cases h) (by kernel_rfl) (fun _ h => by cases h) opEncodes_row_tie rfl ⟨rfl, rfl⟩ (by kernel_rfl) rfl
    (fun f fn hf hfn => by
      obtain rfl : f = 5 := Option.some.inj ((show Tryz.prog.funcNamed "dioptre/dioptrelaw12.OpEncodes" = some 5 by kernel_rfl).symm.trans hf) |>.symm
      obtain rfl : fn = Tryz.f5 := (Option.some.inj (Tryz.func5.symm.trans hfn)).symm
      exact ⟨by kernel_rfl, fun j t ht => by
        rw [Tryz.params5] at ht
        have ht' := List.mem_of_getElem? (Array.getElem?_toList ▸ ht)
        simp only [List.mem_cons, List.not_mem_nil, or_false] at ht'
        rcases ht' with rfl <;> exact (show Tryz.prog.wantsStandIn _ = false by kernel_rfl)⟩)
    (by kernel_rfl)
#print axioms opEncodes_holds
end Go.Proofs.YtjjhjhjphhpeiaaGreatDoor
