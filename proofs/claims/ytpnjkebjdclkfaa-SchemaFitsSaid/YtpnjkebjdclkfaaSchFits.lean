/- SchemaFits answers true for any value and any schema, and leaves its arguments as they were. Conditions: none but the statement's own. -/
import Derived.Test.YtpnjkebjdclkfaaRows
import Derived.Test.YtpnjkebjdclkfaaOpenVal
import Derived.Test.YtpnjkebjdclkfaaFitW
namespace Go.Proofs.Ytpnjkebjdclkfaa
open Go.ChangeShapes Go.WideShapes Go.ChangeAt Go.RowKit
theorem schemaFits_own : ownKnob Try.prog.godebug = none := by kernel_rfl
theorem schemaFits_laidOut : laidOutB Try.prog = true := by kernel_rfl
set_option maxRecDepth 100000 in
theorem schemaFits_lifted (os : Os) (started : os.Started) (H : Type) (enc : TypeId × Value → H) :
    ReturnsInHanded {} Try.checked os 5 .any (Rows.schemaFitsSpec.pre6 enc Try.prog Try.f5 Rows.schemaFitsRow.domain false) (Rows.schemaFitsSpec.post enc Try.prog Try.f5 false true false false) := by
  refine returnsInHanded_of_change_sized (C := Try.checked) schemaFits_own started (by kernel_rfl) Try.func5
    (ChangeSpec.witness6 (enc := enc) (C := Try.checked) false ⟨#[], #[.agg #[.int .i64 0, .int .i64 0, .string "".toUTF8, .slice none 0 0, .slice none 0 0, .slice none 0 0], .agg #[.int .i64 0, .slice none 0 0, .slice none 0 0]], []⟩ 8 (by kernel_rfl) (by kernel_rfl) (by kernel_rfl) (by kernel_rfl)) ?_
  intro W base args ds gs before hval0 hW hcnd hsz0 _
  have hval : ∀ (j : Nat) t v, Try.f5.params[j]? = some t → args[j]? = some v → Value.okWide Try.prog W .any base t v := hval0
  have hsz : (DataW.weightsEach Try.prog (Try.f5.params.toList ++ Rows.schemaFitsSpec.plain.varTypes Try.prog) (ds ++ gs)).all (· ≤ reachBytes) = true := hsz0
  have hW' := hW
  obtain ⟨p, q, hA0, hV, rfl, hfz, hnd⟩ := hW
  have hA : DataW.TrodAll enc Try.prog W 0 (fun _ => true) true Try.f5.params.toList args.toList ds p := hA0
  obtain ⟨rfl, rfl⟩ := trodVars_none hV
  rw [Try.params5] at hA hval hsz
  have hA1 := hA
  obtain ⟨v0, vs0, d0, ds0, p0, q0, hargs, rfl, rfl, h0, r0⟩ := trodAll_cons hA
  obtain ⟨v1, vs1, d1, ds1, p1, q1, rfl, rfl, rfl, h1, r1⟩ := trodAll_cons r0
  obtain ⟨rfl, rfl, rfl⟩ := trodAll_nil r1
  obtain rfl : args = #[v0, v1] := by cases args; simp_all
  have z0 : Sized Try.prog 31 d0 := sized_of_each (j := 0) hsz rfl rfl
  have k0 : Value.okWide Try.prog W .any base 31 v0 := hval 0 _ _ rfl rfl
  have z1 : Sized Try.prog 25 d1 := sized_of_each (j := 1) hsz rfl rfl
  have k1 : Value.okWide Try.prog W .any base 25 v1 := hval 1 _ _ rfl rfl
  clear hA0 hval0 hsz hsz0 hval
  have key : Calls Try.prog 5 #[v0, v1] W (Gives (.bool true) W) := by
    obtain ⟨s, cs, rfl, hs⟩ := open_value h0 z0 k0
    obtain ⟨t, ds, rfl, ht⟩ := open_schema h1 z1 k1
    exact schemaFits_calls s t cs ds W hs ht
  refine key.mono fun e W' ⟨he, bel⟩ => ?_
  subst he
  exact ⟨_, rfl, _, _, _, [], _, [], hW', trodAll_mk1 (shut_bool Try.underlying4 _), trodAll_below schemaFits_laidOut bel (by kernel_rfl) hA1, rfl, bel.frame _, fun h => by cases h⟩

theorem schemaFits_holds : Rows.SchemaFitsSaid :=
  OpenClaim.holds_of_wide 5 Try.f5 rfl rfl rfl rfl rfl rfl rfl ⟨rfl, rfl, rfl, rfl, rfl⟩ rfl rfl rfl rfl rfl (by kernel_rfl) Try.func5 (by kernel_rfl)
    (of_decide_eq_true (by kernel_rfl)) (by unfold Func.isWrapper; first | (rw [if_pos (by decide +kernel)]; kernel_rfl) | (rw [if_neg (by decide +kernel)]; exact ⟨rfl, rfl⟩))
    (fun os started H enc _ => schemaFits_lifted os started H enc)
#print axioms schemaFits_holds
end Go.Proofs.Ytpnjkebjdclkfaa
