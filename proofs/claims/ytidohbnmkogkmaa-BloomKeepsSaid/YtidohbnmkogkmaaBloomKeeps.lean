/- BloomKeeps answers true for every filter and all names, and leaves its arguments as they were. Conditions: none but the statement's own. -/
import Derived.Test.YtidohbnmkogkmaaRows
import Derived.Test.YtidohbnmkogkmaaOpenHash
import Derived.Test.YtidohbnmkogkmaaBloomKeepsW
namespace Go.Proofs.Ytidohbnmkogkmaa
open Go.ChangeShapes Go.WideShapes Go.ChangeAt Go.RowKit
theorem bloomKeeps_own : ownKnob Try.prog.godebug = none := by kernel_rfl
theorem bloomKeeps_laidOut : laidOutB Try.prog = true := by kernel_rfl
set_option maxRecDepth 100000 in
theorem bloomKeeps_lifted (os : Os) (started : os.Started) (H : Type) (enc : TypeId × Value → H) :
    ReturnsInHanded {} Try.checked os 7 .any (Rows.bloomKeepsSpec.pre6 enc Try.prog Try.f7 Rows.bloomKeepsRow.domain false) (Rows.bloomKeepsSpec.post enc Try.prog Try.f7 false true false false) := by
  refine returnsInHanded_of_change_sized (C := Try.checked) bloomKeeps_own started (by kernel_rfl) Try.func7
    (ChangeSpec.witness6 (enc := enc) (C := Try.checked) false ⟨#[], #[.agg (FB z64), .slice none 0 0, .slice none 0 0], []⟩ 8 (by kernel_rfl) (by kernel_rfl) (by kernel_rfl) (by kernel_rfl)) ?_
  intro W base args ds gs before hval0 hW hcnd hsz0 _
  have hval : ∀ (j : Nat) t v, Try.f7.params[j]? = some t → args[j]? = some v → Value.okWide Try.prog W .any base t v := hval0
  have hsz : (DataW.weightsEach Try.prog (Try.f7.params.toList ++ Rows.bloomKeepsSpec.plain.varTypes Try.prog) (ds ++ gs)).all (· ≤ reachBytes) = true := hsz0
  have hW' := hW
  obtain ⟨p, q, hA0, hV, rfl, hfz, hnd⟩ := hW
  have hA : DataW.TrodAll enc Try.prog W 0 (fun _ => true) true Try.f7.params.toList args.toList ds p := hA0
  obtain ⟨rfl, rfl⟩ := trodVars_none hV
  rw [Try.params7] at hA hval hsz
  have hA1 := hA
  obtain ⟨v0, vs0, d0, ds0, p0, q0, hargs, rfl, rfl, h0, r0⟩ := trodAll_cons hA
  obtain ⟨v1, vs1, d1, ds1, p1, q1, rfl, rfl, rfl, h1, r1⟩ := trodAll_cons r0
  obtain ⟨v2, vs2, d2, ds2, p2, q2, rfl, rfl, rfl, h2, r2⟩ := trodAll_cons r1
  obtain ⟨rfl, rfl, rfl⟩ := trodAll_nil r2
  obtain rfl : args = #[v0, v1, v2] := by cases args; simp_all
  have z0 : Sized Try.prog 25 d0 := sized_of_each (j := 0) hsz rfl rfl
  have k0 : Value.okWide Try.prog W .any base 25 v0 := hval 0 _ _ rfl rfl
  have z1 : Sized Try.prog 22 d1 := sized_of_each (j := 1) hsz rfl rfl
  have k1 : Value.okWide Try.prog W .any base 22 v1 := hval 1 _ _ rfl rfl
  have z2 : Sized Try.prog 22 d2 := sized_of_each (j := 2) hsz rfl rfl
  have k2 : Value.okWide Try.prog W .any base 22 v2 := hval 2 _ _ rfl rfl
  clear hA0 hval0 hsz hsz0 hval
  have key : Calls Try.prog 7 #[v0, v1, v2] W (Gives (.bool true) W) := by
    obtain ⟨f, hf, rfl⟩ := open_filter h0 k0
    obtain ⟨A, c, l, rfl, hl, hn⟩ := open_hashes h1 z1 k1
    obtain ⟨A2, c2, q, rfl, hq, hm⟩ := open_hashes h2 z2 k2
    exact bloomKeeps_calls _ f rfl hf l A c q A2 c2 W hl hq hn hm
  refine key.mono fun e W' ⟨he, bel⟩ => ?_
  subst he
  exact ⟨_, rfl, _, _, _, [], _, [], hW', trodAll_mk1 (shut_bool Try.underlying4 _), trodAll_below bloomKeeps_laidOut bel (by kernel_rfl) hA1, rfl, bel.frame _, fun h => by cases h⟩

theorem bloomKeeps_holds : Rows.BloomKeepsSaid :=
  OpenClaim.holds_of_wide 7 Try.f7 rfl rfl rfl rfl rfl rfl rfl ⟨rfl, rfl, rfl, rfl, rfl⟩ rfl rfl rfl rfl rfl (by kernel_rfl) Try.func7 (by kernel_rfl)
    (of_decide_eq_true (by kernel_rfl)) (by unfold Func.isWrapper; first | (rw [if_pos (by decide +kernel)]; kernel_rfl) | (rw [if_neg (by decide +kernel)]; exact ⟨rfl, rfl⟩))
    (fun os started H enc _ => bloomKeeps_lifted os started H enc)
#print axioms bloomKeeps_holds
end Go.Proofs.Ytidohbnmkogkmaa
