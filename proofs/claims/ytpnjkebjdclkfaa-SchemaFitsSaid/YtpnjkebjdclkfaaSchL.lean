/- Schemas, walked: the program's default; the document's Right. Conditions: none. -/
import Derived.Test.YtpnjkebjdclkfaaSchJ
import Derived.Test.YtpnjkebjdclkfaaSchK
import Derived.Test.YtpnjkebjdclkfaaSchP
import Derived.Test.YtpnjkebjdclkfaaValS
namespace Go.Proofs.Ytpnjkebjdclkfaa
open Go.RowKit

def zeroV : DVal := .mk 0 0 [] [] [] []
theorem zero_is (w : World) (F : Nat → Prop) : IsVal w F zeroV [.int .i64 0, .int .i64 0, sv [], .slice none 0 0, .slice none 0 0, .slice none 0 0] :=
  .mk (b := 0) (o := 0) (C := fun _ => []) (WalkArith.wf_i64 (by omega)) (WalkArith.wf_i64 (by omega)) (by simp) RF.nil (fun _ h => by cases h) (Nat.le_refl _) (Nat.zero_le _) RF.nil (fun _ h => by cases h) (Nat.le_refl _) (Nat.zero_le _) (fun h => absurd h (by simp)) (fun i p hp => by simp at hp) (fun i p hp => by simp at hp) (Nat.le_refl _) (Nat.zero_le _)

set_option maxHeartbeats 1000000 in
set_option maxRecDepth 20000 in
theorem schDefault_calls (k : Nat) (s : DSch) (cs : List Value) (w : World) (hk : s.depth ≤ k) (hw : s.weight ≤ 1000000) (hok : rightS 5 s = true → DefOk k s) (hs : IsSch w (· < w.heap.size) s cs) :
    Calls Try.prog 22 #[.agg cs.toArray] w (NewVal (if rightS 5 s then defV k s else zeroV) w) := by
  have HW0 := hide (((Below.refl w.heap.size w).alloc (Nat.le_refl _) (.cells cs.toArray 25)).alloc (by simp) (.cells #[.int .i64 0, .int .i64 0, sv [], .slice none 0 0, .slice none 0 0, .slice none 0 0] 31))
  have HX := hide ((Blk.new w 25 cs.toArray).alloc (.cells #[.int .i64 0, .int .i64 0, sv [], .slice none 0 0, .slice none 0 0, .slice none 0 0] 31))
  have HX2 := hide (Blk.new2 w (.cells cs.toArray 25) 31 #[.int .i64 0, .int .i64 0, sv [], .slice none 0 0, .slice none 0 0, .slice none 0 0])
  have HL := hide (show (Try.prog.info? 25).map (·.size) = some cs.toArray.size by rw [List.size_toArray, hs.length]; kernel_rfl)
  have HC := hide (schRightP_calls s cs _ (hs.more HW0.out))
  have HS := hide hs
  have HOK := hide hok
  clear hs hok
  cases hr : rightS 5 s
  all_goals
    rw [hr] at HC
    have HR := hide hr
    clear hr
    go_enter Try.func22, Try.ntmps22
    go_wp2_with (first | (refine wpList_load_blk rfl 25 _ rfl _ rfl _ _ HX.out _ rfl rfl HL.out ?_) | fail)
    refine HC.out.mono ?_
    rintro e w1 ⟨rfl, hb1⟩
    have hsz := HX2.out.lt
    have K1 := hide (HX.out.below hb1 (by simp; omega))
    have K2 := hide (HX2.out.below hb1 hsz)
    have KW := hide (HW0.out.trans (hb1.mono HW0.out.size))
    clear hb1 HX HX2 HW0 HC
  · go_wp2_with (first
      | (refine wpList_store_blk rfl 31 _ _ rfl _ rfl #[.int .i64 0, .int .i64 0, sv [], .slice none 0 0, .slice none 0 0, .slice none 0 0] rfl _ _ (K2.out) (by rfl) info_val (by simp [Value.oneCell']) ?_; intro wf hbf hff; have HBF := hide hbf; have HFF := hide hff; clear hbf hff)
      | fail)
    refine bodyPost_ret (results_cell_row rfl _ _ (w.heap.size + 1) 31 #[.int .i64 0, .int .i64 0, sv [], .slice none 0 0, .slice none 0 0, .slice none 0 0] (0, 0) _ rfl HBF.out rfl rfl info_val) rfl ?_
    exact ⟨_, rfl, zero_is _ _, KW.out.trans (HFF.out.below KW.out.size fun x hx h => by omega)⟩
  · have HC2 := hide (schFirst_calls k s cs w1 hk hw (HOK.out HR.out) (HS.out.more KW.out))
    go_wp2_with (first | (refine wpList_load_blk rfl 25 _ rfl _ rfl _ _ K1.out _ rfl rfl HL.out ?_) | fail)
    refine HC2.out.mono ?_
    rintro e w2 ⟨ds, rfl, hv, hb2⟩
    have hs1 := K2.out.lt
    have K3 := hide (K2.out.below hb2 hs1)
    have KW2 := hide (KW.out.trans (hb2.mono KW.out.size))
    have HV := hide hv
    have HB2 := hide hb2
    have hl6 := hv.length
    have hone := hv.one
    have HLO := hide (And.intro hl6 hone)
    clear hv hb2 hl6 hone HC2
    go_wp2_with (first
      | (refine wpList_store_blk rfl 31 _ _ rfl _ rfl ds.toArray rfl _ _ (K3.out) (by simp [HLO.out.1]) (by rw [List.size_toArray, HLO.out.1]; exact info_val) (by simpa using HLO.out.2) ?_; intro wf hbf hff; have HBF := hide hbf; have HFF := hide hff; clear hbf hff)
      | fail)
    refine bodyPost_ret (results_cell_row rfl _ _ (w.heap.size + 1) 31 ds.toArray (0, 0) _ rfl HBF.out rfl rfl (by rw [List.size_toArray, HLO.out.1]; exact info_val)) rfl ?_
    have hs2 := KW.out.size
    have hs3 := HFF.out.size
    exact ⟨_, rfl, (HV.out.keep fun q hq => HFF.out.cell hq.2 (by have := hq.1; omega)).mono fun b hb => by omega, KW2.out.trans (HFF.out.below KW2.out.size fun x hx h => by omega)⟩

set_option maxHeartbeats 1000000 in
set_option maxRecDepth 20000 in
theorem refRight_calls (k : Nat) (s : DSch) (cs : List Value) (w : World) (hk : s.depth ≤ k) (hkk : k ≤ 1000000) (hs : IsSch w (· < w.heap.size) s cs) :
    Calls Try.prog 13 #[.agg cs.toArray] w (Gives (.bool (rightS 5 s)) w) := by
  have HW0 := hide ((Below.refl w.heap.size w).alloc (Nat.le_refl _) (.cells cs.toArray 25))
  have HX := hide (Blk.new w 25 cs.toArray)
  have HL := hide (show (Try.prog.info? 25).map (·.size) = some cs.toArray.size by rw [List.size_toArray, hs.length]; kernel_rfl)
  have HC := hide (refSchDepth_calls k s cs _ hk hkk (hs.more HW0.out))
  have HS := hide hs
  have HR := hide (right_sound 5 s k hk)
  clear hs
  by_cases h5 : s.depth ≤ 5
  case neg =>
    have e5 : ¬ ((s.depth : Int) ≤ 5) := by omega
    rw [decide_eq_false h5, Bool.false_and] at HR
    go_enter Try.func13, Try.ntmps13
    go_wp2_with (first | (refine wpList_load_blk rfl 25 _ rfl _ rfl _ _ HX.out _ rfl rfl HL.out ?_) | fail)
    refine HC.out.mono ?_
    rintro e w1 ⟨rfl, hb1⟩
    have KW := hide (HW0.out.trans (hb1.mono HW0.out.size))
    clear hb1
    go_wp2
    go_ret
    exact ⟨ret_eq (by rw [HR.out]; rfl), KW.out⟩
  case pos =>
    have e5 : ((s.depth : Int) ≤ 5) := by omega
    rw [decide_eq_true h5, Bool.true_and] at HR
    go_enter Try.func13, Try.ntmps13
    go_wp2_with (first | (refine wpList_load_blk rfl 25 _ rfl _ rfl _ _ HX.out _ rfl rfl HL.out ?_) | fail)
    refine HC.out.mono ?_
    rintro e w1 ⟨rfl, hb1⟩
    have hsz := HX.out.lt
    have K1 := hide (HX.out.below hb1 hsz)
    have KW := hide (HW0.out.trans (hb1.mono HW0.out.size))
    have HC2 := hide (refSound_calls k s cs w1 hk (HS.out.more KW.out))
    clear hb1 HX HW0 HC
    go_wp2_with (first | (refine wpList_load_blkG rfl 25 _ rfl _ rfl _ _ K1.out _ rfl rfl HL.out ?_) | fail)
    refine HC2.out.mono ?_
    rintro e w2 ⟨rfl, hb2⟩
    have KW2 := hide (KW.out.trans (hb2.mono KW.out.size))
    clear hb2
    go_wp2
    go_ret
    exact ⟨ret_eq (by rw [HR.out]; rfl), KW2.out⟩
end Go.Proofs.Ytpnjkebjdclkfaa
