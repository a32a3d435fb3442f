/- Schemas, walked: the law's own example; what soundness gives the default. Conditions: none. -/
import Derived.Test.YtpnjkebjdclkfaaSchL
namespace Go.Proofs.Ytpnjkebjdclkfaa
open Go.RowKit

theorem defOk_sound : ∀ (k : Nat) (s : DSch), soundS k s = true → DefOk k s
  | 0, _, _ => trivial
  | k + 1, s, h => by
    unfold soundS at h
    rw [Bool.and_eq_true] at h
    obtain ⟨h1, h2⟩ := h
    unfold hereS at h1
    simp only [Bool.and_eq_true, Bool.not_eq_true', decide_eq_false_iff_not, decide_eq_true_eq] at h1
    obtain ⟨hb, hp, _⟩ := h1
    unfold badHead at hb
    unfold wantS at hp
    refine ⟨fun h4 => by omega, fun h5 => ⟨by rw [if_pos h5] at hp; exact hp, fun p hm => defOk_sound k p (List.all_eq_true.1 h2 p hm)⟩⟩

def redS : Str := [114, 101, 100]
def blueS : Str := [98, 108, 117, 101]
def exS : DSch := .mk 4 [redS, blueS] []
def exV : DVal := .mk 4 0 redS [] [] []
theorem ex_right : rightS 5 exS = true := by
  rw [right_sound 5 exS 1 (by decide +kernel)]
  decide +kernel
theorem ex_def : defV 1 exS = exV := rfl
theorem exV_is (w : World) (F : Nat → Prop) : IsVal w F exV [.int .i64 4, .int .i64 0, sv redS, .slice none 0 0, .slice none 0 0, .slice none 0 0] :=
  .mk (b := 0) (o := 0) (C := fun _ => []) (WalkArith.wf_i64 (by omega)) (WalkArith.wf_i64 (by omega)) (by decide +kernel) RF.nil (fun _ h => by cases h) (Nat.le_refl _) (Nat.zero_le _) RF.nil (fun _ h => by cases h) (Nat.le_refl _) (Nat.zero_le _) (fun h => absurd h (by simp)) (fun i p hp => by simp at hp) (fun i p hp => by simp at hp) (Nat.le_refl _) (Nat.zero_le _)
theorem exS_is {w : World} {g : Nat} (hb : Blk w g 9 #[sv redS, sv blueS]) : IsSch w (· < w.heap.size) exS [.int .i64 4, .slice (some ⟨g, 0, none⟩) 2 2, .slice none 0 0] :=
  .mk (words := [redS, blueS]) (b := 0) (o := 0) (C := fun _ => []) (WalkArith.wf_i64 (by omega)) ⟨rfl, fun _ => ⟨g, 0, rfl, hb.lt, fun j u hu => by rw [Nat.zero_add, hb.cell]; simpa using hu⟩⟩ (by decide +kernel) (by simp) (by simp) (fun h => absurd h (by simp)) (fun i p hp => by simp at hp) (fun i p hp => by simp at hp) (Nat.le_refl _) (Nat.zero_le _)

set_option maxHeartbeats 1000000 in
set_option maxRecDepth 20000 in
theorem awake09_calls (w : World) : Calls Try.prog 12 #[] w (Gives (.bool true) w) := by
  have HEX := hide ex_right
  have HL : Hid ((Try.prog.info? 25).map (·.size) = some 3) := hide (by kernel_rfl)
  go_enter Try.func12, Try.ntmps12
  go_upto_region 1 with fail
  go_cut [1] (fun p wx => p = .pointer (some ⟨w.heap.size + 1, 0, none⟩) ∧ Blk wx w.heap.size 9 #[sv redS, sv blueS] ∧ Blk wx (w.heap.size + 1) 25 #[.int .i64 4, .slice (some ⟨w.heap.size, 0, none⟩) 2 2, .slice none 0 0] ∧ Below w.heap.size w wx)
  case first =>
    go_wp2_with fail
    go_meet
    refine ⟨rfl, (Blk.new w 9 #[sv redS, sv blueS]).alloc _, Blk.new2 w _ 25 #[.int .i64 4, .slice (some ⟨w.heap.size, 0, none⟩) 2 2, .slice none 0 0], ((Below.refl w.heap.size w).alloc (Nat.le_refl _) _).alloc (by simp) _⟩
  case rest =>
    obtain ⟨rfl, h1, h2, hw⟩ := hcut
    have G1 := hide h1
    have G2 := hide h2
    have GW := hide hw
    clear h1 h2 hw
    have HC := hide (schDefault_calls 1 exS _ wc (by decide +kernel) (by decide +kernel) (fun h => defOk_sound 1 exS (by decide +kernel)) (exS_is G1.out))
    rw [ex_right, if_pos rfl, ex_def] at HC
    go_wp2_with (first | (refine wpList_load_blk rfl 25 _ rfl _ rfl _ _ G2.out _ rfl rfl HL.out ?_) | fail)
    refine HC.out.mono ?_
    rintro e w1 ⟨ds, rfl, hv, hb1⟩
    have HV := hide (hv.mono (G := fun b => b < w1.heap.size) fun b hb => hb.2)
    have K1 := hide (G1.out.below hb1 G1.out.lt)
    have K2 := hide (G2.out.below hb1 G2.out.lt)
    have KW := hide (GW.out.trans (hb1.mono GW.out.size))
    clear hb1 hv HC G1 G2 GW
    have HC := hide (refValSame_calls 1 exV exV _ _ w1 (by decide +kernel) HV.out (exV_is w1 _))
    rw [eqB_true rfl] at HC
    go_wp2_with fail
    refine HC.out.mono ?_
    rintro e w2 ⟨rfl, hb1⟩
    have M1 := hide (K1.out.below hb1 K1.out.lt)
    have M2 := hide (K2.out.below hb1 K2.out.lt)
    have MW := hide (KW.out.trans (hb1.mono KW.out.size))
    clear hb1 HC K1 K2 KW HV
    have HC := hide (schRightP_calls exS _ w2 (exS_is M1.out))
    rw [ex_right] at HC
    go_wp2_with (first | (refine wpList_load_blkG (by rfl) 25 _ rfl _ rfl _ [.int .i64 4, .slice (some ⟨w.heap.size, 0, none⟩) 2 2, .slice none 0 0] M2.out _ rfl rfl HL.out ?_) | fail)
    refine HC.out.mono ?_
    rintro e w3 ⟨rfl, hb1⟩
    have K1 := hide (M1.out.below hb1 M1.out.lt)
    have K2 := hide (M2.out.below hb1 M2.out.lt)
    have KW := hide (MW.out.trans (hb1.mono MW.out.size))
    clear hb1 HC M1 M2 MW
    have HC := hide (schScalar_calls exS _ w3 (exS_is K1.out))
    go_wp2_with (first | (refine wpList_load_blkG (by rfl) 25 _ rfl _ rfl _ [.int .i64 4, .slice (some ⟨w.heap.size, 0, none⟩) 2 2, .slice none 0 0] K2.out _ rfl rfl HL.out ?_) | fail)
    refine HC.out.mono ?_
    rintro e w4 ⟨rfl, hb1⟩
    have MW := hide (KW.out.trans (hb1.mono KW.out.size))
    clear hb1
    go_wp2
    go_ret
    exact ⟨ret_eq (by rfl), MW.out⟩
end Go.Proofs.Ytpnjkebjdclkfaa
