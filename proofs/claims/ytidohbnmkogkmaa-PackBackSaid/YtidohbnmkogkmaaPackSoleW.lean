/- NewReader, and the walk of PackSole: it returns true, and nothing that was there turns. Conditions: the bytes are as the statement's reading gives them. -/
import Derived.Test.YtidohbnmkogkmaaPackB
import Derived.Test.YtidohbnmkogkmaaPackLaw
namespace Go.Proofs.Ytidohbnmkogkmaa
open Go.RowKit

def NewR (bs : List UInt8) (w : World) (e : Ending) (w' : World) : Prop := ∃ g, e = .returned (.pointer (some ⟨g, 0, none⟩)) ∧ w.heap.size ≤ g ∧ IsR w' g bs 0 none ∧ Below w.heap.size w w'
set_option maxHeartbeats 400000 in
theorem newReader_calls (bs : List UInt8) (A : Option Addr) (c B : Nat) (w : World) (hr : Reads w B 1 A bs.length (bs.map bv)) (hl : bs.length ≤ 1099511627776) :
    Calls Try.prog 28 #[.slice A bs.length c] w (NewR bs w) := by
  obtain ⟨i5, hi5, hz5, hs5, hb5⟩ := info_parts info_u8
  have hn := World.ownsRow_nil w w.heap.size 5 1
  go_enter Try.func28, Try.ntmps28
  go_wp2_with (at_builtin; go_must (refine wpList_append_any _ rfl _ _ 23 rfl _ 5 i5 (.int .u8 0) 1 1 Try.underlying23 hi5 hz5 hs5 hb5 rfl (by decide) _ _ _ (by rfl) hn _ _ _ _ _ (by rfl) hr (oneCell_bv _) (by unfold maxLen; omega) (by omega) (by first | omega | (rw [World.size_drew]; omega) | (simp only [World.size_alloc]; omega)) ?_); intro Aq cq wq ownq growq lieq)
  go_ret
  have hb := (Below.refl w.heap.size w).grown growq (Nat.le_refl _) (by simp [Value.ownBlock])
  rw [List.nil_append] at ownq
  simp only [Nat.zero_add] at ownq
  have hown := ownq.alloc (.cells #[.slice Aq bs.length cq, .int .i64 0, .nilIface] 79)
  refine ⟨wq.heap.size, ret_eq rfl, growq.size, ⟨Aq, cq, .nilIface, Blk.new _ _ _, Reads.of_own hown, fun h0 ad ha => ?_, ?_, ?_, rfl, Nat.zero_le _, hl⟩, hb.alloc growq.size _⟩
  · have := (ownq.lt ad.block (by rw [ha]; rfl)).2
    omega
  · rcases ownq.2 with ⟨h, h0⟩ | ⟨g, cap, cur, h, _, _, h1, h2, _⟩
    · omega
    · injection h with _ _ h; omega
  · rcases ownq.2 with ⟨h, h0⟩ | ⟨g, cap, cur, h, _, _, h1, h2, _⟩
    · injection h with _ _ h; subst h; exact Nat.zero_le _
    · injection h with _ _ h; omega

theorem rEnd_none {bs : List UInt8} {at_ : Nat} {er : Option (Int × Int)} (h : rEnd bs at_ er = none) : er = none ∧ bs.length ≤ at_ := by
  cases er with
  | some x => cases h
  | none =>
    refine ⟨rfl, ?_⟩
    simp only [rEnd] at h
    split at h
    · cases h
    · omega
theorem sole_law (b : List UInt8) (h : rEnd b (rNum b 0 none 18446744073709551615).2.1 (rNum b 0 none 18446744073709551615).2.2 = none) : numB (rNum b 0 none 18446744073709551615).1 = b := by
  obtain ⟨h1, h2⟩ := rEnd_none h
  cases hp : numP b with
  | none => simp [rNum, hp] at h1
  | some q =>
    obtain ⟨v, s⟩ := q
    have hv := (numGo_bounds b 0 0 (by omega) (by simp) (by omega) v s hp)
    have e : rNum b 0 none 18446744073709551615 = (v, 0 + s, none) := by simp only [rNum, List.drop_zero, hp]; rw [if_neg (by omega)]
    rw [e] at h2 ⊢
    simp only at h2 ⊢
    rw [← numP_sole b v s hp, List.take_of_length_le (by omega)]
/-- The writer's own contract at a number that a variable holds. -/
theorem below_of_W {w w1 : World} {F : Nat → Prop} {B : Nat} (hB : B ≤ w.heap.size) (h : Fr F w w1) (hF : ∀ k, F k → B ≤ k) : Below B w w1 := h.below hB fun k hk h1 => by have := hF k h1; omega

set_option maxHeartbeats 1000000 in
set_option maxRecDepth 20000 in
theorem packSole_walk (b : List UInt8) (A : Option Addr) (c : Nat) (w : World) (hr : Reads w w.heap.size 1 A b.length (b.map bv)) (hl : b.length ≤ 140737488351232) :
    Calls Try.prog 8 #[.slice A b.length c] w (Gives (.bool true) w) := by
  by_cases h40 : 40 < b.length
  · have hd : decide (40 < (b.length : Int)) = true := by simp; omega
    go_enter Try.func8, Try.ntmps8
    go_wp2_with fail
    refine (packAwake_calls w).mono ?_
    rintro e w1 ⟨rfl, hb⟩
    have HB := hide hb
    clear hb
    go_wp2
    go_ret
    exact ⟨ret_eq rfl, HB.out⟩
  · have hd : decide (40 < (b.length : Int)) = false := by simp; omega
    go_enter Try.func8, Try.ntmps8
    go_wp2_with fail
    refine (newReader_calls b A c _ w hr (by omega)).mono ?_
    rintro e w1 ⟨g, rfl, hg, hR, hb1⟩
    have HR := hide hR
    have HB1 := hide hb1
    clear hR hb1
    go_wp2_with fail
    refine (rNumber_calls g b 0 w1 18446744073709551615 none HR.out).mono ?_
    rintro e w2 ⟨rfl, hR2, hf2⟩
    have HR2 := hide hR2
    have hb2 := HB1.out.trans (below_of_W HB1.out.size hf2 fun k hk => by omega)
    have HB2 := hide hb2
    clear hR2 hf2 hb2
    obtain ⟨n, hn⟩ : ∃ n, n = (rNum b 0 none 18446744073709551615).1 := ⟨_, rfl⟩
    have hu : IsU64 n := by rw [hn]; exact rNum_u64 _ _ _ _
    rw [← hn]
    have HN := hide hn
    have HU := hide hu
    clear hn hu
    go_wp2_with fail
    refine (rEnd_calls g b _ w2 _ HR2.out).mono ?_
    rintro e w3 ⟨v, rfl, hE, hb3⟩
    have HB3 := hide (HB2.out.trans (hb3.mono HB2.out.size))
    have HE := hide hE
    clear hb3 hE
    cases hend : rEnd b (rNum b 0 none 18446744073709551615).2.1 (rNum b 0 none 18446744073709551615).2.2 with
    | some x =>
      rw [hend] at HE
      obtain ⟨ge, rfl, _⟩ := HE.out
      have HEnd := hide hend
      clear hend HE
      go_wp2_with fail
      refine (packAwake_calls w3).mono ?_
      rintro e w4 ⟨rfl, hb4⟩
      have HB4 := hide hb4
      clear hb4
      go_wp2
      go_ret
      exact ⟨ret_eq rfl, HB3.out.trans (HB4.out.mono HB3.out.size)⟩
    | none =>
      rw [hend] at HE
      obtain rfl : v = .nilIface := HE.out
      have HL := hide (sole_law b hend)
      clear hend HE
      have HW := hide (IsW.new w3)
      have hbn := HL.out
      rw [← HN.out] at hbn
      have HBN := hide hbn
      clear hbn
      go_wp2_with fail
      refine (number_calls w3.heap.size [] _ _ n HU.out HW.out (by simp)).mono ?_
      rintro e w4 ⟨rfl, hW4, hf4⟩
      rw [List.nil_append, HBN.out] at hW4
      have HW4 := hide hW4
      have hb4 := ((HB3.out.alloc HB3.out.size (.cells #[.slice none 0 0] 34)).trans (below_of_W (by have := HB3.out.size; simp; omega) hf4 fun k hk => by have := HB3.out.size; omega))
      have HB4 := hide hb4
      clear hW4 hf4 hb4
      go_wp2_with fail
      refine (out_calls _ b _ w4 HW4.out (by omega)).mono ?_
      rintro e w5 ⟨A5, c5, rfl, hown5, hb5⟩
      have HO5 := hide hown5
      have HB5 := hide (HB4.out.trans (hb5.mono HB4.out.size))
      clear hown5 hb5
      go_wp2_with fail
      refine (refEqBytes_calls b b _ _ _ _ _ _ _ (Reads.of_own HO5.out) (hr.below HB5.out) (by omega)).mono ?_
      rintro e w6 ⟨rfl, m, rfl⟩
      have hdt : decide (b = b) = true := by simp
      rw [hdt]
      go_wp2_with fail
      refine (packAwake_calls _).mono ?_
      rintro e w7 ⟨rfl, hb7⟩
      have HB7 := hide hb7
      clear hb7
      go_wp2
      go_ret
      exact ⟨ret_eq rfl, (below_drewN HB5.out m).trans (HB7.out.mono (by have := HB5.out.size; simpa using this))⟩
end Go.Proofs.Ytidohbnmkogkmaa
