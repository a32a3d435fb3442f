/- Names that rise. Conditions: none. -/
import Derived.Test.YtpnjkebjdclkfaaUnA
import Derived.Test.YtpnjkebjdclkfaaNameR
namespace Go.Proofs.Ytpnjkebjdclkfaa
open Go.RowKit

/-- A right name, ahead of which the one before it stands. -/
def riseOk (l : List Str) (i : Nat) : Bool := nameB (l.getD i []) && (decide (i = 0) || sLt (l.getD (i - 1) []) (l.getD i []))
def riseV (l : List Str) : Bool := ((List.range l.length).all (riseOk l)) && decide (l.length ≤ 8)
set_option maxHeartbeats 1000000 in
theorem riseV_calls (l : List Str) (A : Option Addr) (c : Nat) (w : World) (hr : RF w (· < w.heap.size) 1 A l.length (l.map sv)) (hz : ∀ s ∈ l, s.length ≤ maxLen) (hn : l.length ≤ 140737488351232) :
    Calls Try.prog 137 #[.slice A l.length c] w (Gives (.bool (riseV l)) w) := by
  have HR := hide hr
  have HZ := hide hz
  clear hr hz
  go_enter Try.func137, Try.ntmps137
  go_wp2_with fail
  go_loopw [7] (fun i wr => ∃ (k : Nat), i = .int .i64 k ∧ k ≤ l.length ∧ (∀ r, r < k → riseOk l r = true) ∧ Below w.heap.size w wr) (fun i _ => l.length - (intOf i).toNat)
  case atStart => exact ⟨0, rfl, Nat.zero_le _, fun r hr => by omega, Below.refl _ _⟩
  case round =>
    obtain ⟨k, rfl, hk, hno, hw⟩ := hrel
    obtain ⟨wo, rfl⟩ : ∃ wo : World, wo = wr := ⟨_, rfl⟩
    have GN := hide hno
    have GW := hide hw
    clear hno hw
    by_cases hlt : k < l.length
    · obtain ⟨b, o, rfl, hb, hcell⟩ := HR.out.at_ hlt
      have hzy := HZ.out _ (List.getElem_mem hlt)
      obtain ⟨y, hy⟩ : ∃ y, l[k] = y := ⟨_, rfl⟩
      have hg : l.getD k [] = y := by rw [← hy]; simp [List.getD, hlt]
      rw [hy] at hzy hcell
      have c1 : wo.cell? ⟨b, o + k, none⟩ = some (sv y) := (GW.out.cell (p := ⟨b, o + k, none⟩) hb).trans hcell
      have HOK : Hid (riseOk l k = (nameB y && (decide (k = 0) || sLt (l.getD (k - 1) []) y))) := hide (by unfold riseOk; rw [hg])
      have HC := hide (name_calls y wo hzy)
      have HFL : Hid (riseOk l k = false → riseV l = false) := hide fun h => by
        unfold riseV
        rw [show (List.range l.length).all (riseOk l) = false from List.all_eq_false.2 ⟨k, List.mem_range.2 hlt, by rw [h]; simp⟩, Bool.false_and]
      clear hg hcell hy hzy
      cases hx : nameB y
      · rw [hx] at HC HOK
        clear hx
        go_wp2_with fail
        refine HC.out.mono ?_
        rintro e w1 ⟨rfl, hb1⟩
        have KW := hide (GW.out.trans (hb1.mono GW.out.size))
        clear hb1
        go_wp2
        go_ret
        exact ⟨ret_eq (by rw [HFL.out (by rw [HOK.out]; rfl)]; rfl), KW.out⟩
      · rw [hx, Bool.true_and] at HOK
        rw [hx] at HC
        clear hx
        by_cases h0 : k = 0
        · rw [decide_eq_true h0, Bool.true_or] at HOK
          have h00 : ¬ (0 : Int) < (k : Int) := by omega
          have HK0 := hide h0
          clear h0
          go_wp2_with fail
          refine HC.out.mono ?_
          rintro e w1 ⟨rfl, hb1⟩
          have KW := hide (GW.out.trans (hb1.mono GW.out.size))
          clear hb1
          go_wp2_with fail
          exact ⟨⟨k + 1, by go_num, by omega, fun r hr => by
            by_cases e : r = k
            · rw [e, HOK.out]
            · exact GN.out r (by omega), KW.out⟩, by simp [intOf]; omega⟩
        · rw [decide_eq_false h0, Bool.false_or] at HOK
          obtain ⟨j, rfl⟩ : ∃ j, k = j + 1 := ⟨k - 1, by omega⟩
          have hlj : j < l.length := by omega
          obtain ⟨b', o', he, hb', hcell'⟩ := HR.out.at_ hlj
          obtain ⟨z, hz⟩ : ∃ z, l[j] = z := ⟨_, rfl⟩
          have hgj : l.getD (j + 1 - 1) [] = z := by rw [← hz]; simp [List.getD, hlj]
          rw [hgj] at HOK
          rw [hz] at hcell'
          obtain ⟨rfl, rfl⟩ : b' = b ∧ o' = o := by simpa [eq_comm] using he
          have HP : Hid (∀ W, Below w.heap.size w W → W.cell? ⟨b', o' + j, none⟩ = some (sv z)) := hide fun W hW => (hW.cell (p := ⟨b', o' + j, none⟩) hb').trans hcell'
          have h00 : (0 : Int) < ((j + 1 : Nat) : Int) := by omega
          have hsub : (((j + 1 : Nat) : Int) - 1) = (j : Int) := by omega
          clear h0 hgj hcell' he hz
          cases hx : sLt z y
          · rw [hx] at HOK
            have hxx : (!Op.bytesLess z y) = true := by rw [show Op.bytesLess z y = false from hx]; rfl
            clear hx
            go_wp2_with fail
            refine HC.out.mono ?_
            rintro e w1 ⟨rfl, hb1⟩
            have KW := hide (GW.out.trans (hb1.mono GW.out.size))
            clear hb1
            have c2 := HP.out _ KW.out
            go_wp2
            go_ret
            exact ⟨ret_eq (by rw [HFL.out HOK.out]; rfl), KW.out⟩
          · rw [hx] at HOK
            have hxx : (!Op.bytesLess z y) = false := by rw [show Op.bytesLess z y = true from hx]; rfl
            clear hx
            go_wp2_with fail
            refine HC.out.mono ?_
            rintro e w1 ⟨rfl, hb1⟩
            have KW := hide (GW.out.trans (hb1.mono GW.out.size))
            clear hb1
            have c2 := HP.out _ KW.out
            go_wp2_with fail
            exact ⟨⟨j + 1 + 1, by go_num, by omega, fun r hr => by
              by_cases e : r = j + 1
              · rw [e, HOK.out]
              · exact GN.out r (by omega), KW.out⟩, by simp [intOf]; omega⟩
    · obtain rfl : k = l.length := by omega
      have HE : Hid (riseV l = decide (l.length ≤ 8)) := hide (by
        unfold riseV
        rw [show (List.range l.length).all (riseOk l) = true from List.all_eq_true.2 fun i hi => GN.out i (List.mem_range.1 hi), Bool.true_and])
      go_wp2
      go_ret
      exact ⟨ret_eq (by rw [HE.out]; first | rfl | (simp; done) | (simp; omega) | (simp; rw [Bool.eq_iff_iff]; simp; omega) | (rw [Bool.eq_iff_iff]; simp; omega) | (simp; rw [Bool.eq_iff_iff]; simp)), GW.out⟩
end Go.Proofs.Ytpnjkebjdclkfaa
