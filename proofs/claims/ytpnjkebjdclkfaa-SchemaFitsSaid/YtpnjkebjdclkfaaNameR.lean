/- Names: the document's own; lists of names. Conditions: none. -/
import Derived.Test.YtpnjkebjdclkfaaName
namespace Go.Proofs.Ytpnjkebjdclkfaa
open Go.RowKit

set_option maxHeartbeats 1000000 in
theorem refName_calls (s : Str) (w : World) (hs : s.length ≤ maxLen) : Calls Try.prog 87 #[sv s] w (fun e w' => e = .returned (.bool (nameB s)) ∧ w = w') := by
  unfold maxLen at hs
  go_enter Try.func87, Try.ntmps87
  go_wp2_with fail
  go_loop [3] (fun i => ∃ (k : Nat), i = .int .i64 k ∧ k ≤ s.length ∧ ∀ c ∈ s.take k, nameByte c.toNat = true) (fun i => s.length - (intOf i).toNat)
  case atStart => exact ⟨0, rfl, Nat.zero_le _, by simp⟩
  case round =>
    obtain ⟨k, rfl, hk, hok⟩ := hrel
    have GN := hide hok
    clear hok
    by_cases hlt : k < s.length
    · have hx := UInt8.toNat_lt s[k]
      have HT : Hid (nameByte s[k].toNat = true → ∀ c ∈ s.take (k + 1), nameByte c.toNat = true) := hide fun h c hc => by
        rw [List.take_succ_eq_append_getElem hlt] at hc
        rcases List.mem_append.1 hc with h1 | h1
        · exact GN.out c h1
        · rw [List.mem_singleton.1 h1]; exact h
      have HN : Hid (nameByte s[k].toNat = false → nameB s = false) := hide fun h => by
        unfold nameB
        rw [show (s.all fun c => nameByte c.toNat) = false from List.all_eq_false.2 ⟨s[k], List.getElem_mem _, by rw [h]; simp⟩]
        rfl
      have key : s[k].toNat < 48 ∨ (48 ≤ s[k].toNat ∧ s[k].toNat ≤ 57) ∨ (57 < s[k].toNat ∧ s[k].toNat < 95) ∨ (95 ≤ s[k].toNat ∧ s[k].toNat ≤ 95) ∨ (96 ≤ s[k].toNat ∧ s[k].toNat ≤ 96) ∨ (97 ≤ s[k].toNat ∧ s[k].toNat ≤ 122) ∨ 122 < s[k].toNat := by omega
      clear GN
      rcases key with h | h | h | h | h | h | h
      all_goals
        first | (have hb : ((s[k].toNat : Int) == 95) = false := by simp; omega) | (have hb : ((s[k].toNat : Int) == 95) = true := by simp; omega)
        first
          | (have hT : Hid (nameByte s[k].toNat = true) := hide (nameByte_true (by omega)))
          | (have hT : Hid (nameByte s[k].toNat = false) := hide (nameByte_false (by omega)))
        first
          | (have d1 : decide ((97 : Int) ≤ (s[k].toNat : Int)) = true := decide_eq_true (by omega); have d2 : decide ((s[k].toNat : Int) ≤ 122) = true := decide_eq_true (by omega))
          | (have d1 : decide ((97 : Int) ≤ (s[k].toNat : Int)) = true := decide_eq_true (by omega); have d2 : decide ((s[k].toNat : Int) ≤ 122) = false := decide_eq_false (by omega))
          | (have d1 : decide ((97 : Int) ≤ (s[k].toNat : Int)) = false := decide_eq_false (by omega))
        first
          | (have d3 : decide ((48 : Int) ≤ (s[k].toNat : Int)) = true := decide_eq_true (by omega); have d4 : decide ((s[k].toNat : Int) ≤ 57) = true := decide_eq_true (by omega))
          | (have d3 : decide ((48 : Int) ≤ (s[k].toNat : Int)) = true := decide_eq_true (by omega); have d4 : decide ((s[k].toNat : Int) ≤ 57) = false := decide_eq_false (by omega))
          | (have d3 : decide ((48 : Int) ≤ (s[k].toNat : Int)) = false := decide_eq_false (by omega))
        go_wp2_with fail
        first
          | exact ⟨⟨k + 1, by go_num, by omega, HT.out hT.out⟩, by simp [intOf]; omega⟩
          | (go_ret; exact ⟨ret_eq (by rw [HN.out hT.out]; rfl), rfl⟩)
    · obtain rfl : k = s.length := by omega
      have HA : Hid ((s.all fun c => nameByte c.toNat) = true) := hide (List.all_eq_true.2 fun c hc => GN.out c (by rw [List.take_length]; exact hc))
      have HN : Hid (nameB s = decide (1 ≤ s.length ∧ s.length ≤ 12)) := hide (by unfold nameB; rw [HA.out]; rfl)
      by_cases h1 : 1 ≤ s.length
      · by_cases h2 : s.length ≤ 12
        · have hd : Hid (decide (1 ≤ s.length ∧ s.length ≤ 12) = true) := hide (decide_eq_true ⟨h1, h2⟩)
          go_wp2
          go_ret
          exact ⟨ret_eq (by rw [HN.out, hd.out]; first | rfl | (simp; omega)), rfl⟩
        · have hd : Hid (decide (1 ≤ s.length ∧ s.length ≤ 12) = false) := hide (decide_eq_false fun h => h2 h.2)
          go_wp2
          go_ret
          exact ⟨ret_eq (by rw [HN.out, hd.out]; first | rfl | (simp; omega)), rfl⟩
      · have hd : Hid (decide (1 ≤ s.length ∧ s.length ≤ 12) = false) := hide (decide_eq_false fun h => h1 h.1)
        go_wp2
        go_ret
        exact ⟨ret_eq (by rw [HN.out, hd.out]; first | rfl | (simp; omega)), rfl⟩

theorem RF.below' {w w' : World} {size n : Nat} {A : Option Addr} {xs : List Value} {B : Nat} (h : RF w (· < B) size A n xs) (hb : Below B w w') : RF w' (· < B) size A n xs := h.keep fun _ hq => hb.cell hq
theorem RF.more {w w' : World} {size n : Nat} {A : Option Addr} {xs : List Value} (h : RF w (· < w.heap.size) size A n xs) (hb : Below w.heap.size w w') : RF w' (· < w'.heap.size) size A n xs := (h.below' hb).mono fun _ hk => Nat.lt_of_lt_of_le hk hb.size

set_option maxHeartbeats 400000 in
theorem namesNot_calls (s : Str) (w : World) (hs : s.length ≤ maxLen) : Calls Try.prog 143 #[sv s] w (Gives (.bool (!nameB s)) w) := by
  have HI := hide (name_calls s w hs)
  go_enter Try.func143, Try.ntmps143
  go_wp2_with fail
  refine HI.out.mono ?_
  rintro e w1 ⟨rfl, hb⟩
  have HB := hide hb
  clear hb
  go_wp2
  go_ret
  exact ⟨rfl, HB.out⟩
def namesB (l : List Str) : Bool := decide (l.length ≤ 8) && l.all nameB
set_option maxHeartbeats 1000000 in
theorem names_calls (l : List Str) (A : Option Addr) (c : Nat) (w : World) (hr : RF w (· < w.heap.size) 1 A l.length (l.map sv)) (hz : ∀ s ∈ l, s.length ≤ maxLen) (hn : l.length ≤ 140737488351232) :
    Calls Try.prog 124 #[.slice A l.length c] w (Gives (.bool (namesB l)) w) := by
  have hK : ∀ (x : Array Value) W, (callFunc 143 x).run Try.prog W = .ok (.enter 143 x) W := fun _ _ => by kernel_rfl
  have HC := hide (strF_contains 143 hK l.length A c (fun i => sv (l.getD i [])) (fun i => !nameB (l.getD i [])) w hn
    (fun h0 => by
      obtain ⟨b, o, e, hb, hc⟩ := hr.2 h0
      exact ⟨b, o, e, hb, fun i hi => hc i _ (by simp [List.getD, hi])⟩)
    (fun i hi W hW => namesNot_calls _ W (by
      have : l.getD i [] ∈ l := by simp [List.getD, hi]
      exact hz _ this)))
  have HP : Hid ((List.range l.length).any (fun i => !nameB (l.getD i [])) = !l.all nameB) := hide (by
    rw [Bool.eq_iff_iff, List.any_eq_true]
    simp only [Bool.not_eq_true', List.all_eq_false, List.mem_range]
    constructor
    · rintro ⟨i, hi, h⟩
      exact ⟨l.getD i [], by simp [List.getD, hi], by rw [h]; simp⟩
    · rintro ⟨x, hx, h⟩
      obtain ⟨i, hi, rfl⟩ := List.getElem_of_mem hx
      exact ⟨i, hi, by simpa [List.getD, hi] using h⟩)
  rw [HP.out] at HC
  have HN : Hid (namesB l = (decide (l.length ≤ 8) && l.all nameB)) := hide rfl
  clear hr hz hK HP
  generalize l.all nameB = x at *
  by_cases h8 : l.length ≤ 8
  · have hd : decide (l.length ≤ 8) = true := decide_eq_true h8
    rw [hd, Bool.true_and] at HN
    clear hd
    go_enter Try.func124, Try.ntmps124
    go_wp2_with fail
    refine HC.out.mono ?_
    rintro e w1 ⟨rfl, hb⟩
    have HB := hide hb
    clear hb
    go_wp2
    go_ret
    exact ⟨ret_eq (by rw [HN.out]; simp), HB.out⟩
  · have hd : decide (l.length ≤ 8) = false := decide_eq_false h8
    rw [hd, Bool.false_and] at HN
    clear hd
    go_enter Try.func124, Try.ntmps124
    go_wp2
    go_ret
    exact ⟨ret_eq (by rw [HN.out]; rfl), Below.refl _ _⟩
def risingB (l : List Str) : Bool := sortedB l && unlikeB l
set_option maxHeartbeats 400000 in
theorem rising_calls (l : List Str) (A : Option Addr) (c : Nat) (w : World) (hr : RF w (· < w.heap.size) 1 A l.length (l.map sv)) (hn : l.length ≤ 140737488351232) (hc : l.length ≤ c) :
    Calls Try.prog 126 #[.slice A l.length c] w (Gives (.bool (risingB l)) w) := by
  have HS := hide (isSorted_calls l A c w hr hn)
  have HR := hide hr
  have HN : Hid (risingB l = (sortedB l && unlikeB l)) := hide rfl
  clear hr
  cases hx : sortedB l
  all_goals
    rw [hx] at HS HN
    clear hx
    go_enter Try.func126, Try.ntmps126
    go_wp2_with fail
    refine HS.out.mono ?_
    rintro e w1 ⟨rfl, hb⟩
    have HB := hide hb
    clear hb
    go_wp2_with fail
  · go_ret
    exact ⟨ret_eq (by rw [HN.out]; rfl), HB.out⟩
  · refine (unlike_calls l A c _ (HR.out.more HB.out) hn hc).mono ?_
    rintro e w2 ⟨rfl, rfl⟩
    go_wp2
    go_ret
    exact ⟨ret_eq (by rw [HN.out]; rfl), HB.out⟩
end Go.Proofs.Ytpnjkebjdclkfaa
