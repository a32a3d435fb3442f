/- Schemas: the size that is asked of (Great), depths. Conditions: none. -/
import Derived.Test.YtpnjkebjdclkfaaTree
import Derived.Test.YtpnjkebjdclkfaaRegion
import Derived.Test.YtpnjkebjdclkfaaArr
import Derived.Test.YtpnjkebjdclkfaaOpen
import Derived.Deep.DeepCutAuto
import Derived.Test.YtpnjkebjdclkfaaProg
namespace Go.Proofs.Ytpnjkebjdclkfaa
open Go.RowKit Go.ChangeShapes Go.WideShapes Go.ChangeAt

theorem i64_wf {n : Int} (h : I64 n) : -9223372036854775808 ≤ n ∧ n ≤ 9223372036854775807 := bounds_i64 h
/-- How much is left of n. -/
def roomS : Nat → DSch → Int → Int
  | 0, _, _ => -1
  | k + 1, s, n =>
    if 0 ≤ n - 1 - s.words.length ∧ s.words.any (fun x => decide (100 < x.length)) then -1
    else s.parts.foldl (fun m p => if 0 ≤ m then roomS k p m else m) (n - 1 - s.words.length)
theorem foldRoom_neg (k : Nat) : ∀ (l : List DSch) (m : Int), m < 0 → l.foldl (fun m p => if 0 ≤ m then roomS k p m else m) m = m
  | [], _, _ => rfl
  | p :: l, m, h => by rw [List.foldl_cons, if_neg (by omega)]; exact foldRoom_neg k l m h
/-- Nothing too great: depth, words' sizes, all hereditarily. -/
def FineS : Nat → DSch → Prop
  | 0, _ => False
  | k + 1, s => (∀ x ∈ s.words, x.length ≤ 100) ∧ ∀ p ∈ s.parts, FineS k p
theorem room_spec : ∀ (k : Nat) (s : DSch) (n : Int), 0 ≤ roomS k s n → roomS k s n = n - s.weight ∧ FineS k s
  | 0, s, n, h => by simp [roomS] at h
  | k + 1, s, n, h => by
    have hwt := DSch.weight_eq s
    unfold roomS at h ⊢
    by_cases hb : 0 ≤ n - 1 - (s.words.length : Int) ∧ s.words.any (fun x => decide (100 < x.length)) = true
    · rw [if_pos hb] at h; omega
    · rw [if_neg hb] at h ⊢
      have hn : 0 ≤ n - 1 - (s.words.length : Int) := by
        rcases Int.lt_or_le (n - 1 - (s.words.length : Int)) 0 with hx | hx
        · rw [foldRoom_neg k s.parts _ hx] at h; exact h
        · exact hx
      have hw : ∀ x ∈ s.words, x.length ≤ 100 := by
        intro x hx
        rcases Nat.lt_or_ge 100 x.length with hgt | hle
        · exact absurd ⟨hn, List.any_eq_true.2 ⟨x, hx, by simpa using hgt⟩⟩ hb
        · exact hle
      have key : ∀ (l : List DSch) (m : Int), 0 ≤ l.foldl (fun m p => if 0 ≤ m then roomS k p m else m) m →
          l.foldl (fun m p => if 0 ≤ m then roomS k p m else m) m = m - DSch.weights l ∧ ∀ p ∈ l, FineS k p := by
        intro l
        induction l with
        | nil => intro m _; exact ⟨by simp [DSch.weights], fun p hp => by cases hp⟩
        | cons p l ih =>
          intro m hm
          rw [List.foldl_cons] at hm ⊢
          have h0 : 0 ≤ m := by
            rcases Int.lt_or_le m 0 with hx | hx
            · rw [if_neg (by omega), foldRoom_neg k l m hx] at hm; exact hm
            · exact hx
          rw [if_pos h0] at hm ⊢
          have h1 : 0 ≤ roomS k p m := by
            rcases Int.lt_or_le (roomS k p m) 0 with hx | hx
            · rw [foldRoom_neg k l _ hx] at hm; exact hm
            · exact hx
          obtain ⟨e1, f1⟩ := room_spec k p m h1
          obtain ⟨e2, f2⟩ := ih _ hm
          refine ⟨by rw [e2, e1]; simp only [DSch.weights]; omega, fun q hq => ?_⟩
          rcases List.mem_cons.1 hq with rfl | hq
          · exact f1
          · exact f2 q hq
      obtain ⟨e, f⟩ := key s.parts _ h
      refine ⟨by rw [e]; omega, ?_⟩
      exact ⟨hw, f⟩
theorem room_le : ∀ (k : Nat) (s : DSch) (n : Int), -1 ≤ n → roomS k s n ≤ n ∧ (roomS k s n ≤ -1 ∨ 0 ≤ roomS k s n)
  | 0, s, n, h => by simp [roomS]; omega
  | k + 1, s, n, h => by
    unfold roomS
    split
    · omega
    · have key : ∀ (l : List DSch) (m : Int), l.foldl (fun m p => if 0 ≤ m then roomS k p m else m) m ≤ m := by
        intro l
        induction l with
        | nil => intro m; exact Int.le_refl _
        | cons p l ih =>
          intro m
          rw [List.foldl_cons]
          refine Int.le_trans (ih _) ?_
          split
          · exact (room_le k p m (by omega)).1
          · exact Int.le_refl _
      have := key s.parts (n - 1 - s.words.length)
      omega
end Go.Proofs.Ytpnjkebjdclkfaa
