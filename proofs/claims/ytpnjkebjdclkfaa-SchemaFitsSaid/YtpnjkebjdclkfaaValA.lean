/- Values: the size that is asked of (Great). Conditions: none. -/
import Derived.Test.YtpnjkebjdclkfaaSchB
namespace Go.Proofs.Ytpnjkebjdclkfaa
open Go.RowKit Go.ChangeShapes Go.WideShapes Go.ChangeAt

/-- How much is left of n. -/
def roomV : Nat → DVal → Int → Int
  | 0, _, _ => -1
  | k + 1, s, n =>
    if 400 < s.s.length then -1
    else s.parts.foldl (fun m p => if 0 ≤ m then roomV k p m else m) (n - 1 - s.names.length - s.ids.length)
theorem foldRoomV_neg (k : Nat) : ∀ (l : List DVal) (m : Int), m < 0 → l.foldl (fun m p => if 0 ≤ m then roomV k p m else m) m = m
  | [], _, _ => rfl
  | p :: l, m, h => by rw [List.foldl_cons, if_neg (by omega)]; exact foldRoomV_neg k l m h
/-- Nothing too great: depth, words' sizes, all hereditarily. -/
def FineV : Nat → DVal → Prop
  | 0, _ => False
  | k + 1, s => s.s.length ≤ 400 ∧ ∀ p ∈ s.parts, FineV k p
theorem roomV_spec : ∀ (k : Nat) (s : DVal) (n : Int), 0 ≤ roomV k s n → roomV k s n = n - s.weight ∧ FineV k s
  | 0, s, n, h => by simp [roomV] at h
  | k + 1, s, n, h => by
    have hwt := DVal.weight_eq s
    unfold roomV at h ⊢
    by_cases hb : 400 < s.s.length
    · rw [if_pos hb] at h; omega
    · rw [if_neg hb] at h ⊢
      have hw : s.s.length ≤ 400 := by omega
      have key : ∀ (l : List DVal) (m : Int), 0 ≤ l.foldl (fun m p => if 0 ≤ m then roomV k p m else m) m →
          l.foldl (fun m p => if 0 ≤ m then roomV k p m else m) m = m - DVal.weights l ∧ ∀ p ∈ l, FineV k p := by
        intro l
        induction l with
        | nil => intro m _; exact ⟨by simp [DVal.weights], fun p hp => by cases hp⟩
        | cons p l ih =>
          intro m hm
          rw [List.foldl_cons] at hm ⊢
          have h0 : 0 ≤ m := by
            rcases Int.lt_or_le m 0 with hx | hx
            · rw [if_neg (by omega), foldRoomV_neg k l m hx] at hm; exact hm
            · exact hx
          rw [if_pos h0] at hm ⊢
          have h1 : 0 ≤ roomV k p m := by
            rcases Int.lt_or_le (roomV k p m) 0 with hx | hx
            · rw [foldRoomV_neg k l _ hx] at hm; exact hm
            · exact hx
          obtain ⟨e1, f1⟩ := roomV_spec k p m h1
          obtain ⟨e2, f2⟩ := ih _ hm
          refine ⟨by rw [e2, e1]; simp only [DVal.weights]; omega, fun q hq => ?_⟩
          rcases List.mem_cons.1 hq with rfl | hq
          · exact f1
          · exact f2 q hq
      obtain ⟨e, f⟩ := key s.parts _ h
      refine ⟨by rw [e]; omega, ?_⟩
      exact ⟨hw, f⟩
theorem roomV_le : ∀ (k : Nat) (s : DVal) (n : Int), -1 ≤ n → roomV k s n ≤ n ∧ (roomV k s n ≤ -1 ∨ 0 ≤ roomV k s n)
  | 0, s, n, h => by simp [roomV]; omega
  | k + 1, s, n, h => by
    unfold roomV
    split
    · omega
    · have key : ∀ (l : List DVal) (m : Int), l.foldl (fun m p => if 0 ≤ m then roomV k p m else m) m ≤ m := by
        intro l
        induction l with
        | nil => intro m; exact Int.le_refl _
        | cons p l ih =>
          intro m
          rw [List.foldl_cons]
          refine Int.le_trans (ih _) ?_
          split
          · exact (roomV_le k p m (by omega)).1
          · exact Int.le_refl _
      have := key s.parts (n - 1 - s.names.length - s.ids.length)
      omega
end Go.Proofs.Ytpnjkebjdclkfaa
