/- Slices of numbers: where one stands; unlike each other. Conditions: none. -/
import Derived.Test.YtpnjkebjdclkfaaStrA
namespace Go.Proofs.Ytpnjkebjdclkfaa
open Go.RowKit

set_option maxHeartbeats 1000000 in
theorem uIndex_calls (l : List Nat) (x : Nat) (A : Option Addr) (c : Nat) (w : World) (hr : RF w (· < w.heap.size) 1 A l.length (l.map uv)) (hn : l.length ≤ 140737488351232) :
    Calls Try.prog 78 #[.slice A l.length c, uv x] w (fun e w' => IdxP (fun i => decide (l[i]? = some x)) l.length e ∧ w = w') := by
  have HR := hide hr
  clear hr
  go_enter Try.func78, Try.ntmps78
  go_wp2_with fail
  go_loop [8] (fun i => ∃ (k : Nat), i = .int .i64 k ∧ k ≤ l.length ∧ (∀ r, r < k → l[r]? ≠ some x)) (fun i => l.length - (intOf i).toNat)
  case atStart => exact ⟨0, rfl, Nat.zero_le _, fun r hr => by omega⟩
  case round =>
    obtain ⟨k, rfl, hk, hno⟩ := hrel
    have GN := hide hno
    clear hno
    by_cases hlt : k < l.length
    · obtain ⟨b, o, rfl, hb, hc⟩ := HR.out.at_ hlt
      have hg : l[k]? = some l[k] := List.getElem?_eq_getElem hlt
      generalize l[k] = y at *
      have HG := hide hg
      clear hg
      by_cases hx : x = y
      · subst hx
        have hxx : ((x : Int) == (x : Int)) = true := by simp
        go_wp2
        go_ret
        exact ⟨.inl ⟨k, hlt, rfl, by simp [HG.out], fun r hr => by simpa using GN.out r hr⟩, rfl⟩
      · have hxx : ((x : Int) == (y : Int)) = false := by simp; omega
        have HX := hide hx
        clear hx
        go_wp2_with fail
        exact ⟨⟨k + 1, by go_num, by omega, fun r hr => by
          by_cases e : r = k
          · rw [e, HG.out]; intro h; exact HX.out (Option.some.inj h).symm
          · exact GN.out r (by omega)⟩, by simp [intOf]; omega⟩
    · obtain rfl : k = l.length := by omega
      go_wp2
      go_ret
      exact ⟨.inr ⟨rfl, fun r hr => by simpa using GN.out r hr⟩, rfl⟩
set_option maxHeartbeats 400000 in
theorem uContains_calls (l : List Nat) (x : Nat) (A : Option Addr) (c : Nat) (w : World) (hr : RF w (· < w.heap.size) 1 A l.length (l.map uv)) (hn : l.length ≤ 140737488351232) :
    Calls Try.prog 149 #[.slice A l.length c, uv x] w (fun e w' => e = .returned (.bool (decide (x ∈ l))) ∧ w = w') := by
  have HI := hide (uIndex_calls l x A c w hr hn)
  clear hr
  go_enter Try.func149, Try.ntmps149
  go_wp2_with fail
  refine HI.out.mono ?_
  rintro e w1 ⟨hi, rfl⟩
  rcases hi with ⟨k, hk, rfl, hp, hno⟩ | ⟨rfl, hno⟩
  · have HX : Hid (decide (x ∈ l) = true) := hide (decide_eq_true (List.mem_of_getElem? (by simpa using hp)))
    clear hp hno
    go_wp2
    go_ret
    exact ⟨ret_eq (by rw [HX.out]; rfl), rfl⟩
  · have HX : Hid (decide (x ∈ l) = false) := hide (decide_eq_false fun hm => by
      obtain ⟨i, hi, e⟩ := List.getElem_of_mem hm
      have := hno i hi
      simp only [List.getElem?_eq_getElem hi, e] at this
      simp at this)
    clear hno
    go_wp2
    go_ret
    exact ⟨ret_eq (by rw [HX.out]; rfl), rfl⟩

/-- Neither 0 nor like one ahead of it; at most twelve. -/
def idOk (l : List Nat) (i : Nat) : Bool := !decide (l.getD i 0 = 0) && !decide (l.getD i 0 ∈ l.take i)
def idsB (l : List Nat) : Bool := ((List.range l.length).all (idOk l)) && decide (l.length ≤ 12)
set_option maxHeartbeats 1000000 in
theorem ids_calls (l : List Nat) (A : Option Addr) (c : Nat) (w : World) (hr : RF w (· < w.heap.size) 1 A l.length (l.map uv)) (hn : l.length ≤ 140737488351232) (hc : l.length ≤ c) :
    Calls Try.prog 138 #[.slice A l.length c] w (fun e w' => e = .returned (.bool (idsB l)) ∧ w = w') := by
  have HR := hide hr
  clear hr
  go_enter Try.func138, Try.ntmps138
  go_wp2_with fail
  go_loop [7] (fun i => ∃ (k : Nat), i = .int .i64 k ∧ k ≤ l.length ∧ (∀ r, r < k → idOk l r = true)) (fun i => l.length - (intOf i).toNat)
  case atStart => exact ⟨0, rfl, Nat.zero_le _, fun r hr => by omega⟩
  case round =>
    obtain ⟨k, rfl, hk, hno⟩ := hrel
    have GN := hide hno
    clear hno
    by_cases hlt : k < l.length
    · obtain ⟨b, o, rfl, hb, hcell⟩ := HR.out.at_ hlt
      have hg : l.getD k 0 = l[k] := by simp [List.getD, hlt]
      have HOK : Hid (idOk l k = (!decide (l[k] = 0) && !decide (l[k] ∈ l.take k))) := hide (by unfold idOk; rw [hg])
      have HRT : Hid (RF w (· < w.heap.size) 1 (some ⟨b, o, none⟩) (l.take k).length ((l.take k).map uv)) := hide (by
        have := Reads.take (k := k) HR.out (by omega)
        rw [Nat.mul_one, ← List.map_take] at this
        rw [List.length_take, Nat.min_eq_left (by omega)]
        exact this)
      have hlen : (l.take k).length = k := by simp; omega
      have HC := hide (fun x => uContains_calls (l.take k) x (some ⟨b, o, none⟩) c w HRT.out (by omega))
      rw [hlen] at HC
      clear hg hlen
      have HFL : Hid (idOk l k = false → idsB l = false) := hide fun h => by
        unfold idsB
        rw [show (List.range l.length).all (idOk l) = false from List.all_eq_false.2 ⟨k, List.mem_range.2 hlt, by rw [h]; simp⟩, Bool.false_and]
      generalize l[k] = y at *
      by_cases h0 : y = 0
      · have h00 : ((y : Int) == 0) = true := by simp [h0]
        have HX : Hid (idsB l = false) := hide (HFL.out (by rw [HOK.out, decide_eq_true h0]; rfl))
        clear h0
        go_wp2
        go_ret
        exact ⟨ret_eq (by rw [HX.out]; rfl), rfl⟩
      · have h00 : ((y : Int) == 0) = false := by simpa using h0
        rw [decide_eq_false h0, Bool.not_false, Bool.true_and] at HOK
        clear h0
        cases hx : decide (y ∈ l.take k)
        · rw [hx] at HOK
          have HX := hide hx
          clear hx
          go_wp2_with fail
          refine (HC.out y).mono ?_
          rintro e w1 ⟨rfl, rfl⟩
          rw [HX.out]
          go_wp2_with fail
          exact ⟨⟨k + 1, by go_num, by omega, fun r hr => by
            by_cases e : r = k
            · rw [e, HOK.out]; rfl
            · exact GN.out r (by omega)⟩, by simp [intOf]; omega⟩
        · rw [hx] at HOK
          have HX := hide hx
          clear hx
          go_wp2_with fail
          refine (HC.out y).mono ?_
          rintro e w1 ⟨rfl, rfl⟩
          rw [HX.out]
          go_wp2
          go_ret
          exact ⟨ret_eq (by rw [HFL.out (by rw [HOK.out]; rfl)]; rfl), rfl⟩
    · obtain rfl : k = l.length := by omega
      have HE : Hid (idsB l = decide (l.length ≤ 12)) := hide (by
        unfold idsB
        rw [show (List.range l.length).all (idOk l) = true from List.all_eq_true.2 fun i hi => GN.out i (List.mem_range.1 hi), Bool.true_and])
      go_wp2
      go_ret
      exact ⟨ret_eq (by rw [HE.out]; first | rfl | (simp; done) | (simp; omega) | (simp; rw [Bool.eq_iff_iff]; simp; omega) | (rw [Bool.eq_iff_iff]; simp; omega) | (simp; rw [Bool.eq_iff_iff]; simp)), rfl⟩
end Go.Proofs.Ytpnjkebjdclkfaa
