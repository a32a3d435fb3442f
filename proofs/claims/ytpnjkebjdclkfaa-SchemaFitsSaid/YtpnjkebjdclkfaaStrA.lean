/- The library at lists of strings. Conditions: none. -/
import Derived.Test.YtpnjkebjdclkfaaTree
import Derived.Test.YtpnjkebjdclkfaaRegion
import Derived.Test.YtpnjkebjdclkfaaOpen
import Derived.Deep.DeepCutAuto
import Derived.Sort.Walk0
import Derived.Test.YtpnjkebjdclkfaaProg
namespace Go.Proofs.Ytpnjkebjdclkfaa
open Go.RowKit

/-- Where the first one is of which p holds. -/
def IdxP (p : Nat → Bool) (n : Nat) (e : Ending) : Prop :=
  (∃ k : Nat, k < n ∧ e = .returned (.int .i64 k) ∧ p k = true ∧ ∀ r, r < k → p r = false) ∨ (e = .returned (.int .i64 (-1)) ∧ ∀ r, r < n → p r = false)
def IdxPost (p : Nat → Bool) (n : Nat) (w : World) (e : Ending) (w' : World) : Prop := IdxP p n e ∧ Below w.heap.size w w'
/-- One string ahead of another one. -/
def sLt (a b : Str) : Bool := Op.bytesLess a b
theorem sLt_iff (a b : Str) : sLt a b = decide (a < b) := bytesLess_eq _ _


set_option maxHeartbeats 1000000 in
set_option maxRecDepth 20000 in
theorem strF_index (K : Nat) (hK : ∀ (x : Array Value) W, (callFunc K x).run Try.prog W = .ok (.enter K x) W) (n : Nat) (A : Option Addr) (c : Nat) (V : Nat → Value) (p : Nat → Bool) (w : World) (hn : n ≤ 140737488351232)
    (hA : 0 < n → ∃ b o, A = some ⟨b, o, none⟩ ∧ b < w.heap.size ∧ ∀ i, i < n → w.cell? ⟨b, o + i, none⟩ = some (V i))
    (hcall : ∀ i, i < n → ∀ W, Below w.heap.size w W → Calls Try.prog K #[V i] W (Gives (.bool (p i)) W)) :
    Calls Try.prog 108 #[.slice A n c, .func (.func K) #[] #[]] w (IdxPost p n w) := by
  have HA := hide hA
  have HC := hide hcall
  clear hA hcall
  go_enter Try.func108, Try.ntmps108
  go_wp2_with fail
  go_loopw [8] (fun i wr => ∃ (k : Nat), i = .int .i64 k ∧ k ≤ n ∧ (∀ r, r < k → p r = false) ∧ Below w.heap.size w wr) (fun i _ => n - (intOf i).toNat)
  case atStart => exact ⟨0, rfl, Nat.zero_le _, fun r hr => by omega, Below.refl _ _⟩
  case round =>
    obtain ⟨k, rfl, hk, hno, hw⟩ := hrel
    obtain ⟨wo, rfl⟩ : ∃ wo : World, wo = wr := ⟨_, rfl⟩
    have GW := hide hw
    have GN := hide hno
    clear hw hno
    by_cases hlt : k < n
    · obtain ⟨b, o, rfl, hb, hV⟩ := HA.out (by omega)
      have hcall' := HC.out k hlt
      have hcell := (GW.out.cell (p := ⟨b, o + k, none⟩) hb).trans (hV k hlt)
      cases hx : p k
      all_goals
        have HX := hide hx
        rw [hx] at hcall'
        clear hx hV
        generalize V k = vk at *

        have HCL := hide hcall'
        clear hcall'
        go_wp2_with (fail)
        refine (HCL.out _ GW.out).mono ?_
        rintro e w1 ⟨rfl, hb1⟩
        have KW := hide (GW.out.trans (hb1.mono GW.out.size))
        clear hb1
      · go_wp2_with fail
        exact ⟨⟨k + 1, by go_num, by omega, fun r hr => by
          by_cases e : r = k
          · rw [e]; exact HX.out
          · exact GN.out r (by omega), KW.out⟩, by simp [intOf]; omega⟩
      · go_wp2
        go_ret
        exact ⟨.inl ⟨k, hlt, rfl, HX.out, GN.out⟩, KW.out⟩
    · obtain rfl : k = n := by omega
      go_wp2
      go_ret
      exact ⟨.inr ⟨rfl, GN.out⟩, GW.out⟩

set_option maxHeartbeats 400000 in
theorem strF_contains (K : Nat) (hK : ∀ (x : Array Value) W, (callFunc K x).run Try.prog W = .ok (.enter K x) W) (n : Nat) (A : Option Addr) (c : Nat) (V : Nat → Value) (p : Nat → Bool) (w : World) (hn : n ≤ 140737488351232)
    (hA : 0 < n → ∃ b o, A = some ⟨b, o, none⟩ ∧ b < w.heap.size ∧ ∀ i, i < n → w.cell? ⟨b, o + i, none⟩ = some (V i))
    (hcall : ∀ i, i < n → ∀ W, Below w.heap.size w W → Calls Try.prog K #[V i] W (Gives (.bool (p i)) W)) :
    Calls Try.prog 142 #[.slice A n c, .func (.func K) #[] #[]] w (Gives (.bool ((List.range n).any p)) w) := by
  have HI := hide (strF_index K hK n A c V p w hn hA hcall)
  clear hA hcall hK
  go_enter Try.func142, Try.ntmps142
  go_wp2_with fail
  refine HI.out.mono ?_
  rintro e w1 ⟨hi, hb⟩
  have HB := hide hb
  clear hb
  rcases hi with ⟨k, hk, rfl, hp, hno⟩ | ⟨rfl, hno⟩
  · have hx : (List.range n).any p = true := List.any_eq_true.2 ⟨k, List.mem_range.2 hk, hp⟩
    have HX := hide hx
    clear hx hp hno
    go_wp2
    go_ret
    exact ⟨ret_eq (by rw [HX.out]; rfl), HB.out⟩
  · have hx : (List.range n).any p = false := List.any_eq_false.2 fun r hr => by simp [hno r (List.mem_range.1 hr)]
    have HX := hide hx
    clear hx hno
    go_wp2
    go_ret
    exact ⟨ret_eq (by rw [HX.out]; rfl), HB.out⟩


set_option maxHeartbeats 1000000 in
set_option maxRecDepth 20000 in
theorem strG_index (K : Nat) (cap0 : Value) (hK : ∀ (x : Array Value) W, (callFunc K x).run Try.prog W = .ok (.enter K x) W) (n : Nat) (A : Option Addr) (c : Nat) (V : Nat → Value) (p : Nat → Bool) (w : World) (hn : n ≤ 140737488351232)
    (hA : 0 < n → ∃ b o, A = some ⟨b, o, none⟩ ∧ b < w.heap.size ∧ ∀ i, i < n → w.cell? ⟨b, o + i, none⟩ = some (V i))
    (hcall : ∀ i, i < n → ∀ W, Below w.heap.size w W → Calls Try.prog K #[V i, cap0] W (Gives (.bool (p i)) W)) :
    Calls Try.prog 108 #[.slice A n c, .func (.func K) #[] #[cap0]] w (IdxPost p n w) := by
  have HA := hide hA
  have HC := hide hcall
  clear hA hcall
  go_enter Try.func108, Try.ntmps108
  go_wp2_with fail
  go_loopw [8] (fun i wr => ∃ (k : Nat), i = .int .i64 k ∧ k ≤ n ∧ (∀ r, r < k → p r = false) ∧ Below w.heap.size w wr) (fun i _ => n - (intOf i).toNat)
  case atStart => exact ⟨0, rfl, Nat.zero_le _, fun r hr => by omega, Below.refl _ _⟩
  case round =>
    obtain ⟨k, rfl, hk, hno, hw⟩ := hrel
    obtain ⟨wo, rfl⟩ : ∃ wo : World, wo = wr := ⟨_, rfl⟩
    have GW := hide hw
    have GN := hide hno
    clear hw hno
    by_cases hlt : k < n
    · obtain ⟨b, o, rfl, hb, hV⟩ := HA.out (by omega)
      have hcall' := HC.out k hlt
      have hcell := (GW.out.cell (p := ⟨b, o + k, none⟩) hb).trans (hV k hlt)
      cases hx : p k
      all_goals
        have HX := hide hx
        rw [hx] at hcall'
        clear hx hV
        generalize V k = vk at *

        have HCL := hide hcall'
        clear hcall'
        go_wp2_with (fail)
        refine (HCL.out _ GW.out).mono ?_
        rintro e w1 ⟨rfl, hb1⟩
        have KW := hide (GW.out.trans (hb1.mono GW.out.size))
        clear hb1
      · go_wp2_with fail
        exact ⟨⟨k + 1, by go_num, by omega, fun r hr => by
          by_cases e : r = k
          · rw [e]; exact HX.out
          · exact GN.out r (by omega), KW.out⟩, by simp [intOf]; omega⟩
      · go_wp2
        go_ret
        exact ⟨.inl ⟨k, hlt, rfl, HX.out, GN.out⟩, KW.out⟩
    · obtain rfl : k = n := by omega
      go_wp2
      go_ret
      exact ⟨.inr ⟨rfl, GN.out⟩, GW.out⟩


set_option maxHeartbeats 400000 in
theorem isNaN_calls (a : Str) (w : World) : Calls Try.prog 155 #[sv a] w (fun e w' => e = .returned (.bool false) ∧ w = w') := by
  go_enter Try.func155, Try.ntmps155
  go_wp2
  go_ret
  exact ⟨ret_eq (by simp), rfl⟩
set_option maxHeartbeats 400000 in
theorem less_calls (a b : Str) (w : World) : Calls Try.prog 151 #[sv a, sv b] w (fun e w' => e = .returned (.bool (sLt a b)) ∧ w = w') := by
  go_enter Try.func151, Try.ntmps151
  go_wp2_with fail
  refine (isNaN_calls a _).mono ?_
  rintro e w1 ⟨rfl, rfl⟩
  go_wp2_with fail
  go_ret
  exact ⟨rfl, rfl⟩

set_option maxHeartbeats 1000000 in
theorem strIndex_calls (l : List Str) (x : Str) (A : Option Addr) (c : Nat) (w : World) (hr : RF w (· < w.heap.size) 1 A l.length (l.map sv)) (hn : l.length ≤ 140737488351232) :
    Calls Try.prog 102 #[.slice A l.length c, sv x] w (fun e w' => IdxP (fun i => decide (l[i]? = some x)) l.length e ∧ w = w') := by
  have HR := hide hr
  clear hr
  go_enter Try.func102, Try.ntmps102
  go_wp2_with fail
  go_loop [8] (fun i => ∃ (k : Nat), i = .int .i64 k ∧ k ≤ l.length ∧ (∀ r, r < k → l[r]? ≠ some x)) (fun i => l.length - (intOf i).toNat)
  case atStart => exact ⟨0, rfl, Nat.zero_le _, fun r hr => by omega⟩
  case round =>
    obtain ⟨k, rfl, hk, hno⟩ := hrel
    have GN := hide hno
    clear hno
    by_cases hlt : k < l.length
    · obtain ⟨b, o, rfl, hb, hc⟩ := HR.out.at_ hlt
      have hg : l[k]? = some l[k] := List.getElem?_eq_getElem hlt
      generalize l[k] = y at *
      have HG := hide hg
      clear hg
      by_cases hx : x = y
      · subst hx
        have hxx : (x == x) = true := by simp
        go_wp2
        go_ret
        exact ⟨.inl ⟨k, hlt, rfl, by simp [HG.out], fun r hr => by simpa using GN.out r hr⟩, rfl⟩
      · have hxx : (x == y) = false := by simpa using hx
        have HX := hide hx
        clear hx
        go_wp2_with fail
        exact ⟨⟨k + 1, by go_num, by omega, fun r hr => by
          by_cases e : r = k
          · rw [e, HG.out]; intro h; exact HX.out (Option.some.inj h).symm
          · exact GN.out r (by omega)⟩, by simp [intOf]; omega⟩
    · obtain rfl : k = l.length := by omega
      go_wp2
      go_ret
      exact ⟨.inr ⟨rfl, fun r hr => by simpa using GN.out r hr⟩, rfl⟩
set_option maxHeartbeats 400000 in
theorem strContains_calls (l : List Str) (x : Str) (A : Option Addr) (c : Nat) (w : World) (hr : RF w (· < w.heap.size) 1 A l.length (l.map sv)) (hn : l.length ≤ 140737488351232) :
    Calls Try.prog 101 #[.slice A l.length c, sv x] w (fun e w' => e = .returned (.bool (decide (x ∈ l))) ∧ w = w') := by
  have HI := hide (strIndex_calls l x A c w hr hn)
  clear hr
  go_enter Try.func101, Try.ntmps101
  go_wp2_with fail
  refine HI.out.mono ?_
  rintro e w1 ⟨hi, rfl⟩
  rcases hi with ⟨k, hk, rfl, hp, hno⟩ | ⟨rfl, hno⟩
  · have HX : Hid (decide (x ∈ l) = true) := hide (decide_eq_true (List.mem_of_getElem? (by simpa using hp)))
    clear hp hno
    go_wp2
    go_ret
    exact ⟨ret_eq (by rw [HX.out]; rfl), rfl⟩
  · have HX : Hid (decide (x ∈ l) = false) := hide (decide_eq_false fun hm => by
      obtain ⟨i, hi, e⟩ := List.getElem_of_mem hm
      have := hno i hi
      simp only [List.getElem?_eq_getElem hi, e] at this
      simp at this)
    clear hno
    go_wp2
    go_ret
    exact ⟨ret_eq (by rw [HX.out]; rfl), rfl⟩

/-- Unlike each other. -/
def unlikeB (l : List Str) : Bool := (List.range l.length).all fun i => !decide (l.getD i [] ∈ l.take i)
set_option maxHeartbeats 1000000 in
theorem unlike_calls (l : List Str) (A : Option Addr) (c : Nat) (w : World) (hr : RF w (· < w.heap.size) 1 A l.length (l.map sv)) (hn : l.length ≤ 140737488351232) (hc : l.length ≤ c) :
    Calls Try.prog 125 #[.slice A l.length c] w (fun e w' => e = .returned (.bool (unlikeB l)) ∧ w = w') := by
  have HR := hide hr
  clear hr
  go_enter Try.func125, Try.ntmps125
  go_wp2_with fail
  go_loop [7] (fun i => ∃ (k : Nat), i = .int .i64 k ∧ k ≤ l.length ∧ (∀ r, r < k → l.getD r [] ∉ l.take r)) (fun i => l.length - (intOf i).toNat)
  case atStart => exact ⟨0, rfl, Nat.zero_le _, fun r hr => by omega⟩
  case round =>
    obtain ⟨k, rfl, hk, hno⟩ := hrel
    have GN := hide hno
    clear hno
    by_cases hlt : k < l.length
    · obtain ⟨b, o, rfl, hb, hcell⟩ := HR.out.at_ hlt
      have hg : l.getD k [] = l[k] := by simp [List.getD, hlt]
      have HRT : Hid (RF w (· < w.heap.size) 1 (some ⟨b, o, none⟩) (l.take k).length ((l.take k).map sv)) := hide (by
        have := Reads.take (k := k) HR.out (by omega)
        rw [Nat.mul_one, ← List.map_take] at this
        rw [List.length_take, Nat.min_eq_left (by omega)]
        exact this)
      have hlen : (l.take k).length = k := by simp; omega
      have HC := hide (fun x => strContains_calls (l.take k) x (some ⟨b, o, none⟩) c w HRT.out (by omega))
      rw [hlen] at HC
      have HG := hide hg
      clear hg hlen
      generalize l[k] = y at *
      cases hx : decide (y ∈ l.take k)
      · have HX := hide hx
        clear hx
        go_wp2_with fail
        refine (HC.out y).mono ?_
        rintro e w1 ⟨rfl, rfl⟩
        rw [HX.out]
        go_wp2_with fail
        exact ⟨⟨k + 1, by go_num, by omega, fun r hr => by
          by_cases e : r = k
          · rw [e, HG.out]; exact of_decide_eq_false HX.out
          · exact GN.out r (by omega)⟩, by simp [intOf]; omega⟩
      · have HX := hide hx
        clear hx
        go_wp2_with fail
        refine (HC.out y).mono ?_
        rintro e w1 ⟨rfl, rfl⟩
        rw [HX.out]
        go_wp2
        go_ret
        exact ⟨ret_eq (by rw [show unlikeB l = false from List.all_eq_false.2 ⟨k, List.mem_range.2 hlt, by rw [HG.out, HX.out]; simp⟩]; rfl), rfl⟩
    · obtain rfl : k = l.length := by omega
      go_wp2
      go_ret
      exact ⟨ret_eq (by rw [show unlikeB l = true from List.all_eq_true.2 fun i hi => by simpa using GN.out i (List.mem_range.1 hi)]; rfl), rfl⟩

/-- None ahead of the one in front of it. -/
def sortedB (l : List Str) : Bool := (List.range (l.length - 1)).all fun i => !sLt (l.getD (i + 1) []) (l.getD i [])
set_option maxHeartbeats 1000000 in
set_option maxRecDepth 20000 in
theorem isSorted_calls (l : List Str) (A : Option Addr) (c : Nat) (w : World) (hr : RF w (· < w.heap.size) 1 A l.length (l.map sv)) (hn : l.length ≤ 140737488351232) :
    Calls Try.prog 144 #[.slice A l.length c] w (Gives (.bool (sortedB l)) w) := by
  have HR := hide hr
  clear hr
  go_enter Try.func144, Try.ntmps144
  go_wp2_with fail
  go_loopw [3] (fun i wr => ∃ (z : Int), i = .int .i64 z ∧ -1 ≤ z ∧ z < l.length ∧ (∀ r : Nat, z ≤ r → r + 1 < l.length → sLt (l.getD (r + 1) []) (l.getD r []) = false) ∧ Below w.heap.size w wr) (fun i _ => (intOf i).toNat)
  case atStart => exact ⟨(l.length : Int) - 1, rfl, by omega, by omega, fun r h1 h2 => by omega, Below.refl _ _⟩
  case round =>
    obtain ⟨z, rfl, hz, hzl, hno, hw⟩ := hrel
    have GN := hide hno
    have GW := hide hw
    clear hno hw
    obtain ⟨wo, rfl⟩ : ∃ wo : World, wo = wr := ⟨_, rfl⟩
    by_cases hz0 : 0 < z
    · obtain ⟨k, rfl⟩ : ∃ k : Nat, z = (k : Int) + 1 := ⟨(z - 1).toNat, by omega⟩
      have h1 : k + 1 < l.length := by omega
      have h0 : k < l.length := by omega
      obtain ⟨b, o, rfl, hb, hc1⟩ := HR.out.at_ h1
      obtain ⟨b', o', e', _, hc0⟩ := HR.out.at_ h0
      obtain ⟨rfl, rfl⟩ : b = b' ∧ o = o' := by injection e' with e'; injection e' with e1 e2; exact ⟨e1, e2⟩
      have hg1 : l.getD (k + 1) [] = l[k + 1] := by simp [List.getD, h1]
      have hg0 : l.getD k [] = l[k] := by simp [List.getD, h0]
      have HG := hide (And.intro hg1 hg0)
      have D1 : Hid (∀ W, Below wo.heap.size wo W → W.cell? ⟨b, o + (k + 1), none⟩ = some (sv l[k + 1])) := hide fun W hW => (hW.cell (p := ⟨b, o + (k + 1), none⟩) (Nat.lt_of_lt_of_le hb GW.out.size)).trans ((GW.out.cell (p := ⟨b, o + (k + 1), none⟩) hb).trans hc1)
      have D0 : Hid (∀ W, Below wo.heap.size wo W → W.cell? ⟨b, o + k, none⟩ = some (sv l[k])) := hide fun W hW => (hW.cell (p := ⟨b, o + k, none⟩) (Nat.lt_of_lt_of_le hb GW.out.size)).trans ((GW.out.cell (p := ⟨b, o + k, none⟩) hb).trans hc0)
      have j0 : (0 : Int) ≤ (k : Int) + 1 := by omega
      have j2 : (k : Int) + 1 < (l.length : Int) := by omega
      have j3 : (0 : Int) ≤ (k : Int) := by omega
      have j4 : (k : Int) < (l.length : Int) := by omega
      have j5 : ((k : Int) + 1).toNat = k + 1 := by omega
      have j6 : IntKind.i64.wrap (k : Int) = (k : Int) := IntWalk.i64_in _ (by omega)
      clear hg1 hg0 e' hc1 hc0
      generalize l[k + 1] = y at *
      generalize l[k] = x at *
      cases hx : sLt y x
      all_goals
        have HX := hide hx
        clear hx
        have HLC := hide (fun W => less_calls y x W)
        rw [HX.out] at HLC
        go_wp2_with fail
        refine wp_region_held_drew (S := fun w' => Below wo.heap.size wo w') (by kernel_rfl) (Below.refl _ _).drew (fun hHeld => ?_)
        (refine takeH (i := 0) (v := .slice (some ⟨b, o, none⟩) l.length c) rfl rfl (by kernel_rfl) (by kernel_rfl) (by kernel_rfl) (fun _ _ _ h => h) (by rfl) (fun wz hSw => by go_simp) hHeld ?_; simp only [Act.put, List.setIfInBounds_toArray, List.set_cons_zero, List.set_cons_succ])
        (refine takeH (i := 1) (v := .int .i64 ((k : Int) + 1)) rfl rfl (by kernel_rfl) (by kernel_rfl) (by kernel_rfl) (fun _ _ _ h => h) (by rfl) (fun wz hSw => by go_simp) hHeld ?_; simp only [Act.put, List.setIfInBounds_toArray, List.set_cons_zero, List.set_cons_succ])
        (refine takeH (i := 2) (v := .pointer (some ⟨b, o + (k + 1), none⟩)) rfl rfl (by kernel_rfl) (by kernel_rfl) (by kernel_rfl) (fun _ _ _ h => h) (by rfl) (fun wz hSw => by go_simp) hHeld ?_; simp only [Act.put, List.setIfInBounds_toArray, List.set_cons_zero, List.set_cons_succ])
        (refine takeH (i := 3) (v := sv y) rfl rfl (by kernel_rfl) (by kernel_rfl) (by kernel_rfl) (fun _ _ _ h => h) (by rfl) (fun wz hSw => by have hcx := D1.out _ hSw; go_simp) hHeld ?_; simp only [Act.put, List.setIfInBounds_toArray, List.set_cons_zero, List.set_cons_succ])
        (refine takeH (i := 4) (v := .slice (some ⟨b, o, none⟩) l.length c) rfl rfl (by kernel_rfl) (by kernel_rfl) (by kernel_rfl) (fun _ _ _ h => h) (by rfl) (fun wz hSw => by go_simp) hHeld ?_; simp only [Act.put, List.setIfInBounds_toArray, List.set_cons_zero, List.set_cons_succ])
        (refine takeH (i := 5) (v := .int .i64 ((k : Int) + 1)) rfl rfl (by kernel_rfl) (by kernel_rfl) (by kernel_rfl) (fun _ _ _ h => h) (by rfl) (fun wz hSw => by go_simp) hHeld ?_; simp only [Act.put, List.setIfInBounds_toArray, List.set_cons_zero, List.set_cons_succ])
        (refine takeH (i := 6) (v := .int .i64 (k : Int)) rfl rfl (by kernel_rfl) (by kernel_rfl) (by kernel_rfl) (fun _ _ _ h => h) (by rfl) (fun wz hSw => by go_simp) hHeld ?_; simp only [Act.put, List.setIfInBounds_toArray, List.set_cons_zero, List.set_cons_succ])
        (refine takeH (i := 7) (v := .pointer (some ⟨b, o + k, none⟩)) rfl rfl (by kernel_rfl) (by kernel_rfl) (by kernel_rfl) (fun _ _ _ h => h) (by rfl) (fun wz hSw => by go_simp) hHeld ?_; simp only [Act.put, List.setIfInBounds_toArray, List.set_cons_zero, List.set_cons_succ])
        (refine takeH (i := 8) (v := sv x) rfl rfl (by kernel_rfl) (by kernel_rfl) (by kernel_rfl) (fun _ _ _ h => h) (by rfl) (fun wz hSw => by have hcx := D0.out _ hSw; go_simp) hHeld ?_; simp only [Act.put, List.setIfInBounds_toArray, List.set_cons_zero, List.set_cons_succ])
        (refine oneH (i := 9) rfl (by kernel_rfl) (fun K hK => ?_); go_simp; refine (HLC.out _).mono ?_; rintro e w1 ⟨rfl, rfl⟩; refine hK.out _ _ (hHeld) (fun hHeld => ?_); clear hK K)
        refine wpAnyH_done (by kernel_rfl) ?_ _
        have KW := hide (GW.out.trans (hHeld.mono GW.out.size))
        clear hHeld j5 j6
      · go_wp2_with fail
        exact ⟨⟨(k : Int), rfl, by omega, by omega, fun r h1 h2 => by
          by_cases e : r = k
          · rw [e, HG.out.1, HG.out.2]; exact HX.out
          · exact GN.out r (by omega) h2, KW.out⟩, by simp [intOf]⟩
      · have HT : Hid (sortedB l = false) := hide (List.all_eq_false.2 ⟨k, List.mem_range.2 (by omega), by rw [HG.out.1, HG.out.2, HX.out]; simp⟩)
        clear GN
        go_wp2
        go_ret
        exact ⟨ret_eq (by rw [HT.out]; rfl), KW.out⟩
    · have HT : Hid (sortedB l = true) := hide (List.all_eq_true.2 fun i hi => by
        have := List.mem_range.1 hi
        rw [GN.out i (by omega) (by omega)]; rfl)
      clear GN
      go_wp2
      go_ret
      exact ⟨ret_eq (by rw [HT.out]; rfl), GW.out⟩

set_option maxHeartbeats 1000000 in
set_option maxRecDepth 20000 in
theorem strEqual_calls (l m : List Str) (A A2 : Option Addr) (c c2 : Nat) (w : World) (hr : RF w (· < w.heap.size) 1 A l.length (l.map sv)) (hr2 : RF w (· < w.heap.size) 1 A2 m.length (m.map sv)) (hn : l.length ≤ 140737488351232) (hm : m.length ≤ 140737488351232) :
    Calls Try.prog 61 #[.slice A l.length c, .slice A2 m.length c2] w (Gives (.bool (decide (l = m))) w) := by
  have HR := hide hr
  have HR2 := hide hr2
  clear hr hr2
  by_cases hlen : l.length = m.length
  · have hne : ((l.length : Int) != (m.length : Int)) = false := by simp [hlen]
    have HLen := hide hlen
    clear hlen
    go_enter Try.func61, Try.ntmps61
    go_wp2_with fail
    go_loopw [13] (fun i wr => ∃ (k : Nat), i = .int .i64 k ∧ k ≤ l.length ∧ l.take k = m.take k ∧ Below w.heap.size w wr) (fun i _ => l.length - (intOf i).toNat)
    case atStart => exact ⟨0, rfl, Nat.zero_le _, by simp, Below.refl _ _⟩
    case round =>
      obtain ⟨k, rfl, hk, heq, hw⟩ := hrel
      have GW := hide hw
      have GE := hide heq
      clear hw heq
      obtain ⟨wo, rfl⟩ : ∃ wo : World, wo = wr := ⟨_, rfl⟩
      by_cases hlt : k < l.length
      · have hlt2 : k < m.length := by rw [← HLen.out]; exact hlt
        obtain ⟨b, o, rfl, hb, hc1⟩ := HR.out.at_ hlt
        obtain ⟨b2, o2, rfl, hb2, hc2⟩ := HR2.out.at_ hlt2
        have D1 : Hid (∀ W, Below wo.heap.size wo W → W.cell? ⟨b, o + k, none⟩ = some (sv l[k])) := hide fun W hW => (hW.cell (p := ⟨b, o + k, none⟩) (Nat.lt_of_lt_of_le hb GW.out.size)).trans ((GW.out.cell (p := ⟨b, o + k, none⟩) hb).trans hc1)
        have D2 : Hid (∀ W, Below wo.heap.size wo W → W.cell? ⟨b2, o2 + k, none⟩ = some (sv m[k])) := hide fun W hW => (hW.cell (p := ⟨b2, o2 + k, none⟩) (Nat.lt_of_lt_of_le hb2 GW.out.size)).trans ((GW.out.cell (p := ⟨b2, o2 + k, none⟩) hb2).trans hc2)
        have j1 : (0 : Int) ≤ (k : Int) := by omega
        have j2 : (k : Int) < (l.length : Int) := by omega
        have j3 : (k : Int) < (m.length : Int) := by omega
        have HT : Hid (l[k] = m[k] → l.take (k + 1) = m.take (k + 1)) := hide fun e => by rw [List.take_succ_eq_append_getElem hlt, List.take_succ_eq_append_getElem hlt2, GE.out, e]
        have HD : Hid (l[k] ≠ m[k] → decide (l = m) = false) := hide fun e => by
          rw [decide_eq_false_iff_not]
          rintro rfl
          exact e rfl
        clear hc1 hc2
        generalize l[k] = x at *
        generalize m[k] = y at *
        cases hx : (x == y)
        all_goals
          have HX := hide hx
          go_wp2_with fail
          refine wp_region_held_drew (S := fun w' => Below wo.heap.size wo w') (by kernel_rfl) (Below.refl _ _).drew (fun hHeld => ?_)
          (refine takeH (i := 0) (v := .slice (some ⟨b, o, none⟩) l.length c) rfl rfl (by kernel_rfl) (by kernel_rfl) (by kernel_rfl) (fun _ _ _ h => h) (by rfl) (fun wz hSw => by go_simp) hHeld ?_; simp only [Act.put, List.setIfInBounds_toArray, List.set_cons_zero, List.set_cons_succ])
          (refine takeH (i := 1) (v := .int .i64 k) rfl rfl (by kernel_rfl) (by kernel_rfl) (by kernel_rfl) (fun _ _ _ h => h) (by rfl) (fun wz hSw => by go_simp) hHeld ?_; simp only [Act.put, List.setIfInBounds_toArray, List.set_cons_zero, List.set_cons_succ])
          (refine takeH (i := 2) (v := .pointer (some ⟨b, o + k, none⟩)) rfl rfl (by kernel_rfl) (by kernel_rfl) (by kernel_rfl) (fun _ _ _ h => h) (by rfl) (fun wz hSw => by go_simp) hHeld ?_; simp only [Act.put, List.setIfInBounds_toArray, List.set_cons_zero, List.set_cons_succ])
          (refine takeH (i := 3) (v := sv x) rfl rfl (by kernel_rfl) (by kernel_rfl) (by kernel_rfl) (fun _ _ _ h => h) (by rfl) (fun wz hSw => by have hcx := D1.out _ hSw; go_simp) hHeld ?_; simp only [Act.put, List.setIfInBounds_toArray, List.set_cons_zero, List.set_cons_succ])
          (refine takeH (i := 4) (v := .slice (some ⟨b2, o2, none⟩) m.length c2) rfl rfl (by kernel_rfl) (by kernel_rfl) (by kernel_rfl) (fun _ _ _ h => h) (by rfl) (fun wz hSw => by go_simp) hHeld ?_; simp only [Act.put, List.setIfInBounds_toArray, List.set_cons_zero, List.set_cons_succ])
          (refine takeH (i := 5) (v := .int .i64 k) rfl rfl (by kernel_rfl) (by kernel_rfl) (by kernel_rfl) (fun _ _ _ h => h) (by rfl) (fun wz hSw => by go_simp) hHeld ?_; simp only [Act.put, List.setIfInBounds_toArray, List.set_cons_zero, List.set_cons_succ])
          (refine takeH (i := 6) (v := .pointer (some ⟨b2, o2 + k, none⟩)) rfl rfl (by kernel_rfl) (by kernel_rfl) (by kernel_rfl) (fun _ _ _ h => h) (by rfl) (fun wz hSw => by go_simp) hHeld ?_; simp only [Act.put, List.setIfInBounds_toArray, List.set_cons_zero, List.set_cons_succ])
          (refine takeH (i := 7) (v := sv y) rfl rfl (by kernel_rfl) (by kernel_rfl) (by kernel_rfl) (fun _ _ _ h => h) (by rfl) (fun wz hSw => by have hcx := D2.out _ hSw; go_simp) hHeld ?_; simp only [Act.put, List.setIfInBounds_toArray, List.set_cons_zero, List.set_cons_succ])
          (refine oneH (i := 8) rfl (by kernel_rfl) (fun K hK => ?_); go_simp; refine hK.out _ _ (hHeld) (fun hHeld => ?_); clear hK K)
          refine wpAnyH_done (by kernel_rfl) ?_ _
          have KW := hide (GW.out.trans (hHeld.mono GW.out.size))
          clear hHeld hx
        · go_wp2
          go_ret
          exact ⟨ret_eq (by rw [HD.out (by simpa using HX.out)]; rfl), KW.out⟩
        · go_wp2_with fail
          exact ⟨⟨k + 1, by go_num, by omega, HT.out (by simpa using HX.out), KW.out⟩, by simp [intOf]; omega⟩
      · obtain rfl : k = l.length := by omega
        have e : l = m := by
          have := GE.out
          rw [List.take_length] at this
          rw [this]
          exact List.take_of_length_le (by rw [← HLen.out]; exact Nat.le_refl _)
        have HE := hide e
        clear e
        go_wp2
        go_ret
        exact ⟨ret_eq (by rw [decide_eq_true HE.out]; rfl), GW.out⟩
  · have hne : ((l.length : Int) != (m.length : Int)) = true := by simp; omega
    have HD : Hid (decide (l = m) = false) := hide (decide_eq_false fun e => hlen (by rw [e]))
    clear hlen
    go_enter Try.func61, Try.ntmps61
    go_wp2
    go_ret
    exact ⟨ret_eq (by rw [HD.out]; rfl), Below.refl _ _⟩
end Go.Proofs.Ytpnjkebjdclkfaa
