/- The reader's frame 'field': a field is read by a function that is handed on (one or two captured variables). Conditions: lengths below 2^40. -/
import Derived.Test.YtidohbnmkogkmaaPackR
namespace Go.Proofs.Ytidohbnmkogkmaa
open Go.RowKit
section
variable (g : Nat) (bs : List UInt8) (at_ : Nat) (w : World)
set_option maxHeartbeats 1000000 in
theorem field_ok0_1 (K : FuncId) (cap1 : Value) (n : Nat) (P : World → Prop) (h : IsR w g bs at_ none) (hn : at_ + n ≤ bs.length)
    (hK : ∀ args W, (callFunc K args).run Try.prog W = .ok (.enter K args) W)
    (hk : ∀ A' c', Reads w.drew w.heap.size 1 A' (bs.length - at_) ((bs.drop at_).map bv) → bs.length - at_ ≤ c' → c' ≤ maxLen → Calls Try.prog K #[.slice A' (bs.length - at_) c', cap1] w.drew (KPost n 0 P)) (hP : ∀ w1, P w1 → IsR w1 g bs at_ none) :
    Calls Try.prog 53 #[.pointer (some ⟨g, 0, none⟩), .func (.func K) #[] #[cap1]] w
      (fun e w' => e = .returned (.tuple #[]) ∧ ∃ w1, P w1 ∧ Fr (fun k => k = g) w1 w' ∧ IsR w' g bs (at_ + n) none) := by
  have H := hide h
  obtain ⟨A, c, ev, h1, h2, h3, h4, h5, rfl, h7, h8⟩ := h
  have c0 : w.cell? ⟨g, 0, none⟩ = some (.slice A bs.length c) := h1.cell 0
  have c1 : w.cell? ⟨g, 1, none⟩ = some (.int .i64 at_) := h1.cell 1
  have c2 : w.cell? ⟨g, 2, none⟩ = some .nilIface := h1.cell 2
  have HK := hide hk
  have HP := hide hP
  have HC := hide (Reads.drew (h2.cut (k := at_) (cap := c) h7 h4))
  rw [Nat.mul_one, ← List.map_drop] at HC
  obtain ⟨A', hA'⟩ : ∃ A', (if c = at_ then A else A.map (fun x => x.add at_)) = A' := ⟨_, rfl⟩
  rw [hA'] at HC
  have i1 : (0 : Int) ≤ (at_ : Int) := by omega
  have i2 : (at_ : Int) ≤ (bs.length : Int) := by omega
  have i3 : (bs.length : Int) ≤ (c : Int) := by omega
  clear hk hP h1 h2 h3
  go_enter Try.func53, Try.ntmps53
  go_wp2_with fail
  go_region_with ((refine (HK.out _ _ HC.out (by omega) (Nat.le_trans (Nat.sub_le _ _) h5)).mono ?_; rintro e w1 ⟨rfl, hp⟩))
  all_goals
    have hr := HP.out _ hp
    obtain ⟨A2, c9, ev2, g1, g2, g3, g4, g5, rfl, g7, g8⟩ := hr
    have d1 : w1.cell? ⟨g, 1, none⟩ = some (.int .i64 at_) := g1.cell 1
    have d2 : w1.frozen? ⟨g, 1, none⟩ = false := g1.frozen 1
    have G1 := hide g1
    have G2 := hide g2
    clear g1 g2 c0 c1 c2
    go_wp2
    go_end0
    have hf := (Fr.refl (fun k => k = g) w1).setCell (p := ⟨g, 1, none⟩) (.inl rfl) (.int .i64 ((at_ : Int) + n))
    exact ⟨rfl, w1, hp, hf, IsR.upd G2.out g3 g4 g5 g8 hf (G1.out.set_ 1 _) rfl hn⟩
set_option maxHeartbeats 1000000 in
theorem field_okC_1 (K : FuncId) (cap1 : Value) (n : Nat) (code : Int) (P : World → Prop) (hcode : (code != 0) = true) (h : IsR w g bs at_ none)
    (hK : ∀ args W, (callFunc K args).run Try.prog W = .ok (.enter K args) W)
    (hk : ∀ A' c', Reads w.drew w.heap.size 1 A' (bs.length - at_) ((bs.drop at_).map bv) → bs.length - at_ ≤ c' → c' ≤ maxLen → Calls Try.prog K #[.slice A' (bs.length - at_) c', cap1] w.drew (KPost n code P)) (hP : ∀ w1, P w1 → IsR w1 g bs at_ none) :
    Calls Try.prog 53 #[.pointer (some ⟨g, 0, none⟩), .func (.func K) #[] #[cap1]] w
      (fun e w' => e = .returned (.tuple #[]) ∧ ∃ w1, P w1 ∧ Fr (fun k => k = g) w1 w' ∧ IsR w' g bs at_ (some (code, at_))) := by
  have H := hide h
  obtain ⟨A, c, ev, h1, h2, h3, h4, h5, rfl, h7, h8⟩ := h
  have c0 : w.cell? ⟨g, 0, none⟩ = some (.slice A bs.length c) := h1.cell 0
  have c1 : w.cell? ⟨g, 1, none⟩ = some (.int .i64 at_) := h1.cell 1
  have c2 : w.cell? ⟨g, 2, none⟩ = some .nilIface := h1.cell 2
  have HK := hide hk
  have HP := hide hP
  have HC := hide (Reads.drew (h2.cut (k := at_) (cap := c) h7 h4))
  rw [Nat.mul_one, ← List.map_drop] at HC
  obtain ⟨A', hA'⟩ : ∃ A', (if c = at_ then A else A.map (fun x => x.add at_)) = A' := ⟨_, rfl⟩
  rw [hA'] at HC
  have i1 : (0 : Int) ≤ (at_ : Int) := by omega
  have i2 : (at_ : Int) ≤ (bs.length : Int) := by omega
  have i3 : (bs.length : Int) ≤ (c : Int) := by omega
  clear hk hP h1 h2 h3
  go_enter Try.func53, Try.ntmps53
  go_wp2_with fail
  go_region_with ((refine (HK.out _ _ HC.out (by omega) (Nat.le_trans (Nat.sub_le _ _) h5)).mono ?_; rintro e w1 ⟨rfl, hp⟩))
  all_goals
    have hr := HP.out _ hp
    have HR2 := hide hr
    clear hr c0 c1 c2
    go_wp2_with fail
    refine (fail_none g bs at_ w1 code (by simpa using hcode) HR2.out).mono ?_
    rintro e w2 ⟨rfl, hr2, hf2⟩
    have HR3 := hide hr2
    have HF3 := hide hf2
    clear hr2 hf2
    go_wp2
    refine bodyPost_ret (results_none rfl _ _ _) rfl ?_
    exact ⟨rfl, w1, hp, HF3.out, HR3.out⟩
set_option maxHeartbeats 1000000 in
theorem field_ok0_2 (K : FuncId) (cap1 cap2 : Value) (n : Nat) (P : World → Prop) (h : IsR w g bs at_ none) (hn : at_ + n ≤ bs.length)
    (hK : ∀ args W, (callFunc K args).run Try.prog W = .ok (.enter K args) W)
    (hk : ∀ A' c', Reads w.drew w.heap.size 1 A' (bs.length - at_) ((bs.drop at_).map bv) → bs.length - at_ ≤ c' → c' ≤ maxLen → Calls Try.prog K #[.slice A' (bs.length - at_) c', cap1, cap2] w.drew (KPost n 0 P)) (hP : ∀ w1, P w1 → IsR w1 g bs at_ none) :
    Calls Try.prog 53 #[.pointer (some ⟨g, 0, none⟩), .func (.func K) #[] #[cap1, cap2]] w
      (fun e w' => e = .returned (.tuple #[]) ∧ ∃ w1, P w1 ∧ Fr (fun k => k = g) w1 w' ∧ IsR w' g bs (at_ + n) none) := by
  have H := hide h
  obtain ⟨A, c, ev, h1, h2, h3, h4, h5, rfl, h7, h8⟩ := h
  have c0 : w.cell? ⟨g, 0, none⟩ = some (.slice A bs.length c) := h1.cell 0
  have c1 : w.cell? ⟨g, 1, none⟩ = some (.int .i64 at_) := h1.cell 1
  have c2 : w.cell? ⟨g, 2, none⟩ = some .nilIface := h1.cell 2
  have HK := hide hk
  have HP := hide hP
  have HC := hide (Reads.drew (h2.cut (k := at_) (cap := c) h7 h4))
  rw [Nat.mul_one, ← List.map_drop] at HC
  obtain ⟨A', hA'⟩ : ∃ A', (if c = at_ then A else A.map (fun x => x.add at_)) = A' := ⟨_, rfl⟩
  rw [hA'] at HC
  have i1 : (0 : Int) ≤ (at_ : Int) := by omega
  have i2 : (at_ : Int) ≤ (bs.length : Int) := by omega
  have i3 : (bs.length : Int) ≤ (c : Int) := by omega
  clear hk hP h1 h2 h3
  go_enter Try.func53, Try.ntmps53
  go_wp2_with fail
  go_region_with ((refine (HK.out _ _ HC.out (by omega) (Nat.le_trans (Nat.sub_le _ _) h5)).mono ?_; rintro e w1 ⟨rfl, hp⟩))
  all_goals
    have hr := HP.out _ hp
    obtain ⟨A2, c9, ev2, g1, g2, g3, g4, g5, rfl, g7, g8⟩ := hr
    have d1 : w1.cell? ⟨g, 1, none⟩ = some (.int .i64 at_) := g1.cell 1
    have d2 : w1.frozen? ⟨g, 1, none⟩ = false := g1.frozen 1
    have G1 := hide g1
    have G2 := hide g2
    clear g1 g2 c0 c1 c2
    go_wp2
    go_end0
    have hf := (Fr.refl (fun k => k = g) w1).setCell (p := ⟨g, 1, none⟩) (.inl rfl) (.int .i64 ((at_ : Int) + n))
    exact ⟨rfl, w1, hp, hf, IsR.upd G2.out g3 g4 g5 g8 hf (G1.out.set_ 1 _) rfl hn⟩
set_option maxHeartbeats 1000000 in
theorem field_okC_2 (K : FuncId) (cap1 cap2 : Value) (n : Nat) (code : Int) (P : World → Prop) (hcode : (code != 0) = true) (h : IsR w g bs at_ none)
    (hK : ∀ args W, (callFunc K args).run Try.prog W = .ok (.enter K args) W)
    (hk : ∀ A' c', Reads w.drew w.heap.size 1 A' (bs.length - at_) ((bs.drop at_).map bv) → bs.length - at_ ≤ c' → c' ≤ maxLen → Calls Try.prog K #[.slice A' (bs.length - at_) c', cap1, cap2] w.drew (KPost n code P)) (hP : ∀ w1, P w1 → IsR w1 g bs at_ none) :
    Calls Try.prog 53 #[.pointer (some ⟨g, 0, none⟩), .func (.func K) #[] #[cap1, cap2]] w
      (fun e w' => e = .returned (.tuple #[]) ∧ ∃ w1, P w1 ∧ Fr (fun k => k = g) w1 w' ∧ IsR w' g bs at_ (some (code, at_))) := by
  have H := hide h
  obtain ⟨A, c, ev, h1, h2, h3, h4, h5, rfl, h7, h8⟩ := h
  have c0 : w.cell? ⟨g, 0, none⟩ = some (.slice A bs.length c) := h1.cell 0
  have c1 : w.cell? ⟨g, 1, none⟩ = some (.int .i64 at_) := h1.cell 1
  have c2 : w.cell? ⟨g, 2, none⟩ = some .nilIface := h1.cell 2
  have HK := hide hk
  have HP := hide hP
  have HC := hide (Reads.drew (h2.cut (k := at_) (cap := c) h7 h4))
  rw [Nat.mul_one, ← List.map_drop] at HC
  obtain ⟨A', hA'⟩ : ∃ A', (if c = at_ then A else A.map (fun x => x.add at_)) = A' := ⟨_, rfl⟩
  rw [hA'] at HC
  have i1 : (0 : Int) ≤ (at_ : Int) := by omega
  have i2 : (at_ : Int) ≤ (bs.length : Int) := by omega
  have i3 : (bs.length : Int) ≤ (c : Int) := by omega
  clear hk hP h1 h2 h3
  go_enter Try.func53, Try.ntmps53
  go_wp2_with fail
  go_region_with ((refine (HK.out _ _ HC.out (by omega) (Nat.le_trans (Nat.sub_le _ _) h5)).mono ?_; rintro e w1 ⟨rfl, hp⟩))
  all_goals
    have hr := HP.out _ hp
    have HR2 := hide hr
    clear hr c0 c1 c2
    go_wp2_with fail
    refine (fail_none g bs at_ w1 code (by simpa using hcode) HR2.out).mono ?_
    rintro e w2 ⟨rfl, hr2, hf2⟩
    have HR3 := hide hr2
    have HF3 := hide hf2
    clear hr2 hf2
    go_wp2
    refine bodyPost_ret (results_none rfl _ _ _) rfl ?_
    exact ⟨rfl, w1, hp, HF3.out, HR3.out⟩
end
end Go.Proofs.Ytidohbnmkogkmaa
