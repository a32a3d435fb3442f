/- The pack laws' own helpers: awake, writes. Conditions: none. -/
import Derived.Test.YtidohbnmkogkmaaPackW
import Derived.Test.YtidohbnmkogkmaaRef01
import Derived.Test.YtidohbnmkogkmaaField
namespace Go.Proofs.Ytidohbnmkogkmaa
open Go.RowKit

theorem awakeB : (([] ++ numB 300) ++ numB (zig (-1)) : List UInt8) = [172, 2, 1] := by
  rw [numB_ge 300 (by omega), numB_lt (300 / 128) (by omega), numB_lt (zig (-1)) (by decide)]
  decide

set_option maxHeartbeats 400000 in
theorem packAwake_calls (w : World) : Calls Try.prog 14 #[] w (Gives (.bool true) w) := by
  have hW := IsW.new w
  have HW := hide hW
  clear hW
  have i1 : IsU64 300 := by unfold IsU64; omega
  have i2 : IsI64 (-1) := by unfold IsI64; omega
  have I1 := hide i1
  have I2 := hide i2
  clear i1 i2
  go_enter Try.func14, Try.ntmps14
  go_wp2_with fail
  refine (number_calls _ [] _ _ 300 I1.out HW.out (by simp)).mono ?_
  rintro e w1 ⟨rfl, hW1, hf1⟩
  have HW1 := hide hW1
  have HF1 := hide hf1
  clear hW1 hf1
  go_wp2_with fail
  refine (int_calls _ _ _ w1 (-1) I2.out HW1.out (by simp [numB_ge 300 (by omega), numB_lt (300 / 128) (by omega)])).mono ?_
  rintro e w2 ⟨rfl, hW2, hf2⟩
  have HW2 := hide hW2
  have HF2 := hide (HF1.out.trans hf2)
  clear hW2 hf2
  go_wp2_with fail
  rw [awakeB] at HW2
  refine (out_calls _ [172, 2, 1] _ w2 HW2.out (by simp)).mono ?_
  rintro e w3 ⟨A, c, rfl, hown, hb3⟩
  have HO := hide hown
  have HB := hide hb3
  clear hown hb3
  go_wp2_with fail
  refine (refEqBytes_calls [172, 2, 1] [172, 2, 1] _ _ _ _ _ _ _ ((Reads.of_own HO.out).alloc (Nat.le_refl _) _) (Reads.lit w3 _ [bv 172, bv 2, bv 1] (by simp [maxLen])) (by simp)).mono ?_
  rintro e w4 ⟨rfl, n, rfl⟩
  go_wp2
  go_ret
  refine ⟨ret_eq (by rfl), ?_⟩
  have h2 : Below w.heap.size w w2 := ((Below.refl _ _).alloc (Nat.le_refl _) _).trans (HF2.out.below (by simp) (fun k hk h => by omega))
  exact ((h2.trans (HB.out.mono h2.size)).alloc (Nat.le_trans h2.size HB.out.size) _).trans ⟨rfl, rfl, rfl, Nat.le_refl _, fun _ _ => rfl⟩

/-- The bytes of a field. -/
def fieldB (d : DField) : List UInt8 :=
  if d.kind = 0 then [b8 d.n] else if d.kind = 1 then numB d.n else if d.kind = 2 then numB (zig (wrap64 d.n)) else if d.kind = 3 then [if d.n % 2 = 1 then 1 else 0]
  else if d.kind = 4 ∨ d.kind = 5 then numB d.b.length ++ d.b else d.b
theorem wrap64_i64 (n : Int) : IsI64 (wrap64 n) := by unfold IsI64; unfold wrap64; omega
def WritesPost (w : World) (F : Nat → Prop) (g : Nat) (l src : List UInt8) (e : Ending) (w' : World) : Prop :=
  ∃ A c, e = .returned (.slice A src.length c) ∧ Reads w' w'.heap.size 1 A src.length (src.map bv) ∧ IsW w' (fun k => F k ∨ w.heap.size ≤ k) g (l ++ src) ∧ Fr F w w'
def WritesAt (w : World) (F : Nat → Prop) (B g : Nat) (l : List UInt8) (d : DField) (A : Option Addr) (c : Nat) : Prop :=
  IsW w F g l → Reads w B 1 A d.b.length (d.b.map bv) → B ≤ w.heap.size → (0 < d.b.length → ∀ ad, A = some ad → ¬ F ad.block) → IsU64 d.n → l.length ≤ 1000000 → d.b.length ≤ 1000000 →
  Calls Try.prog 15 #[.pointer (some ⟨g, 0, none⟩), .agg #[.int .i64 d.kind, .int .u64 d.n, .slice A d.b.length c, .int .i64 d.most]] w (WritesPost w F g l (fieldB d))

theorem writes_end {w w1 w2 : World} {F : Nat → Prop} {g : Nat} {l : List UInt8} {o : Obj} (hf : Fr (fun x => F x ∧ x < w.heap.size) (w.alloc o) w1)
    (hW : IsW w1 (fun k => (F k ∧ k < w.heap.size) ∨ (w.alloc o).heap.size ≤ k) g l) (hb : Below w1.heap.size w1 w2) : IsW w2 (fun k => F k ∨ w.heap.size ≤ k) g l ∧ Fr F w w2 := by
  refine ⟨(hW.mono fun k _ hk => ?_).below hb, ?_⟩
  · rcases hk with hk | hk
    · exact .inl hk.1
    · exact .inr (by simp at hk; omega)
  · exact (((Fr.refl F w).alloc o).trans (hf.mono fun k _ hk => .inl hk.1)).trans (Fr.of_below' hb _)

set_option maxHeartbeats 400000 in
set_option maxRecDepth 20000 in
theorem writes_calls0 (w : World) (F : Nat → Prop) (B g : Nat) (l : List UInt8) (d : DField) (A : Option Addr) (c : Nat) (k0 : d.kind = 0) : WritesAt w F B g l d A c := by
  intro hW hr hBw hF hu hl hb
  have e0 : (d.kind == 0) = true := by simp [k0]
  have HW := hide ((hW.mono (G := fun x => F x ∧ x < w.heap.size) (fun x h1 h2 => ⟨h2, h1⟩)).alloc (.cells #[.int .i64 d.kind, .int .u64 d.n, .slice A d.b.length c, .int .i64 d.most] 39))
  have HRA := hide (hr.alloc hBw (.cells #[.int .i64 d.kind, .int .u64 d.n, .slice A d.b.length c, .int .i64 d.most] 39))
  have HK := hide (And.intro hW hr)
  have HNF : Hid (0 < d.b.length → ∀ ad, A = some ad → ¬ (F ad.block ∧ ad.block < w.heap.size)) := fun h0 ad h1 h2 => hF h0 ad h1 h2.1
  have HU := hide hu
  have HF := hide hF
  have HKK := hide (show d.kind = 0 ∧ True from ⟨k0, trivial⟩)
  clear hW hr hu hF k0
  have eb : bv (b8 d.n) = .int .u8 ((d.n : Int) % 256) := int_eq (by simp [b8])
  go_enter Try.func15, Try.ntmps15
  go_wp2_with fail
  rw [← eb]
  refine (byte_calls _ l _ _ (b8 d.n) HW.out (by omega)).mono ?_
  rintro e w1 ⟨rfl, hW1, hf1⟩
  have hb1 := (Blk.new w 39 #[.int .i64 d.kind, .int .u64 d.n, .slice A d.b.length c, .int .i64 d.most]).fr hf1 (fun h => Nat.lt_irrefl _ h.2)
  have HW1 := hide hW1
  have HF1 := hide hf1
  have HRA1 := hide (HRA.out.fr' hf1 (by simpa using Nat.le_succ_of_le hBw) HNF.out)
  have c1 : w1.cell? ⟨w.heap.size, 1, none⟩ = some (.int .u64 d.n) := hb1.cell 1
  clear hb1 hW1 hf1
  go_wp2
  go_ret
  have hs : fieldB d = [b8 d.n] := by simp [fieldB, HKK.out]
  obtain ⟨h1, h2⟩ := writes_end HF1.out HW1.out ((Below.refl _ w1).alloc (Nat.le_refl _) (.cells #[bv (b8 d.n)] 5))
  rw [hs]
  have := Reads.lit w1 5 [bv (b8 d.n)] (by simp [maxLen])
  exact ⟨some ⟨w1.heap.size, 0, none⟩, 1, ret_eq rfl, by have h3 := this; rw [eb] at h3; simpa [eb] using h3, by rw [eb] at h1; exact h1, by rw [eb] at h2; exact h2⟩

set_option maxHeartbeats 400000 in
set_option maxRecDepth 20000 in
theorem writes_calls1 (w : World) (F : Nat → Prop) (B g : Nat) (l : List UInt8) (d : DField) (A : Option Addr) (c : Nat) (k0 : d.kind ≠ 0) (k1 : d.kind = 1) : WritesAt w F B g l d A c := by
  intro hW hr hBw hF hu hl hb
  have e0 : (d.kind == 0) = false := by simp [k0]
  have e1 : (d.kind == 1) = true := by simp [k1]
  have HW := hide ((hW.mono (G := fun x => F x ∧ x < w.heap.size) (fun x h1 h2 => ⟨h2, h1⟩)).alloc (.cells #[.int .i64 d.kind, .int .u64 d.n, .slice A d.b.length c, .int .i64 d.most] 39))
  have HRA := hide (hr.alloc hBw (.cells #[.int .i64 d.kind, .int .u64 d.n, .slice A d.b.length c, .int .i64 d.most] 39))
  have HK := hide (And.intro hW hr)
  have HNF : Hid (0 < d.b.length → ∀ ad, A = some ad → ¬ (F ad.block ∧ ad.block < w.heap.size)) := fun h0 ad h1 h2 => hF h0 ad h1 h2.1
  have HU := hide hu
  have HF := hide hF
  have HKK := hide (show d.kind ≠ 0 ∧ d.kind = 1 ∧ True from ⟨k0, k1, trivial⟩)
  clear hW hr hu hF k0 k1
  go_enter Try.func15, Try.ntmps15
  go_wp2_with fail
  refine (number_calls _ l _ _ d.n HU.out HW.out (by omega)).mono ?_
  rintro e w1 ⟨rfl, hW1, hf1⟩
  have hb1 := (Blk.new w 39 #[.int .i64 d.kind, .int .u64 d.n, .slice A d.b.length c, .int .i64 d.most]).fr hf1 (fun h => Nat.lt_irrefl _ h.2)
  have HW1 := hide hW1
  have HF1 := hide hf1
  have HRA1 := hide (HRA.out.fr' hf1 (by simpa using Nat.le_succ_of_le hBw) HNF.out)
  have c1 : w1.cell? ⟨w.heap.size, 1, none⟩ = some (.int .u64 d.n) := hb1.cell 1
  clear hb1 hW1 hf1
  go_wp2_with fail
  refine (refNumber_calls d.n w1 HU.out).mono ?_
  rintro e w2 ⟨A2, c2, rfl, hown, hb2⟩
  have HO := hide hown
  have HB2 := hide hb2
  clear hown hb2
  go_wp2
  go_ret
  have hs : fieldB d = numB d.n := by simp [fieldB, HKK.out]
  obtain ⟨h1, h2⟩ := writes_end HF1.out HW1.out HB2.out
  rw [hs]
  exact ⟨A2, c2, ret_eq rfl, Reads.of_own HO.out, h1, h2⟩

set_option maxHeartbeats 400000 in
set_option maxRecDepth 20000 in
theorem writes_calls2 (w : World) (F : Nat → Prop) (B g : Nat) (l : List UInt8) (d : DField) (A : Option Addr) (c : Nat) (k0 : d.kind ≠ 0) (k1 : d.kind ≠ 1) (k2 : d.kind = 2) : WritesAt w F B g l d A c := by
  intro hW hr hBw hF hu hl hb
  have e0 : (d.kind == 0) = false := by simp [k0]
  have e1 : (d.kind == 1) = false := by simp [k1]
  have e2 : (d.kind == 2) = true := by simp [k2]
  have HW := hide ((hW.mono (G := fun x => F x ∧ x < w.heap.size) (fun x h1 h2 => ⟨h2, h1⟩)).alloc (.cells #[.int .i64 d.kind, .int .u64 d.n, .slice A d.b.length c, .int .i64 d.most] 39))
  have HRA := hide (hr.alloc hBw (.cells #[.int .i64 d.kind, .int .u64 d.n, .slice A d.b.length c, .int .i64 d.most] 39))
  have HK := hide (And.intro hW hr)
  have HNF : Hid (0 < d.b.length → ∀ ad, A = some ad → ¬ (F ad.block ∧ ad.block < w.heap.size)) := fun h0 ad h1 h2 => hF h0 ad h1 h2.1
  have HU := hide hu
  have HF := hide hF
  have HI : Hid (IsI64 (wrap64 d.n)) := wrap64_i64 _
  have HKK := hide (show d.kind ≠ 0 ∧ d.kind ≠ 1 ∧ d.kind = 2 ∧ True from ⟨k0, k1, k2, trivial⟩)
  clear hW hr hu hF k0 k1 k2
  go_enter Try.func15, Try.ntmps15
  go_wp2_with fail
  refine (int_calls _ l _ _ _ HI.out HW.out (by omega)).mono ?_
  rintro e w1 ⟨rfl, hW1, hf1⟩
  have hb1 := (Blk.new w 39 #[.int .i64 d.kind, .int .u64 d.n, .slice A d.b.length c, .int .i64 d.most]).fr hf1 (fun h => Nat.lt_irrefl _ h.2)
  have HW1 := hide hW1
  have HF1 := hide hf1
  have HRA1 := hide (HRA.out.fr' hf1 (by simpa using Nat.le_succ_of_le hBw) HNF.out)
  have c1 : w1.cell? ⟨w.heap.size, 1, none⟩ = some (.int .u64 d.n) := hb1.cell 1
  clear hb1 hW1 hf1
  go_wp2_with fail
  refine (refInt_calls _ w1 HI.out).mono ?_
  rintro e w2 ⟨A2, c2, rfl, hown, hb2⟩
  have HO := hide hown
  have HB2 := hide hb2
  clear hown hb2
  go_wp2
  go_ret
  have hs : fieldB d = numB (zig (wrap64 d.n)) := by simp [fieldB, HKK.out]
  obtain ⟨h1, h2⟩ := writes_end HF1.out HW1.out HB2.out
  rw [hs]
  exact ⟨A2, c2, ret_eq rfl, Reads.of_own HO.out, h1, h2⟩

set_option maxHeartbeats 400000 in
set_option maxRecDepth 20000 in
theorem writes_calls3 (w : World) (F : Nat → Prop) (B g : Nat) (l : List UInt8) (d : DField) (A : Option Addr) (c : Nat) (k0 : d.kind ≠ 0) (k1 : d.kind ≠ 1) (k2 : d.kind ≠ 2) (k3 : d.kind = 3) : WritesAt w F B g l d A c := by
  intro hW hr hBw hF hu hl hb
  have e0 : (d.kind == 0) = false := by simp [k0]
  have e1 : (d.kind == 1) = false := by simp [k1]
  have e2 : (d.kind == 2) = false := by simp [k2]
  have e3 : (d.kind == 3) = true := by simp [k3]
  have HW := hide ((hW.mono (G := fun x => F x ∧ x < w.heap.size) (fun x h1 h2 => ⟨h2, h1⟩)).alloc (.cells #[.int .i64 d.kind, .int .u64 d.n, .slice A d.b.length c, .int .i64 d.most] 39))
  have HRA := hide (hr.alloc hBw (.cells #[.int .i64 d.kind, .int .u64 d.n, .slice A d.b.length c, .int .i64 d.most] 39))
  have HK := hide (And.intro hW hr)
  have HNF : Hid (0 < d.b.length → ∀ ad, A = some ad → ¬ (F ad.block ∧ ad.block < w.heap.size)) := fun h0 ad h1 h2 => hF h0 ad h1 h2.1
  have HU := hide hu
  have HF := hide hF
  have HKK := hide (show d.kind ≠ 0 ∧ d.kind ≠ 1 ∧ d.kind ≠ 2 ∧ d.kind = 3 ∧ True from ⟨k0, k1, k2, k3, trivial⟩)
  clear hW hr hu hF k0 k1 k2 k3
  have eb : ((d.n : Int) % 2 == 1) = decide (d.n % 2 = 1) := by rw [Bool.eq_iff_iff]; simp; omega
  go_enter Try.func15, Try.ntmps15
  go_wp2_with fail
  refine (bool_calls _ l _ _ (decide (d.n % 2 = 1)) HW.out (by omega)).mono ?_
  rintro e w1 ⟨rfl, hW1, hf1⟩
  have hb1 := (Blk.new w 39 #[.int .i64 d.kind, .int .u64 d.n, .slice A d.b.length c, .int .i64 d.most]).fr hf1 (fun h => Nat.lt_irrefl _ h.2)
  have HW1 := hide hW1
  have HF1 := hide hf1
  have HRA1 := hide (HRA.out.fr' hf1 (by simpa using Nat.le_succ_of_le hBw) HNF.out)
  have c1 : w1.cell? ⟨w.heap.size, 1, none⟩ = some (.int .u64 d.n) := hb1.cell 1
  clear hb1 hW1 hf1
  go_wp2_with fail
  refine (refBool_calls (decide (d.n % 2 = 1)) w1).mono ?_
  rintro e w2 ⟨A2, c2, rfl, hown, hb2⟩
  have HO := hide hown
  have HB2 := hide hb2
  clear hown hb2
  go_wp2
  go_ret
  have hs : fieldB d = [if d.n % 2 = 1 then 1 else 0] := by simp [fieldB, HKK.out]
  obtain ⟨h1, h2⟩ := writes_end HF1.out HW1.out HB2.out
  rw [hs]
  exact ⟨A2, c2, ret_eq rfl, by simpa using Reads.of_own HO.out, by simpa using h1, h2⟩

set_option maxHeartbeats 400000 in
set_option maxRecDepth 20000 in
theorem writes_calls4 (w : World) (F : Nat → Prop) (B g : Nat) (l : List UInt8) (d : DField) (A : Option Addr) (c : Nat) (k0 : d.kind ≠ 0) (k1 : d.kind ≠ 1) (k2 : d.kind ≠ 2) (k3 : d.kind ≠ 3) (k4 : d.kind = 4) : WritesAt w F B g l d A c := by
  intro hW hr hBw hF hu hl hb
  have e0 : (d.kind == 0) = false := by simp [k0]
  have e1 : (d.kind == 1) = false := by simp [k1]
  have e2 : (d.kind == 2) = false := by simp [k2]
  have e3 : (d.kind == 3) = false := by simp [k3]
  have e4 : (d.kind == 4) = true := by simp [k4]
  have HW := hide ((hW.mono (G := fun x => F x ∧ x < w.heap.size) (fun x h1 h2 => ⟨h2, h1⟩)).alloc (.cells #[.int .i64 d.kind, .int .u64 d.n, .slice A d.b.length c, .int .i64 d.most] 39))
  have HRA := hide (hr.alloc hBw (.cells #[.int .i64 d.kind, .int .u64 d.n, .slice A d.b.length c, .int .i64 d.most] 39))
  have HK := hide (And.intro hW hr)
  have HNF : Hid (0 < d.b.length → ∀ ad, A = some ad → ¬ (F ad.block ∧ ad.block < w.heap.size)) := fun h0 ad h1 h2 => hF h0 ad h1 h2.1
  have HU := hide hu
  have HF := hide hF
  have HKK := hide (show d.kind ≠ 0 ∧ d.kind ≠ 1 ∧ d.kind ≠ 2 ∧ d.kind ≠ 3 ∧ d.kind = 4 ∧ True from ⟨k0, k1, k2, k3, k4, trivial⟩)
  clear hW hr hu hF k0 k1 k2 k3 k4
  go_enter Try.func15, Try.ntmps15
  go_wp2_with fail
  refine (bytes_calls _ l _ _ d.b A c _ HW.out HRA.out (by simp; omega) HNF.out (by omega)).mono ?_
  rintro e w1 ⟨rfl, hW1, hf1⟩
  have hb1 := (Blk.new w 39 #[.int .i64 d.kind, .int .u64 d.n, .slice A d.b.length c, .int .i64 d.most]).fr hf1 (fun h => Nat.lt_irrefl _ h.2)
  have HW1 := hide hW1
  have HF1 := hide hf1
  have HRA1 := hide (HRA.out.fr' hf1 (by simpa using Nat.le_succ_of_le hBw) HNF.out)
  have c2 : w1.cell? ⟨w.heap.size, 2, none⟩ = some (.slice A d.b.length c) := hb1.cell 2
  clear hb1 hW1 hf1
  go_wp2_with fail
  refine (refBytes_calls d.b A c w1 (HRA1.out.more (by have := HF1.out.size; simp at this; omega)) (by omega)).mono ?_
  rintro e w2 ⟨A2, c2, rfl, hown, hb2⟩
  have HO := hide hown
  have HB2 := hide hb2
  clear hown hb2
  go_wp2
  go_ret
  have hs : fieldB d = numB d.b.length ++ d.b := by simp [fieldB, HKK.out]
  obtain ⟨h1, h2⟩ := writes_end HF1.out HW1.out HB2.out
  rw [hs]
  exact ⟨A2, c2, ret_eq (by rw [List.length_append]; rfl), Reads.of_own HO.out, h1, h2⟩

set_option maxHeartbeats 400000 in
set_option maxRecDepth 20000 in
theorem writes_calls5 (w : World) (F : Nat → Prop) (B g : Nat) (l : List UInt8) (d : DField) (A : Option Addr) (c : Nat) (k0 : d.kind ≠ 0) (k1 : d.kind ≠ 1) (k2 : d.kind ≠ 2) (k3 : d.kind ≠ 3) (k4 : d.kind ≠ 4) (k5 : d.kind = 5) : WritesAt w F B g l d A c := by
  intro hW hr hBw hF hu hl hb
  have e0 : (d.kind == 0) = false := by simp [k0]
  have e1 : (d.kind == 1) = false := by simp [k1]
  have e2 : (d.kind == 2) = false := by simp [k2]
  have e3 : (d.kind == 3) = false := by simp [k3]
  have e4 : (d.kind == 4) = false := by simp [k4]
  have e5 : (d.kind == 5) = true := by simp [k5]
  have HW := hide ((hW.mono (G := fun x => F x ∧ x < w.heap.size) (fun x h1 h2 => ⟨h2, h1⟩)).alloc (.cells #[.int .i64 d.kind, .int .u64 d.n, .slice A d.b.length c, .int .i64 d.most] 39))
  have HRA := hide (hr.alloc hBw (.cells #[.int .i64 d.kind, .int .u64 d.n, .slice A d.b.length c, .int .i64 d.most] 39))
  have HK := hide (And.intro hW hr)
  have HNF : Hid (0 < d.b.length → ∀ ad, A = some ad → ¬ (F ad.block ∧ ad.block < w.heap.size)) := fun h0 ad h1 h2 => hF h0 ad h1 h2.1
  have HU := hide hu
  have HF := hide hF
  have HKK := hide (show d.kind ≠ 0 ∧ d.kind ≠ 1 ∧ d.kind ≠ 2 ∧ d.kind ≠ 3 ∧ d.kind ≠ 4 ∧ d.kind = 5 ∧ True from ⟨k0, k1, k2, k3, k4, k5, trivial⟩)
  clear hW hr hu hF k0 k1 k2 k3 k4 k5
  have hcv := run_string_of_bytes (P := Try.prog) (c := c) 23 9 5 Try.underlying23 Try.underlying5 Try.underlying9 HRA.out
  go_enter Try.func15, Try.ntmps15
  go_wp2_with fail
  refine (text_calls _ l _ _ _ HW.out (by show l.length + d.b.toArray.size + 10 ≤ _; simp; omega)).mono ?_
  rintro e w1 ⟨rfl, hW1, hf1⟩
  have hb1 := (Blk.new w 39 #[.int .i64 d.kind, .int .u64 d.n, .slice A d.b.length c, .int .i64 d.most]).fr hf1 (fun h => Nat.lt_irrefl _ h.2)
  have HW1 := hide hW1
  have HF1 := hide hf1
  have HRA1 := hide (HRA.out.fr' hf1 (by simpa using Nat.le_succ_of_le hBw) HNF.out)
  have c2 : w1.cell? ⟨w.heap.size, 2, none⟩ = some (.slice A d.b.length c) := hb1.cell 2
  clear hb1 hW1 hf1 hcv
  go_wp2_with fail
  refine (refBytes_calls d.b A c w1 (HRA1.out.more (by have := HF1.out.size; simp at this; omega)) (by omega)).mono ?_
  rintro e w2 ⟨A2, c2, rfl, hown, hb2⟩
  have HO := hide hown
  have HB2 := hide hb2
  clear hown hb2
  go_wp2
  go_ret
  have hs : fieldB d = numB d.b.length ++ d.b := by simp [fieldB, HKK.out]
  obtain ⟨h1, h2⟩ := writes_end HF1.out HW1.out HB2.out
  rw [hs]
  exact ⟨A2, c2, ret_eq (by rw [List.length_append]; rfl), Reads.of_own HO.out, by simpa using h1, h2⟩

set_option maxHeartbeats 400000 in
set_option maxRecDepth 20000 in
theorem writes_calls6 (w : World) (F : Nat → Prop) (B g : Nat) (l : List UInt8) (d : DField) (A : Option Addr) (c : Nat) (k0 : d.kind ≠ 0) (k1 : d.kind ≠ 1) (k2 : d.kind ≠ 2) (k3 : d.kind ≠ 3) (k4 : d.kind ≠ 4) (k5 : d.kind ≠ 5) : WritesAt w F B g l d A c := by
  intro hW hr hBw hF hu hl hb
  have e0 : (d.kind == 0) = false := by simp [k0]
  have e1 : (d.kind == 1) = false := by simp [k1]
  have e2 : (d.kind == 2) = false := by simp [k2]
  have e3 : (d.kind == 3) = false := by simp [k3]
  have e4 : (d.kind == 4) = false := by simp [k4]
  have e5 : (d.kind == 5) = false := by simp [k5]
  have HW := hide ((hW.mono (G := fun x => F x ∧ x < w.heap.size) (fun x h1 h2 => ⟨h2, h1⟩)).alloc (.cells #[.int .i64 d.kind, .int .u64 d.n, .slice A d.b.length c, .int .i64 d.most] 39))
  have HRA := hide (hr.alloc hBw (.cells #[.int .i64 d.kind, .int .u64 d.n, .slice A d.b.length c, .int .i64 d.most] 39))
  have HK := hide (And.intro hW hr)
  have HNF : Hid (0 < d.b.length → ∀ ad, A = some ad → ¬ (F ad.block ∧ ad.block < w.heap.size)) := fun h0 ad h1 h2 => hF h0 ad h1 h2.1
  have HU := hide hu
  have HF := hide hF
  have HKK := hide (show d.kind ≠ 0 ∧ d.kind ≠ 1 ∧ d.kind ≠ 2 ∧ d.kind ≠ 3 ∧ d.kind ≠ 4 ∧ d.kind ≠ 5 ∧ True from ⟨k0, k1, k2, k3, k4, k5, trivial⟩)
  clear hW hr hu hF k0 k1 k2 k3 k4 k5
  go_enter Try.func15, Try.ntmps15
  go_wp2_with fail
  refine (raw_calls _ l _ _ d.b A c _ HW.out HRA.out (by omega)).mono ?_
  rintro e w1 ⟨rfl, hW1, hf1⟩
  have hb1 := (Blk.new w 39 #[.int .i64 d.kind, .int .u64 d.n, .slice A d.b.length c, .int .i64 d.most]).fr hf1 (fun h => Nat.lt_irrefl _ h.2)
  have HW1 := hide hW1
  have HF1 := hide hf1
  have HRA1 := hide (HRA.out.fr' hf1 (by simpa using Nat.le_succ_of_le hBw) HNF.out)
  have c2 : w1.cell? ⟨w.heap.size, 2, none⟩ = some (.slice A d.b.length c) := hb1.cell 2
  clear hb1 hW1 hf1
  go_wp2
  go_ret
  have hs : fieldB d = d.b := by simp [fieldB, HKK.out]
  obtain ⟨h1, h2⟩ := writes_end HF1.out HW1.out (Below.refl _ w1)
  rw [hs]
  exact ⟨A, c, ret_eq rfl, HRA1.out.more (by have := HF1.out.size; simp at this; omega), h1, h2⟩

set_option maxRecDepth 20000 in
theorem writes_calls (w : World) (F : Nat → Prop) (B g : Nat) (l : List UInt8) (d : DField) (A : Option Addr) (c : Nat) : WritesAt w F B g l d A c := by
  by_cases k0 : d.kind = 0
  · exact writes_calls0 w F B g l d A c k0
  by_cases k1 : d.kind = 1
  · exact writes_calls1 w F B g l d A c k0 k1
  by_cases k2 : d.kind = 2
  · exact writes_calls2 w F B g l d A c k0 k1 k2
  by_cases k3 : d.kind = 3
  · exact writes_calls3 w F B g l d A c k0 k1 k2 k3
  by_cases k4 : d.kind = 4
  · exact writes_calls4 w F B g l d A c k0 k1 k2 k3 k4
  by_cases k5 : d.kind = 5
  · exact writes_calls5 w F B g l d A c k0 k1 k2 k3 k4 k5
  · exact writes_calls6 w F B g l d A c k0 k1 k2 k3 k4 k5
end Go.Proofs.Ytidohbnmkogkmaa
