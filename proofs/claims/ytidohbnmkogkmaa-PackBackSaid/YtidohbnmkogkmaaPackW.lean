/- Contracts of the layer pack's writers, and of the document's own (dioptreref02): what each call does. Conditions: lengths below 2^40. -/
import Derived.Test.YtidohbnmkogkmaaMem
import Derived.Test.YtidohbnmkogkmaaPackSpec
import Derived.Test.YtidohbnmkogkmaaProg
namespace Go.Proofs.Ytidohbnmkogkmaa
open Go.RowKit

def IsU64 (n : Nat) : Prop := n < 18446744073709551616
def IsI64 (n : Int) : Prop := -9223372036854775808 ≤ n ∧ n < 9223372036854775808
theorem wrap_u64 (n : Nat) (h : IsU64 n) : IntKind.u64.wrap (n : Int) = n := by
  unfold IsU64 at h
  simp only [IntKind.wrap_u64]
  omega
theorem or80' : ∀ x : Fin 256, bits BinOp.or IntKind.u8 (x.val : Int) 128 = ((x.val % 128 + 128 : Nat) : Int) := by decide +kernel
theorem or80 (k : Nat) : bits BinOp.or IntKind.u8 ((k : Int) % 256) 128 = ((k % 128 + 128 : Nat) : Int) := by
  have h := or80' ⟨k % 256, by omega⟩
  simp only at h
  rw [show ((k : Int) % 256) = ((k % 256 : Nat) : Int) from by omega, h]
  omega
theorem xor_zig (n : Int) (h : IsI64 n) : bits BinOp.xor IntKind.u64 (IntKind.u64.wrap (IntKind.u64.wrap n * 2)) (IntKind.u64.wrap (n / 9223372036854775808)) = (zig n : Int) := by
  unfold IsI64 at h
  show IntKind.u64.wrap ((BitVec.ofInt 64 _ ^^^ BitVec.ofInt 64 _).toNat : Int) = _
  simp only [IntKind.wrap_u64]
  unfold zig
  by_cases h0 : n < 0
  · rw [if_pos h0, show n / 9223372036854775808 % 18446744073709551616 = 18446744073709551615 from by omega]
    rw [show BitVec.ofInt 64 18446744073709551615 = BitVec.allOnes 64 from by decide, BitVec.xor_allOnes, BitVec.toNat_not, BitVec.toNat_ofInt]
    omega
  · rw [if_neg h0, show n / 9223372036854775808 % 18446744073709551616 = 0 from by omega]
    rw [show BitVec.ofInt 64 0 = 0#64 from by decide, BitVec.xor_zero, BitVec.toNat_ofInt]
    omega
theorem ref_zig_neg (n : Int) (h : IsI64 n) (h0 : n < 0) : IntKind.u64.wrap (IntKind.u64.wrap (2 * IntKind.u64.wrap (wrap64 (-wrap64 (n + 1)))) + 1) = (zig n : Int) := by
  unfold IsI64 at h
  rw [show wrap64 (n + 1) = n + 1 from IntWalk.wrap64_in _ (by omega), show wrap64 (-(n + 1)) = -(n + 1) from IntWalk.wrap64_in _ (by omega)]
  simp only [IntKind.wrap_u64]
  unfold zig
  rw [if_pos h0]
  omega
theorem ref_zig_pos (n : Int) (h : IsI64 n) (h0 : ¬ n < 0) : IntKind.u64.wrap (2 * IntKind.u64.wrap n) = (zig n : Int) := by
  unfold IsI64 at h
  simp only [IntKind.wrap_u64]
  unfold zig
  rw [if_neg h0]
  omega
theorem zig_u64 (n : Int) (h : IsI64 n) : IsU64 (zig n) := by unfold IsI64 at h; unfold IsU64 zig; split <;> omega
theorem info_u8 : (Try.prog.info? 5).map (fun i => (i.zero, i.size, i.bytes)) = some (some (.int .u8 0), 1, 1) := by kernel_rfl

set_option maxHeartbeats 400000 in
set_option maxRecDepth 20000 in
theorem refNumber_calls' (m : Nat) : ∀ (n : Nat) (w : World), IsU64 n → n < m →
    Calls Try.prog 42 #[.int .u64 n] w (NewSlice 5 1 (numB n).length ((numB n).map bv) w) := by
  induction m with
  | zero =>
    intro n w hn hm
    omega
  | succ m ih =>
    intro n w hn hm
    have IH := hide ih
    clear ih
    obtain ⟨i5, hi5, hz5, hs5, hb5⟩ := info_parts info_u8
    by_cases h : n < 128
    · go_enter Try.func42, Try.ntmps42
      go_wp2
      go_ret
      have e : numB n = [b8 n] := numB_lt n h
      have e2 : bv (b8 n) = .int .u8 n := int_eq (by rw [b8_toNat n (by omega)])
      rw [e]
      refine ⟨_, _, ret_eq rfl, ?_, (Below.refl _ _).alloc (Nat.le_refl _) _⟩
      have := World.ownsRow_lit (base := w.heap.size) (e := 5) (size := 1) w #[.int .u8 n] 1 (Nat.le_refl _) (by decide) rfl
      simpa [e2] using this
    · have hq : IntKind.u64.wrap ((n : Int) / 128) = ((n / 128 : Nat) : Int) := by
        have := wrap_u64 (n / 128) (by unfold IsU64 at *; omega)
        simpa using this
      have e : numB n = b8 (n % 128 + 128) :: numB (n / 128) := numB_ge n h
      have HE := hide e
      clear e
      have hl : (numB (n / 128)).length ≤ 10 := numB_length_le _ (by unfold IsU64 at hn; omega)
      have HU := hide (show IsU64 (n / 128) by unfold IsU64 at *; omega)
      clear hn
      go_enter Try.func42, Try.ntmps42
      go_wp2_with fail
      refine (IH.out (n / 128) _ HU.out (by omega)).mono ?_
      rintro e w1 ⟨A, c, rfl, hown, hb⟩
      have hown0 := World.ownsRow_lit (base := w.heap.size) (e := 5) (size := 1) w #[.int .u8 (n % 128 + 128)] 1 (Nat.le_refl _) (by decide) rfl
      have hown1 := own_below' hown0 hb
      have hr := Reads.of_own hown
      have HB := hide hb
      have hsz := hb.size
      simp at hsz
      clear hb hown0 hown hq
      go_wp2_with (at_builtin; refine wpList_append_any _ rfl _ _ 23 rfl _ 5 i5 (.int .u8 0) 1 1 Try.underlying23 hi5 hz5 hs5 hb5 rfl (by decide) _ _ _ (by rfl) hown1 _ _ _ _ _ (by rfl) hr (oneCell_bv _) (by unfold maxLen; omega) (by omega) (by omega) ?_; intro Aq cq wq ownq growq lieq)
      go_ret
      have e2 : bv (b8 (n % 128 + 128)) = .int .u8 ((n : Int) % 128 + 128) := int_eq (by rw [b8_toNat _ (by omega)]; omega)
      have e3 : (numB n).length = 1 + (numB (n / 128)).length := by rw [HE.out, List.length_cons]; omega
      have e4 : (numB n).map bv = #[Value.int .u8 ((n : Int) % 128 + 128)].toList ++ (numB (n / 128)).map bv := by rw [HE.out, List.map_cons, e2]; rfl
      refine ⟨Aq, cq, ret_eq ?_, ?_, ?_⟩
      · rw [e3]; rfl
      · rw [e3, e4]; exact ownq
      · exact (((Below.refl _ _).alloc (Nat.le_refl _) _).trans (HB.out.mono (by simp))).grown growq (by omega) (by rintro k ⟨⟩; exact Nat.le_refl _)

theorem refNumber_calls (n : Nat) (w : World) (hn : IsU64 n) :
    Calls Try.prog 42 #[.int .u64 n] w (NewSlice 5 1 (numB n).length ((numB n).map bv) w) :=
  refNumber_calls' (n + 1) n w hn (Nat.lt_succ_self n)
theorem refNumber_at (m : Int) (n : Nat) (w : World) (hn : IsU64 n) (hm : m = n) :
    Calls Try.prog 42 #[.int .u64 m] w (NewSlice 5 1 (numB n).length ((numB n).map bv) w) := by subst hm; exact refNumber_calls n w hn

/-- A Writer that has written l, in block g; F: the blocks that it may write. -/
def IsW (w : World) (F : Nat → Prop) (g : Nat) (l : List UInt8) : Prop :=
  ∃ A c, Blk w g 34 #[.slice A l.length c] ∧ w.ownsRow 0 5 1 (.slice A l.length c) l.length (l.map bv) ∧ F g ∧ ∀ k, (Value.slice A l.length c).ownBlock = some k → F k
def WPost (F : Nat → Prop) (g : Nat) (l : List UInt8) (w : World) (e : Ending) (w' : World) : Prop :=
  e = .returned (.tuple #[]) ∧ IsW w' (fun k => F k ∨ w.heap.size ≤ k) g l ∧ Fr F w w'
theorem IsW.mono {w : World} {F G : Nat → Prop} {g : Nat} {l : List UInt8} (h : IsW w F g l) (hG : ∀ k, k < w.heap.size → F k → G k) : IsW w G g l := by
  obtain ⟨A, c, hb, ho, hg, hk⟩ := h
  exact ⟨A, c, hb, ho, hG _ hb.lt hg, fun k hk' => hG _ (ho.lt k hk').2 (hk k hk')⟩
theorem IsW.fr {w w' : World} {F G : Nat → Prop} {g : Nat} {l : List UInt8} (h : IsW w F g l) (hf : Fr G w w') (hn : ∀ k, F k → ¬ G k) : IsW w' F g l := by
  obtain ⟨A, c, hb, ho, hg, hk⟩ := h
  exact ⟨A, c, hb.fr hf (hn g hg), own_fr ho hf fun k hk' => hn k (hk k hk'), hg, hk⟩
theorem IsW.below {w w' : World} {F : Nat → Prop} {g : Nat} {l : List UInt8} (h : IsW w F g l) (hf : Below w.heap.size w w') : IsW w' F g l := by
  obtain ⟨A, c, hb, ho, hg, hk⟩ := h
  exact ⟨A, c, hb.below hf hb.lt, own_below' ho hf, hg, hk⟩
theorem IsW.new (w : World) : IsW (w.alloc (.cells #[.slice none 0 0] 34)) (fun k => w.heap.size ≤ k) w.heap.size [] :=
  ⟨none, 0, Blk.new _ _ _, World.ownsRow_nil _ _ _ _, Nat.le_refl _, fun k hk => by simp [Value.ownBlock] at hk⟩
theorem IsW.alloc {w : World} {F : Nat → Prop} {g : Nat} {l : List UInt8} (h : IsW w F g l) (o : Obj) : IsW (w.alloc o) F g l := h.below ((Below.refl _ _).alloc (Nat.le_refl _) _)
theorem IsW.drew {w : World} {F : Nat → Prop} {g : Nat} {l : List UInt8} (h : IsW w F g l) : IsW w.drew F g l := h
/-- Two calls, one behind the other. -/
theorem WPost.next {F : Nat → Prop} {g : Nat} {l : List UInt8} {w w1 : World} {e : Ending} {w2 : World} (hf : Fr F w w1) (h : WPost (fun k => F k ∨ w.heap.size ≤ k) g l w1 e w2) : WPost F g l w e w2 := by
  obtain ⟨he, hW, hf2⟩ := h
  exact ⟨he, hW.mono (fun k _ hk => by have := hf.size; rcases hk with hk | hk; exact hk; exact .inr (by omega)), hf.trans hf2⟩

theorem WPost.step {F : Nat → Prop} {g : Nat} {l : List UInt8} {w w1 : World} {e : Ending} {w2 : World} (hf : Fr F w w1) (h : WPost F g l w1 e w2) : WPost F g l w e w2 := by
  obtain ⟨he, hW, hf2⟩ := h
  exact ⟨he, hW.mono (fun k _ hk => by have := hf.size; rcases hk with hk | hk; exact .inl hk; exact .inr (by omega)), hf.trans (hf2.mono fun _ _ h => .inl h)⟩

theorem WPost.mono {F G : Nat → Prop} {g : Nat} {l : List UInt8} {w : World} {e : Ending} {w' : World} (hG : ∀ k, k < w.heap.size → F k → G k) (h : WPost F g l w e w') : WPost G g l w e w' := by
  obtain ⟨he, hW, hf⟩ := h
  refine ⟨he, hW.mono fun k _ hk => ?_, hf.mono hG⟩
  rcases Nat.lt_or_ge k w.heap.size with h1 | h1
  · exact .inl (hG k h1 (hk.resolve_right (by omega)))
  · exact .inr h1

section
variable (g : Nat) (l : List UInt8) (F : Nat → Prop) (w : World)
set_option maxHeartbeats 400000 in
theorem raw_calls (src : List UInt8) (A : Option Addr) (c B : Nat) (hW : IsW w F g l) (hr : Reads w B 1 A src.length (src.map bv)) (hl : l.length + src.length ≤ 1099511627776) :
    Calls Try.prog 49 #[.pointer (some ⟨g, 0, none⟩), .slice A src.length c] w (WPost F g (l ++ src) w) := by
  obtain ⟨A0, c0, hb, ho, hg, hk⟩ := hW
  obtain ⟨i5, hi5, hz5, hs5, hb5⟩ := info_parts info_u8
  have hc : w.cell? ⟨g, 0, none⟩ = some (.slice A0 l.length c0) := hb.cell 0
  have hne := own_blk_ne ho hb (by decide)
  have HNE := hide hne
  have HB := hide hb
  clear hb hne
  go_enter Try.func49, Try.ntmps49
  go_wp2_with (at_builtin; refine wpList_append_any _ rfl _ _ 23 rfl _ 5 i5 (.int .u8 0) 1 1 Try.underlying23 hi5 hz5 hs5 hb5 rfl (by decide) _ _ _ (by rfl) ho _ _ _ _ _ (by rfl) hr (oneCell_bv _) (by unfold maxLen; omega) (by omega) (by omega) ?_; intro Aq cq wq ownq growq lieq; have hb1 := HB.out.grown growq (Ne.symm HNE.out); have hc1 : wq.cell? ⟨g, 0, none⟩ = some (.slice A0 l.length c0) := hb1.cell 0; have hf1 : wq.frozen? ⟨g, 0, none⟩ = false := hb1.frozen 0; have HB1 := hide hb1; clear hb1 hc)
  go_end0
  have hkey : (Value.slice Aq (l.length + src.length) cq).ownBlock ≠ some g := own_blk_ne ownq HB1.out (by decide)
  refine ⟨rfl, ⟨Aq, cq, ?_, ?_, .inl hg, ?_⟩, ?_⟩
  · rw [List.length_append]; exact HB1.out.set_ 0 _
  · rw [List.length_append, List.map_append]
    exact own_fr ownq ((Fr.refl (fun k => k = g) wq).setCell (.inl rfl) _) fun k hk' e => by rw [e] at hk'; exact hkey hk'
  · intro k hk'
    rw [List.length_append] at hk'
    rcases lieq with h1 | h1
    · rw [h1] at hk'; exact .inl (hk k hk')
    · rw [h1] at hk'; injection hk' with e; exact .inr (by omega)
  · exact (Fr.of_grown growq hk).setCell (.inl hg) _

set_option maxHeartbeats 400000 in
theorem byte_calls (b : UInt8) (hW : IsW w F g l) (hl : l.length < 1099511627776) :
    Calls Try.prog 41 #[.pointer (some ⟨g, 0, none⟩), bv b] w (WPost F g (l ++ [b]) w) := by
  have hr := Reads.lit w 5 [bv b] (by simp [maxLen])
  have hW1 := hW.alloc (.cells #[bv b] 5)
  go_enter Try.func41, Try.ntmps41
  go_wp2_with fail
  refine (raw_calls g l F _ [b] _ _ _ hW1 hr (by simp; omega)).mono ?_
  rintro e w1 h1
  obtain ⟨he, hW2, hf2⟩ := WPost.step ((Fr.refl F w).alloc _) h1
  subst he
  have HW2 := hide hW2
  have HF2 := hide hf2
  clear hW2 hf2
  go_wp2
  go_end0
  exact ⟨rfl, HW2.out, HF2.out⟩

set_option maxHeartbeats 400000 in
set_option maxRecDepth 20000 in
theorem number_calls (n : Nat) (hn : IsU64 n) (hW : IsW w F g l) (hl : l.length + 10 ≤ 1099511627776) :
    Calls Try.prog 31 #[.pointer (some ⟨g, 0, none⟩), .int .u64 n] w (WPost F g (l ++ numB n) w) := by
  have hlen := numB_length_le n (by unfold IsU64 at hn; omega)
  have HN := hide hn
  clear hn
  go_enter Try.func31, Try.ntmps31
  go_wp2_with fail
  go_loopw [1] (fun v wr => ∃ (k : Nat) (done : List UInt8), v = .int .u64 k ∧ numB n = done ++ numB k ∧ IsU64 k ∧ IsW wr (fun k => F k ∨ w.heap.size ≤ k) g (l ++ done) ∧ Fr F w wr) (fun v _ => (intOf v).toNat)
  case atStart => exact ⟨n, [], rfl, rfl, HN.out, by simpa using hW.mono (fun k _ h => .inl h), Fr.refl _ _⟩
  case round =>
    obtain ⟨k, done, rfl, hk, hu, hWr, hfr⟩ := hrel
    have HK := hide hk
    have HU := hide hu
    have hd : done.length + (numB k).length ≤ 10 := by rw [← List.length_append, ← hk]; exact hlen
    have hp := numB_pos k
    clear hk hu
    by_cases hlt : k < 128
    · have e2 : bv (b8 k) = .int .u8 k := int_eq (by rw [b8_toNat k (by omega)])
      go_wp2_with fail
      rw [← e2]
      refine (raw_calls g (l ++ done) _ _ [b8 k] _ _ _ (hWr.alloc _) (Reads.lit wr _ [bv (b8 k)] (by simp [maxLen])) (by rw [List.length_append, List.length_singleton]; omega)).mono ?_
      rintro e w1 h1
      obtain ⟨he, hW2, hf2⟩ := WPost.next (w := w) (hfr) (WPost.step ((Fr.refl _ wr).alloc _) h1)
      subst he
      have HW2 := hide hW2
      have HF2 := hide hf2
      clear hW2 hf2 h1 hfr hWr e2
      go_wp2
      go_end0
      refine ⟨rfl, ?_, HF2.out⟩
      rw [HK.out, numB_lt k hlt, ← List.append_assoc]
      exact HW2.out
    · have e2 : bv (b8 (k % 128 + 128)) = .int .u8 (bits BinOp.or IntKind.u8 ((k : Int) % 256) 128) := int_eq (by rw [b8_toNat _ (by omega), or80])
      go_wp2_with fail
      rw [← e2]
      refine (raw_calls g (l ++ done) _ _ [b8 (k % 128 + 128)] _ _ _ (hWr.alloc _) (Reads.lit wr _ [bv (b8 (k % 128 + 128))] (by simp [maxLen])) (by rw [List.length_append, List.length_singleton]; omega)).mono ?_
      rintro e w1 h1
      obtain ⟨he, hW2, hf2⟩ := WPost.next (w := w) (hfr) (WPost.step ((Fr.refl _ wr).alloc _) h1)
      subst he
      have HW2 := hide hW2
      have HF2 := hide hf2
      clear hW2 hf2 h1 hfr hWr e2
      go_wp2
      refine ⟨⟨k / 128, done ++ [b8 (k % 128 + 128)], by simp, ?_, by have := HU.out; unfold IsU64 at *; omega, by rw [← List.append_assoc]; exact HW2.out, HF2.out⟩, by simp [intOf]; omega⟩
      rw [HK.out, numB_ge k hlt, List.append_assoc]; rfl

set_option maxHeartbeats 400000 in
theorem int_calls (n : Int) (hn : IsI64 n) (hW : IsW w F g l) (hl : l.length + 10 ≤ 1099511627776) :
    Calls Try.prog 40 #[.pointer (some ⟨g, 0, none⟩), .int .i64 n] w (WPost F g (l ++ numB (zig n)) w) := by
  have hx := xor_zig n hn
  have HX := hide hx
  have HN := hide (zig_u64 n hn)
  clear hn hx
  go_enter Try.func40, Try.ntmps40
  go_wp2_with fail
  rw [HX.out]
  refine (number_calls g l F w (zig n) HN.out hW hl).mono ?_
  rintro e w1 ⟨he, hW2, hf2⟩
  subst he
  have HW2 := hide hW2
  have HF2 := hide hf2
  clear hW2 hf2
  go_wp2
  go_end0
  exact ⟨rfl, HW2.out, HF2.out⟩

set_option maxHeartbeats 400000 in
theorem bool_calls (b : Bool) (hW : IsW w F g l) (hl : l.length < 1099511627776) :
    Calls Try.prog 44 #[.pointer (some ⟨g, 0, none⟩), .bool b] w (WPost F g (l ++ [if b then 1 else 0]) w) := by
  cases b
  all_goals
    go_enter Try.func44, Try.ntmps44
    go_wp2_with fail
  · refine (raw_calls g l F _ [0] _ _ _ (hW.alloc _) (Reads.lit w _ [bv 0] (by simp [maxLen])) (by simp; omega)).mono ?_
    rintro e w1 h1
    obtain ⟨he, hW2, hf2⟩ := WPost.step ((Fr.refl F w).alloc _) h1
    subst he
    have HW2 := hide hW2
    have HF2 := hide hf2
    clear hW2 hf2
    go_wp2
    go_end0
    exact ⟨rfl, HW2.out, HF2.out⟩
  · refine (raw_calls g l F _ [1] _ _ _ (hW.alloc _) (Reads.lit w _ [bv 1] (by simp [maxLen])) (by simp; omega)).mono ?_
    rintro e w1 h1
    obtain ⟨he, hW2, hf2⟩ := WPost.step ((Fr.refl F w).alloc _) h1
    subst he
    have HW2 := hide hW2
    have HF2 := hide hf2
    clear hW2 hf2
    go_wp2
    go_end0
    exact ⟨rfl, HW2.out, HF2.out⟩

set_option maxHeartbeats 400000 in
theorem bytes_calls (src : List UInt8) (A : Option Addr) (c B : Nat) (hW : IsW w F g l) (hr : Reads w B 1 A src.length (src.map bv)) (hB : B ≤ w.heap.size) (hF : 0 < src.length → ∀ ad, A = some ad → ¬ F ad.block) (hl : l.length + src.length + 10 ≤ 1099511627776) :
    Calls Try.prog 46 #[.pointer (some ⟨g, 0, none⟩), .slice A src.length c] w (WPost F g (l ++ (numB src.length ++ src)) w) := by
  have hw : IntKind.u64.wrap (src.length : Int) = src.length := wrap_u64 _ (by unfold IsU64; omega)
  have hu : IsU64 src.length := by unfold IsU64; omega
  have HU := hide hu
  have hn := numB_length_le src.length (by unfold IsU64 at hu; omega)
  clear hu
  go_enter Try.func46, Try.ntmps46
  go_wp2_with fail
  refine (number_calls g l F w src.length HU.out hW (by omega)).mono ?_
  rintro e w1 ⟨he, hW2, hf2⟩
  subst he
  have hr2 := hr.fr' hf2 hB hF
  have HW2 := hide hW2
  have HF2 := hide hf2
  clear hW2 hf2 hr hW
  go_wp2_with fail
  refine (raw_calls g _ _ w1 src A c B HW2.out hr2 (by rw [List.length_append]; omega)).mono ?_
  rintro e w2 h3
  obtain ⟨he, hW3, hf3⟩ := WPost.next HF2.out h3
  subst he
  have HW3 := hide hW3
  have HF3 := hide hf3
  clear hW3 hf3 h3
  go_wp2
  go_end0
  exact ⟨rfl, by rw [← List.append_assoc]; exact HW3.out, HF3.out⟩

set_option maxHeartbeats 400000 in
theorem text_calls (s : ByteArray) (hW : IsW w F g l) (hl : l.length + s.size + 10 ≤ 1099511627776) :
    Calls Try.prog 48 #[.pointer (some ⟨g, 0, none⟩), .string s] w (WPost F g (l ++ (numB s.data.toList.length ++ s.data.toList)) w) := by
  have hsz : s.data.toList.length = s.size := by simp
  have HS := hide hsz
  clear hsz
  go_enter Try.func48, Try.ntmps48
  go_wp2_with (refine wpList_bytes_of_string (by rfl) _ 9 23 5 (by rfl) Try.underlying9 Try.underlying23 Try.underlying5 s (by rfl) ?_; intro c w1 hr hc hb)
  refine (bytes_calls g l _ w1 s.data.toList _ c _ ((hW.mono (G := fun k => F k ∧ k < w.heap.size) (fun k h1 h2 => ⟨h2, h1⟩)).below hb) hr (Nat.le_refl _) (by rintro _ ad h1 ⟨h2, h3⟩; injection h1 with h1; subst h1; exact Nat.lt_irrefl _ h3) (by rw [HS.out]; exact hl)).mono ?_
  rintro e w2 h2
  obtain ⟨he, hW2, hf2⟩ := WPost.step (Fr.of_below' hb F) (h2.mono fun k _ h => h.1)
  subst he
  have HW2 := hide hW2
  have HF2 := hide hf2
  clear hW2 hf2 h2 hr hb
  go_wp2
  go_end0
  exact ⟨rfl, HW2.out, HF2.out⟩

set_option maxHeartbeats 400000 in
theorem out_calls (hW : IsW w F g l) (hl : l.length ≤ 1099511627776) :
    Calls Try.prog 17 #[.pointer (some ⟨g, 0, none⟩)] w (NewSlice 5 1 l.length (l.map bv) w) := by
  obtain ⟨A0, c0, hb, ho, hg, hk⟩ := hW
  obtain ⟨i5, hi5, hz5, hs5, hb5⟩ := info_parts info_u8
  have hc : w.cell? ⟨g, 0, none⟩ = some (.slice A0 l.length c0) := hb.cell 0
  have hr := Reads.of_own ho
  have hn := World.ownsRow_nil w w.heap.size 5 1
  clear ho hb
  go_enter Try.func17, Try.ntmps17
  go_wp2_with (at_builtin; refine wpList_append_any _ rfl _ _ 23 rfl _ 5 i5 (.int .u8 0) 1 1 Try.underlying23 hi5 hz5 hs5 hb5 rfl (by decide) _ _ _ (by rfl) hn _ _ _ _ _ (by rfl) hr (oneCell_bv _) (by unfold maxLen; omega) (by omega) (by omega) ?_; intro Aq cq wq ownq growq lieq)
  go_ret
  rw [Nat.zero_add, List.nil_append] at ownq
  refine ⟨Aq, cq, ret_eq (by rw [← Nat.zero_add l.length]; rfl), ownq, (Below.refl _ _).grown growq (Nat.le_refl _) (fun k hk => by simp [Value.ownBlock] at hk)⟩

end

set_option maxHeartbeats 400000 in
theorem refInt_calls (n : Int) (w : World) (hn : IsI64 n) : Calls Try.prog 43 #[.int .i64 n] w (NewSlice 5 1 (numB (zig n)).length ((numB (zig n)).map bv) w) := by
  by_cases h : n < 0
  · have HX := hide (ref_zig_neg n hn h)
    have HU := hide (zig_u64 n hn)
    clear hn
    go_enter Try.func43, Try.ntmps43
    go_wp2_with fail
    rw [HX.out]
    refine (refNumber_calls (zig n) w HU.out).mono ?_
    rintro e w1 ⟨A, c, rfl, hown, hb⟩
    have HO := hide hown
    have HB := hide hb
    clear hown hb
    go_wp2
    go_ret
    exact ⟨A, c, ret_eq rfl, HO.out, HB.out⟩
  · have HX := hide (ref_zig_pos n hn h)
    have HU := hide (zig_u64 n hn)
    clear hn
    go_enter Try.func43, Try.ntmps43
    go_wp2_with fail
    rw [HX.out]
    refine (refNumber_calls (zig n) w HU.out).mono ?_
    rintro e w1 ⟨A, c, rfl, hown, hb⟩
    have HO := hide hown
    have HB := hide hb
    clear hown hb
    go_wp2
    go_ret
    exact ⟨A, c, ret_eq rfl, HO.out, HB.out⟩
set_option maxHeartbeats 400000 in
theorem refBool_calls (b : Bool) (w : World) : Calls Try.prog 45 #[.bool b] w (NewSlice 5 1 1 [bv (if b then 1 else 0)] w) := by
  cases b
  all_goals
    go_enter Try.func45, Try.ntmps45
    go_wp2
    go_ret
    refine ⟨_, _, ret_eq rfl, ?_, (Below.refl _ _).alloc (Nat.le_refl _) _⟩
    exact World.ownsRow_lit w _ 1 (Nat.le_refl _) (by decide) rfl
set_option maxHeartbeats 400000 in
theorem refBytes_calls (l : List UInt8) (A : Option Addr) (c : Nat) (w : World) (hr : Reads w w.heap.size 1 A l.length (l.map bv)) (hl : l.length + 10 ≤ 1099511627776) :
    Calls Try.prog 47 #[.slice A l.length c] w (NewSlice 5 1 (numB l.length ++ l).length ((numB l.length ++ l).map bv) w) := by
  have hw : IntKind.u64.wrap (l.length : Int) = l.length := wrap_u64 _ (by unfold IsU64; omega)
  have hu : IsU64 l.length := by unfold IsU64; omega
  have HU := hide hu
  have hn := numB_length_le l.length (by unfold IsU64 at hu; omega)
  clear hu
  obtain ⟨i5, hi5, hz5, hs5, hb5⟩ := info_parts info_u8
  go_enter Try.func47, Try.ntmps47
  go_wp2_with fail
  refine (refNumber_calls l.length w HU.out).mono ?_
  rintro e w1 ⟨A1, c1, rfl, hown, hb⟩
  have hr1 := hr.below hb
  have HB := hide hb
  have hsz := hb.size
  clear hb hr
  go_wp2_with (at_builtin; refine wpList_append_any _ rfl _ _ 23 rfl _ 5 i5 (.int .u8 0) 1 1 Try.underlying23 hi5 hz5 hs5 hb5 rfl (by decide) _ _ _ (by rfl) hown _ _ _ _ _ (by rfl) hr1 (oneCell_bv _) (by unfold maxLen; omega) (by omega) (by omega) ?_; intro Aq cq wq ownq growq lieq)
  go_ret
  refine ⟨Aq, cq, ret_eq ?_, ?_, ?_⟩
  · rw [List.length_append]; rfl
  · rw [List.length_append, List.map_append]; exact ownq
  · exact HB.out.grown growq (by omega) fun k hk => (hown.lt k hk).1
end Go.Proofs.Ytidohbnmkogkmaa
