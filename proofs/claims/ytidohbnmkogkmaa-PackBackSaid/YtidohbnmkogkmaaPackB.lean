/- The reader's Bytes, Text, Int, Err, End, and NewReader: what each call answers. Conditions: lengths below 2^40. -/
import Derived.Test.YtidohbnmkogkmaaPackK
namespace Go.Proofs.Ytidohbnmkogkmaa
open Go.RowKit
set_option maxHeartbeats 400000 in
theorem bytesK_bad (l : List UInt8) (A : Option Addr) (c pm po N : Nat)  (w : World) (hr : Reads w N 1 A l.length (l.map bv)) (hl : l.length ≤ 1099511627776) (hn : numP l = none) :
    Calls Try.prog 60 #[.slice A l.length c, .pointer (some ⟨pm, 0, none⟩), .pointer (some ⟨po, 0, none⟩)] w (KPost 0 2 fun w1 => w1 = w) := by
  have HN := hide hn
  clear hn
  go_enter Try.func60, Try.ntmps60
  go_wp2_with fail
  refine (packNumber_calls l A c N _ hr hl).mono ?_
  rintro e w1 ⟨rfl, rfl⟩
  rw [HN.out]
  simp only [numRet]
  go_wp2
  go_ret2
  exact ⟨rfl, rfl⟩
set_option maxHeartbeats 400000 in
theorem bytesK_long_p (l : List UInt8) (A : Option Addr) (c pm po N : Nat) (m v s : Nat) (w : World) (hr : Reads w N 1 A l.length (l.map bv)) (hl : l.length ≤ 1099511627776) (hm : w.cell? ⟨pm, 0, none⟩ = some (.int .i64 (m : Int))) (h0 : 0 < m) (hi : IsI64 m) (hn : numP l = some (v, s)) (hv : m < v) :
    Calls Try.prog 60 #[.slice A l.length c, .pointer (some ⟨pm, 0, none⟩), .pointer (some ⟨po, 0, none⟩)] w (KPost 0 3 fun w1 => w1 = w) := by
  have HN := hide hn
  have hmax : max (0 : Int) (m : Int) = (m : Int) := by omega
  have huw : IntKind.u64.wrap (m : Int) = (m : Int) := wrap_u64 m (by unfold IsI64 at hi; unfold IsU64; omega)
  clear hi
  have hd : decide (((m : Nat) : Int) < (v : Int)) = true := by simp; omega
  clear hn
  go_enter Try.func60, Try.ntmps60
  go_wp2_with fail
  refine (packNumber_calls l A c N _ hr hl).mono ?_
  rintro e w1 ⟨rfl, rfl⟩
  rw [HN.out]
  simp only [numRet]
  go_wp2
  go_ret2
  exact ⟨rfl, rfl⟩
set_option maxHeartbeats 400000 in
theorem bytesK_short_p (l : List UInt8) (A : Option Addr) (c pm po N : Nat) (m v s : Nat) (w : World) (hr : Reads w N 1 A l.length (l.map bv)) (hl : l.length ≤ 1099511627776) (hm : w.cell? ⟨pm, 0, none⟩ = some (.int .i64 (m : Int))) (h0 : 0 < m) (hi : IsI64 m) (hn : numP l = some (v, s)) (hv : ¬ m < v) (hs : l.length - s < v) :
    Calls Try.prog 60 #[.slice A l.length c, .pointer (some ⟨pm, 0, none⟩), .pointer (some ⟨po, 0, none⟩)] w (KPost 0 2 fun w1 => w1 = w) := by
  have HN := hide hn
  have hmax : max (0 : Int) (m : Int) = (m : Int) := by omega
  have huw : IntKind.u64.wrap (m : Int) = (m : Int) := wrap_u64 m (by unfold IsI64 at hi; unfold IsU64; omega)
  clear hi
  have hd : decide (((m : Nat) : Int) < (v : Int)) = false := by simp; omega
  have hsl : s ≤ l.length := by have := (numGo_bounds l 0 0 (by omega) (by simp) (by omega) v s hn).2.2.1; omega
  have i1 : (0 : Int) ≤ (l.length : Int) - (s : Int) := by omega
  have hlw : IntKind.u64.wrap ((l.length : Int) - (s : Int)) = (l.length : Int) - (s : Int) := by have := wrap_u64 (l.length - s) (by unfold IsU64; omega); rw [show (((l.length - s : Nat)) : Int) = (l.length : Int) - (s : Int) from by omega] at this; exact this
  have hd2 : decide ((l.length : Int) - (s : Int) < (v : Int)) = true := by simp; omega
  clear hn
  go_enter Try.func60, Try.ntmps60
  go_wp2_with fail
  refine (packNumber_calls l A c N _ hr hl).mono ?_
  rintro e w1 ⟨rfl, rfl⟩
  rw [HN.out]
  simp only [numRet]
  go_wp2
  go_ret2
  exact ⟨rfl, rfl⟩
set_option maxHeartbeats 400000 in
theorem bytesK_ok_p (l : List UInt8) (A : Option Addr) (c pm po N : Nat) (m v s : Nat) (w : World) (hr : Reads w N 1 A l.length (l.map bv)) (hl : l.length ≤ 1099511627776) (hm : w.cell? ⟨pm, 0, none⟩ = some (.int .i64 (m : Int))) (h0 : 0 < m) (hi : IsI64 m) (hlc : l.length ≤ c) (ho : Blk w po 23 #[.slice none 0 0]) (hn : numP l = some (v, s)) (hv : ¬ m < v) (hs : ¬ l.length - s < v) (B : Nat) (hB : B ≤ w.heap.size) (hpo : B ≤ po) :
    Calls Try.prog 60 #[.slice A l.length c, .pointer (some ⟨pm, 0, none⟩), .pointer (some ⟨po, 0, none⟩)] w (KPost (s + v) 0 fun w1 => ∃ x, Blk w1 po 23 #[x] ∧ OwnB B ((l.drop s).take v) x w1 ∧ Below B w w1) := by
  have HN := hide hn
  have hmax : max (0 : Int) (m : Int) = (m : Int) := by omega
  have huw : IntKind.u64.wrap (m : Int) = (m : Int) := wrap_u64 m (by unfold IsI64 at hi; unfold IsU64; omega)
  clear hi
  have hd : decide (((m : Nat) : Int) < (v : Int)) = false := by simp; omega
  have hsl : s ≤ l.length := by have := (numGo_bounds l 0 0 (by omega) (by simp) (by omega) v s hn).2.2.1; omega
  have i1 : (0 : Int) ≤ (l.length : Int) - (s : Int) := by omega
  have hlw : IntKind.u64.wrap ((l.length : Int) - (s : Int)) = (l.length : Int) - (s : Int) := by have := wrap_u64 (l.length - s) (by unfold IsU64; omega); rw [show (((l.length - s : Nat)) : Int) = (l.length : Int) - (s : Int) from by omega] at this; exact this
  have hd2 : decide ((l.length : Int) - (s : Int) < (v : Int)) = false := by simp; omega
  have c1 : w.cell? ⟨po, 0, none⟩ = some (.slice none 0 0) := ho.cell 0
  have ht := ((hr.cut (k := s) (cap := c) hsl hlc).take (k := v) (by omega)).drew
  rw [Nat.mul_one, Nat.mul_one, ← List.map_drop, ← List.map_take] at ht
  obtain ⟨A', hA'⟩ : ∃ A', (if c = s then A else A.map (fun x => x.add s)) = A' := ⟨_, rfl⟩
  rw [hA'] at ht
  have hlen : ((l.drop s).take v).length = v := by simp; omega
  have hcw : IntKind.i64.wrap (v : Int) = (v : Int) := IntWalk.i64_in _ (by omega)
  have i2 : (0 : Int) ≤ (s : Int) := by omega
  have i3 : (s : Int) ≤ (s : Int) + (v : Int) := by omega
  have i4 : (s : Int) + (v : Int) ≤ (c : Int) := by omega
  have hsum : IntKind.i64.wrap ((s : Int) + (v : Int)) = (s : Int) + (v : Int) := IntWalk.i64_in _ (by omega)
  have hsub : ((s : Int) + (v : Int)).toNat - s = v := by omega
  have HL := hide hlen
  have HO := hide ho
  have HRR := hide hr
  have hnn := World.ownsRow_nil w.drew B 5 1
  clear hr ho hlen hn
  obtain ⟨i5, hi5, hz5, hs5, hb5⟩ := info_parts info_u8
  go_enter Try.func60, Try.ntmps60
  go_wp2_with fail
  refine (packNumber_calls l A c N _ HRR.out hl).mono ?_
  rintro e w1 ⟨rfl, rfl⟩
  rw [HN.out]
  simp only [numRet]
  go_wp2_with fail
  refine wp_region_tail 8 (by kernel_rfl) (by kernel_rfl) ?_
  simp only [List.take_succ_cons, List.take_zero, List.drop_succ_cons, List.drop_zero]
  repeat still_step
  refine wpStill_nil ?_
  go_wp2_with (at_builtin; go_must (refine wpList_append_any _ rfl _ _ 23 rfl _ 5 i5 (.int .u8 0) 1 1 Try.underlying23 hi5 hz5 hs5 hb5 rfl (by decide) _ _ _ (by rfl) hnn _ _ _ _ _ (by rfl) ht (oneCell_bv _) (by unfold maxLen; omega) (by omega) (by first | omega | (rw [World.size_drew]; omega) | (simp only [World.size_alloc]; omega)) ?_); intro Aq cq wq ownq growq lieq; have hb1 := HO.out.drew.grown growq (by simp [Value.ownBlock]); have d1 : wq.cell? ⟨po, 0, none⟩ = some (.slice none 0 0) := hb1.cell 0; have d2 : wq.frozen? ⟨po, 0, none⟩ = false := hb1.frozen 0; have HB1 := hide hb1; have HQ := hide (And.intro ownq growq); clear hb1 c1 ownq growq lieq ht hnn)
  go_ret2
  obtain ⟨ownq, growq⟩ := HQ.out
  rw [Nat.zero_add, List.nil_append] at ownq
  have hbl := ((Below.refl B w).drew.grown growq hB (by simp [Value.ownBlock])).setCell (p := ⟨po, 0, none⟩) hpo (.slice Aq (0 + v) cq)
  rw [Nat.zero_add] at hbl
  refine ⟨ret_eq (by first | rfl | (simp; omega)), _, HB1.out.set_ 0 _, ⟨Aq, cq, by rw [HL.out], ?_⟩, hbl⟩
  rw [HL.out]
  exact own_fr ownq ((Fr.refl (fun k => k = po) wq).setCell (p := ⟨po, 0, none⟩) (.inl rfl) _) (fun k hk e => by rw [e] at hk; exact own_blk_ne ownq HB1.out (by decide) hk)
set_option maxHeartbeats 400000 in
theorem bytesK_long_z (l : List UInt8) (A : Option Addr) (c pm po N : Nat) (most : Int) (v s : Nat) (w : World) (hr : Reads w N 1 A l.length (l.map bv)) (hl : l.length ≤ 1099511627776) (hm : w.cell? ⟨pm, 0, none⟩ = some (.int .i64 most)) (h0 : most ≤ 0) (hn : numP l = some (v, s)) (hv : 0 < v) :
    Calls Try.prog 60 #[.slice A l.length c, .pointer (some ⟨pm, 0, none⟩), .pointer (some ⟨po, 0, none⟩)] w (KPost 0 3 fun w1 => w1 = w) := by
  have HN := hide hn
  have hmax : max (0 : Int) most = 0 := by omega
  have hd : decide ((0 : Int) < (v : Int)) = true := by simp; omega
  clear hn
  go_enter Try.func60, Try.ntmps60
  go_wp2_with fail
  refine (packNumber_calls l A c N _ hr hl).mono ?_
  rintro e w1 ⟨rfl, rfl⟩
  rw [HN.out]
  simp only [numRet]
  go_wp2
  go_ret2
  exact ⟨rfl, rfl⟩
set_option maxHeartbeats 400000 in
theorem bytesK_ok_z (l : List UInt8) (A : Option Addr) (c pm po N : Nat) (most : Int) (v s : Nat) (w : World) (hr : Reads w N 1 A l.length (l.map bv)) (hl : l.length ≤ 1099511627776) (hm : w.cell? ⟨pm, 0, none⟩ = some (.int .i64 most)) (h0 : most ≤ 0) (hlc : l.length ≤ c) (ho : Blk w po 23 #[.slice none 0 0]) (hn : numP l = some (v, s)) (hv : ¬ 0 < v) (hs : ¬ l.length - s < v) (B : Nat) (hB : B ≤ w.heap.size) (hpo : B ≤ po) :
    Calls Try.prog 60 #[.slice A l.length c, .pointer (some ⟨pm, 0, none⟩), .pointer (some ⟨po, 0, none⟩)] w (KPost (s + v) 0 fun w1 => ∃ x, Blk w1 po 23 #[x] ∧ OwnB B ((l.drop s).take v) x w1 ∧ Below B w w1) := by
  have HN := hide hn
  have hmax : max (0 : Int) most = 0 := by omega
  have hd : decide ((0 : Int) < (v : Int)) = false := by simp; omega
  have hsl : s ≤ l.length := by have := (numGo_bounds l 0 0 (by omega) (by simp) (by omega) v s hn).2.2.1; omega
  have i1 : (0 : Int) ≤ (l.length : Int) - (s : Int) := by omega
  have hlw : IntKind.u64.wrap ((l.length : Int) - (s : Int)) = (l.length : Int) - (s : Int) := by have := wrap_u64 (l.length - s) (by unfold IsU64; omega); rw [show (((l.length - s : Nat)) : Int) = (l.length : Int) - (s : Int) from by omega] at this; exact this
  have hd2 : decide ((l.length : Int) - (s : Int) < (v : Int)) = false := by simp; omega
  have c1 : w.cell? ⟨po, 0, none⟩ = some (.slice none 0 0) := ho.cell 0
  have ht := ((hr.cut (k := s) (cap := c) hsl hlc).take (k := v) (by omega)).drew
  rw [Nat.mul_one, Nat.mul_one, ← List.map_drop, ← List.map_take] at ht
  obtain ⟨A', hA'⟩ : ∃ A', (if c = s then A else A.map (fun x => x.add s)) = A' := ⟨_, rfl⟩
  rw [hA'] at ht
  have hlen : ((l.drop s).take v).length = v := by simp; omega
  have hcw : IntKind.i64.wrap (v : Int) = (v : Int) := IntWalk.i64_in _ (by omega)
  have i2 : (0 : Int) ≤ (s : Int) := by omega
  have i3 : (s : Int) ≤ (s : Int) + (v : Int) := by omega
  have i4 : (s : Int) + (v : Int) ≤ (c : Int) := by omega
  have hsum : IntKind.i64.wrap ((s : Int) + (v : Int)) = (s : Int) + (v : Int) := IntWalk.i64_in _ (by omega)
  have hsub : ((s : Int) + (v : Int)).toNat - s = v := by omega
  have HL := hide hlen
  have HO := hide ho
  have HRR := hide hr
  have hnn := World.ownsRow_nil w.drew B 5 1
  clear hr ho hlen hn
  obtain ⟨i5, hi5, hz5, hs5, hb5⟩ := info_parts info_u8
  go_enter Try.func60, Try.ntmps60
  go_wp2_with fail
  refine (packNumber_calls l A c N _ HRR.out hl).mono ?_
  rintro e w1 ⟨rfl, rfl⟩
  rw [HN.out]
  simp only [numRet]
  go_wp2_with fail
  refine wp_region_tail 8 (by kernel_rfl) (by kernel_rfl) ?_
  simp only [List.take_succ_cons, List.take_zero, List.drop_succ_cons, List.drop_zero]
  repeat still_step
  refine wpStill_nil ?_
  go_wp2_with (at_builtin; go_must (refine wpList_append_any _ rfl _ _ 23 rfl _ 5 i5 (.int .u8 0) 1 1 Try.underlying23 hi5 hz5 hs5 hb5 rfl (by decide) _ _ _ (by rfl) hnn _ _ _ _ _ (by rfl) ht (oneCell_bv _) (by unfold maxLen; omega) (by omega) (by first | omega | (rw [World.size_drew]; omega) | (simp only [World.size_alloc]; omega)) ?_); intro Aq cq wq ownq growq lieq; have hb1 := HO.out.drew.grown growq (by simp [Value.ownBlock]); have d1 : wq.cell? ⟨po, 0, none⟩ = some (.slice none 0 0) := hb1.cell 0; have d2 : wq.frozen? ⟨po, 0, none⟩ = false := hb1.frozen 0; have HB1 := hide hb1; have HQ := hide (And.intro ownq growq); clear hb1 c1 ownq growq lieq ht hnn)
  go_ret2
  obtain ⟨ownq, growq⟩ := HQ.out
  rw [Nat.zero_add, List.nil_append] at ownq
  have hbl := ((Below.refl B w).drew.grown growq hB (by simp [Value.ownBlock])).setCell (p := ⟨po, 0, none⟩) hpo (.slice Aq (0 + v) cq)
  rw [Nat.zero_add] at hbl
  refine ⟨ret_eq (by first | rfl | (simp; omega)), _, HB1.out.set_ 0 _, ⟨Aq, cq, by rw [HL.out], ?_⟩, hbl⟩
  rw [HL.out]
  exact own_fr ownq ((Fr.refl (fun k => k = po) wq).setCell (p := ⟨po, 0, none⟩) (.inl rfl) _) (fun k hk e => by rw [e] at hk; exact own_blk_ne ownq HB1.out (by decide) hk)

section
variable (g : Nat) (bs : List UInt8) (at_ : Nat) (w : World)
theorem rBytes_calls (n : Int) (hn : IsI64 n) (er : Option (Int × Int)) (h : IsR w g bs at_ er) :
    Calls Try.prog 35 #[.pointer (some ⟨g, 0, none⟩), .int .i64 n] w (RdPost g bs (rBytes bs at_ er n).2.1 (rBytes bs at_ er n).2.2 (OwnB w.heap.size (rBytes bs at_ er n).1) w) := by
  have hg : g < w.heap.size := by obtain ⟨_, _, _, hb, _⟩ := h; exact hb.lt
  match er, h with
  | some x, h => exact (rBytes_err g bs at_ w n x h).mono fun e w' ⟨v, he, hv, h1, h2⟩ => ⟨v, he, by subst hv; exact OwnB.nil _ _, h1, h2⟩
  | none, h =>
    have hle : at_ ≤ bs.length := by
      obtain ⟨_, _, _, _, _, _, _, _, _, h7, _⟩ := h
      exact h7
    have hl8 : (bs.drop at_).length ≤ 1099511627776 := by
      obtain ⟨_, _, _, _, _, _, _, _, _, _, h8⟩ := h
      simp; omega
    have hb0 := (W2.blk2 w 3 23 (.int .i64 n) (.slice none 0 0)).drew
    have hm0 : (W2 w 3 23 (.int .i64 n) (.slice none 0 0)).drew.cell? ⟨w.heap.size, 0, none⟩ = some (.int .i64 n) := (W2.blk1 w 3 23 (.int .i64 n) (.slice none 0 0)).drew.cell 0
    have hbw := (W2.below w 3 23 (.int .i64 n) (.slice none 0 0)).drew
    have hps := W2.size w 3 23 (.int .i64 n) (.slice none 0 0)
    have hst : ∀ v a b, OwnB w.heap.size (rBytes bs at_ none n).1 v a → w.heap.size ≤ a.heap.size → Fr (fun k => k = g) a b → OwnB w.heap.size (rBytes bs at_ none n).1 v b :=
      fun v a b h1 _ h2 => h1.stays (fun k hk => by omega) h2
    simp only [rBytes] at hst ⊢
    cases hp : numP (bs.drop at_) with
    | none =>
      simp only [hp] at hst ⊢
      exact rBytes_none g bs at_ w n _ hst h 0 2 _ _ (.inr ⟨by decide, rfl, rfl⟩) fun A' c' hr _ _ => (bytesK_bad _ A' c' _ _ _ _ hr hl8 hp).mono fun e w1 ⟨he, hw⟩ => ⟨he, _, by subst hw; exact hb0, by subst hw; exact OwnB.nil _ _, by subst hw; exact hbw⟩
    | some q =>
      obtain ⟨v, s⟩ := q
      have hsl : s ≤ (bs.drop at_).length := by have := (numGo_bounds _ 0 0 (by omega) (by simp) (by omega) v s hp).2.2.1; omega
      simp only [hp] at hst ⊢
      by_cases hn0 : n ≤ 0
      · have e : n.toNat = 0 := by omega
        rw [e] at hst ⊢
        by_cases hv : 0 < v
        · simp only [if_pos hv] at hst ⊢
          exact rBytes_none g bs at_ w n _ hst h 0 3 _ _ (.inr ⟨by decide, rfl, rfl⟩) fun A' c' hr _ _ => (bytesK_long_z _ A' c' _ _ _ n v s _ hr hl8 hm0 hn0 hp hv).mono fun e w1 ⟨he, hw⟩ => ⟨he, _, by subst hw; exact hb0, by subst hw; exact OwnB.nil _ _, by subst hw; exact hbw⟩
        · have hs : ¬ (bs.drop at_).length - s < v := by omega
          simp only [if_neg hv, if_neg hs] at hst ⊢
          exact rBytes_none g bs at_ w n _ hst h (s + v) 0 _ _ (.inl ⟨rfl, rfl, by simp at hsl; omega, rfl⟩) fun A' c' hr hlc _ => (bytesK_ok_z _ A' c' _ _ _ n v s _ hr hl8 hm0 hn0 hlc hb0 hp hv hs w.heap.size (by rw [World.size_drew, hps]; omega) (by omega)).mono fun e w1 ⟨he, hw⟩ => ⟨he, by
            obtain ⟨x, h1, h2, h3⟩ := hw
            exact ⟨x, h1, h2, hbw.trans h3⟩⟩
      · obtain ⟨m, rfl⟩ : ∃ m : Nat, n = m := ⟨n.toNat, by omega⟩
        simp only [Int.toNat_natCast] at hst ⊢
        by_cases hv : m < v
        · simp only [if_pos hv] at hst ⊢
          exact rBytes_none g bs at_ w _ _ hst h 0 3 _ _ (.inr ⟨by decide, rfl, rfl⟩) fun A' c' hr _ _ => (bytesK_long_p _ A' c' _ _ _ m v s _ hr hl8 hm0 (by omega) hn hp hv).mono fun e w1 ⟨he, hw⟩ => ⟨he, _, by subst hw; exact hb0, by subst hw; exact OwnB.nil _ _, by subst hw; exact hbw⟩
        · by_cases hs : (bs.drop at_).length - s < v
          · simp only [if_neg hv, if_pos hs] at hst ⊢
            exact rBytes_none g bs at_ w _ _ hst h 0 2 _ _ (.inr ⟨by decide, rfl, rfl⟩) fun A' c' hr _ _ => (bytesK_short_p _ A' c' _ _ _ m v s _ hr hl8 hm0 (by omega) hn hp hv hs).mono fun e w1 ⟨he, hw⟩ => ⟨he, _, by subst hw; exact hb0, by subst hw; exact OwnB.nil _ _, by subst hw; exact hbw⟩
          · simp only [if_neg hv, if_neg hs] at hst ⊢
            exact rBytes_none g bs at_ w _ _ hst h (s + v) 0 _ _ (.inl ⟨rfl, rfl, by simp at hsl hs; omega, rfl⟩) fun A' c' hr hlc _ => (bytesK_ok_p _ A' c' _ _ _ m v s _ hr hl8 hm0 (by omega) hn hlc hb0 hp hv hs w.heap.size (by rw [World.size_drew, hps]; omega) (by omega)).mono fun e w1 ⟨he, hw⟩ => ⟨he, by
              obtain ⟨x, h1, h2, h3⟩ := hw
              exact ⟨x, h1, h2, hbw.trans h3⟩⟩

set_option maxHeartbeats 400000 in
theorem rText_calls (n : Int) (hn : IsI64 n) (er : Option (Int × Int)) (h : IsR w g bs at_ er) :
    Calls Try.prog 36 #[.pointer (some ⟨g, 0, none⟩), .int .i64 n] w (RdPost g bs (rBytes bs at_ er n).2.1 (rBytes bs at_ er n).2.2 (fun v _ => v = .string ⟨(rBytes bs at_ er n).1.toArray⟩) w) := by
  go_enter Try.func36, Try.ntmps36
  go_wp2_with fail
  refine (rBytes_calls g bs at_ w n hn er h).mono ?_
  rintro e w1 ⟨v, rfl, ⟨A, c, rfl, ho⟩, hr, hf⟩
  have hcv := run_string_of_bytes (P := Try.prog) (c := c) 23 9 5 Try.underlying23 Try.underlying5 Try.underlying9 (Reads.of_own ho)
  have HR := hide (And.intro hr hf)
  clear hr hf ho
  go_wp2
  go_ret
  exact ⟨_, rfl, rfl, HR.out.1, HR.out.2⟩

/-- A signed number out of the number that was read. -/
def unzig (n : Nat) : Int := if n % 2 = 1 then -((n / 2 : Nat) : Int) - 1 else ((n / 2 : Nat) : Int)
theorem unzig_zig (x : Int) : unzig (zig x) = x := by
  unfold unzig zig
  split <;> split <;> omega
theorem unzig_bits (q : Nat) (h : IsU64 q) : bits BinOp.xor IntKind.i64 (wrap64 ((q : Int) / 2)) (wrap64 (-wrap64 (bits BinOp.and IntKind.u64 (q : Int) 1))) = unzig q := by
  have h1 : bits BinOp.and IntKind.u64 (q : Int) 1 = ((q % 2 : Nat) : Int) := by
    have := bits_and_u64_nat q 1 h (by omega)
    rw [Nat.and_one_is_mod] at this
    exact this
  unfold IsU64 at h
  rw [h1, IntWalk.wrap64_in ((q : Int) / 2) (by omega), IntWalk.wrap64_in ((q % 2 : Nat) : Int) (by omega), IntWalk.wrap64_in _ (by omega)]
  unfold unzig
  show IntKind.i64.wrap ((BitVec.ofInt 64 _ ^^^ BitVec.ofInt 64 _).toNat : Int) = _
  by_cases ho : q % 2 = 1
  · rw [if_pos ho, ho, show BitVec.ofInt 64 (-((1 : Nat) : Int)) = BitVec.allOnes 64 from by decide, BitVec.xor_allOnes, BitVec.toNat_not, BitVec.toNat_ofInt]
    simp only [IntKind.wrap_i64]
    omega
  · have h0 : q % 2 = 0 := by omega
    rw [if_neg ho, h0, show BitVec.ofInt 64 (-((0 : Nat) : Int)) = 0#64 from by decide, BitVec.xor_zero, BitVec.toNat_ofInt]
    simp only [IntKind.wrap_i64]
    omega
theorem rNum_u64 (bs : List UInt8) (at_ : Nat) (er : Option (Int × Int)) (most : Nat) : IsU64 (rNum bs at_ er most).1 := by
  unfold rNum IsU64
  split
  · simp
  · split
    · simp
    · rename_i v s hp
      have := (numGo_bounds _ 0 0 (by omega) (by simp) (by omega) v s hp).1
      split <;> simp <;> omega
set_option maxHeartbeats 400000 in
set_option maxRecDepth 20000 in
theorem rInt_calls (er : Option (Int × Int)) (h : IsR w g bs at_ er) :
    Calls Try.prog 33 #[.pointer (some ⟨g, 0, none⟩)] w (RdPost g bs (rNum bs at_ er 18446744073709551615).2.1 (rNum bs at_ er 18446744073709551615).2.2 (fun v _ => v = .int .i64 (unzig (rNum bs at_ er 18446744073709551615).1)) w) := by
  go_enter Try.func33, Try.ntmps33
  go_wp2_with fail
  refine (rNumber_calls g bs at_ w 18446744073709551615 er h).mono ?_
  rintro e w1 ⟨rfl, hr, hf⟩
  have HR := hide (And.intro hr hf)
  clear hr hf
  obtain ⟨q, hq⟩ : ∃ q, q = (rNum bs at_ er 18446744073709551615).1 := ⟨_, rfl⟩
  rw [← hq]
  have HQ := hide hq
  clear hq
  go_wp2
  go_ret
  refine ⟨_, ret_eq rfl, ?_, HR.out.1, HR.out.2⟩
  rw [← HQ.out]
  exact int_eq (unzig_bits q (by rw [HQ.out]; exact rNum_u64 _ _ _ _))

set_option maxHeartbeats 400000 in
theorem rErr_calls (er : Option (Int × Int)) (h : IsR w g bs at_ er) :
    Calls Try.prog 38 #[.pointer (some ⟨g, 0, none⟩)] w (fun e w' => ∃ v, e = .returned v ∧ ErrIs w v er ∧ w = w') := by
  obtain ⟨A, c, ev, h1, h2, h3, h4, h5, h6, h7, h8⟩ := h
  have c2 : w.cell? ⟨g, 2, none⟩ = some ev := h1.cell 2
  have H6 := hide h6
  clear h1 h2 h6
  go_enter Try.func38, Try.ntmps38
  go_wp2
  go_ret
  exact ⟨_, ret_eq rfl, H6.out, rfl⟩

/-- The first error that there is. -/
def firstV : List Value → Value
  | [] => .nilIface
  | v :: l => match v with | .nilIface => firstV l | v => v
def IfaceV (v : Value) : Prop := v = .nilIface ∨ ∃ t x, v = .iface t x
theorem firstV_drop (l : List Value) (k : Nat) (hk : k < l.length) (h : ∀ j (hj : j < k), l[j]'(by omega) = .nilIface) : firstV l = firstV (l.drop k) := by
  induction k generalizing l with
  | zero => rfl
  | succ k ih =>
    match l, hk with
    | v :: l, hk =>
      have h0 : v = .nilIface := h 0 (by omega)
      subst h0
      rw [List.drop_succ_cons]
      exact ih l (by simpa using hk) fun j hj => h (j + 1) (by omega)
set_option maxHeartbeats 400000 in
theorem first_calls (vs : List Value) (A : Option Addr) (c B : Nat) (hr : Reads w B 1 A vs.length vs) (hv : ∀ v ∈ vs, IfaceV v) (hl : vs.length ≤ 1099511627776) :
    Calls Try.prog 56 #[.slice A vs.length c] w (fun e w' => e = .returned (firstV vs) ∧ w = w') := by
  go_enter Try.func56, Try.ntmps56
  go_wp2
  go_loop [7] (fun i => ∃ k : Nat, k ≤ vs.length ∧ i = .int .i64 k ∧ ∀ j (hj : j < vs.length), j < k → vs[j] = .nilIface) (fun i => vs.length - (intOf i).toNat)
  case atStart => exact ⟨0, Nat.zero_le _, rfl, fun j hj h => by omega⟩
  case round =>
    obtain ⟨k, hk, rfl, hn⟩ := hrel
    have HN := hide hn
    clear hn
    by_cases hlt : k < vs.length
    · obtain ⟨b, o, u, rfl, _, hu, hc⟩ := hr.at_ hlt
      rw [List.getElem?_eq_getElem hlt] at hu
      injection hu with hu
      have hi := hv _ (List.getElem_mem hlt)
      rw [hu] at hi
      have HU := hide hu
      clear hu hr hv
      rcases hi with rfl | ⟨t, x, rfl⟩
      · go_wp2
        refine ⟨⟨k + 1, by omega, by go_num, fun j hj hjk => ?_⟩, by simp [intOf]; omega⟩
        rcases Nat.lt_or_ge j k with h | h
        · exact HN.out j hj h
        · obtain rfl : j = k := by omega
          exact HU.out
      · have HF : Hid (firstV vs = .iface t x) := by
          show firstV vs = _
          rw [firstV_drop vs k hlt fun j hj => HN.out j (by omega) hj, List.drop_eq_getElem_cons hlt, HU.out]
          rfl
        go_wp2
        go_ret
        exact ⟨ret_eq (by rw [HF.out]; rfl), rfl⟩
    · have HF : Hid (firstV vs = .nilIface) := by
        show firstV vs = _
        have hall := HN.out
        have : ∀ l : List Value, (∀ j (hj : j < l.length), l[j] = .nilIface) → firstV l = .nilIface := by
          intro l
          induction l with
          | nil => intro _; rfl
          | cons v l ih =>
            intro h
            have h0 : v = .nilIface := h 0 (by simp)
            subst h0
            exact ih fun j hj => h (j + 1) (by simpa using hj)
        exact this vs fun j hj => hall j hj (by omega)
      clear hr hv
      go_wp2
      go_ret
      exact ⟨ret_eq (by rw [HF.out]; rfl), rfl⟩

theorem iface_two (a : Value) (t : TypeId) (x : Value) (h : IfaceV a) : ∀ v ∈ [a, .iface t x], IfaceV v := by
  intro v hv
  simp at hv
  rcases hv with rfl | rfl
  · exact h
  · exact .inr ⟨_, _, rfl⟩
/-- End's error. -/
def rEnd (bs : List UInt8) (at_ : Nat) (er : Option (Int × Int)) : Option (Int × Int) := match er with
  | some x => some x
  | none => if at_ < bs.length then some (2, at_) else none
set_option maxHeartbeats 1000000 in
theorem rEnd_calls (er : Option (Int × Int)) (h : IsR w g bs at_ er) :
    Calls Try.prog 30 #[.pointer (some ⟨g, 0, none⟩)] w (fun e w' => ∃ v, e = .returned v ∧ ErrIs w' v (rEnd bs at_ er) ∧ Below w.heap.size w w') := by
  have HR := hide h
  obtain ⟨A, c, ev, h1, h2, h3, h4, h5, h6, h7, h8⟩ := h
  have c0 : w.cell? ⟨g, 0, none⟩ = some (.slice A bs.length c) := h1.cell 0
  have c1 : w.cell? ⟨g, 1, none⟩ = some (.int .i64 at_) := h1.cell 1
  have c2 : w.cell? ⟨g, 2, none⟩ = some ev := h1.cell 2
  have hiv : IfaceV ev := by
    match er, h6 with
    | none, h => exact .inl h
    | some x, ⟨_, h, _⟩ => exact .inr ⟨_, _, h⟩
  have H6 := hide h6
  have HIV := hide hiv
  have hg := h1.lt
  clear h1 h2 h6 hiv
  by_cases hlt : at_ < bs.length
  · have hd : decide ((at_ : Int) < (bs.length : Int)) = true := by simp; omega
    rcases HIV.out with rfl | ⟨t, x, rfl⟩
    · have HI2 := hide (iface_two .nilIface 92 (.pointer (some ⟨w.heap.size, 0, none⟩)) (.inl rfl))
      go_enter Try.func30, Try.ntmps30
      go_wp2_with fail
      go_quiet (fail)
      go_wp2_with fail
      go_region_held3 (fun w' => w'.cell? ⟨g, 1, none⟩ = some (.int .i64 at_) ∧ w'.cell? ⟨g, 2, none⟩ = some (.nilIface)) (go_keep) (first | (go_at_call 57; refine (wrap_calls _ _ _).mono ?_; rintro e w1 ⟨rfl, rfl⟩) | (go_at_call 56; refine (first_calls _ [.nilIface, .iface 92 (.pointer (some ⟨w.heap.size, 0, none⟩))] _ _ _ (Reads.lit_at (by simp) _ _ (by simp [maxLen])) HI2.out (by simp)).mono ?_; rintro e w1 ⟨rfl, rfl⟩))
      go_wp2
      go_ret
      refine ⟨_, ret_eq rfl, ?_, ?_⟩
      · match er, H6.out with
        | none, _ =>
          have : rEnd bs at_ none = some (2, (at_ : Int)) := by simp [rEnd, hlt]
          rw [this]
          exact ⟨w.heap.size, rfl, (Blk.new (w.drewN _) 94 _).alloc _⟩
        | some x, ⟨_, h, _⟩ => cases h
      · exact (((below_drewN (Below.refl _ _) _).alloc (Nat.le_refl _) _).alloc (by simp) _)
    · have HI2 := hide (iface_two (.iface t x) 92 (.pointer (some ⟨w.heap.size, 0, none⟩)) (.inr ⟨_, _, rfl⟩))
      go_enter Try.func30, Try.ntmps30
      go_wp2_with fail
      go_quiet (fail)
      go_wp2_with fail
      go_region_held3 (fun w' => w'.cell? ⟨g, 1, none⟩ = some (.int .i64 at_) ∧ w'.cell? ⟨g, 2, none⟩ = some (.iface t x)) (go_keep) (first | (go_at_call 57; refine (wrap_calls _ _ _).mono ?_; rintro e w1 ⟨rfl, rfl⟩) | (go_at_call 56; refine (first_calls _ [.iface t x, .iface 92 (.pointer (some ⟨w.heap.size, 0, none⟩))] _ _ _ (Reads.lit_at (by simp) _ _ (by simp [maxLen])) HI2.out (by simp)).mono ?_; rintro e w1 ⟨rfl, rfl⟩))
      go_wp2
      go_ret
      have hbel := (((below_drewN (Below.refl w.heap.size w) (nq + 1)).alloc (Nat.le_refl _) (.cells #[.int .i64 at_, .iface 81 (.int .i64 2)] 94)).alloc (by simp) (.cells #[.iface t x, .iface 92 (.pointer (some ⟨w.heap.size, 0, none⟩))] 58))
      refine ⟨_, ret_eq rfl, ?_, hbel⟩
      match er, H6.out with
      | none, h => cases h
      | some x, h => exact h.fr (Fr.of_below' hbel (fun _ => False)) (fun _ _ _ => id)
  · have hd : decide ((at_ : Int) < (bs.length : Int)) = false := by simp; omega
    go_enter Try.func30, Try.ntmps30
    go_wp2_with fail
    go_quiet (fail)
    go_wp2_with fail
    refine (rErr_calls g bs at_ _ er (HR.out.drewN _)).mono ?_
    rintro e w1 ⟨v, rfl, he, rfl⟩
    have HE := hide he
    clear he
    go_wp2
    go_ret
    refine ⟨v, ret_eq rfl, ?_, below_drewN (Below.refl _ _) _⟩
    match er, HE.out with
    | some x, h => exact h
    | none, h =>
      have : rEnd bs at_ none = none := by simp [rEnd, hlt]
      rw [this]; exact h
end
end Go.Proofs.Ytidohbnmkogkmaa
