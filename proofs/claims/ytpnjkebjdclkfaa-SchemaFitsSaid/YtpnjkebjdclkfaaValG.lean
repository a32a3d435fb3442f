/- Values, walked: whether one is right, with its parts. Conditions: none. -/
import Derived.Test.YtpnjkebjdclkfaaValF
import Derived.Test.YtpnjkebjdclkfaaSchG
namespace Go.Proofs.Ytpnjkebjdclkfaa
open Go.RowKit

set_option maxHeartbeats 1000000 in
set_option maxRecDepth 20000 in
theorem valG_index (K : Nat) (cap0 : Value) (hK : ∀ (x : Array Value) W, (callFunc K x).run Try.prog W = .ok (.enter K x) W) (n : Nat) (A : Option Addr) (c : Nat) (V : Nat → Value) (p : Nat → Bool) (w : World) (hn : n ≤ 140737488351232)
    (hA : 0 < n → ∃ b o, A = some ⟨b, o, none⟩ ∧ b < w.heap.size ∧ ∀ i, i < n → ∃ cs : List Value, V i = .agg cs.toArray ∧ cs.length = 6 ∧ w.rangeAt b (o + i * 6) cs)
    (hcall : ∀ i, i < n → ∀ W, Below w.heap.size w W → Calls Try.prog K #[V i, cap0] W (Gives (.bool (p i)) W)) :
    Calls Try.prog 139 #[.slice A n c, .func (.func K) #[] #[cap0]] w (IdxPost p n w) := by
  have HA := hide hA
  have HC := hide hcall
  clear hA hcall
  go_enter Try.func139, Try.ntmps139
  go_wp2_with fail
  go_loopw [8] (fun i wr => ∃ (k : Nat), i = .int .i64 k ∧ k ≤ n ∧ (∀ r, r < k → p r = false) ∧ Below w.heap.size w wr) (fun i _ => n - (intOf i).toNat)
  case atStart => exact ⟨0, rfl, Nat.zero_le _, fun r hr => by omega, Below.refl _ _⟩
  case round =>
    obtain ⟨k, rfl, hk, hno, hw⟩ := hrel
    obtain ⟨wo, rfl⟩ : ∃ wo : World, wo = wr := ⟨_, rfl⟩
    have GW := hide hw
    have GN := hide hno
    clear hw hno
    by_cases hlt : k < n
    · obtain ⟨b, o, rfl, hb, hV⟩ := HA.out (by omega)
      have hcall' := HC.out k hlt
      obtain ⟨cs, hv, hc3, hr⟩ := hV k hlt
      have HRW : Hid (wo.rangeAt b (o + k * 6) cs) := hide fun q v hv => (GW.out.cell (p := ⟨b, o + k * 6 + q, none⟩) hb).trans (hr q v hv)
      have HC3 := hide hc3
      clear hr hc3
      cases hx : p k
      all_goals
        have HX := hide hx
        rw [hx] at hcall'
        clear hx hV
        rw [hv] at hcall'

        have HCL := hide hcall'
        clear hcall'
        go_wp2_with (first | (refine wpList_load_mid rfl 31 _ rfl b (o + k * 6) rfl cs _ HRW.out rfl rfl (by rw [HC3.out]; kernel_rfl) ?_) | fail)
        refine (HCL.out _ GW.out).mono ?_
        rintro e w1 ⟨rfl, hb1⟩
        have KW := hide (GW.out.trans (hb1.mono GW.out.size))
        clear hb1
      · go_wp2_with fail
        exact ⟨⟨k + 1, by go_num, by omega, fun r hr => by
          by_cases e : r = k
          · rw [e]; exact HX.out
          · exact GN.out r (by omega), KW.out⟩, by simp [intOf]; omega⟩
      · go_wp2
        go_ret
        exact ⟨.inl ⟨k, hlt, rfl, HX.out, GN.out⟩, KW.out⟩
    · obtain rfl : k = n := by omega
      go_wp2
      go_ret
      exact ⟨.inr ⟨rfl, GN.out⟩, GW.out⟩

set_option maxHeartbeats 400000 in
theorem valG_contains (K : Nat) (cap0 : Value) (hK : ∀ (x : Array Value) W, (callFunc K x).run Try.prog W = .ok (.enter K x) W) (n : Nat) (A : Option Addr) (c : Nat) (V : Nat → Value) (p : Nat → Bool) (w : World) (hn : n ≤ 140737488351232)
    (hA : 0 < n → ∃ b o, A = some ⟨b, o, none⟩ ∧ b < w.heap.size ∧ ∀ i, i < n → ∃ cs : List Value, V i = .agg cs.toArray ∧ cs.length = 6 ∧ w.rangeAt b (o + i * 6) cs)
    (hcall : ∀ i, i < n → ∀ W, Below w.heap.size w W → Calls Try.prog K #[V i, cap0] W (Gives (.bool (p i)) W)) :
    Calls Try.prog 113 #[.slice A n c, .func (.func K) #[] #[cap0]] w (Gives (.bool ((List.range n).any p)) w) := by
  have HI := hide (valG_index K cap0 hK n A c V p w hn hA hcall)
  clear hA hcall hK
  go_enter Try.func113, Try.ntmps113
  go_wp2_with fail
  refine HI.out.mono ?_
  rintro e w1 ⟨hi, hb⟩
  have HB := hide hb
  clear hb
  rcases hi with ⟨k, hk, rfl, hp, hno⟩ | ⟨rfl, hno⟩
  · have hx : (List.range n).any p = true := List.any_eq_true.2 ⟨k, List.mem_range.2 hk, hp⟩
    have HX := hide hx
    clear hx hp hno
    go_wp2
    go_ret
    exact ⟨ret_eq (by rw [HX.out]; rfl), HB.out⟩
  · have hx : (List.range n).any p = false := List.any_eq_false.2 fun r hr => by simp [hno r (List.mem_range.1 hr)]
    have HX := hide hx
    clear hx hno
    go_wp2
    go_ret
    exact ⟨ret_eq (by rw [HX.out]; rfl), HB.out⟩


instance : Inhabited DVal := ⟨.mk 0 0 [] [] [] []⟩
def rightV : Nat → DVal → Bool
  | 0, _ => false
  | k + 1, s => plainV s && s.parts.all (rightV k)

theorem all_getDV (l : List DVal) (f : DVal → Bool) : ((List.range l.length).any fun i => !f (l.getD i default)) = !l.all f := by
  rw [Bool.eq_iff_iff, List.any_eq_true]
  simp only [Bool.not_eq_true', List.all_eq_false, List.mem_range]
  constructor
  · rintro ⟨i, hi, h⟩
    exact ⟨l.getD i default, by simp [List.getD, hi], by rw [h]; simp⟩
  · rintro ⟨x, hx, h⟩
    obtain ⟨i, hi, rfl⟩ := List.getElem_of_mem hx
    exact ⟨i, hi, by simpa [List.getD, hi] using h⟩

set_option maxHeartbeats 2000000 in
set_option maxRecDepth 20000 in
theorem valRight_calls (k : Nat) : ∀ (s : DVal) (cs : List Value) (w : World), k ≤ 1000 → IsVal w (· < w.heap.size) s cs →
    Calls Try.prog 81 #[.agg cs.toArray, .int .i64 k] w (Gives (.bool (rightV k s)) w) := by
  induction k with
  | zero =>
    intro s cs w hk hs
    go_enter Try.func81, Try.ntmps81
    go_wp2
    go_ret
    exact ⟨ret_eq rfl, ((Below.refl _ _).alloc (Nat.le_refl _) _).alloc (by simp) _⟩
  | succ k ih =>
    intro s cs w hk hs
    obtain ⟨Ap, cp, C, hp1, hpc, hpm, hP, hA⟩ := hs.partsF
    have HW0 := hide (((Below.refl w.heap.size w).alloc (Nat.le_refl _) (.cells cs.toArray 31)).alloc (by simp) (.cells #[.int .i64 ((k : Int) + 1)] 3))
    have HX := hide ((Blk.new w 31 cs.toArray).alloc (.cells #[.int .i64 ((k : Int) + 1)] 3))
    have HY := hide (Blk.new2 w (.cells cs.toArray 31) 3 #[.int .i64 ((k : Int) + 1)])
    have HL := hide (show (Try.prog.info? 31).map (·.size) = some cs.length by rw [hs.length]; kernel_rfl)
    have HCP := hide (fun (W : World) (hW : Below w.heap.size w W) => valPlain_calls s cs W (hs.more hW))
    have HK1 : ∀ (W : World) (p : DVal) (D : List Value) (g : Nat), IsVal W (· < W.heap.size) p D → Blk W g 3 #[.int .i64 ((k : Int) + 1)] → Calls Try.prog 114 #[.agg D.toArray, .pointer (some ⟨g, 0, none⟩)] W (Gives (.bool (!rightV k p)) W) := by
      intro W p D g hp hg
      have hgl := hg.lt
      have B0 := (Below.refl W.heap.size W).alloc (Nat.le_refl _) (.cells D.toArray 31)
      have c0 : (W.alloc (.cells D.toArray 31)).cell? ⟨g, 0, none⟩ = some (.int .i64 ((k : Int) + 1)) := (hg.alloc _).cell 0
      have HI := hide (ih p D _ (by omega) (hp.more B0))
      have HB := hide (Blk.new W 31 D.toArray)
      have HB0 := hide B0
      have HL := hide (show (Try.prog.info? 31).map (·.size) = some D.toArray.size by rw [List.size_toArray, hp.length]; kernel_rfl)
      clear hp hg B0 ih hs hP hA
      go_enter Try.func114, Try.ntmps114
      go_wp2_with (first | (refine wpList_load_blk rfl 31 _ rfl _ rfl _ _ HB.out _ rfl rfl HL.out ?_) | fail)
      refine HI.out.mono ?_
      rintro e w1 ⟨rfl, hb1⟩
      have HB1 := hide (HB0.out.trans (hb1.mono HB0.out.size))
      clear hb1
      go_wp2
      go_ret
      exact ⟨ret_eq rfl, HB1.out⟩
    have HCC : Hid (∀ (W : World) (hW : Below w.heap.size w W) (hg : Blk W (w.heap.size + 1) 3 #[.int .i64 ((k : Int) + 1)]), Calls Try.prog 113 #[.slice Ap s.parts.length cp, .func (.func 114) #[] #[.pointer (some ⟨w.heap.size + 1, 0, none⟩)]] W (Gives (.bool (!s.parts.all (rightV k))) W)) := hide fun W hW hg => by
      have := valG_contains 114 (.pointer (some ⟨w.heap.size + 1, 0, none⟩)) (fun _ _ => by kernel_rfl) s.parts.length Ap cp (fun i => .agg (C i).toArray) (fun i => !rightV k (s.parts.getD i default)) W (by omega)
        (fun h0 => by
          obtain ⟨x, o, e, hx, hc⟩ := hA h0
          exact ⟨x, o, e, Nat.lt_of_lt_of_le hx hW.size, fun i hi => ⟨C i, rfl, (hc i hi).1, fun q v hv => (hW.cell (p := ⟨x, o + i * 6 + q, none⟩) hx).trans ((hc i hi).2 q v hv)⟩⟩)
        (fun i hi W2 hW2 => by
          have e1 : s.parts.getD i default = s.parts[i] := by simp [List.getD, hi]
          rw [e1]
          exact HK1 W2 _ _ _ ((hP i _ (List.getElem?_eq_getElem hi)).more (hW.trans (hW2.mono hW.size))) (hg.below hW2 hg.lt))
      rwa [all_getDV] at this
    have HSP : Hid (rightV (k + 1) s = (plainV s && s.parts.all (rightV k))) := hide rfl
    clear ih hs hP hA HK1
    cases hpl : plainV s
    all_goals
      rw [hpl] at HCP HSP
      clear hpl
      go_enter Try.func81, Try.ntmps81
      go_wp2_with (first | (refine wpList_load_blkG (by rfl) 31 _ rfl _ rfl _ cs HX.out _ rfl rfl HL.out ?_) | fail)
      refine (HCP.out _ HW0.out).mono ?_
      rintro e w1 ⟨rfl, hb1⟩
      have HB1 := hide (HW0.out.trans (hb1.mono HW0.out.size))
      have HX1 := hide (HX.out.below hb1 HX.out.lt)
      have HY1 := hide (HY.out.below hb1 HY.out.lt)
      clear hb1
    · go_wp2
      go_ret
      exact ⟨ret_eq (by rw [HSP.out]; rfl), HB1.out⟩
    · rw [Bool.true_and] at HSP
      have c2 : w1.cell? ⟨w.heap.size, 5, none⟩ = some (.slice Ap s.parts.length cp) := by rw [HX1.out.cell]; simpa using hp1
      go_wp2_with fail
      refine (HCC.out _ HB1.out HY1.out).mono ?_
      rintro e w2 ⟨rfl, hb2⟩
      have HB2 := hide (HB1.out.trans (hb2.mono HB1.out.size))
      clear hb2
      generalize s.parts.all (rightV k) = x at *
      go_wp2
      go_ret
      exact ⟨ret_eq (by rw [HSP.out]; first | rfl | (simp; done) | (simp; omega) | (simp; rw [Bool.eq_iff_iff]; simp; omega) | (rw [Bool.eq_iff_iff]; simp; omega) | (simp; rw [Bool.eq_iff_iff]; simp)), HB2.out⟩

set_option maxHeartbeats 400000 in
set_option maxRecDepth 20000 in
theorem valRightP_calls (s : DVal) (cs : List Value) (w : World) (hs : IsVal w (· < w.heap.size) s cs) :
    Calls Try.prog 44 #[.agg cs.toArray] w (Gives (.bool (rightV 5 s)) w) := by
  have HW0 := hide ((Below.refl w.heap.size w).alloc (Nat.le_refl _) (.cells cs.toArray 31))
  have HX := hide (Blk.new w 31 cs.toArray)
  have HL := hide (show (Try.prog.info? 31).map (·.size) = some cs.toArray.size by rw [List.size_toArray, hs.length]; kernel_rfl)
  have HC := hide (valRight_calls 5 s cs _ (by omega) (hs.more HW0.out))
  clear hs
  go_enter Try.func44, Try.ntmps44
  go_wp2_with (first | (refine wpList_load_blk rfl 31 _ rfl _ rfl _ _ HX.out _ rfl rfl HL.out ?_) | fail)
  refine HC.out.mono ?_
  rintro e w1 ⟨rfl, hb1⟩
  have HB1 := hide (HW0.out.trans (hb1.mono HW0.out.size))
  clear hb1
  go_wp2
  go_ret
  exact ⟨ret_eq rfl, HB1.out⟩


end Go.Proofs.Ytpnjkebjdclkfaa
