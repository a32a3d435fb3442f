/- Texts of a proof, part 2. Conditions: none. -/
import Derived.Test.YtogbklnkpjjkoaaGreatDoorR1
import Derived.Deep.MidRow
set_option linter.unusedVariables false
set_option linter.unusedSimpArgs false
namespace Go.Proofs.YtogbklnkpjjkoaaGreatDoor
open Go.RowKit

set_option maxHeartbeats 1000000 in
set_option maxRecDepth 20000 in
theorem schG_index (K : Nat) (cap0 : Value) (hK : ∀ (x : Array Value) W, (callFunc K x).run Tryz.prog W = .ok (.enter K x) W) (n : Nat) (A : Option Addr) (c : Nat) (V : Nat → Value) (p : Nat → Bool) (w : World) (hn : n ≤ 140737488351232)
    (hA : 0 < n → ∃ b o, A = some ⟨b, o, none⟩ ∧ b < w.heap.size ∧ ∀ i, i < n → ∃ cs : List Value, V i = .agg cs.toArray ∧ cs.length = 3 ∧ w.rangeAt b (o + i * 3) cs)
    (hcall : ∀ i, i < n → ∀ W, Below w.heap.size w W → Calls Tryz.prog K #[V i, cap0] W (Gives (.bool (p i)) W)) :
    Calls Tryz.prog 120 #[.slice A n c, .func (.func K) #[] #[cap0]] w (IdxPost p n w) := by
  have HA := hide hA
  have HC := hide hcall
  clear hA hcall
  go_enter Tryz.func120, Tryz.ntmps120
  go_wp2_with fail
  go_loopw [8] (fun i wr => ∃ (k : Nat), i = .int .i64 k ∧ k ≤ n ∧ (∀ r, r < k → p r = false) ∧ Below w.heap.size w wr) (fun i _ => n - (intOf i).toNat)
  case atStart => exact ⟨0, rfl, Nat.zero_le _, fun r hr => by omega, Below.refl _ _⟩
  case round =>
    obtain ⟨k, rfl, hk, hno, hw⟩ := hrel
    obtain ⟨wo, rfl⟩ : ∃ wo : World, wo = wr := ⟨_, rfl⟩
    have GW := hide hw
    have GN := hide hno
    clear hw hno
    by_cases hlt : k < n
    · obtain ⟨b, o, rfl, hb, hV⟩ := HA.out (by omega)
      have hcall' := HC.out k hlt
      obtain ⟨cs, hv, hc3, hr⟩ := hV k hlt
      have HRW : Hid (wo.rangeAt b (o + k * 3) cs) := hide fun q v hv => (GW.out.cell (p := ⟨b, o + k * 3 + q, none⟩) hb).trans (hr q v hv)
      have HC3 := hide hc3
      clear hr hc3
      cases hx : p k
      all_goals
        have HX := hide hx
        rw [hx] at hcall'
        clear hx hV
        rw [hv] at hcall'

        have HCL := hide hcall'
        clear hcall'
        go_wp2_with (first | (refine wpList_load_mid rfl 25 _ rfl b (o + k * 3) rfl cs _ HRW.out rfl rfl (by rw [HC3.out]; kernel_rfl) ?_) | fail)
        refine (HCL.out _ GW.out).mono ?_
        rintro e w1 ⟨rfl, hb1⟩
        have KW := hide (GW.out.trans (hb1.mono GW.out.size))
        clear hb1
      · go_wp2_with fail
        exact ⟨⟨k + 1, by go_num, by omega, fun r hr => by
          by_cases e : r = k
          · rw [e]; exact HX.out
          · exact GN.out r (by omega), KW.out⟩, by simp [intOf]; omega⟩
      · go_wp2
        go_ret
        exact ⟨.inl ⟨k, hlt, rfl, HX.out, GN.out⟩, KW.out⟩
    · obtain rfl : k = n := by omega
      go_wp2
      go_ret
      exact ⟨.inr ⟨rfl, GN.out⟩, GW.out⟩

set_option maxHeartbeats 400000 in
theorem schG_contains (K : Nat) (cap0 : Value) (hK : ∀ (x : Array Value) W, (callFunc K x).run Tryz.prog W = .ok (.enter K x) W) (n : Nat) (A : Option Addr) (c : Nat) (V : Nat → Value) (p : Nat → Bool) (w : World) (hn : n ≤ 140737488351232)
    (hA : 0 < n → ∃ b o, A = some ⟨b, o, none⟩ ∧ b < w.heap.size ∧ ∀ i, i < n → ∃ cs : List Value, V i = .agg cs.toArray ∧ cs.length = 3 ∧ w.rangeAt b (o + i * 3) cs)
    (hcall : ∀ i, i < n → ∀ W, Below w.heap.size w W → Calls Tryz.prog K #[V i, cap0] W (Gives (.bool (p i)) W)) :
    Calls Tryz.prog 84 #[.slice A n c, .func (.func K) #[] #[cap0]] w (Gives (.bool ((List.range n).any p)) w) := by
  have HI := hide (schG_index K cap0 hK n A c V p w hn hA hcall)
  clear hA hcall hK
  go_enter Tryz.func84, Tryz.ntmps84
  go_wp2_with fail
  refine HI.out.mono ?_
  rintro e w1 ⟨hi, hb⟩
  have HB := hide hb
  clear hb
  rcases hi with ⟨k, hk, rfl, hp, hno⟩ | ⟨rfl, hno⟩
  · have hx : (List.range n).any p = true := List.any_eq_true.2 ⟨k, List.mem_range.2 hk, hp⟩
    have HX := hide hx
    clear hx hp hno
    go_wp2
    go_ret
    exact ⟨ret_eq (by rw [HX.out]; rfl), HB.out⟩
  · have hx : (List.range n).any p = false := List.any_eq_false.2 fun r hr => by simp [hno r (List.mem_range.1 hr)]
    have HX := hide hx
    clear hx hno
    go_wp2
    go_ret
    exact ⟨ret_eq (by rw [HX.out]; rfl), HB.out⟩


def plainS (s : DSch) : Bool :=
  if s.kind = 1 ∨ s.kind = 2 ∨ s.kind = 3 then decide (s.words.length = 0) && decide (s.parts.length = 0)
  else if s.kind = 4 then decide (0 < s.words.length) && (namesB s.words && (unlikeB s.words && decide (s.parts.length = 0)))
  else if s.kind = 5 then namesB s.words && (risingB s.words && decide (s.parts.length = s.words.length))
  else if s.kind = 6 then decide (s.words.length = 0) && decide (s.parts.length = 1)
  else false
def rightS : Nat → DSch → Bool
  | 0, _ => false
  | k + 1, s => plainS s && s.parts.all (rightS k)

set_option maxHeartbeats 2000000 in
set_option maxRecDepth 20000 in
theorem schPlain_calls (s : DSch) (cs : List Value) (w : World) (hs : IsSch w (· < w.heap.size) s cs) :
    Calls Tryz.prog 83 #[.agg cs.toArray] w (Gives (.bool (plainS s)) w) := by
  obtain ⟨hk1, hki⟩ := hs.kind_
  obtain ⟨Aw, cw, hw1, hwr, hwz, hwc, hwm⟩ := hs.words_
  obtain ⟨Ap, cp, C, hp1, hpc, hpm, hP, hA⟩ := hs.partsF
  have HW0 := hide ((Below.refl w.heap.size w).alloc (Nat.le_refl _) (.cells cs.toArray 25))
  have HX := hide (Blk.new w 25 cs.toArray)
  have HCN := hide (fun (W : World) (hW : Below w.heap.size w W) => names_calls s.words Aw cw W (hwr.more hW) hwz (by omega))
  have HCU := hide (fun (W : World) (hW : Below w.heap.size w W) => unlike_calls s.words Aw cw W (hwr.more hW) (by omega) hwc)
  have HCR := hide (fun (W : World) (hW : Below w.heap.size w W) => rising_calls s.words Aw cw W (hwr.more hW) (by omega) hwc)
  have HSP : Hid (plainS s = _) := hide (by unfold plainS; exact rfl)
  have hkb := i64_wf hki
  clear hs hwr hwz hP hA hki
  generalize plainS s = res at *
  generalize namesB s.words = bn at *
  generalize unlikeB s.words = bu at *
  generalize risingB s.words = br at *
  generalize s.words.length = nw at *
  generalize s.parts.length = np at *
  generalize s.kind = kd at *
  have key : kd = 1 ∨ kd = 2 ∨ kd = 3 ∨ kd = 4 ∨ kd = 5 ∨ kd = 6 ∨ (kd ≠ 1 ∧ kd ≠ 2 ∧ kd ≠ 3 ∧ kd ≠ 4 ∧ kd ≠ 5 ∧ kd ≠ 6) := by omega
  rcases key with rfl | rfl | rfl | rfl | rfl | rfl | ⟨n1, n2, n3, n4, n5, n6⟩
  case inr.inr.inr.inr.inr.inr =>
    have e1 : (kd == 1) = false := by simpa using n1
    have e2 : (kd == 2) = false := by simpa using n2
    have e3 : (kd == 3) = false := by simpa using n3
    have e4 : (kd == 4) = false := by simpa using n4
    have e5 : (kd == 5) = false := by simpa using n5
    have e6 : (kd == 6) = false := by simpa using n6
    have HR : Hid (res = false) := hide (by rw [HSP.out]; simp [n1, n2, n3, n4, n5, n6])
    clear n1 n2 n3 n4 n5 n6 HSP
    go_enter Tryz.func83, Tryz.ntmps83
    go_wp2
    go_ret
    exact ⟨ret_eq (by rw [HR.out]; rfl), HW0.out⟩
  case inr.inr.inr.inl =>
    have HR : Hid (res = (decide (0 < nw) && (bn && (bu && decide (np = 0))))) := hide (by rw [HSP.out]; simp)
    clear HSP
    by_cases h0 : 0 < nw
    · rw [decide_eq_true h0, Bool.true_and] at HR
      have h0' : decide ((0 : Int) < (nw : Int)) = true := by simp; omega
      cases bn
      all_goals
        go_enter Tryz.func83, Tryz.ntmps83
        go_wp2_with fail
        refine (HCN.out _ HW0.out).mono ?_
        rintro e w1 ⟨rfl, hb1⟩
        have HB1 := hide (HW0.out.trans (hb1.mono HW0.out.size))
        have HX1 := hide (HX.out.below hb1 HX.out.lt)
        clear hb1
      · go_wp2
        go_ret
        exact ⟨ret_eq (by rw [HR.out]; rfl), HB1.out⟩
      · rw [Bool.true_and] at HR
        have c1 : w1.cell? ⟨w.heap.size, 1, none⟩ = some (.slice Aw nw cw) := by rw [HX1.out.cell]; simpa using hw1
        have c2 : w1.cell? ⟨w.heap.size, 2, none⟩ = some (.slice Ap np cp) := by rw [HX1.out.cell]; simpa using hp1
        cases bu
        all_goals
          go_wp2_with fail
          refine (HCU.out _ HB1.out).mono ?_
          rintro e w2 ⟨rfl, rfl⟩
          go_wp2
          go_ret
          exact ⟨ret_eq (by rw [HR.out]; first | rfl | (simp; done) | (simp; omega) | (simp; rw [Bool.eq_iff_iff]; simp; omega) | (rw [Bool.eq_iff_iff]; simp; omega) | (simp; rw [Bool.eq_iff_iff]; simp)), HB1.out⟩
    · rw [decide_eq_false h0, Bool.false_and] at HR
      have h0' : decide ((0 : Int) < (nw : Int)) = false := by simp; omega
      go_enter Tryz.func83, Tryz.ntmps83
      go_wp2
      go_ret
      exact ⟨ret_eq (by rw [HR.out]; rfl), HW0.out⟩
  case inr.inr.inr.inr.inl =>
    have HR : Hid (res = (bn && (br && decide (np = nw)))) := hide (by rw [HSP.out]; simp)
    clear HSP
    cases bn
    all_goals
      go_enter Tryz.func83, Tryz.ntmps83
      go_wp2_with fail
      refine (HCN.out _ HW0.out).mono ?_
      rintro e w1 ⟨rfl, hb1⟩
      have HB1 := hide (HW0.out.trans (hb1.mono HW0.out.size))
      have HX1 := hide (HX.out.below hb1 HX.out.lt)
      clear hb1
    · go_wp2
      go_ret
      exact ⟨ret_eq (by rw [HR.out]; rfl), HB1.out⟩
    · rw [Bool.true_and] at HR
      have c1 : w1.cell? ⟨w.heap.size, 1, none⟩ = some (.slice Aw nw cw) := by rw [HX1.out.cell]; simpa using hw1
      cases br
      all_goals
        go_wp2_with fail
        refine (HCR.out _ HB1.out).mono ?_
        rintro e w2 ⟨rfl, hb2⟩
        have HB2 := hide (HB1.out.trans (hb2.mono HB1.out.size))
        have HX2 := hide (HX1.out.below hb2 HX1.out.lt)
        clear hb2
        have d1 : w2.cell? ⟨w.heap.size, 1, none⟩ = some (.slice Aw nw cw) := by rw [HX2.out.cell]; simpa using hw1
        have d2 : w2.cell? ⟨w.heap.size, 2, none⟩ = some (.slice Ap np cp) := by rw [HX2.out.cell]; simpa using hp1
        go_wp2
        go_ret
        exact ⟨ret_eq (by rw [HR.out]; first | rfl | (simp; done) | (simp; omega) | (simp; rw [Bool.eq_iff_iff]; simp; omega) | (rw [Bool.eq_iff_iff]; simp; omega) | (simp; rw [Bool.eq_iff_iff]; simp)), HB2.out⟩
  case inr.inr.inr.inr.inr.inl =>
    have HR : Hid (res = (decide (nw = 0) && decide (np = 1))) := hide (by rw [HSP.out]; simp)
    clear HSP
    by_cases h0 : nw = 0
    · have h0' : ((nw : Int) == 0) = true := by simp [h0]
      rw [decide_eq_true h0, Bool.true_and] at HR
      clear h0
      go_enter Tryz.func83, Tryz.ntmps83
      go_wp2
      go_ret
      exact ⟨ret_eq (by rw [HR.out]; first | rfl | (simp; done) | (simp; omega) | (simp; rw [Bool.eq_iff_iff]; simp; omega) | (rw [Bool.eq_iff_iff]; simp; omega) | (simp; rw [Bool.eq_iff_iff]; simp)), HW0.out⟩
    · have h0' : ((nw : Int) == 0) = false := by simpa using h0
      rw [decide_eq_false h0, Bool.false_and] at HR
      clear h0
      go_enter Tryz.func83, Tryz.ntmps83
      go_wp2
      go_ret
      exact ⟨ret_eq (by rw [HR.out]; first | rfl | (simp; done) | (simp; omega) | (simp; rw [Bool.eq_iff_iff]; simp; omega) | (rw [Bool.eq_iff_iff]; simp; omega) | (simp; rw [Bool.eq_iff_iff]; simp)), HW0.out⟩
  all_goals
    have HR : Hid (res = (decide (nw = 0) && decide (np = 0))) := hide (by rw [HSP.out]; simp)
    clear HSP
    by_cases h0 : nw = 0
    · have h0' : ((nw : Int) == 0) = true := by simp [h0]
      rw [decide_eq_true h0, Bool.true_and] at HR
      clear h0
      go_enter Tryz.func83, Tryz.ntmps83
      go_wp2
      go_ret
      exact ⟨ret_eq (by rw [HR.out]; first | rfl | (simp; done) | (simp; omega) | (simp; rw [Bool.eq_iff_iff]; simp; omega) | (rw [Bool.eq_iff_iff]; simp; omega) | (simp; rw [Bool.eq_iff_iff]; simp)), HW0.out⟩
    · have h0' : ((nw : Int) == 0) = false := by simpa using h0
      rw [decide_eq_false h0, Bool.false_and] at HR
      clear h0
      go_enter Tryz.func83, Tryz.ntmps83
      go_wp2
      go_ret
      exact ⟨ret_eq (by rw [HR.out]; first | rfl | (simp; done) | (simp; omega) | (simp; rw [Bool.eq_iff_iff]; simp; omega) | (rw [Bool.eq_iff_iff]; simp; omega) | (simp; rw [Bool.eq_iff_iff]; simp)), HW0.out⟩
end Go.Proofs.YtogbklnkpjjkoaaGreatDoor

namespace Go.Proofs.YtogbklnkpjjkoaaGreatDoor
open Go.RowKit

theorem wpList_load_blkG {P : Program} {ops : Array Oper} {rest : List Oper} {o : Oper} {a : Act} {w : World} {Q : Exit → Act → World → Prop} (hw : Region.wanted o (yielded ops a.tmps) = true)
    (ty : TypeId) (x : Operand) (ho : o.op = .load ty x) (g : Nat) (hx : a.eval x = .pointer (some ⟨g, 0, none⟩)) (t : TypeId) (cs : List Value) (hb : Blk w g t cs.toArray) (d : TypeDesc)
    (hu : P.underlying ty = some d) (hd : d.isRow = true) (hi : (P.info? ty).map (·.size) = some cs.length) (h : wpList P ops Q rest (a.put o.dst (.agg cs.toArray)) w) : wpList P ops Q (o :: rest) a w :=
  wpList_step fun K hK => by
    simp only [hw, if_true]
    exact wp_load_mid ty x ho g 0 hx cs d (fun j v hv => by rw [Nat.zero_add, hb.cell]; simpa using hv) hu hd hi (hK _ _ h)

theorem all_getD (l : List DSch) (f : DSch → Bool) : ((List.range l.length).any fun i => !f (l.getD i default)) = !l.all f := by
  rw [Bool.eq_iff_iff, List.any_eq_true]
  simp only [Bool.not_eq_true', List.all_eq_false, List.mem_range]
  constructor
  · rintro ⟨i, hi, h⟩
    exact ⟨l.getD i default, by simp [List.getD, hi], by rw [h]; simp⟩
  · rintro ⟨x, hx, h⟩
    obtain ⟨i, hi, rfl⟩ := List.getElem_of_mem hx
    exact ⟨i, hi, by simpa [List.getD, hi] using h⟩

set_option maxHeartbeats 2000000 in
set_option maxRecDepth 20000 in
theorem schRight_calls (k : Nat) : ∀ (s : DSch) (cs : List Value) (w : World), k ≤ 1000 → IsSch w (· < w.heap.size) s cs →
    Calls Tryz.prog 58 #[.agg cs.toArray, .int .i64 k] w (Gives (.bool (rightS k s)) w) := by
  induction k with
  | zero =>
    intro s cs w hk hs
    go_enter Tryz.func58, Tryz.ntmps58
    go_wp2
    go_ret
    exact ⟨ret_eq rfl, ((Below.refl _ _).alloc (Nat.le_refl _) _).alloc (by simp) _⟩
  | succ k ih =>
    intro s cs w hk hs
    obtain ⟨Ap, cp, C, hp1, hpc, hpm, hP, hA⟩ := hs.partsF
    have HW0 := hide (((Below.refl w.heap.size w).alloc (Nat.le_refl _) (.cells cs.toArray 25)).alloc (by simp) (.cells #[.int .i64 ((k : Int) + 1)] 3))
    have HX := hide ((Blk.new w 25 cs.toArray).alloc (.cells #[.int .i64 ((k : Int) + 1)] 3))
    have HY := hide (Blk.new2 w (.cells cs.toArray 25) 3 #[.int .i64 ((k : Int) + 1)])
    have HL := hide (show (Tryz.prog.info? 25).map (·.size) = some cs.length by rw [hs.length]; kernel_rfl)
    have HCP := hide (fun (W : World) (hW : Below w.heap.size w W) => schPlain_calls s cs W (hs.more hW))
    have HK1 : ∀ (W : World) (p : DSch) (D : List Value) (g : Nat), IsSch W (· < W.heap.size) p D → Blk W g 3 #[.int .i64 ((k : Int) + 1)] → Calls Tryz.prog 85 #[.agg D.toArray, .pointer (some ⟨g, 0, none⟩)] W (Gives (.bool (!rightS k p)) W) := by
      intro W p D g hp hg
      have hgl := hg.lt
      have B0 := (Below.refl W.heap.size W).alloc (Nat.le_refl _) (.cells D.toArray 25)
      have c0 : (W.alloc (.cells D.toArray 25)).cell? ⟨g, 0, none⟩ = some (.int .i64 ((k : Int) + 1)) := (hg.alloc _).cell 0
      have HI := hide (ih p D _ (by omega) (hp.more B0))
      have HB := hide (Blk.new W 25 D.toArray)
      have HB0 := hide B0
      have HL := hide (show (Tryz.prog.info? 25).map (·.size) = some D.toArray.size by rw [List.size_toArray, hp.length]; kernel_rfl)
      clear hp hg B0 ih hs hP hA
      go_enter Tryz.func85, Tryz.ntmps85
      go_wp2_with (first | (refine wpList_load_blk rfl 25 _ rfl _ rfl _ _ HB.out _ rfl rfl HL.out ?_) | fail)
      refine HI.out.mono ?_
      rintro e w1 ⟨rfl, hb1⟩
      have HB1 := hide (HB0.out.trans (hb1.mono HB0.out.size))
      clear hb1
      go_wp2
      go_ret
      exact ⟨ret_eq rfl, HB1.out⟩
    have HCC : Hid (∀ (W : World) (hW : Below w.heap.size w W) (hg : Blk W (w.heap.size + 1) 3 #[.int .i64 ((k : Int) + 1)]), Calls Tryz.prog 84 #[.slice Ap s.parts.length cp, .func (.func 85) #[] #[.pointer (some ⟨w.heap.size + 1, 0, none⟩)]] W (Gives (.bool (!s.parts.all (rightS k))) W)) := hide fun W hW hg => by
      have := schG_contains 85 (.pointer (some ⟨w.heap.size + 1, 0, none⟩)) (fun _ _ => by kernel_rfl) s.parts.length Ap cp (fun i => .agg (C i).toArray) (fun i => !rightS k (s.parts.getD i default)) W (by omega)
        (fun h0 => by
          obtain ⟨x, o, e, hx, hc⟩ := hA h0
          exact ⟨x, o, e, Nat.lt_of_lt_of_le hx hW.size, fun i hi => ⟨C i, rfl, (hc i hi).1, fun q v hv => (hW.cell (p := ⟨x, o + i * 3 + q, none⟩) hx).trans ((hc i hi).2 q v hv)⟩⟩)
        (fun i hi W2 hW2 => by
          have e1 : s.parts.getD i default = s.parts[i] := by simp [List.getD, hi]
          rw [e1]
          exact HK1 W2 _ _ _ ((hP i _ (List.getElem?_eq_getElem hi)).more (hW.trans (hW2.mono hW.size))) (hg.below hW2 hg.lt))
      rwa [all_getD] at this
    have HSP : Hid (rightS (k + 1) s = (plainS s && s.parts.all (rightS k))) := hide rfl
    clear ih hs hP hA HK1
    cases hpl : plainS s
    all_goals
      rw [hpl] at HCP HSP
      clear hpl
      go_enter Tryz.func58, Tryz.ntmps58
      go_wp2_with (first | (refine wpList_load_blkG (by rfl) 25 _ rfl _ rfl _ cs HX.out _ rfl rfl HL.out ?_) | fail)
      refine (HCP.out _ HW0.out).mono ?_
      rintro e w1 ⟨rfl, hb1⟩
      have HB1 := hide (HW0.out.trans (hb1.mono HW0.out.size))
      have HX1 := hide (HX.out.below hb1 HX.out.lt)
      have HY1 := hide (HY.out.below hb1 HY.out.lt)
      clear hb1
    · go_wp2
      go_ret
      exact ⟨ret_eq (by rw [HSP.out]; rfl), HB1.out⟩
    · rw [Bool.true_and] at HSP
      have c2 : w1.cell? ⟨w.heap.size, 2, none⟩ = some (.slice Ap s.parts.length cp) := by rw [HX1.out.cell]; simpa using hp1
      go_wp2_with fail
      refine (HCC.out _ HB1.out HY1.out).mono ?_
      rintro e w2 ⟨rfl, hb2⟩
      have HB2 := hide (HB1.out.trans (hb2.mono HB1.out.size))
      clear hb2
      generalize s.parts.all (rightS k) = x at *
      go_wp2
      go_ret
      exact ⟨ret_eq (by rw [HSP.out]; first | rfl | (simp; done) | (simp; omega) | (simp; rw [Bool.eq_iff_iff]; simp; omega) | (rw [Bool.eq_iff_iff]; simp; omega) | (simp; rw [Bool.eq_iff_iff]; simp)), HB2.out⟩

set_option maxHeartbeats 400000 in
set_option maxRecDepth 20000 in
theorem schRightP_calls (s : DSch) (cs : List Value) (w : World) (hs : IsSch w (· < w.heap.size) s cs) :
    Calls Tryz.prog 47 #[.agg cs.toArray] w (Gives (.bool (rightS 5 s)) w) := by
  have HW0 := hide ((Below.refl w.heap.size w).alloc (Nat.le_refl _) (.cells cs.toArray 25))
  have HX := hide (Blk.new w 25 cs.toArray)
  have HL := hide (show (Tryz.prog.info? 25).map (·.size) = some cs.toArray.size by rw [List.size_toArray, hs.length]; kernel_rfl)
  have HC := hide (schRight_calls 5 s cs _ (by omega) (hs.more HW0.out))
  clear hs
  go_enter Tryz.func47, Tryz.ntmps47
  go_wp2_with (first | (refine wpList_load_blk rfl 25 _ rfl _ rfl _ _ HX.out _ rfl rfl HL.out ?_) | fail)
  refine HC.out.mono ?_
  rintro e w1 ⟨rfl, hb1⟩
  have HB1 := hide (HW0.out.trans (hb1.mono HW0.out.size))
  clear hb1
  go_wp2
  go_ret
  exact ⟨ret_eq rfl, HB1.out⟩

end Go.Proofs.YtogbklnkpjjkoaaGreatDoor

namespace Go.Proofs.YtogbklnkpjjkoaaGreatDoor
open Go.RowKit

set_option maxHeartbeats 1000000 in
set_option maxRecDepth 20000 in
theorem valG_index (K : Nat) (cap0 : Value) (hK : ∀ (x : Array Value) W, (callFunc K x).run Tryz.prog W = .ok (.enter K x) W) (n : Nat) (A : Option Addr) (c : Nat) (V : Nat → Value) (p : Nat → Bool) (w : World) (hn : n ≤ 140737488351232)
    (hA : 0 < n → ∃ b o, A = some ⟨b, o, none⟩ ∧ b < w.heap.size ∧ ∀ i, i < n → ∃ cs : List Value, V i = .agg cs.toArray ∧ cs.length = 6 ∧ w.rangeAt b (o + i * 6) cs)
    (hcall : ∀ i, i < n → ∀ W, Below w.heap.size w W → Calls Tryz.prog K #[V i, cap0] W (Gives (.bool (p i)) W)) :
    Calls Tryz.prog 176 #[.slice A n c, .func (.func K) #[] #[cap0]] w (IdxPost p n w) := by
  have HA := hide hA
  have HC := hide hcall
  clear hA hcall
  go_enter Tryz.func176, Tryz.ntmps176
  go_wp2_with fail
  go_loopw [8] (fun i wr => ∃ (k : Nat), i = .int .i64 k ∧ k ≤ n ∧ (∀ r, r < k → p r = false) ∧ Below w.heap.size w wr) (fun i _ => n - (intOf i).toNat)
  case atStart => exact ⟨0, rfl, Nat.zero_le _, fun r hr => by omega, Below.refl _ _⟩
  case round =>
    obtain ⟨k, rfl, hk, hno, hw⟩ := hrel
    obtain ⟨wo, rfl⟩ : ∃ wo : World, wo = wr := ⟨_, rfl⟩
    have GW := hide hw
    have GN := hide hno
    clear hw hno
    by_cases hlt : k < n
    · obtain ⟨b, o, rfl, hb, hV⟩ := HA.out (by omega)
      have hcall' := HC.out k hlt
      obtain ⟨cs, hv, hc3, hr⟩ := hV k hlt
      have HRW : Hid (wo.rangeAt b (o + k * 6) cs) := hide fun q v hv => (GW.out.cell (p := ⟨b, o + k * 6 + q, none⟩) hb).trans (hr q v hv)
      have HC3 := hide hc3
      clear hr hc3
      cases hx : p k
      all_goals
        have HX := hide hx
        rw [hx] at hcall'
        clear hx hV
        rw [hv] at hcall'

        have HCL := hide hcall'
        clear hcall'
        go_wp2_with (first | (refine wpList_load_mid rfl 43 _ rfl b (o + k * 6) rfl cs _ HRW.out rfl rfl (by rw [HC3.out]; kernel_rfl) ?_) | fail)
        refine (HCL.out _ GW.out).mono ?_
        rintro e w1 ⟨rfl, hb1⟩
        have KW := hide (GW.out.trans (hb1.mono GW.out.size))
        clear hb1
      · go_wp2_with fail
        exact ⟨⟨k + 1, by go_num, by omega, fun r hr => by
          by_cases e : r = k
          · rw [e]; exact HX.out
          · exact GN.out r (by omega), KW.out⟩, by simp [intOf]; omega⟩
      · go_wp2
        go_ret
        exact ⟨.inl ⟨k, hlt, rfl, HX.out, GN.out⟩, KW.out⟩
    · obtain rfl : k = n := by omega
      go_wp2
      go_ret
      exact ⟨.inr ⟨rfl, GN.out⟩, GW.out⟩

set_option maxHeartbeats 400000 in
theorem valG_contains (K : Nat) (cap0 : Value) (hK : ∀ (x : Array Value) W, (callFunc K x).run Tryz.prog W = .ok (.enter K x) W) (n : Nat) (A : Option Addr) (c : Nat) (V : Nat → Value) (p : Nat → Bool) (w : World) (hn : n ≤ 140737488351232)
    (hA : 0 < n → ∃ b o, A = some ⟨b, o, none⟩ ∧ b < w.heap.size ∧ ∀ i, i < n → ∃ cs : List Value, V i = .agg cs.toArray ∧ cs.length = 6 ∧ w.rangeAt b (o + i * 6) cs)
    (hcall : ∀ i, i < n → ∀ W, Below w.heap.size w W → Calls Tryz.prog K #[V i, cap0] W (Gives (.bool (p i)) W)) :
    Calls Tryz.prog 169 #[.slice A n c, .func (.func K) #[] #[cap0]] w (Gives (.bool ((List.range n).any p)) w) := by
  have HI := hide (valG_index K cap0 hK n A c V p w hn hA hcall)
  clear hA hcall hK
  go_enter Tryz.func169, Tryz.ntmps169
  go_wp2_with fail
  refine HI.out.mono ?_
  rintro e w1 ⟨hi, hb⟩
  have HB := hide hb
  clear hb
  rcases hi with ⟨k, hk, rfl, hp, hno⟩ | ⟨rfl, hno⟩
  · have hx : (List.range n).any p = true := List.any_eq_true.2 ⟨k, List.mem_range.2 hk, hp⟩
    have HX := hide hx
    clear hx hp hno
    go_wp2
    go_ret
    exact ⟨ret_eq (by rw [HX.out]; rfl), HB.out⟩
  · have hx : (List.range n).any p = false := List.any_eq_false.2 fun r hr => by simp [hno r (List.mem_range.1 hr)]
    have HX := hide hx
    clear hx hno
    go_wp2
    go_ret
    exact ⟨ret_eq (by rw [HX.out]; rfl), HB.out⟩


instance : Inhabited DVal := ⟨.mk 0 0 [] [] [] []⟩
def rightV : Nat → DVal → Bool
  | 0, _ => false
  | k + 1, s => plainV s && s.parts.all (rightV k)

theorem all_getDV (l : List DVal) (f : DVal → Bool) : ((List.range l.length).any fun i => !f (l.getD i default)) = !l.all f := by
  rw [Bool.eq_iff_iff, List.any_eq_true]
  simp only [Bool.not_eq_true', List.all_eq_false, List.mem_range]
  constructor
  · rintro ⟨i, hi, h⟩
    exact ⟨l.getD i default, by simp [List.getD, hi], by rw [h]; simp⟩
  · rintro ⟨x, hx, h⟩
    obtain ⟨i, hi, rfl⟩ := List.getElem_of_mem hx
    exact ⟨i, hi, by simpa [List.getD, hi] using h⟩

set_option maxHeartbeats 2000000 in
set_option maxRecDepth 20000 in
theorem valRight_calls (k : Nat) : ∀ (s : DVal) (cs : List Value) (w : World), k ≤ 1000 → IsVal w (· < w.heap.size) s cs →
    Calls Tryz.prog 163 #[.agg cs.toArray, .int .i64 k] w (Gives (.bool (rightV k s)) w) := by
  induction k with
  | zero =>
    intro s cs w hk hs
    go_enter Tryz.func163, Tryz.ntmps163
    go_wp2
    go_ret
    exact ⟨ret_eq rfl, ((Below.refl _ _).alloc (Nat.le_refl _) _).alloc (by simp) _⟩
  | succ k ih =>
    intro s cs w hk hs
    obtain ⟨Ap, cp, C, hp1, hpc, hpm, hP, hA⟩ := hs.partsF
    have HW0 := hide (((Below.refl w.heap.size w).alloc (Nat.le_refl _) (.cells cs.toArray 43)).alloc (by simp) (.cells #[.int .i64 ((k : Int) + 1)] 3))
    have HX := hide ((Blk.new w 43 cs.toArray).alloc (.cells #[.int .i64 ((k : Int) + 1)] 3))
    have HY := hide (Blk.new2 w (.cells cs.toArray 43) 3 #[.int .i64 ((k : Int) + 1)])
    have HL := hide (show (Tryz.prog.info? 43).map (·.size) = some cs.length by rw [hs.length]; kernel_rfl)
    have HCP := hide (fun (W : World) (hW : Below w.heap.size w W) => valPlain_calls s cs W (hs.more hW))
    have HK1 : ∀ (W : World) (p : DVal) (D : List Value) (g : Nat), IsVal W (· < W.heap.size) p D → Blk W g 3 #[.int .i64 ((k : Int) + 1)] → Calls Tryz.prog 170 #[.agg D.toArray, .pointer (some ⟨g, 0, none⟩)] W (Gives (.bool (!rightV k p)) W) := by
      intro W p D g hp hg
      have hgl := hg.lt
      have B0 := (Below.refl W.heap.size W).alloc (Nat.le_refl _) (.cells D.toArray 43)
      have c0 : (W.alloc (.cells D.toArray 43)).cell? ⟨g, 0, none⟩ = some (.int .i64 ((k : Int) + 1)) := (hg.alloc _).cell 0
      have HI := hide (ih p D _ (by omega) (hp.more B0))
      have HB := hide (Blk.new W 43 D.toArray)
      have HB0 := hide B0
      have HL := hide (show (Tryz.prog.info? 43).map (·.size) = some D.toArray.size by rw [List.size_toArray, hp.length]; kernel_rfl)
      clear hp hg B0 ih hs hP hA
      go_enter Tryz.func170, Tryz.ntmps170
      go_wp2_with (first | (refine wpList_load_blk rfl 43 _ rfl _ rfl _ _ HB.out _ rfl rfl HL.out ?_) | fail)
      refine HI.out.mono ?_
      rintro e w1 ⟨rfl, hb1⟩
      have HB1 := hide (HB0.out.trans (hb1.mono HB0.out.size))
      clear hb1
      go_wp2
      go_ret
      exact ⟨ret_eq rfl, HB1.out⟩
    have HCC : Hid (∀ (W : World) (hW : Below w.heap.size w W) (hg : Blk W (w.heap.size + 1) 3 #[.int .i64 ((k : Int) + 1)]), Calls Tryz.prog 169 #[.slice Ap s.parts.length cp, .func (.func 170) #[] #[.pointer (some ⟨w.heap.size + 1, 0, none⟩)]] W (Gives (.bool (!s.parts.all (rightV k))) W)) := hide fun W hW hg => by
      have := valG_contains 170 (.pointer (some ⟨w.heap.size + 1, 0, none⟩)) (fun _ _ => by kernel_rfl) s.parts.length Ap cp (fun i => .agg (C i).toArray) (fun i => !rightV k (s.parts.getD i default)) W (by omega)
        (fun h0 => by
          obtain ⟨x, o, e, hx, hc⟩ := hA h0
          exact ⟨x, o, e, Nat.lt_of_lt_of_le hx hW.size, fun i hi => ⟨C i, rfl, (hc i hi).1, fun q v hv => (hW.cell (p := ⟨x, o + i * 6 + q, none⟩) hx).trans ((hc i hi).2 q v hv)⟩⟩)
        (fun i hi W2 hW2 => by
          have e1 : s.parts.getD i default = s.parts[i] := by simp [List.getD, hi]
          rw [e1]
          exact HK1 W2 _ _ _ ((hP i _ (List.getElem?_eq_getElem hi)).more (hW.trans (hW2.mono hW.size))) (hg.below hW2 hg.lt))
      rwa [all_getDV] at this
    have HSP : Hid (rightV (k + 1) s = (plainV s && s.parts.all (rightV k))) := hide rfl
    clear ih hs hP hA HK1
    cases hpl : plainV s
    all_goals
      rw [hpl] at HCP HSP
      clear hpl
      go_enter Tryz.func163, Tryz.ntmps163
      go_wp2_with (first | (refine wpList_load_blkG (by rfl) 43 _ rfl _ rfl _ cs HX.out _ rfl rfl HL.out ?_) | fail)
      refine (HCP.out _ HW0.out).mono ?_
      rintro e w1 ⟨rfl, hb1⟩
      have HB1 := hide (HW0.out.trans (hb1.mono HW0.out.size))
      have HX1 := hide (HX.out.below hb1 HX.out.lt)
      have HY1 := hide (HY.out.below hb1 HY.out.lt)
      clear hb1
    · go_wp2
      go_ret
      exact ⟨ret_eq (by rw [HSP.out]; rfl), HB1.out⟩
    · rw [Bool.true_and] at HSP
      have c2 : w1.cell? ⟨w.heap.size, 5, none⟩ = some (.slice Ap s.parts.length cp) := by rw [HX1.out.cell]; simpa using hp1
      go_wp2_with fail
      refine (HCC.out _ HB1.out HY1.out).mono ?_
      rintro e w2 ⟨rfl, hb2⟩
      have HB2 := hide (HB1.out.trans (hb2.mono HB1.out.size))
      clear hb2
      generalize s.parts.all (rightV k) = x at *
      go_wp2
      go_ret
      exact ⟨ret_eq (by rw [HSP.out]; first | rfl | (simp; done) | (simp; omega) | (simp; rw [Bool.eq_iff_iff]; simp; omega) | (rw [Bool.eq_iff_iff]; simp; omega) | (simp; rw [Bool.eq_iff_iff]; simp)), HB2.out⟩

set_option maxHeartbeats 400000 in
set_option maxRecDepth 20000 in
theorem valRightP_calls (s : DVal) (cs : List Value) (w : World) (hs : IsVal w (· < w.heap.size) s cs) :
    Calls Tryz.prog 143 #[.agg cs.toArray] w (Gives (.bool (rightV 5 s)) w) := by
  have HW0 := hide ((Below.refl w.heap.size w).alloc (Nat.le_refl _) (.cells cs.toArray 43))
  have HX := hide (Blk.new w 43 cs.toArray)
  have HL := hide (show (Tryz.prog.info? 43).map (·.size) = some cs.toArray.size by rw [List.size_toArray, hs.length]; kernel_rfl)
  have HC := hide (valRight_calls 5 s cs _ (by omega) (hs.more HW0.out))
  clear hs
  go_enter Tryz.func143, Tryz.ntmps143
  go_wp2_with (first | (refine wpList_load_blk rfl 43 _ rfl _ rfl _ _ HX.out _ rfl rfl HL.out ?_) | fail)
  refine HC.out.mono ?_
  rintro e w1 ⟨rfl, hb1⟩
  have HB1 := hide (HW0.out.trans (hb1.mono HW0.out.size))
  clear hb1
  go_wp2
  go_ret
  exact ⟨ret_eq rfl, HB1.out⟩


end Go.Proofs.YtogbklnkpjjkoaaGreatDoor

namespace Go.Proofs.YtogbklnkpjjkoaaGreatDoor
open Go.RowKit Go.ChangeShapes Go.WideShapes Go.ChangeAt

def roomV : Nat → DVal → Int → Int
  | 0, _, _ => -1
  | k + 1, s, n =>
    if 400 < s.s.length then -1
    else s.parts.foldl (fun m p => if 0 ≤ m then roomV k p m else m) (n - 1 - s.names.length - s.ids.length)
theorem foldRoomV_neg (k : Nat) : ∀ (l : List DVal) (m : Int), m < 0 → l.foldl (fun m p => if 0 ≤ m then roomV k p m else m) m = m
  | [], _, _ => rfl
  | p :: l, m, h => by rw [List.foldl_cons, if_neg (by omega)]; exact foldRoomV_neg k l m h
def FineV : Nat → DVal → Prop
  | 0, _ => False
  | k + 1, s => s.s.length ≤ 400 ∧ ∀ p ∈ s.parts, FineV k p
theorem roomV_spec : ∀ (k : Nat) (s : DVal) (n : Int), 0 ≤ roomV k s n → roomV k s n = n - s.weight ∧ FineV k s
  | 0, s, n, h => by simp [roomV] at h
  | k + 1, s, n, h => by
    have hwt := DVal.weight_eq s
    unfold roomV at h ⊢
    by_cases hb : 400 < s.s.length
    · rw [if_pos hb] at h; omega
    · rw [if_neg hb] at h ⊢
      have hw : s.s.length ≤ 400 := by omega
      have key : ∀ (l : List DVal) (m : Int), 0 ≤ l.foldl (fun m p => if 0 ≤ m then roomV k p m else m) m →
          l.foldl (fun m p => if 0 ≤ m then roomV k p m else m) m = m - DVal.weights l ∧ ∀ p ∈ l, FineV k p := by
        intro l
        induction l with
        | nil => intro m _; exact ⟨by simp [DVal.weights], fun p hp => by cases hp⟩
        | cons p l ih =>
          intro m hm
          rw [List.foldl_cons] at hm ⊢
          have h0 : 0 ≤ m := by
            rcases Int.lt_or_le m 0 with hx | hx
            · rw [if_neg (by omega), foldRoomV_neg k l m hx] at hm; exact hm
            · exact hx
          rw [if_pos h0] at hm ⊢
          have h1 : 0 ≤ roomV k p m := by
            rcases Int.lt_or_le (roomV k p m) 0 with hx | hx
            · rw [foldRoomV_neg k l _ hx] at hm; exact hm
            · exact hx
          obtain ⟨e1, f1⟩ := roomV_spec k p m h1
          obtain ⟨e2, f2⟩ := ih _ hm
          refine ⟨by rw [e2, e1]; simp only [DVal.weights]; omega, fun q hq => ?_⟩
          rcases List.mem_cons.1 hq with rfl | hq
          · exact f1
          · exact f2 q hq
      obtain ⟨e, f⟩ := key s.parts _ h
      refine ⟨by rw [e]; omega, ?_⟩
      exact ⟨hw, f⟩
theorem roomV_le : ∀ (k : Nat) (s : DVal) (n : Int), -1 ≤ n → roomV k s n ≤ n ∧ (roomV k s n ≤ -1 ∨ 0 ≤ roomV k s n)
  | 0, s, n, h => by simp [roomV]; omega
  | k + 1, s, n, h => by
    unfold roomV
    split
    · omega
    · have key : ∀ (l : List DVal) (m : Int), l.foldl (fun m p => if 0 ≤ m then roomV k p m else m) m ≤ m := by
        intro l
        induction l with
        | nil => intro m; exact Int.le_refl _
        | cons p l ih =>
          intro m
          rw [List.foldl_cons]
          refine Int.le_trans (ih _) ?_
          split
          · exact (roomV_le k p m (by omega)).1
          · exact Int.le_refl _
      have := key s.parts (n - 1 - s.names.length - s.ids.length)
      omega
end Go.Proofs.YtogbklnkpjjkoaaGreatDoor

namespace Go.Proofs.YtogbklnkpjjkoaaGreatDoor
open Go.RowKit

theorem info_valB : (Tryz.prog.info? 43).map (·.size) = some 6 := by kernel_rfl

set_option maxHeartbeats 1000000 in
set_option maxRecDepth 20000 in
theorem roomV_calls (k : Nat) : ∀ (s : DVal) (n : Int) (cs : List Value) (w : World), IsVal w (· < w.heap.size) s cs → k ≤ 1000 → 0 ≤ n → n ≤ 1000 →
    Calls Tryz.prog 82 #[.agg cs.toArray, .int .i64 n, .int .i64 k] w (fun e w' => -1000000000000000 ≤ roomV k s n ∧ Gives (.int .i64 (roomV k s n)) w e w') := by
  induction k with
  | zero =>
    intro s n cs w hs hk hn hn2
    obtain ⟨An, cn, hw1, _, _, _, hwm⟩ := hs.names_
    obtain ⟨Ai, ci, hi1, _, _, _, him⟩ := hs.ids_
    clear hs
    go_enter Tryz.func82, Tryz.ntmps82
    go_wp2
    go_ret
    exact ⟨by simp [roomV], ret_eq rfl, (Below.refl _ _).alloc (Nat.le_refl _) _⟩
  | succ k ih =>
    intro s n cs w hs hk hn hn2
    have HI := hide ih
    clear ih
    obtain ⟨hs1, hsl⟩ := hs.s_
    obtain ⟨An, cn, hw1, _, _, _, hwm⟩ := hs.names_
    obtain ⟨Ai, ci, hi1, _, _, _, him⟩ := hs.ids_
    obtain ⟨Ap, cp, C, hp1, hpc, hpm, hP, hA⟩ := hs.partsF
    have HA := hide hA
    have HP := hide hP
    have HSP : Hid (roomV (k + 1) s n = if 400 < s.s.length then -1 else s.parts.foldl (fun m p => if 0 ≤ m then roomV k p m else m) (n - 1 - s.names.length - s.ids.length)) := hide rfl
    have HK0 := hide (Blk.new w 43 cs.toArray)
    have HW0 := hide ((Below.refl w.heap.size w).alloc (Nat.le_refl _) (.cells cs.toArray 43))
    clear hA hP hs
    have hk1 : (((k + 1 : Nat) : Int) == 0) = false := by simp; omega
    have hk2 : (((k : Int) + 1) == 0) = false := by simp; omega
    have hlow : -1000000000000000 ≤ n - 1 - (s.names.length : Int) - (s.ids.length : Int) := by omega
    have hstart : n - 1 - (s.names.length : Int) - (s.ids.length : Int) ≤ 1000 := by omega
    by_cases hbig : 400 < s.s.length
    · have HB := hide hbig
      generalize s.s = x at *
      go_enter Tryz.func82, Tryz.ntmps82
      go_wp2
      go_ret
      exact ⟨by rw [HSP.out, if_pos HB.out]; omega, ret_eq (by rw [HSP.out, if_pos HB.out]; rfl), HW0.out⟩
    · have HE : Hid (roomV (k + 1) s n = s.parts.foldl (fun m p => if 0 ≤ m then roomV k p m else m) (n - 1 - s.names.length - s.ids.length)) := hide (by rw [HSP.out, if_neg hbig])
      clear HSP
      generalize s.s = x at *
      have hbd : ¬ (400 : Int) < (x.length : Int) := by omega
      have hbe : decide ((400 : Int) < (x.length : Int)) = false := decide_eq_false hbd
      go_enter Tryz.func82, Tryz.ntmps82
      go_wp2_with fail
      generalize hm0 : n - 1 - (s.names.length : Int) - (s.ids.length : Int) = m0 at *
      clear hm0
      go_loopw [1, 7] (fun nv iv wr => ∃ (i : Nat) (m : Int), nv = .int .i64 m ∧ iv = .int .i64 i ∧ i ≤ s.parts.length ∧ m ≤ 1000 ∧ -1000000000000000 ≤ m ∧ m = (s.parts.take i).foldl (fun m p => if 0 ≤ m then roomV k p m else m) m0 ∧ Blk wr w.heap.size 43 cs.toArray ∧ Below w.heap.size w wr) (fun _ iv _ => s.parts.length - (intOf iv).toNat)
      case atStart => exact ⟨0, m0, rfl, rfl, Nat.zero_le _, hstart, hlow, rfl, HK0.out, HW0.out⟩
      case round =>
        clear HK0 HW0
        obtain ⟨i, m, rfl, rfl, hi, hm1, hm2, hfold, hblk, hbel⟩ := hrel
        have HF := hide hfold
        have GB := hide hblk
        have GW := hide hbel
        clear hfold hblk hbel
        have c2 : wr.cell? ⟨w.heap.size, 5, none⟩ = some (.slice Ap s.parts.length cp) := by rw [GB.out.cell]; simpa using hp1
        by_cases hgo : i < s.parts.length ∧ 0 ≤ m
        · obtain ⟨hlt, h0⟩ := hgo
          obtain ⟨b, o, rfl, hb, hC⟩ := HA.out (by omega)
          obtain ⟨hl3, hr⟩ := hC i hlt
          have hg := List.getElem?_eq_getElem hlt
          have HRW : Hid (wr.rangeAt b (o + i * 6) (C i)) := hide fun q v hv => (GW.out.cell (p := ⟨b, o + i * 6 + q, none⟩) hb).trans (hr q v hv)
          have HL3 := hide hl3
          have HPI := hide ((HP.out i _ hg).more GW.out)
          have HRL := hide (roomV_le k s.parts[i] m (by omega))
          have HFS : Hid ((s.parts.take (i + 1)).foldl (fun m p => if 0 ≤ m then roomV k p m else m) m0 = roomV k s.parts[i] m) := hide (by
            rw [List.take_succ_eq_append_getElem hlt, List.foldl_append, ← HF.out, List.foldl_cons, List.foldl_nil, if_pos h0])
          clear hr hl3 hg hC
          generalize s.parts[i] = p at *
          generalize C i = es at *
          go_wp2_with (first | (refine wpList_load_mid rfl 43 _ rfl b (o + i * 6) rfl es _ HRW.out rfl rfl (by rw [HL3.out]; exact info_valB) ?_) | fail)
          refine (HI.out p m es _ HPI.out (by omega) h0 hm1).mono ?_
          rintro e w1 ⟨hlo, rfl, hb1⟩
          have hrl := HRL.out
          generalize roomV k p m = m1 at *
          go_wp2_with fail
          exact ⟨⟨i + 1, m1, rfl, by go_num, by omega, by omega, by omega, HFS.out.symm, GB.out.below hb1 GB.out.lt, GW.out.trans (hb1.mono GW.out.size)⟩, by simp [intOf]; omega⟩
        · have HX : Hid (roomV (k + 1) s n = m) := hide (by
            rw [HE.out, HF.out]
            rcases Nat.lt_or_ge i s.parts.length with hx | hx
            · have hm : m < 0 := by omega
              have e : s.parts.foldl (fun m p => if 0 ≤ m then roomV k p m else m) m0 = (s.parts.drop i).foldl (fun m p => if 0 ≤ m then roomV k p m else m) m := by
                rw [HF.out, ← List.foldl_append, List.take_append_drop]
              rw [e, foldRoomV_neg k _ _ hm, HF.out]
            · rw [List.take_of_length_le hx])
          clear HF HE
          by_cases hlt : i < s.parts.length
          all_goals
            go_wp2
            go_ret
            exact ⟨by rw [HX.out]; exact hm2, ret_eq (by rw [HX.out]; rfl), GW.out⟩

set_option maxHeartbeats 400000 in
set_option maxRecDepth 20000 in
theorem greatV_calls (s : DVal) (cs : List Value) (w : World) (hs : IsVal w (· < w.heap.size) s cs) :
    Calls Tryz.prog 57 #[.agg cs.toArray] w (Gives (.bool (decide (roomV 12 s 300 < 0))) w) := by
  have HB := hide (Blk.new w 43 cs.toArray)
  have HW := hide ((Below.refl w.heap.size w).alloc (Nat.le_refl _) (.cells cs.toArray 43))
  have HS := hide (hs.more HW.out)
  have hl := hs.length
  have HC := hide (roomV_calls 12 s 300 cs _ HS.out (by omega) (by omega) (by omega))
  have HL := hide (show (Tryz.prog.info? 43).map (·.size) = some cs.toArray.size by rw [info_valB]; simp [hl])
  clear hs hl
  go_enter Tryz.func57, Tryz.ntmps57
  go_wp2_with (first | (refine wpList_load_blk rfl 43 _ rfl _ rfl _ _ HB.out _ rfl rfl HL.out ?_) | fail)
  refine HC.out.mono ?_
  rintro e w1 ⟨hlo, rfl, hb1⟩
  have HW1 := hide (HW.out.trans (hb1.mono HW.out.size))
  clear hb1
  generalize roomV 12 s 300 = m at *
  go_wp2
  go_ret
  exact ⟨ret_eq rfl, HW1.out⟩
end Go.Proofs.YtogbklnkpjjkoaaGreatDoor

namespace Go.Proofs.YtogbklnkpjjkoaaGreatDoor
open Go.RowKit

def badHead (kd : Int) (nw : Nat) : Prop := kd < 1 ∨ 6 < kd ∨ 8 < nw ∨ (kd ≠ 4 ∧ kd ≠ 5 ∧ 0 < nw) ∨ (kd = 4 ∧ nw = 0)
instance (kd : Int) (nw : Nat) : Decidable (badHead kd nw) := by unfold badHead; exact inferInstance
def wantS (kd : Int) (nw : Nat) : Nat := if kd = 5 then nw else if kd = 6 then 1 else 0
def clash (kd : Int) (x y : Str) : Bool := decide (x = y) || (decide (kd = 5) && sLt x y)
def wordOk (kd : Int) (l : List Str) (i : Nat) : Bool := nameB (l.getD i []) && (List.range i).all fun j => !clash kd (l.getD i []) (l.getD j [])
def hereS (s : DSch) : Bool := !decide (badHead s.kind s.words.length) && (decide (s.parts.length = wantS s.kind s.words.length) && (List.range s.words.length).all (wordOk s.kind s.words))
def soundS : Nat → DSch → Bool
  | 0, _ => true
  | k + 1, s => hereS s && s.parts.all (soundS k)
end Go.Proofs.YtogbklnkpjjkoaaGreatDoor

namespace Go.Proofs.YtogbklnkpjjkoaaGreatDoor

theorem sLt_trans {a b c : Str} (h1 : sLt a b = true) (h2 : sLt b c = true) : sLt a c = true := by
  rw [sLt_iff, decide_eq_true_eq] at *
  exact List.lt_trans h1 h2
theorem sLt_irrefl (a : Str) : sLt a a = false := by
  rw [sLt_iff, decide_eq_false_iff_not]
  exact List.lt_irrefl a
theorem sLt_total {a b : Str} (h1 : sLt a b = false) (h2 : a ≠ b) : sLt b a = true := by
  rw [sLt_iff, decide_eq_false_iff_not] at h1
  rw [sLt_iff, decide_eq_true_eq]
  exact Classical.byContradiction fun h => h2 (List.le_antisymm (List.not_lt.1 h) (List.not_lt.1 h1))

theorem unlike_iff (l : List Str) : unlikeB l = true ↔ ∀ i, i < l.length → ∀ j, j < i → l.getD i [] ≠ l.getD j [] := by
  unfold unlikeB
  rw [List.all_eq_true]
  constructor
  · intro h i hi j hj e
    have := h i (List.mem_range.2 hi)
    simp only [Bool.not_eq_true', decide_eq_false_iff_not] at this
    refine this ?_
    rw [e]
    have hjl : j < l.length := by omega
    rw [show l.getD j [] = (l.take i)[j]'(by simp; omega) by simp [List.getD, hjl]]
    exact List.getElem_mem _
  · intro h i hi
    have hi' := List.mem_range.1 hi
    simp only [Bool.not_eq_true', decide_eq_false_iff_not]
    intro hm
    obtain ⟨j, hj, e⟩ := List.getElem_of_mem hm
    have hji : j < i := by simp at hj; omega
    refine h i hi' j hji ?_
    have hjl : j < l.length := by omega
    rw [← e]
    simp [List.getD, hjl]
theorem sorted_iff (l : List Str) : sortedB l = true ↔ ∀ i, i + 1 < l.length → sLt (l.getD (i + 1) []) (l.getD i []) = false := by
  unfold sortedB
  rw [List.all_eq_true]
  constructor
  · intro h i hi
    have := h i (List.mem_range.2 (by omega))
    simpa using this
  · intro h i hi
    have := List.mem_range.1 hi
    simpa using h i (by omega)
theorem rising_iff (l : List Str) : risingB l = true ↔ ∀ i, i < l.length → ∀ j, j < i → l.getD i [] ≠ l.getD j [] ∧ sLt (l.getD i []) (l.getD j []) = false := by
  unfold risingB
  rw [Bool.and_eq_true, unlike_iff, sorted_iff]
  constructor
  · rintro ⟨hs, hu⟩ i hi j hj
    refine ⟨hu i hi j hj, ?_⟩
    have key : ∀ d, ∀ j, j + d + 1 < l.length → sLt (l.getD j []) (l.getD (j + d + 1) []) = true := by
      intro d
      induction d with
      | zero =>
        intro j hj
        exact sLt_total (hs j (by omega)) (hu (j + 1) (by omega) j (by omega))
      | succ d ih =>
        intro j hj
        exact sLt_trans (ih j (by omega)) (sLt_total (hs (j + d + 1) (by omega)) (hu (j + d + 1 + 1) (by omega) (j + d + 1) (by omega)))
    have h1 := key (i - j - 1) j (by omega)
    rw [show j + (i - j - 1) + 1 = i by omega] at h1
    cases h2 : sLt (l.getD i []) (l.getD j [])
    · rfl
    · have := sLt_trans h1 h2
      rw [sLt_irrefl] at this
      cases this
  · intro h
    exact ⟨fun i hi => (h (i + 1) hi i (by omega)).2, fun i hi j hj => (h i hi j hj).1⟩

theorem namesB_iff (l : List Str) : namesB l = true ↔ l.length ≤ 8 ∧ ∀ i, i < l.length → nameB (l.getD i []) = true := by
  unfold namesB
  rw [Bool.and_eq_true, decide_eq_true_eq, List.all_eq_true]
  constructor
  · rintro ⟨h1, h2⟩
    exact ⟨h1, fun i hi => h2 _ (by simp [List.getD, hi])⟩
  · rintro ⟨h1, h2⟩
    refine ⟨h1, fun x hx => ?_⟩
    obtain ⟨i, hi, rfl⟩ := List.getElem_of_mem hx
    have := h2 i hi
    simpa [List.getD, hi] using this
theorem clash_f (kd : Int) (x y : Str) : clash kd x y = false ↔ x ≠ y ∧ (kd = 5 → sLt x y = false) := by
  unfold clash
  by_cases h5 : kd = 5
  · simp [h5]
  · simp [h5]
theorem words_iff (kd : Int) (l : List Str) : (List.range l.length).all (wordOk kd l) = true ↔ (∀ i, i < l.length → nameB (l.getD i []) = true) ∧ ∀ i, i < l.length → ∀ j, j < i → clash kd (l.getD i []) (l.getD j []) = false := by
  rw [List.all_eq_true]
  constructor
  · intro h
    refine ⟨fun i hi => ?_, fun i hi j hj => ?_⟩
    · have := h i (List.mem_range.2 hi)
      unfold wordOk at this
      exact (Bool.and_eq_true _ _ ▸ this).1
    · have := h i (List.mem_range.2 hi)
      unfold wordOk at this
      have h2 := List.all_eq_true.1 (Bool.and_eq_true _ _ ▸ this).2 j (List.mem_range.2 hj)
      simpa using h2
  · rintro ⟨h1, h2⟩ i hi
    have hi' := List.mem_range.1 hi
    unfold wordOk
    rw [h1 i hi', Bool.true_and, List.all_eq_true]
    intro j hj
    rw [h2 i hi' j (List.mem_range.1 hj)]
    rfl
theorem plain_here (s : DSch) : plainS s = hereS s := by
  rw [Bool.eq_iff_iff]
  unfold plainS hereS
  rw [Bool.and_eq_true, Bool.and_eq_true, Bool.not_eq_true', decide_eq_false_iff_not, decide_eq_true_eq, words_iff]
  generalize s.kind = kd
  generalize s.words = l
  generalize s.parts.length = np
  have nil : l.length = 0 → (∀ i, i < l.length → nameB (l.getD i []) = true) ∧ ∀ i, i < l.length → ∀ j, j < i → clash kd (l.getD i []) (l.getD j []) = false := fun h => ⟨fun i hi => by omega, fun i hi => by omega⟩
  by_cases h1 : kd = 1 ∨ kd = 2 ∨ kd = 3
  · rw [if_pos h1]
    simp only [Bool.and_eq_true, decide_eq_true_eq]
    have hw : wantS kd l.length = 0 := by unfold wantS; rw [if_neg (by omega), if_neg (by omega)]
    rw [hw]
    constructor
    · rintro ⟨a, b⟩; exact ⟨by unfold badHead; omega, b, nil a⟩
    · rintro ⟨a, b, _⟩; unfold badHead at a; exact ⟨by omega, b⟩
  · rw [if_neg h1]
    by_cases h4 : kd = 4
    · subst h4
      rw [if_pos rfl]
      simp only [Bool.and_eq_true, decide_eq_true_eq, namesB_iff, unlike_iff]
      have hw : wantS 4 l.length = 0 := by simp [wantS]
      rw [hw]
      constructor
      · rintro ⟨a, ⟨b1, b2⟩, c, d⟩
        exact ⟨by unfold badHead; omega, d, b2, fun i hi j hj => (clash_f _ _ _).2 ⟨c i hi j hj, fun h => by omega⟩⟩
      · rintro ⟨a, b, c, d⟩
        unfold badHead at a
        exact ⟨by omega, ⟨by omega, c⟩, fun i hi j hj => ((clash_f _ _ _).1 (d i hi j hj)).1, b⟩
    · rw [if_neg h4]
      by_cases h5 : kd = 5
      · subst h5
        rw [if_pos rfl]
        simp only [Bool.and_eq_true, decide_eq_true_eq, namesB_iff, rising_iff]
        have hw : wantS 5 l.length = l.length := by simp [wantS]
        rw [hw]
        constructor
        · rintro ⟨⟨b1, b2⟩, c, d⟩
          exact ⟨by unfold badHead; omega, d, b2, fun i hi j hj => (clash_f _ _ _).2 ⟨(c i hi j hj).1, fun _ => (c i hi j hj).2⟩⟩
        · rintro ⟨a, b, c, d⟩
          unfold badHead at a
          exact ⟨⟨by omega, c⟩, fun i hi j hj => ⟨((clash_f _ _ _).1 (d i hi j hj)).1, ((clash_f _ _ _).1 (d i hi j hj)).2 rfl⟩, b⟩
      · rw [if_neg h5]
        by_cases h6 : kd = 6
        · subst h6
          rw [if_pos rfl]
          simp only [Bool.and_eq_true, decide_eq_true_eq]
          have hw : wantS 6 l.length = 1 := by simp [wantS]
          rw [hw]
          constructor
          · rintro ⟨a, b⟩; exact ⟨by unfold badHead; omega, b, nil a⟩
          · rintro ⟨a, b, _⟩; unfold badHead at a; exact ⟨by omega, b⟩
        · rw [if_neg h6]
          constructor
          · intro h; cases h
          · rintro ⟨a, _⟩; unfold badHead at a; omega
theorem depths_all (l : List DSch) (k : Nat) : DSch.depths l ≤ k ↔ ∀ p ∈ l, p.depth ≤ k := by
  induction l with
  | nil => simp [DSch.depths]
  | cons x l ih =>
    simp only [DSch.depths, List.mem_cons, forall_eq_or_imp]
    rw [← ih]; omega
theorem right_sound (k : Nat) : ∀ (s : DSch) (m : Nat), s.depth ≤ m → rightS k s = (decide (s.depth ≤ k) && soundS m s) := by
  induction k with
  | zero => intro s m _; have := s.depth_pos; simp [rightS]; omega
  | succ k ih =>
    intro s m hm
    obtain ⟨m, rfl⟩ : ∃ n, m = n + 1 := ⟨m - 1, by have := s.depth_pos; omega⟩
    have hd := s.depth_eq
    rw [Bool.eq_iff_iff]
    simp only [rightS, soundS, Bool.and_eq_true, decide_eq_true_eq, plain_here, List.all_eq_true]
    have hall := depths_all s.parts
    constructor
    · rintro ⟨h1, h2⟩
      have h3 : ∀ p ∈ s.parts, p.depth ≤ k ∧ soundS m p = true := fun p hp => by
        have := h2 p hp
        rw [ih p m (by have := DSch.depth_part hp; omega)] at this
        simpa using this
      exact ⟨by have := (hall k).2 (fun p hp => (h3 p hp).1); omega, h1, fun p hp => (h3 p hp).2⟩
    · rintro ⟨h0, h1, h2⟩
      refine ⟨h1, fun p hp => ?_⟩
      rw [ih p m (by have := DSch.depth_part hp; omega), h2 p hp, Bool.and_true, decide_eq_true_eq]
      exact (hall k).1 (by omega) p hp
end Go.Proofs.YtogbklnkpjjkoaaGreatDoor

namespace Go.Proofs.YtogbklnkpjjkoaaGreatDoor
open Go.RowKit

theorem flat_get {n : Nat} : ∀ {Cs : List (List Value)} {i j : Nat} {C : List Value}, (∀ D ∈ Cs, D.length = n) → Cs[i]? = some C → j < n → Cs.flatten[i * n + j]? = C[j]?
  | [], i, j, C, _, hi, _ => by simp at hi
  | D :: Cs, 0, j, C, hl, hi, hj => by
    have e : D = C := by simpa using hi
    subst e
    have h1 := hl D (by simp)
    rw [List.flatten_cons, List.getElem?_append_left (by omega)]
    simp
  | D :: Cs, i + 1, j, C, hl, hi, hj => by
    have h1 := hl D (by simp)
    have := flat_get (n := n) (Cs := Cs) (i := i) (j := j) (C := C) (fun x hx => hl x (by simp [hx])) (by simpa using hi) hj
    rw [List.flatten_cons, List.getElem?_append_right (by rw [Nat.add_mul]; omega), ← this]
    congr 1
    rw [Nat.add_mul]; omega
theorem reads_blk {w : World} {g : Nat} {t : TypeId} {size n : Nat} {cs : List Value} (hb : Blk w g t cs.toArray) (hl : cs.length = n * size) : Reads w w.heap.size size (some ⟨g, 0, none⟩) n cs :=
  ⟨hl, fun _ => ⟨g, 0, rfl, hb.lt, fun j u hu => by rw [Nat.zero_add, hb.cell]; simpa using hu⟩⟩
theorem own_cells {w : World} {base : Nat} {e : TypeId} {size n c : Nat} {A : Option Addr} {xs : List Value} (h : w.ownsRow base e size (.slice A n c) n xs) : RF w (fun b => (Value.slice A n c).ownBlock = some b) size A n xs := by
  refine ⟨h.1, fun hn => ?_⟩
  obtain ⟨g, cap, hv, _, hlt⟩ := h.form hn
  have hA : A = some ⟨g, 0, none⟩ := by injection hv
  subst hA
  exact ⟨g, 0, rfl, rfl, fun j u hu => by have := h.cells (g := g) rfl j u hu; rwa [Addr.add_lit] at this⟩
theorem own_cap {w : World} {base : Nat} {e : TypeId} {size n c : Nat} {A : Option Addr} {xs : List Value} (h : w.ownsRow base e size (.slice A n c) n xs) : n ≤ c := by
  rcases h.2 with ⟨hv, h0⟩ | ⟨g, cap, cur, hv, _, _, hnc, _⟩
  · omega
  · have : c = cap := by injection hv
    omega

section
variable {w w' : World} {B g : Nat} {kd n : Int} {s : Str} {names : List Str} {parts : List DVal} {An Ap : Option Addr} {cn cp : Nat}
end
end Go.Proofs.YtogbklnkpjjkoaaGreatDoor

namespace Go.Proofs.YtogbklnkpjjkoaaGreatDoor
open Go.RowKit

structure TreeLike {D : Type} (size : Nat) (Is : World → (Nat → Prop) → D → List Value → Prop) : Prop where
  pos : 0 < size
  keep : ∀ {w w' : World} {F : Nat → Prop} {d : D} {C : List Value}, Is w F d C → (∀ q : Addr, F q.block → w'.cell? q = w.cell? q) → Is w' F d C
  mono : ∀ {w : World} {F G : Nat → Prop} {d : D} {C : List Value}, Is w F d C → (∀ k, F k → G k) → Is w G d C
  length : ∀ {w : World} {F : Nat → Prop} {d : D} {C : List Value}, Is w F d C → C.length = size
  one : ∀ {w : World} {F : Nat → Prop} {d : D} {C : List Value}, Is w F d C → ∀ v ∈ C, v.oneCell' = true
theorem treeSch : TreeLike 3 IsSch := ⟨by omega, fun h k => h.keep k, fun h k => h.mono k, fun h => h.length, fun h => h.one⟩
structure RB {D : Type} (t : TypeId) (size : Nat) (Is : World → (Nat → Prop) → D → List Value → Prop) (w : World) (B : Nat) (A : Option Addr) (c : Nat) (ds : List D) (Cs : List (List Value)) : Prop where
  hl : Cs.length = ds.length
  h3 : ∀ C ∈ Cs, C.length = size
  h1 : ∀ C ∈ Cs, ∀ v ∈ C, v.oneCell' = true
  own : w.ownsRow B t size (.slice A ds.length c) ds.length Cs.flatten
  is : ∀ (i : Nat) (p : D), ds[i]? = some p → ∃ C, Cs[i]? = some C ∧ Is w (fun b => B ≤ b ∧ b < w.heap.size ∧ (Value.slice A ds.length c).ownBlock ≠ some b) p C

section
variable {D : Type} {t : TypeId} {size : Nat} {Is : World → (Nat → Prop) → D → List Value → Prop} {w w' : World} {B : Nat} {A : Option Addr} {c : Nat} {ds : List D} {Cs : List (List Value)}
theorem RB.nil (T : TreeLike size Is) (w : World) (B : Nat) : RB t size Is w B none 0 ([] : List D) [] :=
  ⟨rfl, fun _ h => (by cases h), fun _ h => (by cases h), World.ownsRow_nil _ _ _ _, fun i p hp => by simp at hp⟩
theorem RB.keep (T : TreeLike size Is) (h : RB t size Is w B A c ds Cs) (hf : Below w.heap.size w w') : RB t size Is w' B A c ds Cs :=
  ⟨h.hl, h.h3, h.h1, own_below' h.own hf, fun i p hp => by
    obtain ⟨C, hC, hv⟩ := h.is i p hp
    exact ⟨C, hC, T.mono (T.keep hv fun q hq => hf.cell hq.2.1) fun b hb => ⟨hb.1, Nat.lt_of_lt_of_le hb.2.1 hf.size, hb.2.2⟩⟩⟩
theorem RB.app (T : TreeLike size Is) {m : Nat} {A' : Option Addr} {c' : Nat} {x : D} {C : List Value} (h : RB t size Is w B A c ds Cs) (hm : ds.length = m)
    (hx : Is w (fun b => B ≤ b ∧ b < w.heap.size ∧ (Value.slice A m c).ownBlock ≠ some b) x C)
    (hown : w'.ownsRow B t size (.slice A' (m + 1) c') (m + 1) (Cs.flatten ++ C)) (hgr : w.grownBy w' (Value.slice A m c).ownBlock)
    (hlie : (Value.slice A' (m + 1) c').ownBlock = (Value.slice A m c).ownBlock ∨ (Value.slice A' (m + 1) c').ownBlock = some w.heap.size) :
    RB t size Is w' B A' c' (ds ++ [x]) (Cs ++ [C]) := by
  subst hm
  have hlen : (ds ++ [x]).length = ds.length + 1 := by simp
  have keepV : ∀ (p : D) (E : List Value), Is w (fun b => B ≤ b ∧ b < w.heap.size ∧ (Value.slice A ds.length c).ownBlock ≠ some b) p E → Is w' (fun b => B ≤ b ∧ b < w'.heap.size ∧ (Value.slice A' (ds.length + 1) c').ownBlock ≠ some b) p E := by
    intro p E hv
    refine T.mono (T.keep hv fun q hq => World.cell?_of_block (hgr.block q.block hq.2.1 (fun e => hq.2.2 e.symm))) fun b hb => ⟨hb.1, Nat.lt_of_lt_of_le hb.2.1 hgr.size, ?_⟩
    rcases hlie with e | e <;> rw [e]
    · exact hb.2.2
    · intro e; injection e with e; have := hb.2.1; omega
  refine ⟨by simp [h.hl], ?_, ?_, ?_, fun i p hp => ?_⟩
  · intro E hE
    rcases List.mem_append.1 hE with hE | hE
    · exact h.h3 E hE
    · rw [List.mem_singleton.1 hE]; exact T.length hx
  · intro E hE
    rcases List.mem_append.1 hE with hE | hE
    · exact h.h1 E hE
    · rw [List.mem_singleton.1 hE]; exact T.one hx
  · rw [hlen, List.flatten_append]
    simpa using hown
  · rw [hlen]
    have hl := h.hl
    by_cases hi : i < ds.length
    · rw [List.getElem?_append_left hi] at hp
      obtain ⟨E, hE, hv⟩ := h.is i p hp
      exact ⟨E, by rw [List.getElem?_append_left (by omega)]; exact hE, keepV p E hv⟩
    · have hil : i = ds.length := by
        have := (List.getElem?_eq_some_iff.1 hp).1
        simp at this; omega
      subst hil
      rw [List.getElem?_append_right (Nat.le_refl _)] at hp
      simp at hp
      subst hp
      exact ⟨C, by rw [← hl, List.getElem?_append_right (Nat.le_refl _)]; simp, keepV _ _ hx⟩
theorem RB.done (T : TreeLike size Is) (h : RB t size Is w B A c ds Cs) : ∃ b o, ∃ C : Nat → List Value, (0 < ds.length → A = some ⟨b, o, none⟩ ∧ (B ≤ b ∧ b < w.heap.size)) ∧
    (∀ (i : Nat) (p : D), ds[i]? = some p → (C i).length = size ∧ w.rangeAt b (o + i * size) (C i)) ∧ (∀ (i : Nat) (p : D), ds[i]? = some p → Is w (fun b => B ≤ b ∧ b < w.heap.size) p (C i)) ∧ ds.length ≤ c := by
  have hrp := own_cells h.own
  rcases Nat.eq_zero_or_pos ds.length with h0 | h0
  · have hp0 : ds = [] := List.eq_nil_of_length_eq_zero h0
    subst hp0
    exact ⟨0, 0, fun _ => [], fun h => absurd h (by simp), fun i p hp => (by simp at hp), fun i p hp => (by simp at hp), own_cap h.own⟩
  · obtain ⟨b, o, hA, hFb, hc⟩ := hrp.2 h0
    have hFb' := h.own.lt b hFb
    refine ⟨b, o, fun i => Cs.getD i [], fun _ => ⟨hA, hFb'⟩, fun i p hp => ?_, fun i p hp => ?_, own_cap h.own⟩
    · obtain ⟨C, hC, hv⟩ := h.is i p hp
      have e : (fun i => Cs.getD i []) i = C := by simp [List.getD, hC]
      rw [e]
      refine ⟨T.length hv, fun j v hj => ?_⟩
      have hj6 : j < size := by rw [← T.length hv]; exact (List.getElem?_eq_some_iff.1 hj).1
      have := flat_get h.h3 hC hj6
      rw [Nat.add_assoc]
      exact hc (i * size + j) v (this.trans hj)
    · obtain ⟨C, hC, hv⟩ := h.is i p hp
      have e : (fun i => Cs.getD i []) i = C := by simp [List.getD, hC]
      rw [e]
      exact T.mono hv fun b hb => ⟨hb.1, hb.2.1⟩
end
end Go.Proofs.YtogbklnkpjjkoaaGreatDoor

namespace Go.Proofs.YtogbklnkpjjkoaaGreatDoor
open Go.RowKit

def NewSch (s : DSch) (w : World) (e : Ending) (w' : World) : Prop := ∃ cs : List Value, e = .returned (.agg cs.toArray) ∧ IsSch w' (fun b => w.heap.size ≤ b ∧ b < w'.heap.size) s cs ∧ Below w.heap.size w w'
theorem info_strK : (Tryz.prog.info? 9).map (fun i => (i.zero, i.size, i.bytes)) = some (some (sv []), 1, 16) := by kernel_rfl
theorem info_schK : (Tryz.prog.info? 25).map (fun i => (i.zero, i.size, i.bytes)) = some (some (.agg #[.int .i64 0, .slice none 0 0, .slice none 0 0]), 3, 56) := by kernel_rfl
theorem info_schS : (Tryz.prog.info? 25).map (·.size) = some 3 := by kernel_rfl

set_option maxHeartbeats 2000000 in
set_option maxRecDepth 20000 in
theorem schCopy_calls (k : Nat) : ∀ (s : DSch) (cs : List Value) (w : World), s.depth ≤ k → s.weight ≤ 1000000 → IsSch w (· < w.heap.size) s cs →
    Calls Tryz.prog 44 #[.agg cs.toArray] w (NewSch s w) := by
  induction k with
  | zero => intro s cs w h; have := s.depth_pos; omega
  | succ k ih =>
    intro s cs w hk hwt hs
    have HDP := hide (fun p (h : p ∈ s.parts) => DSch.depth_part h)
    have HWP := hide (fun p (h : p ∈ s.parts) => DSch.weight_part h)
    have hww := s.words_weight
    have hpw := s.parts_weight
    have HI := hide ih
    obtain ⟨Ap', cp', C', hp1', _, _, hP', hA'⟩ := hs.partsF
    cases hs with
    | @mk kind words parts Aw Ap cw cp b o C hki hw hz hcw hmw hA hC hP hcp hmp =>
    simp only [DSch.words, DSch.parts] at *
    obtain ⟨rfl, rfl⟩ : Ap' = Ap ∧ cp' = cp := by simpa [eq_comm] using hp1'
    have HPA := hide hA'
    have HPP := hide hP'
    have HKI := hide hki
    have HZ := hide hz
    have HW := hide hw
    clear ih hA hC hP hA' hP' hz hw hki hp1'
    obtain ⟨i9, hi9, hz9, hs9, hb9⟩ := info_parts info_strK
    obtain ⟨i25, hi25, hz25, hs25, hb25⟩ := info_parts info_schK
    have HW0 := hide (((Below.refl w.heap.size w).alloc (Nat.le_refl _) (.cells #[.int .i64 kind, .slice Aw words.length cw, .slice Ap' parts.length cp'] 25)))
    have HX := hide (Blk.new w 25 #[.int .i64 kind, .slice Aw words.length cw, .slice Ap' parts.length cp'])
    have hRD := HW.out.reads (B := w.heap.size) (fun _ h => h)
    have HRD := hide hRD
    clear hRD
    go_enter Tryz.func44, Tryz.ntmps44
    go_upto_region 1 with fail
    go_cut [8] (fun v wx => ∃ (Aq : Option Addr) (cq : Nat), v = .slice Aq words.length cq ∧ wx.ownsRow (w.heap.size + 1 + 1) 9 1 (.slice Aq words.length cq) words.length (words.map sv) ∧ Blk wx w.heap.size 25 #[.int .i64 kind, .slice Aq words.length cq, .slice Ap' parts.length cp'] ∧ (∃ Z : Array Value, Z.size = 3 ∧ Blk wx (w.heap.size + 1) 25 Z) ∧ Below w.heap.size w wx)
    case first =>
      have HW1 := hide (HW0.out.alloc (by simp) (.cells #[.int .i64 0, .slice none 0 0, .slice none 0 0] 25))
      have HX1 := hide (HX.out.alloc (.cells #[.int .i64 0, .slice none 0 0, .slice none 0 0] 25))
      have HZ1 := hide (Blk.new2 w (.cells #[.int .i64 kind, .slice Aw words.length cw, .slice Ap' parts.length cp'] 25) 25 #[.int .i64 0, .slice none 0 0, .slice none 0 0])
      have HRE := hide ((HRD.out.keep (fun p hp => HW1.out.cell hp)))
      go_wp2_with (first
        | (at_builtin; refine wpList_append_any _ rfl _ _ 22 rfl _ 9 i9 (sv []) 1 16 Tryz.underlying22 hi9 hz9 hs9 hb9 rfl (by decide) (.slice none 0 0) 0 [] (by rfl) (World.ownsRow_nil _ (w.heap.size + 1 + 1) _ _) _ _ words.length _ (words.map sv) (by rfl) HRE.out (by intro u hu; obtain ⟨x, _, rfl⟩ := List.mem_map.1 hu; rfl) (by unfold maxLen; omega) (by omega) (by simp) ?_; intro Aq cq wq ownq growq lieq; simp only [Nat.zero_add, List.nil_append] at ownq ⊢; have HBK := hide (HX1.out.grown growq (by simp [Value.ownBlock])); have f3 := HBK.out.frozen 1; have e3 := HBK.out.cell 1; have HOW := hide ownq; have HGQ := hide growq; have HLI := hide lieq; clear ownq growq lieq)
        | fail)
      go_meet
      have hF : Fr (fun k => k = w.heap.size) wq (wq.setCell ⟨w.heap.size, 1, none⟩ (.slice Aq words.length cq)) := (Fr.refl (fun k => k = w.heap.size) wq).setCell (p := ⟨w.heap.size, 1, none⟩) (.inl rfl) _
      refine ⟨Aq, cq, rfl, own_fr HOW.out hF (fun q hk e => by have := (HOW.out.lt q hk).1; omega), by simpa using HBK.out.set_ 1 (.slice Aq words.length cq), ⟨_, rfl, (HZ1.out.grown HGQ.out (by simp [Value.ownBlock])).fr hF (by omega)⟩, ?_⟩
      exact ((HW1.out.grown HGQ.out (by simp; omega) (fun b hb => by simp [Value.ownBlock] at hb))).trans (hF.below (by have := HBK.out.lt; omega) fun x hx h => by omega)
    case rest =>
      obtain ⟨Aq, cq, rfl, hwo, h1, ⟨Z, hZ, h2⟩, hw⟩ := hcut
      have HWO := hide hwo
      have G1 := hide h1
      have G2 := hide h2
      have GZ := hide hZ
      have GW := hide hw
      have hlt1 := h2.lt
      clear hwo h1 h2 hw hZ HX HW0
      have c2 : wc.cell? ⟨w.heap.size, 2, none⟩ = some (.slice Ap' parts.length cp') := G1.out.cell 2
      go_wp2_with fail
      go_loopw [3, 13] (fun rv iv wr => ∃ (j : Nat) (A : Option Addr) (c : Nat) (Cs : List (List Value)), rv = .slice A j c ∧ iv = .int .i64 j ∧ j ≤ parts.length ∧ RB 25 3 IsSch wr wc.heap.size A c (parts.take j) Cs ∧ Below wc.heap.size wc wr) (fun _ i _ => parts.length - (intOf i).toNat)
      case atStart => exact ⟨0, none, 0, [], rfl, rfl, Nat.zero_le _, RB.nil treeSch _ _, Below.refl _ _⟩
      case round =>
        clear c2
        obtain ⟨j, A, c, Cs, rfl, rfl, hj, hrb, hw⟩ := hrel
        obtain ⟨wo, rfl⟩ : ∃ wo : World, wo = wr := ⟨_, rfl⟩
        have KW := hide hw
        have HRB := hide hrb
        have hlj : (parts.take j).length = j := by simp; omega
        have HLJ := hide hlj
        clear hw hrb hlj
        by_cases hlt : j < parts.length
        · obtain ⟨x, o5, rfl, hx, hC⟩ := HPA.out (by omega)
          obtain ⟨hl3, hr⟩ := hC j hlt
          have HPI := hide (HPP.out j _ (List.getElem?_eq_getElem hlt))
          have HGO := hide (GW.out.trans (KW.out.mono GW.out.size))
          have HRW : Hid (wo.rangeAt x (o5 + j * 3) (C' j)) := hide fun q v hv => (HGO.out.cell (p := ⟨x, o5 + j * 3 + q, none⟩) hx).trans (hr q v hv)
          have HL3 := hide hl3
          have HONE := hide (HPI.out.one)
          have hdp := HDP.out _ (List.getElem_mem hlt)
          have hwp := HWP.out _ (List.getElem_mem hlt)
          have HT := hide (List.take_succ_eq_append_getElem hlt)
          clear hC hl3 hr
          generalize parts[j] = pj at *
          generalize C' j = Cj at *
          have hst := fun (W : World) => run_store_new (P := Tryz.prog) W 25 [.int .i64 0, .slice none 0 0, .slice none 0 0] Cj (by rw [HL3.out]; rfl) HONE.out
          go_wp2_with (first
            | (refine wpList_load_mid rfl 25 _ rfl x (o5 + j * 3) rfl Cj _ HRW.out rfl rfl (by rw [HL3.out]; kernel_rfl) ?_)
            | (refine wpList_load_blk rfl 25 _ rfl _ rfl _ _ (Blk.new _ _ _) _ rfl rfl (by rw [List.size_toArray, HL3.out]; kernel_rfl) ?_)
            | fail)
          have K6 := hide ((Below.refl wo.heap.size wo).alloc (Nat.le_refl _) (.cells Cj.toArray 25))
          clear HRW
          refine (HI.out pj Cj _ (by omega) (by omega) (HPI.out.more (HGO.out.trans (K6.out.mono HGO.out.size)))).mono ?_
          rintro e w1 ⟨cs1, rfl, hv1, hb1⟩
          have HB1 := hide (K6.out.trans (hb1.mono K6.out.size))
          have HV1 := hide (hv1.mono (G := fun b => wo.heap.size ≤ b ∧ b < w1.heap.size) fun b hb => ⟨Nat.le_trans (by simp) hb.1, hb.2⟩)
          have H1L := hide hv1.length
          have H1O := hide hv1.one
          clear hv1 hb1
          have V2 := hide (HRB.out.keep treeSch (HB1.out.alloc HB1.out.size (.cells cs1.toArray 25)))
          have HOW := hide (V2.out.own)
          rw [HLJ.out] at HOW
          have hRD := reads_blk (n := 1) (size := 3) (Blk.new w1 25 cs1.toArray) (by rw [H1L.out])
          have HRD1 := hide hRD
          clear hRD
          have hs1 := HB1.out.size
          have hs2 := KW.out.size
          go_wp2_with (first
            | (rw [foldl_zip_all _ _ (by rw [H1L.out]; rfl), if_neg (by rw [H1L.out]; decide)])
            | (at_builtin; refine wpList_append_any _ rfl _ _ 23 rfl _ 25 i25 (.agg #[.int .i64 0, .slice none 0 0, .slice none 0 0]) 3 56 Tryz.underlying23 hi25 hz25 hs25 hb25 rfl (by decide) _ j Cs.flatten (by rfl) HOW.out _ _ 1 _ cs1 (by rfl) HRD1.out H1O.out (by unfold maxLen; omega) (by omega) (by simp only [World.size_alloc]; omega) ?_; intro Aq2 cq2 wq2 ownq growq lieq; have HOQ := hide ownq; have HGQ := hide growq; have HLI := hide lieq; clear ownq growq lieq)
            | fail)
          have hOW0 := HRB.out.own
          rw [HLJ.out] at hOW0
          have hx1 : IsSch (w1.alloc (.cells cs1.toArray 25)) (fun b => wc.heap.size ≤ b ∧ b < (w1.alloc (.cells cs1.toArray 25)).heap.size ∧ (Value.slice A j c).ownBlock ≠ some b) pj cs1 :=
            (HV1.out.keep fun q hq => ((Below.refl w1.heap.size w1).alloc (Nat.le_refl _) (.cells cs1.toArray 25)).cell hq.2).mono fun b hb => ⟨by omega, by simp only [World.size_alloc]; omega, fun e => by have := (hOW0.lt _ e).2; omega⟩
          exact ⟨⟨j + 1, Aq2, cq2, Cs ++ [cs1], rfl, by go_num, by omega, by rw [HT.out]; exact V2.out.app treeSch HLJ.out hx1 HOQ.out HGQ.out HLI.out, (((KW.out.trans (HB1.out.mono hs2)).alloc (by omega) _).grown HGQ.out (by simp only [World.size_alloc]; omega) (fun b hb => (hOW0.lt _ hb).1))⟩, by simp [intOf]; omega⟩
        · obtain rfl : j = parts.length := by omega
          have HR2 : Hid (RB 25 3 IsSch wo wc.heap.size A c parts Cs) := hide (by have := HRB.out; rwa [List.take_length] at this)
          have K1 := hide (G1.out.below KW.out (by omega))
          have K2 := hide (G2.out.below KW.out (by omega))
          have c2 : wo.cell? ⟨w.heap.size, 2, none⟩ = some (.slice Ap' parts.length cp') := K1.out.cell 2
          have f2 : wo.frozen? ⟨w.heap.size, 2, none⟩ = false := K1.out.frozen 2
          have K1S := hide (K1.out.set_ 2 (.slice A parts.length c))
          have K2F := hide (K2.out.far (p := ⟨w.heap.size, 2, none⟩) (by simp) (.slice A parts.length c))
          go_wp2_with (first
            | (refine wpList_load_blk rfl 25 _ rfl _ rfl _ _ (K1S.out) _ rfl rfl info_schS ?_)
            | (refine wpList_store_blk rfl 25 _ _ rfl _ rfl #[.int .i64 kind, .slice Aq words.length cq, .slice A parts.length c] rfl _ _ (K2F.out) (by rw [GZ.out] <;> rfl) info_schS (by simp [Value.oneCell']) ?_; intro wf hbf hff; have HBF := hide hbf; have HFF := hide hff; clear hbf hff)
            | fail)
          refine bodyPost_ret (results_cell_row rfl _ _ (w.heap.size + 1) 25 #[.int .i64 kind, .slice Aq words.length cq, .slice A parts.length c] (0, 0) _ rfl HBF.out rfl rfl info_schS) rfl ?_
          have HFS : Hid (Fr (fun b => w.heap.size ≤ b ∧ b < w.heap.size + 1 + 1) wo wf) := hide (((Fr.refl (fun b => w.heap.size ≤ b ∧ b < w.heap.size + 1 + 1) wo).setCell (p := ⟨w.heap.size, 2, none⟩) (.inl (by show w.heap.size ≤ w.heap.size ∧ w.heap.size < _; omega)) _).trans (HFF.out.mono fun k _ hk => .inl (by omega)))
          have hsf := HFS.out.size
          have hsw := KW.out.size
          obtain ⟨b', o', C2, q1, q2, q3, q4⟩ := HR2.out.done treeSch
          have hwd : RF wf (fun b => w.heap.size ≤ b ∧ b < wf.heap.size) 1 Aq words.length (words.map sv) := by
            have h1 := own_cells HWO.out
            refine (h1.keep fun q hq => ?_).mono fun b hb => ?_
            · have := HWO.out.lt _ hq
              exact (HFS.out.cell (p := q) (by omega) (by omega)).trans (KW.out.cell (by omega))
            · have := HWO.out.lt _ hb
              omega
          refine ⟨_, rfl, .mk HKI.out hwd HZ.out (own_cap HWO.out) (by omega) (fun h => ⟨(q1 h).1, ⟨by have := (q1 h).2; omega, by have := (q1 h).2; omega⟩⟩) (fun i p hp => ⟨(q2 i p hp).1, fun j v hv => ?_⟩) (fun i p hp => ((q3 i p hp).keep fun q hq => HFS.out.cell hq.2 (by have := hq.1; omega)).mono fun b hb => by omega) q4 (by omega), ?_⟩
          · have h0 := (q1 (by have := (List.getElem?_eq_some_iff.1 hp).1; omega)).2
            exact (HFS.out.cell (p := ⟨b', o' + i * 3 + j, none⟩) h0.2 (by show ¬ (_ ≤ b' ∧ b' < _); omega)).trans ((q2 i p hp).2 j v hv)
          · exact (GW.out.trans (KW.out.mono GW.out.size)).trans (HFS.out.below (by omega) fun x hx h => by omega)
end Go.Proofs.YtogbklnkpjjkoaaGreatDoor

namespace Go.Proofs.YtogbklnkpjjkoaaGreatDoor

def b8 (n : Nat) : UInt8 := UInt8.ofNat n
end Go.Proofs.YtogbklnkpjjkoaaGreatDoor

namespace Go.Proofs.YtogbklnkpjjkoaaGreatDoor
open Go.RowKit

def mo : Bool := false
inductive Own where
  | no
  | full
  | row (g : Nat)
inductive D where
  | v (x : Value)
  | agg (cs : List D)
  | tup (cs : List D)
  | fn (f : Fn) (fs cs : List D)
  | ifc (t : TypeId) (d : D)
  | loc (k off : Nat)
  | rd (cs : List D) (off : Nat)
  | sl (o : Own) (es : List D)
  | win (k off n c : Nat)
inductive Ob where
  | box (t : TypeId) (cs : List D)
  | row (e : TypeId) (n : Nat)
  | mp (b : Nat) (l : List (Value × Value))
structure St where
  next : Nat
  ob : Nat → Option Ob

abbrev undefD : D := .tup []
def D.isAgg : D → Bool
  | .agg _ => true
  | _ => false
def D.cells : D → List D
  | .agg cs => cs
  | d => [d]
def D.width (d : D) : Nat := d.cells.length
def szOf (P : Program) (t : TypeId) : Nat := ((P.info? t).map (·.size)).getD 0

abbrev Names := Nat → Option (Option Nat)

def Fix (P : Program) (S : St) (η : Names) (b i : Nat) : Prop := ∀ k o, η k = some (some b) → S.ob k = some o → match o with
  | .box _ _ => False
  | .row e n => i < n * szOf P e
  | .mp _ _ => False

section
variable (P : Program) (w : World) (η : Names) (X : Nat → Nat → Prop)
def OwnAt (A : Option Addr) (n c : Nat) : Own → Prop
  | .no => True
  | .full => c = n
  | .row g => (η g = some none ∧ c = n) ∨ ∃ (b : Nat) (cur : Array Value) (e : TypeId), η g = some (some b) ∧ A = some ⟨b, 0, none⟩ ∧ w.heap[b]? = some (.cells cur e (0, 0)) ∧ cur.size = c * szOf P e
mutual
def Rep : D → Value → Prop
  | .v x, y => y = x
  | .agg cs, y => ∃ vs : List Value, y = .agg vs.toArray ∧ RepL cs vs ∧ ∀ x ∈ vs, x.oneCell' = true
  | .tup cs, y => ∃ vs : List Value, y = .tuple vs.toArray ∧ RepL cs vs
  | .fn f fs cs, y => ∃ us vs : List Value, y = .func f us.toArray vs.toArray ∧ RepL fs us ∧ RepL cs vs
  | .ifc t d, y => ∃ x, y = .iface t x ∧ Rep d x
  | .loc k off, y => ∃ b, η k = some (some b) ∧ y = .pointer (some ⟨b, off, none⟩)
  | .rd cs off, y => ∃ b o, y = .pointer (some ⟨b, o + off, none⟩) ∧ RepC cs b o
  | .sl own es, y => ∃ A c, y = .slice A es.length c ∧ es.length ≤ c ∧ es.length ≤ 140737488355328 ∧ OwnAt P w η A es.length c own ∧ (0 < es.length → ∃ b o z, A = some ⟨b, o, none⟩ ∧ 0 < z ∧ RepE z es b o)
  | .win k off n c, y => (∃ b, η k = some (some b) ∧ y = .slice (some ⟨b, off, none⟩) n c ∧ n ≤ c ∧ n ≤ 140737488355328) ∨ (η k = some none ∧ n = 0 ∧ c = 0 ∧ ∃ A, y = .slice A 0 0)
def RepL : List D → List Value → Prop
  | [], vs => vs = []
  | d :: ds, vs => ∃ x xs, vs = x :: xs ∧ Rep d x ∧ RepL ds xs
def RepC : List D → Nat → Nat → Prop
  | [], _, _ => True
  | d :: ds, b, o => (X b o ∧ ∃ x, w.cell? ⟨b, o, none⟩ = some x ∧ x.oneCell' = true ∧ Rep d x) ∧ RepC ds b (o + 1)
def RepE (z : Nat) : List D → Nat → Nat → Prop
  | [], _, _ => True
  | d :: ds, b, o => (RepA z d b o ∧ (d.isAgg = false → z = 1 ∧ X b o ∧ ∃ x, w.cell? ⟨b, o, none⟩ = some x ∧ x.oneCell' = true ∧ Rep d x)) ∧ RepE z ds b (o + z)
def RepA (z : Nat) : D → Nat → Nat → Prop
  | .agg cs, b, o => cs.length = z ∧ RepC cs b o
  | _, _, _ => True
end
end

def Own.all (N : Nat → Prop) : Own → Prop
  | .row g => N g
  | _ => True
mutual
def D.all (N : Nat → Prop) : D → Prop
  | .v _ => True
  | .agg cs => allL N cs
  | .tup cs => allL N cs
  | .fn _ fs cs => allL N fs ∧ allL N cs
  | .ifc _ d => D.all N d
  | .loc k _ => N k
  | .rd cs _ => allL N cs
  | .sl o es => o.all N ∧ allL N es
  | .win k _ _ _ => N k
def allL (N : Nat → Prop) : List D → Prop
  | [] => True
  | d :: ds => D.all N d ∧ allL N ds
end
theorem allL_iff {N : Nat → Prop} : ∀ {l : List D}, allL N l ↔ ∀ d ∈ l, d.all N
  | [] => by simp [allL]
  | d :: l => by simp [allL, allL_iff (l := l)]
theorem Own.all_mono {N M : Nat → Prop} (h : ∀ k, N k → M k) {o : Own} (ho : o.all N) : o.all M := by
  cases o <;> simp only [Own.all] at * <;> exact h _ ho
mutual
theorem D.all_mono {N M : Nat → Prop} (h : ∀ k, N k → M k) : ∀ {d : D}, d.all N → d.all M
  | .v _, hd => trivial
  | .agg cs, hd => by simp only [D.all] at *; exact allL_mono h hd
  | .tup cs, hd => by simp only [D.all] at *; exact allL_mono h hd
  | .fn _ fs cs, hd => by simp only [D.all] at *; exact ⟨allL_mono h hd.1, allL_mono h hd.2⟩
  | .ifc _ d, hd => by simp only [D.all] at *; exact D.all_mono h hd
  | .loc k _, hd => by simp only [D.all] at *; exact h _ hd
  | .rd cs _, hd => by simp only [D.all] at *; exact allL_mono h hd
  | .sl o es, hd => by simp only [D.all] at *; exact ⟨Own.all_mono h hd.1, allL_mono h hd.2⟩
  | .win k _ _ _, hd => by simp only [D.all] at *; exact h _ hd
theorem allL_mono {N M : Nat → Prop} (h : ∀ k, N k → M k) : ∀ {l : List D}, allL N l → allL M l
  | [], _ => trivial
  | d :: ds, hd => by simp only [allL] at *; exact ⟨D.all_mono h hd.1, allL_mono h hd.2⟩
end
mutual
theorem D.all_true : ∀ d : D, d.all (fun _ => True)
  | .v _ => trivial
  | .agg cs => by simp only [D.all]; exact allL_true cs
  | .tup cs => by simp only [D.all]; exact allL_true cs
  | .fn _ fs cs => by simp only [D.all]; exact ⟨allL_true fs, allL_true cs⟩
  | .ifc _ d => by simp only [D.all]; exact D.all_true d
  | .loc k _ => trivial
  | .rd cs _ => by simp only [D.all]; exact allL_true cs
  | .sl o es => by simp only [D.all]; exact ⟨by cases o <;> trivial, allL_true es⟩
  | .win k _ _ _ => trivial
theorem allL_true : ∀ l : List D, allL (fun _ => True) l
  | [] => trivial
  | d :: ds => by simp only [allL]; exact ⟨D.all_true d, allL_true ds⟩
end

structure Keep (N : Nat → Prop) (w : World) (η : Names) (X : Nat → Nat → Prop) (w' : World) (η' : Names) (X' : Nat → Nat → Prop) : Prop where
  size : w.heap.size ≤ w'.heap.size
  fix : ∀ b i, b < w.heap.size → X b i → X' b i ∧ w'.cell? ⟨b, i, none⟩ = w.cell? ⟨b, i, none⟩
  eta : ∀ k b, N k → η k = some b → η' k = some b
  shp : ∀ (b : Nat) (cur : Array Value) (e : TypeId), w.heap[b]? = some (.cells cur e (0, 0)) → ∃ cur' : Array Value, w'.heap[b]? = some (.cells cur' e (0, 0)) ∧ cur'.size = cur.size

section
variable {P : Program} {N : Nat → Prop} {w : World} {η : Names} {X : Nat → Nat → Prop} {w' : World} {η' : Names} {X' : Nat → Nat → Prop}
theorem OwnAt.keep (K : Keep N w η X w' η' X') {A : Option Addr} {n c : Nat} {o : Own} (ho : o.all N) (h : OwnAt P w η A n c o) : OwnAt P w' η' A n c o := by
  cases o with
  | no => trivial
  | full => exact h
  | row g =>
    rcases h with h | ⟨b, cur, e, h1, h2, h3, h4⟩
    · exact .inl ⟨K.eta _ _ ho h.1, h.2⟩
    · obtain ⟨cur', h6, h7⟩ := K.shp _ _ _ h3
      exact .inr ⟨b, cur', e, K.eta _ _ ho h1, h2, h6, by rw [h7, h4]⟩
theorem Keep.cell (K : Keep N w η X w' η' X') {b i : Nat} {x : Value} (hx : X b i) (h : w.cell? ⟨b, i, none⟩ = some x) : X' b i ∧ w'.cell? ⟨b, i, none⟩ = some x := by
  have := K.fix b i (World.block_lt_of_cell? w ⟨b, i, none⟩ h) hx
  exact ⟨this.1, this.2.trans h⟩
mutual
theorem Rep.keep (K : Keep N w η X w' η' X') : ∀ {d : D} {y : Value}, d.all N → Rep P w η X d y → Rep P w' η' X' d y
  | .v x, y, _, h => by simp only [Rep] at *; exact h
  | .agg cs, y, hd, h => by
    simp only [Rep, D.all] at *
    obtain ⟨vs, h1, h2, h3⟩ := h
    exact ⟨vs, h1, RepL.keep K hd h2, h3⟩
  | .tup cs, y, hd, h => by
    simp only [Rep, D.all] at *
    obtain ⟨vs, h1, h2⟩ := h
    exact ⟨vs, h1, RepL.keep K hd h2⟩
  | .fn f fs cs, y, hd, h => by
    simp only [Rep, D.all] at *
    obtain ⟨us, vs, h1, h2, h3⟩ := h
    exact ⟨us, vs, h1, RepL.keep K hd.1 h2, RepL.keep K hd.2 h3⟩
  | .ifc t d, y, hd, h => by
    simp only [Rep, D.all] at *
    obtain ⟨x, h1, h2⟩ := h
    exact ⟨x, h1, Rep.keep K hd h2⟩
  | .loc k off, y, hd, h => by
    simp only [Rep, D.all] at *
    obtain ⟨b, h1, h2⟩ := h
    exact ⟨b, K.eta _ _ hd h1, h2⟩
  | .rd cs off, y, hd, h => by
    simp only [Rep, D.all] at *
    obtain ⟨b, o, h1, h3⟩ := h
    exact ⟨b, o, h1, RepC.keep K hd h3⟩
  | .sl own es, y, hd, h => by
    simp only [Rep, D.all] at *
    obtain ⟨A, c, h1, h2, h3, h4, h5⟩ := h
    refine ⟨A, c, h1, h2, h3, h4.keep K hd.1, fun h0 => ?_⟩
    obtain ⟨b, o, z, e1, e3, e4⟩ := h5 h0
    exact ⟨b, o, z, e1, e3, RepE.keep K z hd.2 e4⟩
  | .win k off n c, y, hd, h => by
    simp only [Rep, D.all] at *
    rcases h with ⟨b, h1, h2⟩ | ⟨h1, h2⟩
    · exact .inl ⟨b, K.eta _ _ hd h1, h2⟩
    · exact .inr ⟨K.eta _ _ hd h1, h2⟩
theorem RepL.keep (K : Keep N w η X w' η' X') : ∀ {l : List D} {vs : List Value}, allL N l → RepL P w η X l vs → RepL P w' η' X' l vs
  | [], vs, _, h => by simp only [RepL] at *; exact h
  | d :: ds, vs, hd, h => by
    simp only [RepL, allL] at *
    obtain ⟨x, xs, h1, h2, h3⟩ := h
    exact ⟨x, xs, h1, Rep.keep K hd.1 h2, RepL.keep K hd.2 h3⟩
theorem RepC.keep (K : Keep N w η X w' η' X') : ∀ {l : List D} {b o : Nat}, allL N l → RepC P w η X l b o → RepC P w' η' X' l b o
  | [], b, o, _, h => by simp only [RepC] at *
  | d :: ds, b, o, hd, h => by
    simp only [RepC, allL] at *
    obtain ⟨⟨h1, x, h2, h3, h4⟩, h5⟩ := h
    obtain ⟨k1, k2⟩ := K.cell h1 h2
    exact ⟨⟨k1, x, k2, h3, Rep.keep K hd.1 h4⟩, RepC.keep K hd.2 h5⟩
theorem RepE.keep (K : Keep N w η X w' η' X') (z : Nat) : ∀ {l : List D} {b o : Nat}, allL N l → RepE P w η X z l b o → RepE P w' η' X' z l b o
  | [], b, o, _, h => by simp only [RepE] at *
  | d :: ds, b, o, hd, h => by
    simp only [RepE, allL] at *
    obtain ⟨⟨h1, h2⟩, h5⟩ := h
    refine ⟨⟨RepA.keep K z hd.1 h1, fun hn => ?_⟩, RepE.keep K z hd.2 h5⟩
    obtain ⟨e1, e2, x, e3, e4, e5⟩ := h2 hn
    obtain ⟨k1, k2⟩ := K.cell e2 e3
    exact ⟨e1, k1, x, k2, e4, Rep.keep K hd.1 e5⟩
theorem RepA.keep (K : Keep N w η X w' η' X') (z : Nat) : ∀ {d : D} {b o : Nat}, d.all N → RepA P w η X z d b o → RepA P w' η' X' z d b o
  | .agg cs, b, o, hd, h => by
    simp only [RepA, D.all] at *
    exact ⟨h.1, RepC.keep K hd h.2⟩
  | .v _, _, _, _, _ => by simp only [RepA]
  | .tup _, _, _, _, _ => by simp only [RepA]
  | .fn _ _ _, _, _, _, _ => by simp only [RepA]
  | .ifc _ _, _, _, _, _ => by simp only [RepA]
  | .loc _ _, _, _, _, _ => by simp only [RepA]
  | .rd _ _, _, _, _, _ => by simp only [RepA]
  | .sl _ _, _, _, _, _ => by simp only [RepA]
  | .win _ _ _ _, _, _, _, _ => by simp only [RepA]
end
theorem RepL.length : ∀ {l : List D} {vs : List Value}, RepL P w η X l vs → vs.length = l.length
  | [], vs, h => by simp only [RepL] at h; simp [h]
  | d :: ds, vs, h => by
    simp only [RepL] at h
    obtain ⟨x, xs, rfl, _, h3⟩ := h
    simp [RepL.length h3]
theorem RepL.get : ∀ {l : List D} {vs : List Value} (i : Nat) {d : D}, RepL P w η X l vs → l[i]? = some d → ∃ x, vs[i]? = some x ∧ Rep P w η X d x
  | [], vs, i, d, h, hi => by simp at hi
  | d :: ds, vs, i, d', h, hi => by
    simp only [RepL] at h
    obtain ⟨x, xs, rfl, h2, h3⟩ := h
    cases i with
    | zero => simp at hi; exact ⟨x, rfl, hi ▸ h2⟩
    | succ i => simpa using RepL.get i h3 (by simpa using hi)
theorem RepL.append : ∀ {l m : List D} {vs us : List Value}, RepL P w η X l vs → RepL P w η X m us → RepL P w η X (l ++ m) (vs ++ us)
  | [], m, vs, us, h, k => by simp only [RepL] at h; simpa [h] using k
  | d :: ds, m, vs, us, h, k => by
    simp only [RepL] at h
    obtain ⟨x, xs, rfl, h2, h3⟩ := h
    simp only [List.cons_append, RepL]
    exact ⟨x, xs ++ us, rfl, h2, RepL.append h3 k⟩
theorem RepL.drop : ∀ {l : List D} {vs : List Value} (i : Nat), RepL P w η X l vs → RepL P w η X (l.drop i) (vs.drop i)
  | [], vs, i, h => by simp only [RepL] at h; subst h; simp [RepL]
  | d :: ds, vs, 0, h => h
  | d :: ds, vs, i + 1, h => by
    simp only [RepL] at h
    obtain ⟨x, xs, rfl, h2, h3⟩ := h
    simpa using RepL.drop i h3
theorem RepL.take : ∀ {l : List D} {vs : List Value} (i : Nat), RepL P w η X l vs → RepL P w η X (l.take i) (vs.take i)
  | [], vs, i, h => by simp only [RepL] at h; subst h; simp [RepL]
  | d :: ds, vs, 0, h => by simp [RepL]
  | d :: ds, vs, i + 1, h => by
    simp only [RepL] at h
    obtain ⟨x, xs, rfl, h2, h3⟩ := h
    simp only [List.take_succ_cons, RepL]
    exact ⟨x, _, rfl, h2, RepL.take i h3⟩
theorem RepC.range : ∀ {l : List D} {b o : Nat}, RepC P w η X l b o → ∃ vs, vs.length = l.length ∧ w.rangeAt b o vs ∧ RepL P w η X l vs ∧ ∀ x ∈ vs, x.oneCell' = true
  | [], b, o, _ => ⟨[], rfl, fun j v h => by simp at h, by simp [RepL], fun x h => by cases h⟩
  | d :: ds, b, o, h => by
    simp only [RepC] at h
    obtain ⟨⟨h1, x, h2, h3, h4⟩, h5⟩ := h
    obtain ⟨vs, k1, k2, k3, k4⟩ := RepC.range h5
    refine ⟨x :: vs, by simp [k1], fun j v hj => ?_, by simp only [RepL]; exact ⟨x, vs, rfl, h4, k3⟩, fun u hu => ?_⟩
    · cases j with
      | zero => simp at hj; rw [Nat.add_zero, h2, hj]
      | succ j => have := k2 j v (by simpa using hj); rwa [show o + 1 + j = o + (j + 1) by omega] at this
    · rcases List.mem_cons.1 hu with rfl | hu
      · exact h3
      · exact k4 u hu
theorem RepC.drop : ∀ {l : List D} {b o : Nat} (i : Nat), RepC P w η X l b o → RepC P w η X (l.drop i) b (o + i)
  | [], b, o, i, _ => by simp [RepC]
  | d :: ds, b, o, 0, h => h
  | d :: ds, b, o, i + 1, h => by
    simp only [RepC] at h
    have := RepC.drop i h.2
    rw [show o + 1 + i = o + (i + 1) by omega] at this
    simpa using this
theorem RepC.take : ∀ {l : List D} {b o : Nat} (i : Nat), RepC P w η X l b o → RepC P w η X (l.take i) b o
  | [], b, o, i, _ => by simp [RepC]
  | d :: ds, b, o, 0, h => by simp [RepC]
  | d :: ds, b, o, i + 1, h => by
    simp only [RepC] at h
    simp only [List.take_succ_cons, RepC]
    exact ⟨h.1, RepC.take i h.2⟩
theorem RepC.mk : ∀ {l : List D} {vs : List Value} {b o : Nat}, RepL P w η X l vs → w.rangeAt b o vs → (∀ j, j < vs.length → X b (o + j)) → (∀ x ∈ vs, x.oneCell' = true) → RepC P w η X l b o
  | [], vs, b, o, _, _, _, _ => by simp [RepC]
  | d :: ds, vs, b, o, h, hr, hx, h1 => by
    simp only [RepL] at h
    obtain ⟨x, xs, rfl, h2, h3⟩ := h
    simp only [RepC]
    refine ⟨⟨by simpa using hx 0 (by simp), x, by simpa using hr 0 x rfl, h1 x (by simp), h2⟩, RepC.mk h3 (fun j v hj => ?_) (fun j hj => ?_) (fun y hy => h1 y (by simp [hy]))⟩
    · have := hr (j + 1) v (by simpa using hj); rwa [show o + 1 + j = o + (j + 1) by omega]
    · have := hx (j + 1) (by simp; omega); rwa [show o + 1 + j = o + (j + 1) by omega]
def RepEl (P : Program) (w : World) (η : Names) (X : Nat → Nat → Prop) (z : Nat) (d : D) (b o : Nat) : Prop := RepA P w η X z d b o ∧ (d.isAgg = false → z = 1 ∧ X b o ∧ ∃ x, w.cell? ⟨b, o, none⟩ = some x ∧ x.oneCell' = true ∧ Rep P w η X d x)
theorem RepEl.cells {z : Nat} {d : D} {b o : Nat} (h : RepEl P w η X z d b o) : d.width = z ∧ RepC P w η X d.cells b o := by
  obtain ⟨h1, h2⟩ := h
  cases hd : d.isAgg with
  | true =>
    cases d <;> simp [D.isAgg] at hd
    simp only [RepA] at h1
    exact ⟨h1.1, h1.2⟩
  | false =>
    obtain ⟨e1, e2, x, e3, e4, e5⟩ := h2 hd
    have hc : d.cells = [d] := by cases d <;> simp [D.isAgg] at hd <;> rfl
    refine ⟨by rw [D.width, hc, e1]; rfl, ?_⟩
    rw [hc]
    simp only [RepC]
    exact ⟨⟨e2, x, e3, e4, e5⟩, trivial⟩
theorem RepEl.mk {d : D} {b o : Nat} (h : RepC P w η X d.cells b o) : RepEl P w η X d.width d b o := by
  cases hd : d.isAgg with
  | true =>
    cases d <;> simp [D.isAgg] at hd
    exact ⟨by simp only [RepA]; exact ⟨rfl, h⟩, fun h' => by simp [D.isAgg] at h'⟩
  | false =>
    have hc : d.cells = [d] := by cases d <;> simp [D.isAgg] at hd <;> rfl
    have hw : d.width = 1 := by rw [D.width, hc]; rfl
    rw [hc] at h
    simp only [RepC] at h
    exact ⟨by cases d <;> simp [D.isAgg] at hd <;> simp only [RepA], fun _ => ⟨hw, h.1.1, h.1.2⟩⟩
theorem RepE.cons {z : Nat} {d : D} {l : List D} {b o : Nat} : RepE P w η X z (d :: l) b o ↔ RepEl P w η X z d b o ∧ RepE P w η X z l b (o + z) := by simp only [RepE, RepEl]
theorem RepE.get {z : Nat} : ∀ {l : List D} {b o : Nat} (i : Nat) {d : D}, RepE P w η X z l b o → l[i]? = some d → RepEl P w η X z d b (o + i * z)
  | [], b, o, i, d, h, hi => by simp at hi
  | d :: ds, b, o, 0, d', h, hi => by simp at hi; subst hi; simpa using (RepE.cons.1 h).1
  | d :: ds, b, o, i + 1, d', h, hi => by
    have := RepE.get i (RepE.cons.1 h).2 (by simpa using hi)
    rwa [show o + z + i * z = o + (i + 1) * z by rw [Nat.add_mul]; omega] at this
theorem RepE.mk {z : Nat} : ∀ {l : List D} {b o : Nat}, (∀ i d, l[i]? = some d → RepEl P w η X z d b (o + i * z)) → RepE P w η X z l b o
  | [], b, o, h => by simp [RepE]
  | d :: ds, b, o, h => RepE.cons.2 ⟨by simpa using h 0 d rfl, RepE.mk fun i d' hi => by
      have := h (i + 1) d' (by simpa using hi)
      rwa [show o + z + i * z = o + (i + 1) * z by rw [Nat.add_mul]; omega]⟩
end

mutual
theorem Rep.names {P : Program} {w : World} {η : Names} {X : Nat → Nat → Prop} : ∀ {d : D} {y : Value}, Rep P w η X d y → d.all (fun k => (η k).isSome = true)
  | .v x, y, _ => trivial
  | .agg cs, y, h => by
    simp only [Rep] at h
    obtain ⟨vs, h1, h2, h3⟩ := h
    simp only [D.all]
    exact RepL.names h2
  | .tup cs, y, h => by
    simp only [Rep] at h
    obtain ⟨vs, h1, h2⟩ := h
    simp only [D.all]
    exact RepL.names h2
  | .fn f fs cs, y, h => by
    simp only [Rep] at h
    obtain ⟨us, vs, h1, h2, h3⟩ := h
    simp only [D.all]
    exact ⟨RepL.names h2, RepL.names h3⟩
  | .ifc t d, y, h => by
    simp only [Rep] at h
    obtain ⟨x, h1, h2⟩ := h
    simp only [D.all]
    exact Rep.names h2
  | .loc k off, y, h => by
    simp only [Rep] at h
    obtain ⟨b, h1, h2⟩ := h
    simp only [D.all, h1, Option.isSome_some]
  | .rd cs off, y, h => by
    simp only [Rep] at h
    obtain ⟨b, o, h1, h3⟩ := h
    simp only [D.all]
    exact RepC.names h3
  | .sl own es, y, h => by
    simp only [Rep] at h
    obtain ⟨A, c, h1, h2, h3, h4, h5⟩ := h
    simp only [D.all]
    refine ⟨?_, ?_⟩
    · cases own with
      | no => trivial
      | full => trivial
      | row g =>
        simp only [Own.all]
        rcases h4 with ⟨h4, _⟩ | ⟨b, cur, e, h4, _⟩ <;> rw [h4] <;> rfl
    · rcases Nat.eq_zero_or_pos es.length with h0 | h0
      · have := List.eq_nil_of_length_eq_zero h0
        subst this
        simp only [allL]
      · obtain ⟨b, o, z, e1, e3, e4⟩ := h5 h0
        exact RepE.names e4
  | .win k off n c, y, h => by
    simp only [Rep] at h
    rcases h with ⟨b, h1, h2⟩ | ⟨h1, h2⟩ <;> simp only [D.all, h1, Option.isSome_some]
theorem RepL.names {P : Program} {w : World} {η : Names} {X : Nat → Nat → Prop} : ∀ {l : List D} {vs : List Value}, RepL P w η X l vs → allL (fun k => (η k).isSome = true) l
  | [], vs, _ => trivial
  | d :: ds, vs, h => by
    simp only [RepL] at h
    obtain ⟨x, xs, h1, h2, h3⟩ := h
    simp only [allL]
    exact ⟨Rep.names h2, RepL.names h3⟩
theorem RepC.names {P : Program} {w : World} {η : Names} {X : Nat → Nat → Prop} : ∀ {l : List D} {b o : Nat}, RepC P w η X l b o → allL (fun k => (η k).isSome = true) l
  | [], _, _, _ => trivial
  | d :: ds, b, o, h => by
    simp only [RepC] at h
    obtain ⟨⟨h1, x, h2, h3, h4⟩, h5⟩ := h
    simp only [allL]
    exact ⟨Rep.names h4, RepC.names h5⟩
theorem RepE.names {P : Program} {w : World} {η : Names} {X : Nat → Nat → Prop} {z : Nat} : ∀ {l : List D} {b o : Nat}, RepE P w η X z l b o → allL (fun k => (η k).isSome = true) l
  | [], _, _, _ => trivial
  | d :: ds, b, o, h => by
    simp only [RepE] at h
    obtain ⟨⟨h1, h2⟩, h5⟩ := h
    simp only [allL]
    refine ⟨?_, RepE.names h5⟩
    cases hd : d.isAgg with
    | true => exact RepA.names hd h1
    | false =>
      obtain ⟨e1, e2, x, e3, e4, e5⟩ := h2 hd
      exact Rep.names e5
theorem RepA.names {P : Program} {w : World} {η : Names} {X : Nat → Nat → Prop} {z : Nat} : ∀ {d : D} {b o : Nat}, d.isAgg = true → RepA P w η X z d b o → d.all (fun k => (η k).isSome = true)
  | .agg cs, b, o, _, h => by
    simp only [RepA] at h
    simp only [D.all]
    exact RepC.names h.2
  | .v _, _, _, h, _ => by cases h
  | .tup _, _, _, h, _ => by cases h
  | .fn _ _ _, _, _, h, _ => by cases h
  | .ifc _ _, _, _, h, _ => by cases h
  | .loc _ _, _, _, h, _ => by cases h
  | .rd _ _, _, _, h, _ => by cases h
  | .sl _ _, _, _, h, _ => by cases h
  | .win _ _ _ _, _, _, h, _ => by cases h
end

def globs : List (Nat × Value) := [(0, .iface 153 (.agg #[.pointer (some ⟨1, 66, none⟩)]))]
def globAt (g : Nat) : Option D := bif Nat.beq g 0 then some (.ifc 153 (.agg [.v (.pointer (some ⟨1, 66, none⟩))])) else none
def GlobOk (base : Nat) (w : World) : Prop := ∀ p ∈ globs, p.1 < base ∧ w.cell? ⟨p.1, 0, none⟩ = some p.2
theorem GlobOk.below {base : Nat} {w w' : World} (h : GlobOk base w) (hb : Below base w w') : GlobOk base w' := fun p hp => ⟨(h p hp).1, (hb.cell (p := ⟨p.1, 0, none⟩) (h p hp).1).trans (h p hp).2⟩
theorem glob_rep {P : Program} {w : World} {η : Names} {X : Nat → Nat → Prop} {base g : Nat} {d : D} (h : GlobOk base w) (hd : globAt g = some d) : ∃ v, w.cell? ⟨g, 0, none⟩ = some v ∧ Rep P w η X d v := by
  unfold globAt at hd
  cases hb : Nat.beq g 0 with
  | false => rw [hb] at hd; cases hd
  | true =>
    rw [hb] at hd
    injection hd with hd
    subst hd
    have e := Nat.eq_of_beq_eq_true hb
    subst e
    refine ⟨_, (h _ List.mem_cons_self).2, ?_⟩
    simp only [Rep, RepL]
    exact ⟨_, rfl, [_], rfl, ⟨_, _, rfl, rfl, rfl⟩, fun x hx => by rw [List.mem_singleton] at hx; subst hx; rfl⟩
structure Mem (P : Program) (base : Nat) (S : St) (η : Names) (w : World) : Prop where
  base_ : base ≤ w.heap.size
  dead : ∀ k, S.next ≤ k → η k = none
  fresh : ∀ k, S.next ≤ k → S.ob k = none
  live : ∀ k t cs, S.ob k = some (.box t cs) → ∃ b, η k = some (some b)
  inj : ∀ k k' b, η k = some (some b) → η k' = some (some b) → (S.ob k).isSome = true → (S.ob k').isSome = true → k = k'
  in_ : ∀ k b, η k = some (some b) → base ≤ b ∧ b < w.heap.size
  box : ∀ k t cs b, S.ob k = some (.box t cs) → η k = some (some b) → ∃ vs : List Value, w.heap[b]? = some (.cells vs.toArray t (0, 0)) ∧ RepL P w η (Fix P S η) cs vs ∧ ∀ x ∈ vs, x.oneCell' = true
  row : ∀ k e n b, S.ob k = some (.row e n) → η k = some (some b) → ∃ cur : Array Value, w.heap[b]? = some (.cells cur e (0, 0)) ∧ n * szOf P e ≤ cur.size
  glob : GlobOk base w
  mp : ∀ k b l, S.ob k = some (.mp b l) → η k = some (some b) ∧ ∃ (es : Array MapEntry) (c : Nat), w.heap[b]? = some (.map es c) ∧ es.toList.map (fun e => (e.key, e.val)) = l
end Go.Proofs.YtogbklnkpjjkoaaGreatDoor

namespace Go.Proofs.YtogbklnkpjjkoaaGreatDoor
open Go.RowKit

def pureRun {α : Type} (P : Program) : Sem α → Option α
  | .pure a => some a
  | .program k => pureRun P (k P)
  | .mark _ k => pureRun P k
  | _ => none
theorem pureRun_run {α : Type} {P : Program} {s : Sem α} {x : α} (w : World) (h : pureRun P s = some x) : s.run P w = .ok x w := by
  induction s with
  | pure a => simp [pureRun] at h; subst h; rfl
  | program k ih => simp only [pureRun] at h; simp only [Sem.run]; exact ih _ h
  | mark m k ih => simp only [pureRun] at h; simp only [Sem.run]; exact ih h
  | _ => simp [pureRun] at h

def ofV0 : Value → D
  | .slice none 0 0 => .sl .full []
  | x => .v x
def ofV : Value → D
  | .slice none 0 0 => .sl .full []
  | .agg xs => bif xs.toList.all Value.oneCell' then .agg (xs.toList.map ofV0) else .v (.agg xs)
  | x => .v x
abbrev Fm := Nat → D
def put (f : Fm) : Option Tmp → D → Fm
  | none, _ => f
  | some t, d => fun i => bif Nat.beq i t then d else f i
def ev (f : Fm) : Operand → D
  | .tmp t => f t
  | .const v => ofV v
  | .global g => .v (.pointer (some ⟨g, 0, none⟩))
  | .func g => .fn (.func g) [] []
def okT (P : Program) (t : TypeId) : Bool := (P.underlying t).isSome && (P.info? t).isSome
def aggT (P : Program) (t : TypeId) : Bool := match P.underlying t with
  | some (.struct _) | some (.array _ _) => true
  | _ => false
def fld (P : Program) (t : TypeId) (i : Nat) : Option (Nat × TypeId) := match P.underlying t with
  | some (.struct fs) => (fs[i]?).map fun f => (f.offset, f.type)
  | _ => none
def elT (P : Program) (t : TypeId) : Option TypeId := match P.underlying t with
  | some (.slice e) => some e
  | _ => none
def arT (P : Program) (t : TypeId) : Option (Nat × TypeId) := match P.underlying t with
  | some (.array n e) => some (n, e)
  | _ => none
def strT (P : Program) (t : TypeId) : Bool := match P.underlying t with
  | some .string => true
  | _ => false
def u8T (P : Program) (t : TypeId) : Bool := match P.underlying t with
  | some (.int .u8) => true
  | _ => false
def bD (b : UInt8) : D := .v (.int .u8 b.toNat)
def bOf : D → UInt8
  | .v (.int .u8 n) => n.toNat.toUInt8
  | _ => 0
def bytesD (es : List D) : List UInt8 := es.map bOf
def ptrT (P : Program) (t : TypeId) : Bool := match P.underlying t with
  | some (.pointer _) => true
  | _ => false
def ifaceT (P : Program) (t : TypeId) : Bool := match P.underlying t with
  | some (.interface _) => true
  | _ => false
def rdOk (P : Program) (t : TypeId) (cs : List D) (off : Nat) : Prop := okT P t = true ∧ (bif aggT P t then off + szOf P t ≤ cs.length else off < cs.length)
def rdVal (P : Program) (t : TypeId) (cs : List D) (off : Nat) : D := bif aggT P t then .agg ((cs.drop off).take (szOf P t)) else cs.getD off undefD

def bnd (f : Fm) (o : Option Operand) (d : Int) : Option Int := match o with
  | none => some d
  | some x => match ev f x with
    | .v (.int _ i) => some i
    | _ => none
def Own.tail : Own → Own
  | .full => .full
  | _ => .no
def slOwn (own : Own) (hi : Option Operand) : Own := match hi with
  | none => own.tail
  | some _ => .no
def winOff (c l off z : Nat) : Nat := bif Nat.beq c l then off else off + l * z
theorem winOff_zero (c off z : Nat) : winOff c 0 off z = off := by unfold winOff; cases Nat.beq c 0 <;> simp
theorem winOff_lt {c l off z : Nat} (h : l < c) : winOff c l off z = off + l * z := by
  unfold winOff
  cases hb : Nat.beq c l with
  | false => rfl
  | true => have := Nat.eq_of_beq_eq_true hb; omega
def vals : List D → Option (List Value)
  | [] => some []
  | .v x :: l => (vals l).map (x :: ·)
  | _ => none
def isConstB : Operand → Bool
  | .const _ => true
  | _ => false
def cellEq : Value → Value → Bool
  | .string a, .string b => a.toList == b.toList
  | .int _ a, .int _ b => a == b
  | .bool a, .bool b => a == b
  | _, _ => false
def valsEq : List Value → List Value → Bool
  | [], [] => true
  | a :: l, b :: m => cellEq a b && valsEq l m
  | _, _ => false
def EqOk (P : Program) (op : BinOp) (t : TypeId) (x y : Operand) (us vs : List Value) (r : Bool) : Prop := ∀ w, (do eqGuard op t x y (.agg us.toArray) (.agg vs.toArray); binOp op t (.agg us.toArray) (.agg vs.toArray) : Sem Value).run P w = .ok (.bool r) w
def dbinA (P : Program) (op : BinOp) (t : TypeId) (x y : Operand) : Option (List Value) → Option (List Value) → Option (Prop × D)
  | some us, some vs => match op with
    | .eql => some (EqOk P .eql t x y us vs (valsEq us vs), .v (.bool (valsEq us vs)))
    | .neq => some (EqOk P .neq t x y us vs (!valsEq us vs), .v (.bool (!valsEq us vs)))
    | _ => none
  | _, _ => none
def ifcB (t1 : TypeId) (a : D) (t2 : TypeId) (b : D) : Bool := t1 == t2 && (match a, b with | .v p, .v q => valsEq [p] [q] | _, _ => false)
def IfcEq (P : Program) (t : TypeId) (x y : Operand) (t1 : TypeId) (a : D) (t2 : TypeId) (b : D) : Prop :=
  ∀ w η X u v, Rep P w η X a u → Rep P w η X b v → (do eqGuard .eql t x y (.iface t1 u) (.iface t2 v); binOp .eql t (.iface t1 u) (.iface t2 v) : Sem Value).run P w = .ok (.bool (ifcB t1 a t2 b)) w
def isNilC : Operand → Bool
  | .const (.slice none 0 0) => true
  | _ => false
theorem isNilC_spec {y : Operand} (h : isNilC y = true) : y = .const (.slice none 0 0) := by
  unfold isNilC at h
  split at h
  · rfl
  · cases h
def nilCmp (P : Program) (op : BinOp) (t : TypeId) (c : Prop) : Option (Prop × D) := match op with
  | .eql => some ((elT P t).isSome = true ∧ c, .v (.bool false))
  | .neq => some ((elT P t).isSome = true ∧ c, .v (.bool true))
  | _ => none
def dbin (P : Program) (op : BinOp) (t : TypeId) (x y : Operand) (a b : D) : Option (Prop × D) := match a, b with
  | .agg cs, .agg ds => dbinA P op t x y (vals cs) (vals ds)
  | .v a, .v b => (pureRun P (do eqGuard op t x y a b; binOp op t a b)).map fun r => (True, .v r)
  | .ifc _ _, .v .nilIface | .v .nilIface, .ifc _ _ => match op with
    | .eql => some (ifaceT P t = true, .v (.bool false))
    | .neq => some (ifaceT P t = true, .v (.bool true))
    | _ => none
  | .loc _ _, .v (.pointer none) => match op with
    | .eql => some (ptrT P t = true, .v (.bool false))
    | .neq => some (ptrT P t = true, .v (.bool true))
    | _ => none
  | .rd _ _, .v (.pointer none) => match op with
    | .eql => some (ptrT P t = true, .v (.bool false))
    | .neq => some (ptrT P t = true, .v (.bool true))
    | _ => none
  | .ifc t1 a, .ifc t2 b => match op with
    | .eql => some (IfcEq P t x y t1 a t2 b, .v (.bool (ifcB t1 a t2 b)))
    | _ => none
  | .v u, .sl .full [] => bif isNilC y then (pureRun P (do eqGuard op t x y u (.slice none 0 0); binOp op t u (.slice none 0 0))).map fun r => (True, .v r) else none
  | .sl _ es, .sl .full [] => bif isNilC y then nilCmp P op t (0 < es.length) else none
  | .win _ _ n _, .sl .full [] => bif isNilC y then nilCmp P op t (0 < n) else none
  | _, _ => none
def dlen (P : Program) (b : Builtin) (ts : Array TypeId) (a : List D) : Option (Prop × D) := match b, a with
  | .len, [.sl _ es] => some ((ts[0]?.bind (elT P)).isSome = true, .v (.int .i64 es.length))
  | .len, [.win _ _ n _] => some ((ts[0]?.bind (elT P)).isSome = true, .v (.int .i64 n))
  | .cap, [.sl .full es] => some ((ts[0]?.bind (elT P)).isSome = true, .v (.int .i64 es.length))
  | .cap, [.win _ _ _ c] => some ((ts[0]?.bind (elT P)).isSome = true, .v (.int .i64 c))
  | _, _ => none
def dbuiltin (P : Program) (b : Builtin) (ts : Array TypeId) (ty : TypeId) (cs : Array Bool) (a : List D) : Option (Prop × D) := match vals a with
  | some vs => match pureRun P (builtin b ts ty cs vs.toArray) with
    | some (.value r) => some (True, .v r)
    | _ => dlen P b ts a
  | none => dlen P b ts a

def dval (P : Program) (f : Fm) (S : St) (ty : TypeId) : Op → Option (Prop × D)
  | .move x | .assign x => some (True, ev f x)
  | .pick c a b => match ev f c with
    | .v (.bool t) => some (True, bif t then ev f a else ev f b)
    | _ => none
  | .load t a => match ev f a with
    | .loc k off => match S.ob k with
      | some (.box _ cs) => some (rdOk P t cs off, rdVal P t cs off)
      | _ => none
    | .rd cs off => some (rdOk P t cs off, rdVal P t cs off)
    | .v (.pointer (some a)) => match globAt a.block with
      | some d => some (a = ⟨a.block, 0, none⟩ ∧ okT P t = true ∧ aggT P t = false, d)
      | none => none
    | _ => none
  | .fieldAddr t x i => match fld P t i with
    | some (fo, ft) => match ev f x with
      | .loc k off => some (okT P ft = true ∧ szOf P ft ≠ 0, .loc k (off + fo))
      | .rd cs off => some (okT P ft = true ∧ szOf P ft ≠ 0, .rd cs (off + fo))
      | _ => none
    | none => none
  | .field t x i => match fld P t i with
    | some (fo, ft) => match ev f x with
      | .agg cs => some (rdOk P ft cs fo, rdVal P ft cs fo)
      | _ => none
    | none => none
  | .indexAddr t x ix => match ev f ix with
    | .v (.int _ i) => match ev f x with
      | .sl _ es => match elT P t with
        | some e => some (okT P e = true ∧ 0 ≤ i ∧ i < es.length ∧ (es.getD i.toNat undefD).width = szOf P e, .rd (es.getD i.toNat undefD).cells 0)
        | none => none
      | .win k off n _ => match elT P t with
        | some e => some (okT P e = true ∧ 0 ≤ i ∧ i < n, .loc k (off + i.toNat * szOf P e))
        | none => none
      | .loc k off => match arT P t with
        | some (n, e) => some (okT P e = true ∧ 0 ≤ i ∧ i < n, .loc k (off + i.toNat * szOf P e))
        | none => none
      | .rd cs off => match arT P t with
        | some (n, e) => some (okT P e = true ∧ 0 ≤ i ∧ i < n, .rd cs (off + i.toNat * szOf P e))
        | none => none
      | _ => none
    | _ => none
  | .index t x ix => match ev f ix with
    | .v (.int _ i) => match ev f x with
      | .agg cs => match arT P t with
        | some (n, e) => some (0 ≤ i ∧ i < n ∧ rdOk P e cs (i.toNat * szOf P e), rdVal P e cs (i.toNat * szOf P e))
        | none => none
      | .v (.string s) => some (strT P t = true ∧ 0 ≤ i ∧ i < s.size, .v (.int .u8 (s.data.toList.getD i.toNat 0).toNat))
      | _ => none
    | _ => none
  | .extract x i => match ev f x with
    | .tup ds => some (i < ds.length, ds.getD i undefD)
    | _ => none
  | .makeFunc fn fs cs => some (True, .fn fn (fs.toList.map (ev f)) (cs.toList.map (ev f)))
  | .makeInterface t x => some ((P.underlying t).isSome = true ∧ ifaceT P t = false, .ifc t (ev f x))
  | .nilCheck x => match ev f x with
    | .loc k off => some (True, .loc k off)
    | .rd cs off => some (True, .rd cs off)
    | .fn (.func g) fs cs => some (True, .fn (.func g) fs cs)
    | _ => none
  | .slice t x lo hi none => match ev f x with
    | .sl own es => match elT P t with
      | some e => match bnd f lo 0 with
        | some l => match bnd f hi es.length with
          | some h => some (okT P e = true ∧ 0 ≤ l ∧ l ≤ h ∧ h ≤ es.length ∧ (l = 0 ∨ ∀ d ∈ es, d.width = szOf P e), .sl (slOwn own hi) ((es.take h.toNat).drop l.toNat))
          | none => none
        | none => none
      | none => none
    | .win k off n c => match elT P t with
      | some e => match bnd f lo 0 with
        | some l => match bnd f hi n with
          | some h => some (okT P e = true ∧ 0 ≤ l ∧ l ≤ h ∧ h ≤ c ∧ h ≤ 140737488355328, .win k (winOff c l.toNat off (szOf P e)) (h.toNat - l.toNat) (c - l.toNat))
          | none => none
        | none => none
      | none => none
    | .v (.string s) => match bnd f lo 0 with
      | some l => match bnd f hi s.size with
        | some h => some (strT P t = true ∧ 0 ≤ l ∧ l ≤ h ∧ h ≤ s.size, .v (.string (s.extract l.toNat h.toNat)))
        | none => none
      | none => none
    | .loc k off => match arT P t with
      | some (n, e) => some (okT P e = true ∧ n ≤ 140737488355328 ∧ lo = none ∧ hi = none, .win k off n n)
      | none => none
    | _ => none
  | .slice t x lo hi (some mx) => match ev f x with
    | .sl _ es => match elT P t with
      | some e => match bnd f lo 0 with
        | some l => match bnd f hi es.length with
          | some h => match bnd f (some mx) 0 with
            | some m => some (okT P e = true ∧ 0 ≤ l ∧ l ≤ h ∧ h = m ∧ h ≤ es.length ∧ hi.isSome = true ∧ (l = 0 ∨ ∀ d ∈ es, d.width = szOf P e), .sl .full ((es.take h.toNat).drop l.toNat))
            | none => none
          | none => none
        | none => none
      | none => none
    | .win k off n c => match elT P t with
      | some e => match bnd f lo 0 with
        | some l => match bnd f hi n with
          | some h => match bnd f (some mx) 0 with
            | some m => some (okT P e = true ∧ 0 ≤ l ∧ l ≤ h ∧ h ≤ m ∧ m ≤ c ∧ h ≤ 140737488355328 ∧ hi.isSome = true, .win k (winOff m.toNat l.toNat off (szOf P e)) (h.toNat - l.toNat) (m.toNat - l.toNat))
            | none => none
          | none => none
        | none => none
      | none => none
    | _ => none
  | .binOp op t x y _ => dbin P op t x y (ev f x) (ev f y)
  | .unOp op _ x => match ev f x with
    | .v a => (pureRun P (Op.unary op a)).map fun r => (True, .v r)
    | _ => none
  | .convert s d x => match ev f x with
    | .v a => (pureRun P (convert s d a)).map fun r => (True, .v r)
    | .sl _ es => match elT P s with
      | some e => some (u8T P e = true ∧ strT P d = true ∧ es = (bytesD es).map bD, .v (.string ⟨(bytesD es).toArray⟩))
      | none => none
    | _ => none
  | .call c => match c.callee with
    | .builtin b => dbuiltin P b c.argTypes ty (c.args.map isConstB) (c.args.toList.map (ev f))
    | _ => none
  | _ => none

/-! ### That the machine yields it -/
section
variable {P : Program} {w : World} {η : Names} {X : Nat → Nat → Prop} {f : Fm} {a : Act} {S : St} {base : Nat}
theorem Rep.ofV0 (x : Value) : Rep P w η X (ofV0 x) x := by
  unfold Go.Proofs.YtogbklnkpjjkoaaGreatDoor.ofV0
  split
  · simp only [Rep]
    exact ⟨none, 0, rfl, Nat.le_refl _, by simp, rfl, fun h => absurd h (by simp)⟩
  · simp only [Rep]
theorem RepL.ofV0 : ∀ l : List Value, RepL P w η X (l.map Go.Proofs.YtogbklnkpjjkoaaGreatDoor.ofV0) l
  | [] => by simp only [List.map_nil, RepL]
  | x :: l => by simp only [List.map_cons, RepL]; exact ⟨x, l, rfl, Rep.ofV0 x, RepL.ofV0 l⟩
theorem Rep.ofV (x : Value) : Rep P w η X (ofV x) x := by
  unfold Go.Proofs.YtogbklnkpjjkoaaGreatDoor.ofV
  split
  · simp only [Rep]
    exact ⟨none, 0, rfl, Nat.le_refl _, by simp, rfl, fun h => absurd h (by simp)⟩
  · rename_i xs
    by_cases hx : xs.toList.all Value.oneCell' = true
    · rw [hx, cond_true]
      simp only [Rep]
      exact ⟨xs.toList, rfl, RepL.ofV0 _, fun y hy => List.all_eq_true.1 hx y hy⟩
    · rw [Bool.not_eq_true] at hx
      rw [hx, cond_false]
      simp only [Rep]
  · simp only [Rep]
def RepF (P : Program) (w : World) (η : Names) (X : Nat → Nat → Prop) (f : Fm) (a : Act) : Prop := ∀ t, t < a.tmps.size → Rep P w η X (f t) (a.tmps.getD t undef)
def opnOk (n : Nat) : Operand → Bool
  | .tmp t => Nat.blt t n
  | _ => true
theorem RepF.ev (h : RepF P w η X f a) {x : Operand} (hx : opnOk a.tmps.size x = true) : Rep P w η X (ev f x) (a.eval x) := by
  cases x with
  | tmp t => exact h t (by simpa [opnOk, Nat.blt_eq] using hx)
  | const v => exact Rep.ofV v
  | global g => simp only [Proofs.YtogbklnkpjjkoaaGreatDoor.ev, Rep]; rfl
  | func g => simp only [Proofs.YtogbklnkpjjkoaaGreatDoor.ev, Rep, RepL]; exact ⟨[], [], rfl, rfl, rfl⟩
theorem RepF.put (h : RepF P w η X f a) {d : D} {v : Value} (hd : Rep P w η X d v) (o : Option Tmp) : RepF P w η X (put f o d) (a.put o v) := by
  cases o with
  | none => exact h
  | some t =>
    intro i hi
    have hi' : i < a.tmps.size := by simpa [Act.put] using hi
    simp only [Proofs.YtogbklnkpjjkoaaGreatDoor.put, Act.put]
    by_cases e : i = t
    · subst e
      simpa [Nat.beq_eq_true_eq, hi'] using hd
    · have hb : Nat.beq i t = false := by
        cases h : Nat.beq i t with
        | false => rfl
        | true => exact absurd (Nat.eq_of_beq_eq_true h) e
      have := h i hi'
      simpa [hb, Array.getElem?_setIfInBounds_ne (Ne.symm e)] using this
theorem okT_spec {t : TypeId} (h : okT P t = true) : ∃ d i, P.underlying t = some d ∧ P.info? t = some i ∧ szOf P t = i.size := by
  simp only [okT, Bool.and_eq_true, Option.isSome_iff_exists] at h
  obtain ⟨⟨d, hd⟩, i, hi⟩ := h
  exact ⟨d, i, hd, hi, by simp [szOf, hi]⟩
theorem aggT_spec {t : TypeId} {d : TypeDesc} (h : P.underlying t = some d) : aggT P t = d.isRow := by
  unfold aggT
  rw [h]
  cases d <;> rfl
theorem run_load_cells {t : TypeId} {cs : List D} {b o off : Nat} (hok : rdOk P t cs off) (h : RepC P w η X cs b o) :
    ∃ v, (Instr.loadAt t (.pointer (some ⟨b, o + off, none⟩))).run P w = .ok v w ∧ Rep P w η X (rdVal P t cs off) v := by
  obtain ⟨h1, h2⟩ := hok
  obtain ⟨d, i, hu, hi, hsz⟩ := okT_spec h1
  cases hg : aggT P t with
  | true =>
    simp only [hg, cond_true] at h2
    obtain ⟨vs, k1, k2, k3, k4⟩ := ((h.drop off).take (szOf P t)).range
    have hl : vs.length = szOf P t := by rw [k1, List.length_take, List.length_drop]; omega
    refine ⟨.agg vs.toArray, run_loadAt_mid w b (o + off) t vs d k2 hu (by rw [← aggT_spec hu, hg]) (by rw [hi]; simp [hl, hsz]), ?_⟩
    simp only [rdVal, hg, cond_true, Rep]
    exact ⟨vs, rfl, k3, k4⟩
  | false =>
    simp only [hg, cond_false] at h2
    have hdr := h.drop off
    rw [List.drop_eq_getElem_cons h2] at hdr
    simp only [RepC] at hdr
    obtain ⟨⟨_, x, hx, _, hr⟩, _⟩ := hdr
    refine ⟨x, ?_, ?_⟩
    · have hn := aggT_spec hu
      rw [hg] at hn
      have hagg : (isAgg t).run P w = .ok false w := by
        unfold isAgg
        rw [Sem.run_bind, run_underlying hu w]
        cases d <;> simp_all
      simp [Instr.loadAt, Instr.sureAddr, loadVar, Sem.run_bind, hagg, load, Sem.run, hx]
    · simp only [rdVal, hg, cond_false]
      rw [List.getD_eq_getElem?_getD, List.getElem?_eq_getElem h2]
      exact hr
theorem run_part_cells {t : TypeId} {cs : List D} {vs : List Value} {off : Nat} (hok : rdOk P t cs off) (h : RepL P w η X cs vs) (h1 : ∀ x ∈ vs, x.oneCell' = true) :
    ∃ v, (part t vs.toArray off).run P w = .ok v w ∧ Rep P w η X (rdVal P t cs off) v := by
  obtain ⟨h1', h2⟩ := hok
  obtain ⟨d, i, hu, hi, hsz⟩ := okT_spec h1'
  have hl := h.length
  have hn := aggT_spec hu
  have hagg : (isAgg t).run P w = .ok (aggT P t) w := by
    unfold isAgg
    rw [Sem.run_bind, run_underlying hu w]
    rw [hn]
    cases d <;> rfl
  cases hg : aggT P t with
  | true =>
    simp only [hg, cond_true] at h2
    refine ⟨.agg ((vs.drop off).take (szOf P t)).toArray, ?_, ?_⟩
    · rw [hg] at hagg
      simp [part, Sem.run_bind, hagg, sizeOf, typeInfo, hi, hsz]
    · simp only [rdVal, hg, cond_true, Rep]
      exact ⟨_, rfl, (h.drop off).take _, fun x hx => h1 x (List.mem_of_mem_drop (List.mem_of_mem_take hx))⟩
  | false =>
    simp only [hg, cond_false] at h2
    obtain ⟨x, hx, hr⟩ := h.get off (List.getElem?_eq_getElem h2)
    refine ⟨x, ?_, ?_⟩
    · rw [hg] at hagg
      have hlt : off < vs.length := by omega
      rw [List.getElem?_eq_getElem hlt] at hx
      simp [part, Sem.run_bind, hagg, hx, List.getElem?_eq_getElem hlt]
    · simp only [rdVal, hg, cond_false]
      rw [List.getD_eq_getElem?_getD, List.getElem?_eq_getElem h2]
      exact hr
theorem vals_rep : ∀ {l : List D} {vs us : List Value}, vals l = some vs → RepL P w η X l us → us = vs
  | [], vs, us, h, k => by simp only [RepL] at k; simp [vals] at h; rw [k, h]
  | d :: l, vs, us, h, k => by
    simp only [RepL] at k
    obtain ⟨x, xs, rfl, k1, k2⟩ := k
    cases d <;> simp only [vals] at h <;> try (cases h; done)
    rename_i y
    simp only [Rep] at k1
    subst k1
    cases hv : vals l with
    | none => rw [hv] at h; cases h
    | some ws =>
      rw [hv] at h
      simp at h
      rw [vals_rep hv k2, h]
theorem repL_map (h : RepF P w η X f a) : ∀ {l : List Operand}, (∀ x ∈ l, opnOk a.tmps.size x = true) → RepL P w η X (l.map (ev f)) (l.map a.eval)
  | [], _ => by simp [RepL]
  | x :: l, hx => by
    simp only [List.map_cons, RepL]
    exact ⟨_, _, rfl, h.ev (hx x (by simp)), repL_map h fun y hy => hx y (by simp [hy])⟩

theorem elT_spec {t e : TypeId} (h : elT P t = some e) : P.underlying t = some (.slice e) := by
  unfold elT at h
  split at h
  · injection h with h; subst h; assumption
  · cases h
theorem arT_spec {t e : TypeId} {n : Nat} (h : arT P t = some (n, e)) : P.underlying t = some (.array n e) := by
  unfold arT at h
  split at h
  · injection h with h; injection h with h1 h2; subst h1 h2; assumption
  · cases h
theorem u8T_spec {t : TypeId} (h : u8T P t = true) : P.underlying t = some (.int .u8) := by
  unfold u8T at h
  split at h
  · assumption
  · cases h
theorem RepE.bytes {z : Nat} {l : List UInt8} {b o : Nat} (h : RepE P w η X z (l.map bD) b o) {j : Nat} {u : UInt8} (hj : l[j]? = some u) : w.cell? ⟨b, o + j, none⟩ = some (bv u) := by
  have h0 := RepE.get j (d := bD u) h (by rw [List.getElem?_map, hj]; rfl)
  obtain ⟨hz, _, x, h1, _, h2⟩ := h0.2 rfl
  subst hz
  rw [Nat.mul_one] at h1
  rw [h1]
  simp only [bD, Rep] at h2
  rw [h2]
theorem strT_spec {t : TypeId} (h : strT P t = true) : P.underlying t = some .string := by
  unfold strT at h
  split at h
  · assumption
  · cases h
theorem fld_spec {t ft : TypeId} {i fo : Nat} (h : fld P t i = some (fo, ft)) : ∃ fs fd, P.underlying t = some (.struct fs) ∧ fs[i]? = some fd ∧ fd.offset = fo ∧ fd.type = ft := by
  unfold fld at h
  split at h
  · rename_i fs hfs
    cases hx : fs[i]? with
    | none => rw [hx] at h; cases h
    | some fd =>
      rw [hx] at h
      simp at h
      exact ⟨fs, fd, hfs, hx, h.1, h.2⟩
  · cases h
theorem run_fieldAt {t ft : TypeId} {i fo b o : Nat} (h : fld P t i = some (fo, ft)) (hok : okT P ft = true ∧ szOf P ft ≠ 0) : (Instr.fieldAt t (.pointer (some ⟨b, o, none⟩)) i).run P w = .ok (.pointer (some ⟨b, o + fo, none⟩)) w := by
  obtain ⟨fs, fd, h1, h2, h3, h4⟩ := fld_spec h
  obtain ⟨h5, h6⟩ := hok
  obtain ⟨d, ti, h7, h8, h9⟩ := okT_spec h5
  subst h4
  rw [h9] at h6
  simp [Instr.fieldAt, Sem.run_bind, run_underlying h1, h2, Instr.sureAddr, fieldPlace, sizeOf, typeInfo, h8, h6, Addr.add_lit, h3]
theorem run_indexAt_slice {t e : TypeId} {k : IntKind} {i : Int} {b o n c : Nat} (h : elT P t = some e) (he : okT P e = true) (h0 : 0 ≤ i) (h1 : i < n) : (Instr.indexAt t (.slice (some ⟨b, o, none⟩) n c) (.int k i)).run P w = .ok (.pointer (some ⟨b, o + i.toNat * szOf P e, none⟩)) w := by
  have hu := elT_spec h
  obtain ⟨d, ti, h7, h8, h9⟩ := okT_spec he
  simp [Instr.indexAt, Sem.run_bind, asIntOf, run_underlying hu, h0, h1, sizeOf, typeInfo, h8, h9, Addr.add_lit]
theorem run_indexAt_array {t e : TypeId} {k : IntKind} {i : Int} {b o n : Nat} (h : arT P t = some (n, e)) (he : okT P e = true) (h0 : 0 ≤ i) (h1 : i < n) : (Instr.indexAt t (.pointer (some ⟨b, o, none⟩)) (.int k i)).run P w = .ok (.pointer (some ⟨b, o + i.toNat * szOf P e, none⟩)) w := by
  have hu := arT_spec h
  obtain ⟨d, ti, h7, h8, h9⟩ := okT_spec he
  simp [Instr.indexAt, Instr.sureAddr, Sem.run_bind, asIntOf, run_underlying hu, h0, h1, sizeOf, typeInfo, h8, h9, Addr.add_lit]
theorem bnd_spec (h : RepF P w η X f a) {o : Option Operand} (ho : ∀ x, o = some x → opnOk a.tmps.size x = true) {d i : Int} (hb : bnd f o d = some i) : (o = none ∧ i = d) ∨ ∃ k, o.map a.eval = some (.int k i) := by
  cases o with
  | none => left; simp [bnd] at hb; exact ⟨rfl, hb.symm⟩
  | some x =>
    right
    have := h.ev (ho x rfl)
    unfold bnd at hb
    simp only at hb
    split at hb
    · rename_i k j hx
      rw [hx] at this
      simp only [Rep] at this
      injection hb with hb
      exact ⟨k, by simp [this, hb]⟩
    · cases hb
theorem run_bounds (h : RepF P w η X f a) {lo hi : Option Operand} (hlo : ∀ x, lo = some x → opnOk a.tmps.size x = true) (hhi : ∀ x, hi = some x → opnOk a.tmps.size x = true) (isS : Bool) {len cap : Nat} {l m : Int} (hl : bnd f lo 0 = some l) (hm : bnd f hi len = some m)
    (h0 : 0 ≤ l) (h1 : l ≤ m) (h2 : m ≤ cap) : (Instr.sliceBounds isS len cap (lo.map a.eval) (hi.map a.eval) none).run P w = .ok (l.toNat, m.toNat, cap) w := by
  rcases bnd_spec h hlo hl with ⟨rfl, rfl⟩ | ⟨k, e1⟩ <;> rcases bnd_spec h hhi hm with ⟨rfl, rfl⟩ | ⟨k', e2⟩
  · simp [Instr.sliceBounds]
  · have : m ≤ (cap : Int) := by omega
    simp [Instr.sliceBounds, e2, Instr.sliceBound, asIntOf, h1, this]
  · have : l ≤ (len : Int) := by omega
    simp [Instr.sliceBounds, e1, Instr.sliceBound, asIntOf, h0, this]
  · have h4 : m ≤ (cap : Int) := by omega
    have h5 : 0 ≤ m := by omega
    have h6 : l ≤ max m 0 := by omega
    simp [Instr.sliceBounds, e1, e2, Instr.sliceBound, asIntOf, h0, h4, h5, h6]
theorem Rep.win_slice {k off n c : Nat} {y : Value} (h : Rep P w η X (.win k off n c) y) : ∃ A, y = .slice A n c ∧ n ≤ c ∧ n ≤ 140737488355328 ∧ ((∃ b, η k = some (some b) ∧ A = some ⟨b, off, none⟩) ∨ (η k = some none ∧ n = 0 ∧ c = 0)) := by
  simp only [Rep] at h
  rcases h with ⟨b, h1, h2, h3, h4⟩ | ⟨h1, rfl, rfl, A, h4⟩
  · exact ⟨_, h2, h3, h4, .inl ⟨b, h1, rfl⟩⟩
  · exact ⟨_, h4, Nat.le_refl _, by omega, .inr ⟨h1, rfl, rfl⟩⟩
theorem rep_win_part {kk off n c l h m z : Nat} {A : Option Addr} (e0 : (∃ b, η kk = some (some b) ∧ A = some ⟨b, off, none⟩) ∨ (η kk = some none ∧ n = 0 ∧ c = 0)) (hm : m ≤ c) (hlm : l ≤ m) (h1 : h - l ≤ m - l) (h2 : h ≤ 140737488355328) : Rep P w η X (.win kk (winOff m l off z) (h - l) (m - l)) (.slice (if m = l then A else A.map (·.add (l * z))) (h - l) (m - l)) := by
  simp only [Rep, winOff]
  rcases e0 with ⟨b, e0, rfl⟩ | ⟨e0, rfl, rfl⟩
  · refine .inl ⟨b, e0, ?_, h1, by omega⟩
    by_cases e : m = l
    · subst e
      simp
    · have : Nat.beq m l = false := by
        cases hb : Nat.beq m l with
        | false => rfl
        | true => exact absurd (Nat.eq_of_beq_eq_true hb) e
      rw [if_neg e, this]
      simp [Addr.add_lit]
  · have e1 : m = 0 := by omega
    have e2 : l = 0 := by omega
    subst e1 e2
    exact .inr ⟨e0, by omega, rfl, A, by rw [if_pos rfl]; congr 1; omega⟩
theorem Rep.part {A : Option Addr} {n c l h : Nat} {es : List D} {z : Nat} {own : Own} (hz : es.length = n) (h1 : l ≤ h) (h2 : h ≤ n) (hc : n ≤ c) (hb : n ≤ 140737488355328) (hw : l = 0 ∨ ∀ d ∈ es, d.width = z)
    (hE : 0 < n → ∃ b o z, A = some ⟨b, o, none⟩ ∧ 0 < z ∧ RepE P w η X z es b o) {m : Nat} (hm : h ≤ m) (hown : OwnAt P w η (if m = l then A else A.map (·.add (l * z))) (h - l) (m - l) own) :
    Rep P w η X (.sl own ((es.take h).drop l)) (.slice (if m = l then A else A.map (·.add (l * z))) (h - l) (m - l)) := by
  have hlen : ((es.take h).drop l).length = h - l := by rw [List.length_drop, List.length_take]; omega
  simp only [Rep]
  refine ⟨_, m - l, by rw [hlen], by omega, by omega, by rw [hlen]; exact hown, fun h0 => ?_⟩
  rw [hlen] at h0
  obtain ⟨b, o, z', hA, h0z, hr⟩ := hE (by omega)
  rw [if_neg (by omega), hA]
  have hzz : l = 0 ∨ z' = z := by
    rcases hw with hw | hw
    · exact .inl hw
    · right
      cases es with
      | nil =>
        exfalso
        have hz0 : (0 : Nat) = n := hz
        clear hr hE hA hw hown hlen
        omega
      | cons d es =>
        have := (RepE.cons.1 hr).1.cells.1
        rw [← this]
        exact hw d (by simp)
  refine ⟨b, o + l * z, z', by simp [Addr.add_lit], h0z, RepE.mk fun i d hi => ?_⟩
  have hi' : es[l + i]? = some d := by
    rw [List.getElem?_drop, List.getElem?_take] at hi
    split at hi
    · exact hi
    · cases hi
  have := RepE.get (l + i) hr hi'
  rcases hzz with rfl | rfl
  · simpa using this
  · rwa [show o + l * z' + i * z' = o + (l + i) * z' by rw [Nat.add_mul]; omega]
theorem run_slice_part {t e : TypeId} {A : Option Addr} {n c l h m : Nat} {lo hi mx : Option Value} (ht : elT P t = some e) (he : okT P e = true) (hb : (Instr.sliceBounds true n c lo hi mx).run P w = .ok (l, h, m) w) :
    (Instr.sliceAt t (.slice A n c) lo hi mx).run P w = .ok (.slice (if m = l then A else A.map (·.add (l * szOf P e))) (h - l) (m - l)) w := by
  have hu := elT_spec ht
  obtain ⟨d, ti, h7, h8, h9⟩ := okT_spec he
  simp [Instr.sliceAt, Instr.slice, Sem.run_bind, run_underlying hu, hb, sizeOf, typeInfo, h8, h9]

def opsOk (n : Nat) (op : Op) : Bool := op.operands.all (opnOk n)
theorem opsOk_spec {n : Nat} {op : Op} (h : opsOk n op = true) : ∀ x ∈ op.operands, opnOk n x = true := Array.all_eq_true_iff_forall_mem.1 h
theorem map_some_eq {α β : Type} {o : Option α} {g : α → β} {y : β} (h : o.map g = some y) : ∃ x, o = some x ∧ g x = y := by
  cases o with
  | none => cases h
  | some x => injection h with h; exact ⟨x, rfl, h⟩
theorem dval_index (hf : RepF P w η X f a) {o : Oper} (hop : ∀ x ∈ o.op.operands, opnOk a.tmps.size x = true) (t : TypeId) (x ix : Operand) (ho : o.op = .indexAddr t x ix) {c : Prop} {d : D} (h : dval P f S o.type o.op = some (c, d)) (hc : c) :
    ∃ v, (execOp a.eval o).run P w = .ok (.value v) w ∧ Rep P w η X d v := by
  rw [ho] at h hop
  have h1 := hf.ev (hop x (by simp [Op.operands]))
  have h2 := hf.ev (hop ix (by simp [Op.operands]))
  simp only [dval] at h
  split at h
  · rename_i k i hi
    rw [hi] at h2
    simp only [Rep] at h2
    split at h
    · rename_i own es hx
      rw [hx] at h1
      simp only [Rep] at h1
      obtain ⟨A, cap, e1, e2, e3, e4, e5⟩ := h1
      split at h
      · rename_i e he
        injection h with h
        injection h with hp hd
        subst hp hd
        obtain ⟨k1, k2, k3, k4⟩ := hc
        obtain ⟨b, p, z, rfl, hz, hr⟩ := e5 (by omega)
        have hlt : i.toNat < es.length := by omega
        have hget : es[i.toNat]? = some (es.getD i.toNat undefD) := by rw [List.getD_eq_getElem?_getD, List.getElem?_eq_getElem hlt]; rfl
        have hel := (RepE.get i.toNat hr hget).cells
        refine ⟨.pointer (some ⟨b, p + i.toNat * szOf P e, none⟩), ?_, ?_⟩
        · unfold execOp
          simp only [ho, e1, h2, Sem.run_bind, run_indexAt_slice he k1 k2 k3, Result.andThen_ok]
          rfl
        · simp only [Rep]
          refine ⟨b, p + i.toNat * szOf P e, rfl, ?_⟩
          have := hel.2
          rwa [← hel.1, k4] at this
      · cases h
    · rename_i kk off n c' hx
      rw [hx] at h1
      obtain ⟨A, e1, e2, e3, e0⟩ := h1.win_slice
      split at h
      · rename_i e he
        injection h with h
        injection h with hp hd
        subst hp hd
        obtain ⟨k1, k2, k3⟩ := hc
        rcases e0 with ⟨b, e0, rfl⟩ | ⟨_, rfl, _⟩
        rotate_left
        · omega
        refine ⟨.pointer (some ⟨b, off + i.toNat * szOf P e, none⟩), ?_, ?_⟩
        · unfold execOp
          simp only [ho, e1, h2, Sem.run_bind, run_indexAt_slice he k1 k2 k3, Result.andThen_ok]
          rfl
        · simp only [Rep]
          exact ⟨b, e0, rfl⟩
      · cases h
    · rename_i kk off hx
      rw [hx] at h1
      simp only [Rep] at h1
      obtain ⟨b, e1, e2⟩ := h1
      split at h
      · rename_i n e he
        injection h with h
        injection h with hp hd
        subst hp hd
        obtain ⟨k1, k2, k3⟩ := hc
        refine ⟨.pointer (some ⟨b, off + i.toNat * szOf P e, none⟩), ?_, ?_⟩
        · unfold execOp
          simp only [ho, e2, h2, Sem.run_bind, run_indexAt_array he k1 k2 k3, Result.andThen_ok]
          rfl
        · simp only [Rep]
          exact ⟨b, e1, rfl⟩
      · cases h
    · rename_i cs off hx
      rw [hx] at h1
      simp only [Rep] at h1
      obtain ⟨b, p, e1, e2⟩ := h1
      split at h
      · rename_i n e he
        injection h with h
        injection h with hp hd
        subst hp hd
        obtain ⟨k1, k2, k3⟩ := hc
        refine ⟨.pointer (some ⟨b, p + off + i.toNat * szOf P e, none⟩), ?_, ?_⟩
        · unfold execOp
          simp only [ho, e1, h2, Sem.run_bind, run_indexAt_array he k1 k2 k3, Result.andThen_ok]
          rfl
        · simp only [Rep]
          exact ⟨b, p, by rw [Nat.add_assoc], e2⟩
      · cases h
    · cases h
  · cases h
theorem dval_slice (hf : RepF P w η X f a) {o : Oper} (hop : ∀ x ∈ o.op.operands, opnOk a.tmps.size x = true) (t : TypeId) (x : Operand) (lo hi : Option Operand) (ho : o.op = .slice t x lo hi none) {c : Prop} {d : D} (h : dval P f S o.type o.op = some (c, d)) (hc : c) :
    ∃ v, (execOp a.eval o).run P w = .ok (.value v) w ∧ Rep P w η X d v := by
  rw [ho] at h hop
  have h1 := hf.ev (hop x (by simp [Op.operands]))
  have hlo : ∀ y, lo = some y → opnOk a.tmps.size y = true := fun y hy => hop y (by simp [Op.operands, hy])
  have hhi : ∀ y, hi = some y → opnOk a.tmps.size y = true := fun y hy => hop y (by simp [Op.operands, hy])
  simp only [dval] at h
  split at h
  · rename_i own es hx
    rw [hx] at h1
    simp only [Rep] at h1
    obtain ⟨A, cap, e1, e2, e3, e4, e5⟩ := h1
    split at h
    · rename_i e he
      split at h
      · rename_i l hl
        split at h
        · rename_i m hm
          injection h with h
          injection h with hp hd
          subst hp hd
          obtain ⟨k1, k2, k3, k4, k5⟩ := hc
          have hb := run_bounds (P := P) (w := w) hf hlo hhi true hl hm k2 k3 (show m ≤ (cap : Int) by omega)
          have hown : OwnAt P w η (if cap = l.toNat then A else A.map (·.add (l.toNat * szOf P e))) (m.toNat - l.toNat) (cap - l.toNat) (slOwn own hi) := by
            cases hi with
            | some _ => trivial
            | none =>
              simp only [bnd] at hm
              injection hm with hm
              cases own with
              | no => trivial
              | row g => trivial
              | full =>
                simp only [OwnAt] at e4
                simp only [slOwn, Own.tail, OwnAt]
                omega
          refine ⟨_, ?_, Rep.part (z := szOf P e) (m := cap) rfl (show l.toNat ≤ m.toNat by omega) (by omega) e2 e3 (by rcases k5 with k5 | k5; exact .inl (by omega); exact .inr k5) e5 (by omega) hown⟩
          unfold execOp
          simp only [ho, e1, Sem.run_bind]
          rw [show Option.map a.eval (none : Option Operand) = none from rfl, run_slice_part he k1 hb]
          rfl
        · cases h
      · cases h
    · cases h
  · rename_i kk off n c' hx
    rw [hx] at h1
    obtain ⟨A, e1, e2, e3, e0⟩ := h1.win_slice
    split at h
    · rename_i e he
      split at h
      · rename_i l hl
        split at h
        · rename_i m hm
          injection h with h
          injection h with hp hd
          subst hp hd
          obtain ⟨k1, k2, k3, k4, k5⟩ := hc
          have hb := run_bounds (P := P) (w := w) hf hlo hhi true hl hm k2 k3 k4
          refine ⟨_, ?_, rep_win_part (l := l.toNat) (h := m.toNat) (m := c') (z := szOf P e) e0 (Nat.le_refl _) (by omega) (by omega) (by omega)⟩
          unfold execOp
          simp only [ho, e1, Sem.run_bind]
          rw [show Option.map a.eval (none : Option Operand) = none from rfl, run_slice_part he k1 hb]
          rfl
        · cases h
      · cases h
    · cases h
  · rename_i s hx
    rw [hx] at h1
    simp only [Rep] at h1
    split at h
    · rename_i l hl
      split at h
      · rename_i m hm
        injection h with h
        injection h with hp hd
        subst hp hd
        obtain ⟨k1, k2, k3, k4⟩ := hc
        have hb := run_bounds (P := P) (w := w) hf hlo hhi false hl hm k2 k3 k4
        refine ⟨_, ?_, by simp only [Rep]; rfl⟩
        have hu := strT_spec k1
        unfold execOp
        simp [ho, h1, Instr.sliceAt, Instr.slice, Sem.run_bind, run_underlying hu, hb]
      · cases h
    · cases h
  · rename_i k off hx
    rw [hx] at h1
    simp only [Rep] at h1
    obtain ⟨b, e1, e2⟩ := h1
    split at h
    · rename_i n e he
      injection h with h
      injection h with hp hd
      subst hp hd
      obtain ⟨k1, k2, rfl, rfl⟩ := hc
      have hu := arT_spec he
      obtain ⟨d8, i8, h8, h9, _⟩ := okT_spec k1
      refine ⟨.slice (some ⟨b, off, none⟩) n n, ?_, by simp only [Rep]; exact .inl ⟨b, e1, rfl, Nat.le_refl _, k2⟩⟩
      unfold execOp
      simp [ho, e2, Instr.sliceAt, Instr.sureAddr, Instr.sliceBounds, Sem.run_bind, run_underlying hu, sizeOf, typeInfo, h9, Addr.add_lit]
    · cases h
  · cases h
theorem dval_slice3 (hf : RepF P w η X f a) {o : Oper} (hop : ∀ x ∈ o.op.operands, opnOk a.tmps.size x = true) (t : TypeId) (x : Operand) (lo hi : Option Operand) (mx : Operand) (ho : o.op = .slice t x lo hi (some mx)) {c : Prop} {d : D} (h : dval P f S o.type o.op = some (c, d)) (hc : c) :
    ∃ v, (execOp a.eval o).run P w = .ok (.value v) w ∧ Rep P w η X d v := by
  rw [ho] at h hop
  have h1 := hf.ev (hop x (by simp [Op.operands]))
  have hlo : ∀ y, lo = some y → opnOk a.tmps.size y = true := fun y hy => hop y (by simp [Op.operands, hy])
  have hhi : ∀ y, hi = some y → opnOk a.tmps.size y = true := fun y hy => hop y (by simp [Op.operands, hy])
  have hmx : ∀ y, some mx = some y → opnOk a.tmps.size y = true := fun y hy => hop y (by simp [Op.operands, hy])
  simp only [dval] at h
  split at h
  · rename_i own es hx
    rw [hx] at h1
    simp only [Rep] at h1
    obtain ⟨A, cap, e1, e2, e3, e4, e5⟩ := h1
    split at h
    · rename_i e he
      split at h
      · rename_i l hl
        split at h
        · rename_i m hm
          split at h
          · rename_i q hq
            injection h with h
            injection h with hp hd
            subst hp hd
            obtain ⟨k1, k2, k3, k4, k5, k6, k7⟩ := hc
            subst k4
            have hb : (Instr.sliceBounds true es.length cap (lo.map a.eval) (hi.map a.eval) (some (a.eval mx))).run P w = .ok (l.toNat, m.toNat, m.toNat) w := by
              obtain ⟨y, rfl⟩ := Option.isSome_iff_exists.1 k6
              rcases bnd_spec hf hhi hm with ⟨e, _⟩ | ⟨k', e2'⟩
              · cases e
              rcases bnd_spec hf hmx hq with ⟨e, _⟩ | ⟨k'', e3'⟩
              · cases e
              simp only [Option.map_some, Option.some.injEq] at e2' e3'
              have g1 : m ≤ (cap : Int) := by omega
              have g2 : (0 : Int) ≤ m := by omega
              have g3 : l ≤ max m 0 := by omega
              rcases bnd_spec hf hlo hl with ⟨rfl, rfl⟩ | ⟨k, e1'⟩
              · simp [Instr.sliceBounds, e2', e3', Instr.sliceBound, asIntOf, g1, g2]
                omega
              · simp [Instr.sliceBounds, e1', e2', e3', Instr.sliceBound, asIntOf, g1, g2, g3, k2]
                omega
            refine ⟨_, ?_, Rep.part (z := szOf P e) (m := m.toNat) rfl (show l.toNat ≤ m.toNat by omega) (by omega) e2 e3 (by rcases k7 with k7 | k7; exact .inl (by omega); exact .inr k7) e5 (Nat.le_refl _) rfl⟩
            unfold execOp
            simp only [ho, e1, Sem.run_bind]
            rw [show Option.map a.eval (some mx) = some (a.eval mx) from rfl, run_slice_part he k1 hb]
            rfl
          · cases h
        · cases h
      · cases h
    · cases h
  · rename_i kk off n c' hx
    rw [hx] at h1
    obtain ⟨A, e1, e2, e3, e0⟩ := h1.win_slice
    split at h
    · rename_i e he
      split at h
      · rename_i l hl
        split at h
        · rename_i m hm
          split at h
          · rename_i q hq
            injection h with h
            injection h with hp hd
            subst hp hd
            obtain ⟨k1, k2, k3, k4, k5, k6, k7⟩ := hc
            have hb : (Instr.sliceBounds true n c' (lo.map a.eval) (hi.map a.eval) (some (a.eval mx))).run P w = .ok (l.toNat, m.toNat, q.toNat) w := by
              obtain ⟨y, rfl⟩ := Option.isSome_iff_exists.1 k7
              rcases bnd_spec hf hhi hm with ⟨e, _⟩ | ⟨k', e2'⟩
              · cases e
              rcases bnd_spec hf hmx hq with ⟨e, _⟩ | ⟨k'', e3'⟩
              · cases e
              simp only [Option.map_some, Option.some.injEq] at e2' e3'
              have g1 : q ≤ (c' : Int) := by omega
              have g2 : (0 : Int) ≤ q := by omega
              have g3 : l ≤ max m 0 := by omega
              have g4 : (0 : Int) ≤ m := by omega
              have g5 : m ≤ max q 0 := by omega
              rcases bnd_spec hf hlo hl with ⟨rfl, rfl⟩ | ⟨k, e1'⟩
              · simp [Instr.sliceBounds, e2', e3', Instr.sliceBound, asIntOf, g1, g2, g4, g5]
              · simp [Instr.sliceBounds, e1', e2', e3', Instr.sliceBound, asIntOf, g1, g2, g3, g4, g5, k2]
            refine ⟨_, ?_, rep_win_part (l := l.toNat) (h := m.toNat) (m := q.toNat) (z := szOf P e) e0 (by omega) (by omega) (by omega) (by omega)⟩
            unfold execOp
            simp only [ho, e1, Sem.run_bind]
            rw [show Option.map a.eval (some mx) = some (a.eval mx) from rfl, run_slice_part he k1 hb]
            rfl
          · cases h
        · cases h
      · cases h
    · cases h
  · cases h

theorem equal_iface_nil {t tt : TypeId} {q : Value} {ms : Array (String × TypeId)} (hm : P.underlying t = some (.interface ms)) : (Op.equal t (.iface tt q) .nilIface).run P w = .ok false w := by
  have key : ∀ d, (Op.equalIn (d + 1) t (.iface tt q) .nilIface).run P w = .ok false w := fun d => by
    simp only [Op.equalIn, Sem.run_bind, run_underlying hm, Result.andThen_ok]
    rfl
  exact key 9999
theorem equal_nil_iface {t tt : TypeId} {q : Value} {ms : Array (String × TypeId)} (hm : P.underlying t = some (.interface ms)) : (Op.equal t .nilIface (.iface tt q)).run P w = .ok false w := by
  have key : ∀ d, (Op.equalIn (d + 1) t .nilIface (.iface tt q)).run P w = .ok false w := fun d => by
    simp only [Op.equalIn, Sem.run_bind, run_underlying hm, Result.andThen_ok]
    rfl
  exact key 9999
theorem equal_ptr_nil {t e : TypeId} {q : Addr} (hm : P.underlying t = some (.pointer e)) : (Op.equal t (.pointer (some q)) (.pointer none)).run P w = .ok false w := by
  have key : ∀ d, (Op.equalIn (d + 1) t (.pointer (some q)) (.pointer none)).run P w = .ok false w := fun d => by
    simp only [Op.equalIn, Sem.run_bind, run_underlying hm, Result.andThen_ok]
    rfl
  exact key 9999
theorem equal_slice_nil {t e : TypeId} {a : Addr} {n c : Nat} (ht : P.underlying t = some (.slice e)) : (Op.equal t (.slice (some a) n c) (.slice none 0 0)).run P w = .ok false w := by
  have key : ∀ d, (Op.equalIn (d + 1) t (.slice (some a) n c) (.slice none 0 0)).run P w = .ok false w := fun d => by
    simp only [Op.equalIn, Sem.run_bind, run_underlying ht, Result.andThen_ok]
    rfl
  exact key 9999
theorem nilCmp_sound {op : BinOp} {t : TypeId} {x y : Operand} {q : Prop} {a : Addr} {n m : Nat} {c : Prop} {d : D} (h : nilCmp P op t q = some (c, d)) (hc : c) :
    ∃ r, (do eqGuard op t x y (.slice (some a) n m) (.slice none 0 0); binOp op t (.slice (some a) n m) (.slice none 0 0) : Sem Value).run P w = .ok r w ∧ Rep P w η X d r := by
  unfold nilCmp at h
  split at h <;> try (cases h; done)
  all_goals
    injection h with h
    injection h with hp hd
    subst hp hd
    obtain ⟨e, he⟩ := Option.isSome_iff_exists.1 hc.1
    have hm := elT_spec he
    refine ⟨_, ?_, by simp only [Rep]; rfl⟩
    simp [eqGuard, binOp, equal_slice_nil hm]
theorem nilCmp_pos {op : BinOp} {t : TypeId} {q : Prop} {c : Prop} {d : D} (h : nilCmp P op t q = some (c, d)) (hc : c) : q := by
  unfold nilCmp at h
  split at h <;> try (cases h; done)
  all_goals
    injection h with h
    injection h with hp hd
    subst hp
    exact hc.2
theorem dbin_sound {op : BinOp} {t : TypeId} {x y : Operand} {d1 d2 : D} {u v : Value} (hy : ∀ k, y = .const k → v = k) (h1 : Rep P w η X d1 u) (h2 : Rep P w η X d2 v) {c : Prop} {d : D} (h : dbin P op t x y d1 d2 = some (c, d)) (hc : c) :
    ∃ r, (do eqGuard op t x y u v; binOp op t u v : Sem Value).run P w = .ok r w ∧ Rep P w η X d r := by
  unfold dbin at h
  split at h
  · rename_i p q
    simp only [Rep] at h1 h2
    obtain ⟨us, rfl, hu, _⟩ := h1
    obtain ⟨vs, rfl, hv, _⟩ := h2
    unfold dbinA at h
    split at h
    · rename_i us' vs' e1 e2
      have h3 := vals_rep e1 hu
      have h4 := vals_rep e2 hv
      subst h3 h4
      split at h <;> try (cases h; done)
      all_goals
        injection h with h
        injection h with hp hd
        subst hp hd
        exact ⟨_, hc w, by simp only [Rep]⟩
    · cases h
  · rename_i p q
    simp only [Rep] at h1 h2
    subst h1 h2
    obtain ⟨r, hr, he⟩ := map_some_eq h
    injection he with _ he
    subst he
    exact ⟨r, pureRun_run w hr, by simp only [Rep]⟩
  · rename_i tt dd
    simp only [Rep] at h1 h2
    obtain ⟨q, rfl, _⟩ := h1
    subst h2
    split at h <;> try (cases h; done)
    all_goals
      injection h with h
      injection h with hp hd
      subst hp hd
      unfold ifaceT at hc
      split at hc <;> try (cases hc; done)
      rename_i ms hm
      refine ⟨_, ?_, by simp only [Rep]; rfl⟩
      simp [eqGuard, binOp, equal_iface_nil hm]
  · rename_i tt dd
    simp only [Rep] at h1 h2
    obtain ⟨q, rfl, _⟩ := h2
    subst h1
    split at h <;> try (cases h; done)
    all_goals
      injection h with h
      injection h with hp hd
      subst hp hd
      unfold ifaceT at hc
      split at hc <;> try (cases hc; done)
      rename_i ms hm
      refine ⟨_, ?_, by simp only [Rep]; rfl⟩
      simp [eqGuard, binOp, equal_nil_iface hm]
  · simp only [Rep] at h1 h2
    obtain ⟨b, _, rfl⟩ := h1
    subst h2
    split at h <;> try (cases h; done)
    all_goals
      injection h with h
      injection h with hp hd
      subst hp hd
      unfold ptrT at hc
      split at hc <;> try (cases hc; done)
      rename_i ms hm
      refine ⟨_, ?_, by simp only [Rep]; rfl⟩
      simp [eqGuard, binOp, equal_ptr_nil hm]
  · simp only [Rep] at h1 h2
    obtain ⟨b, o, rfl, _⟩ := h1
    subst h2
    split at h <;> try (cases h; done)
    all_goals
      injection h with h
      injection h with hp hd
      subst hp hd
      unfold ptrT at hc
      split at hc <;> try (cases hc; done)
      rename_i ms hm
      refine ⟨_, ?_, by simp only [Rep]; rfl⟩
      simp [eqGuard, binOp, equal_ptr_nil hm]
  · rename_i t1 a t2 b
    simp only [Rep] at h1 h2
    obtain ⟨p, rfl, hp⟩ := h1
    obtain ⟨q, rfl, hq⟩ := h2
    split at h <;> try (cases h; done)
    injection h with h
    injection h with hpp hd
    subst hpp hd
    exact ⟨_, hc w η X p q hp hq, by simp only [Rep]⟩
  · rename_i p
    cases hn : isNilC y with
    | false => rw [hn] at h; cases h
    | true =>
      rw [hn] at h
      have hv := hy _ (isNilC_spec hn)
      subst hv
      simp only [Rep] at h1
      subst h1
      obtain ⟨r, hr, he⟩ := map_some_eq h
      injection he with _ he
      subst he
      exact ⟨r, pureRun_run w hr, by simp only [Rep]⟩
  · rename_i own es
    cases hn : isNilC y with
    | false => rw [hn] at h; cases h
    | true =>
      rw [hn] at h
      have hv := hy _ (isNilC_spec hn)
      subst hv
      have hpos := nilCmp_pos h hc
      simp only [Rep] at h1
      obtain ⟨A, cap, rfl, _, _, _, h5⟩ := h1
      obtain ⟨b, o, z, rfl, _⟩ := h5 hpos
      exact nilCmp_sound h hc
  · rename_i k off n cc
    cases hn : isNilC y with
    | false => rw [hn] at h; cases h
    | true =>
      rw [hn] at h
      have hv := hy _ (isNilC_spec hn)
      subst hv
      have hpos : 0 < n := nilCmp_pos h hc
      simp only [Rep] at h1
      rcases h1 with ⟨b, _, rfl, _⟩ | ⟨_, h0, _⟩
      · exact nilCmp_sound h hc
      · omega
  · cases h
theorem dlen_sound {b : Builtin} {ts : Array TypeId} {ty : TypeId} {cs : Array Bool} {l : List D} {us : List Value} (hr : RepL P w η X l us) {c : Prop} {d : D} (h : dlen P b ts l = some (c, d)) (hc : c) :
    ∃ v, (builtin b ts ty cs us.toArray).run P w = .ok (.value v) w ∧ Rep P w η X d v := by
  unfold dlen at h
  split at h
  · rename_i own es
    injection h with h
    injection h with hp hd
    subst hp hd
    simp only [RepL, Rep] at hr
    obtain ⟨x, xs, rfl, ⟨A, cap, rfl, _⟩, rfl⟩ := hr
    obtain ⟨e, he⟩ := Option.isSome_iff_exists.1 hc
    cases ht : ts[0]? with
    | none => rw [ht] at he; cases he
    | some t =>
      rw [ht] at he
      have hu := elT_spec (t := t) he
      refine ⟨_, ?_, by simp only [Rep]; rfl⟩
      simp [builtin, Builtin.len_, ht, Sem.run_bind, run_underlying hu, goInt]
  · rename_i kk n
    injection h with h
    injection h with hp hd
    subst hp hd
    simp only [RepL] at hr
    obtain ⟨x, xs, rfl, hrw, rfl⟩ := hr
    obtain ⟨A, rfl, _⟩ := hrw.win_slice
    obtain ⟨e, he⟩ := Option.isSome_iff_exists.1 hc
    cases ht : ts[0]? with
    | none => rw [ht] at he; cases he
    | some t =>
      rw [ht] at he
      have hu := elT_spec (t := t) he
      refine ⟨_, ?_, by simp only [Rep]; rfl⟩
      simp [builtin, Builtin.len_, ht, Sem.run_bind, run_underlying hu, goInt]
  · rename_i es
    injection h with h
    injection h with hp hd
    subst hp hd
    simp only [RepL, Rep, OwnAt] at hr
    obtain ⟨x, xs, rfl, ⟨A, cap, rfl, _, _, rfl, _⟩, rfl⟩ := hr
    obtain ⟨e, he⟩ := Option.isSome_iff_exists.1 hc
    cases ht : ts[0]? with
    | none => rw [ht] at he; cases he
    | some t =>
      rw [ht] at he
      have hu := elT_spec (t := t) he
      refine ⟨_, ?_, by simp only [Rep]; rfl⟩
      simp [builtin, Builtin.cap_, ht, Sem.run_bind, run_underlying hu, goInt]
  · rename_i kk off n c'
    injection h with h
    injection h with hp hd
    subst hp hd
    simp only [RepL] at hr
    obtain ⟨x, xs, rfl, hrw, rfl⟩ := hr
    obtain ⟨A, rfl, _⟩ := hrw.win_slice
    obtain ⟨e, he⟩ := Option.isSome_iff_exists.1 hc
    cases ht : ts[0]? with
    | none => rw [ht] at he; cases he
    | some t =>
      rw [ht] at he
      have hu := elT_spec (t := t) he
      refine ⟨_, ?_, by simp only [Rep]; rfl⟩
      simp [builtin, Builtin.cap_, ht, Sem.run_bind, run_underlying hu, goInt]
  · cases h
theorem dbuiltin_sound {b : Builtin} {ts : Array TypeId} {ty : TypeId} {cs : Array Bool} {l : List D} {us : List Value} (hr : RepL P w η X l us) {c : Prop} {d : D} (h : dbuiltin P b ts ty cs l = some (c, d)) (hc : c) :
    ∃ v, (builtin b ts ty cs us.toArray).run P w = .ok (.value v) w ∧ Rep P w η X d v := by
  unfold dbuiltin at h
  split at h
  · rename_i vs hv
    have := vals_rep hv hr
    subst this
    split at h
    · rename_i r hp
      injection h with h
      injection h with _ hd
      subst hd
      exact ⟨r, pureRun_run w hp, by simp only [Rep]⟩
    · exact dlen_sound hr h hc
  · exact dlen_sound hr h hc
theorem run_builtin_op (ρ : Operand → Value) (dst : Option Tmp) (b : Builtin) (args : Array Operand) (ats : Array TypeId) (ty : TypeId) (pos : String) (after : Array Edge) (guard : Option (Nat × Bool)) :
    (execOp ρ ⟨dst, .call ⟨.builtin b, args, ats⟩, ty, pos, after, guard⟩).run P w = (builtin b ats ty (args.map isConstB) (args.map ρ)).run P w := by
  unfold execOp
  simp only [resolve, invoke, Sem.run_bind, Sem.run_pure, Result.andThen_ok]
  congr 2
set_option maxHeartbeats 1000000 in
theorem dval_sound (hM : Mem P base S η w) (hf : RepF P w η (Fix P S η) f a) {o : Oper} (hop : opsOk a.tmps.size o.op = true) {c : Prop} {d : D} (h : dval P f S o.type o.op = some (c, d)) (hc : c) :
    ∃ v, (execOp a.eval o).run P w = .ok (.value v) w ∧ Rep P w η (Fix P S η) d v := by
  have hop := opsOk_spec hop
  have rd : ∀ {t : TypeId} {cs : List D} {b off : Nat}, rdOk P t cs off → (∃ vs : List Value, w.rangeAt b 0 vs ∧ RepL P w η (Fix P S η) cs vs ∧ ∀ x ∈ vs, x.oneCell' = true) →
      ∃ v, (Instr.loadAt t (.pointer (some ⟨b, off, none⟩))).run P w = .ok v w ∧ Rep P w η (Fix P S η) (rdVal P t cs off) v := by
    intro t cs b off hok ⟨vs, hr, hl, h1⟩
    obtain ⟨h1', h2⟩ := hok
    obtain ⟨d, i, hu, hi, hsz⟩ := okT_spec h1'
    have hll := hl.length
    cases hg : aggT P t with
    | true =>
      simp only [hg, cond_true] at h2
      have hlen : ((vs.drop off).take (szOf P t)).length = szOf P t := by rw [List.length_take, List.length_drop]; omega
      refine ⟨.agg ((vs.drop off).take (szOf P t)).toArray, run_loadAt_mid w b off t _ d (fun j v hj => ?_) hu (by rw [← aggT_spec hu, hg]) (by rw [hi, hlen, hsz]; rfl), ?_⟩
      · rw [List.getElem?_take] at hj
        split at hj
        · rw [List.getElem?_drop] at hj
          have := hr (off + j) v hj
          rwa [Nat.zero_add] at this
        · cases hj
      · simp only [rdVal, hg, cond_true, Rep]
        exact ⟨_, rfl, (hl.drop off).take _, fun x hx => h1 x (List.mem_of_mem_drop (List.mem_of_mem_take hx))⟩
    | false =>
      simp only [hg, cond_false] at h2
      obtain ⟨x, hx, hrx⟩ := hl.get off (List.getElem?_eq_getElem h2)
      have hcell := hr off x hx
      rw [Nat.zero_add] at hcell
      refine ⟨x, ?_, ?_⟩
      · have hn := aggT_spec hu
        rw [hg] at hn
        have hagg : (isAgg t).run P w = .ok false w := by
          unfold isAgg
          rw [Sem.run_bind, run_underlying hu w]
          cases d <;> simp_all
        simp [Instr.loadAt, Instr.sureAddr, loadVar, Sem.run_bind, hagg, load, Sem.run, hcell]
      · simp only [rdVal, hg, cond_false]
        rw [List.getD_eq_getElem?_getD, List.getElem?_eq_getElem h2]
        exact hrx
  obtain ⟨dst, op, ty, pos, after, guard⟩ := o
  cases op with
  | move x =>
    simp only [dval] at h
    injection h with h; injection h with _ h; subst h
    exact ⟨_, rfl, hf.ev (hop x (by simp [Op.operands]))⟩
  | assign x =>
    simp only [dval] at h
    injection h with h; injection h with _ h; subst h
    exact ⟨_, rfl, hf.ev (hop x (by simp [Op.operands]))⟩
  | pick g x y =>
    simp only [dval] at h
    have h1 := hf.ev (hop g (by simp [Op.operands]))
    have h2 := hf.ev (hop x (by simp [Op.operands]))
    have h3 := hf.ev (hop y (by simp [Op.operands]))
    split at h
    · rename_i t ht
      rw [ht] at h1
      simp only [Rep] at h1
      injection h with h; injection h with _ h; subst h
      refine ⟨bif t then a.eval x else a.eval y, ?_, by cases t; exact h3; exact h2⟩
      unfold execOp
      simp only [h1, asBool]
      cases t <;> rfl
    · cases h
  | load t x =>
    simp only [dval] at h
    have h1 := hf.ev (hop x (by simp [Op.operands]))
    split at h
    · rename_i k off hx
      rw [hx] at h1
      simp only [Rep] at h1
      obtain ⟨b, e1, e2⟩ := h1
      split at h
      · rename_i t' cs hk
        injection h with h; injection h with hp hd; subst hp hd
        obtain ⟨vs, k1, k2, k3⟩ := hM.box k t' cs b hk e1
        obtain ⟨v, hv, hr⟩ := rd (b := b) (off := off) hc ⟨vs, fun j v hj => by rw [Nat.zero_add, cell_of_row w b j _ _ _ k1]; simpa using hj, k2, k3⟩
        refine ⟨v, ?_, hr⟩
        unfold execOp
        simp only [e2, Sem.run_bind, hv, Result.andThen_ok]
        rfl
      · cases h
    · rename_i cs off hx
      rw [hx] at h1
      simp only [Rep] at h1
      obtain ⟨b, p, e1, e2⟩ := h1
      injection h with h; injection h with hp hd; subst hp hd
      obtain ⟨v, hv, hr⟩ := run_load_cells (P := P) hc e2
      refine ⟨v, ?_, hr⟩
      unfold execOp
      simp only [e1, Sem.run_bind, hv, Result.andThen_ok]
      rfl
    · rename_i q hx
      rw [hx] at h1
      simp only [Rep] at h1
      split at h
      · rename_i d' hg
        injection h with h; injection h with hp hd; subst hp hd
        obtain ⟨c1, c2, c3⟩ := hc
        obtain ⟨v, hv, hr⟩ := glob_rep (P := P) (η := η) (X := Fix P S η) hM.glob hg
        rw [← c1] at hv
        clear c1
        refine ⟨v, ?_, hr⟩
        obtain ⟨dd, i, hu, hi, hsz⟩ := okT_spec c2
        have hn := aggT_spec hu
        rw [c3] at hn
        have hagg : (isAgg t).run P w = .ok false w := by
          unfold isAgg
          rw [Sem.run_bind, run_underlying hu w]
          cases dd <;> simp_all
        unfold execOp
        simp [h1, Instr.loadAt, Instr.sureAddr, loadVar, Sem.run_bind, hagg, load, Sem.run, hv]
      · cases h
    · cases h
  | fieldAddr t x i =>
    simp only [dval] at h
    have h1 := hf.ev (hop x (by simp [Op.operands]))
    split at h
    · rename_i fo ft hfl
      split at h
      · rename_i k off hx
        rw [hx] at h1
        simp only [Rep] at h1
        obtain ⟨b, e1, e2⟩ := h1
        injection h with h; injection h with hp hd; subst hp hd
        refine ⟨.pointer (some ⟨b, off + fo, none⟩), ?_, by simp only [Rep]; exact ⟨b, e1, rfl⟩⟩
        unfold execOp
        simp only [e2, Sem.run_bind, run_fieldAt hfl hc, Result.andThen_ok]
        rfl
      · rename_i cs off hx
        rw [hx] at h1
        simp only [Rep] at h1
        obtain ⟨b, p, e1, e2⟩ := h1
        injection h with h; injection h with hp hd; subst hp hd
        refine ⟨.pointer (some ⟨b, p + off + fo, none⟩), ?_, by simp only [Rep]; exact ⟨b, p, by rw [Nat.add_assoc], e2⟩⟩
        unfold execOp
        simp only [e1, Sem.run_bind, run_fieldAt hfl hc, Result.andThen_ok]
        rfl
      · cases h
    · cases h
  | field t x i =>
    simp only [dval] at h
    have h1 := hf.ev (hop x (by simp [Op.operands]))
    split at h
    · rename_i fo ft hfl
      split at h
      · rename_i cs hx
        rw [hx] at h1
        simp only [Rep] at h1
        obtain ⟨vs, e1, e2, e3⟩ := h1
        injection h with h; injection h with hp hd; subst hp hd
        obtain ⟨v, hv, hr⟩ := run_part_cells (P := P) hc e2 e3
        obtain ⟨fs, fd, g1, g2, g3, g4⟩ := fld_spec hfl
        refine ⟨v, ?_, hr⟩
        unfold execOp
        simp [e1, Instr.field, Sem.run_bind, run_underlying g1, g2, asAgg, g3, g4, hv]
      · cases h
    · cases h
  | indexAddr t x ix => exact dval_index hf hop t x ix rfl h hc
  | index t x ix =>
    simp only [dval] at h
    have h1 := hf.ev (hop x (by simp [Op.operands]))
    have h2 := hf.ev (hop ix (by simp [Op.operands]))
    split at h
    · rename_i k i hi
      rw [hi] at h2
      simp only [Rep] at h2
      split at h
      · rename_i cs hx
        rw [hx] at h1
        simp only [Rep] at h1
        obtain ⟨vs, e1, e2, e3⟩ := h1
        split at h
        · rename_i n e he
          injection h with h; injection h with hp hd; subst hp hd
          obtain ⟨k1, k2, k3⟩ := hc
          obtain ⟨v, hv, hr⟩ := run_part_cells (P := P) k3 e2 e3
          have hu := arT_spec he
          obtain ⟨_, ti, _, h8, h9⟩ := okT_spec k3.1
          rw [h9] at hv
          refine ⟨v, ?_, hr⟩
          unfold execOp
          simp [e1, h2, Instr.index, Sem.run_bind, asIntOf, run_underlying hu, k1, k2, sizeOf, typeInfo, h8, hv]
        · cases h
      · rename_i s hx
        rw [hx] at h1
        simp only [Rep] at h1
        injection h with h; injection h with hp hd; subst hp hd
        obtain ⟨k1, k2, k3⟩ := hc
        have hu := strT_spec k1
        have hlt : i.toNat < s.size := by omega
        have hlt' : i.toNat < s.data.size := hlt
        refine ⟨_, ?_, by simp only [Rep]; rfl⟩
        unfold execOp
        simp [h1, h2, Instr.index, Sem.run_bind, asIntOf, run_underlying hu, k2, hlt]
        rfl
      · cases h
    · cases h
  | extract x i =>
    simp only [dval] at h
    have h1 := hf.ev (hop x (by simp [Op.operands]))
    split at h
    · rename_i ds hx
      rw [hx] at h1
      simp only [Rep] at h1
      obtain ⟨vs, e1, e2⟩ := h1
      injection h with h; injection h with hp hd; subst hp hd
      have hl := e2.length
      obtain ⟨v, hv, hr⟩ := e2.get i (List.getElem?_eq_getElem hc)
      have hlt : i < vs.length := by omega
      rw [List.getElem?_eq_getElem hlt] at hv
      injection hv with hv
      refine ⟨v, ?_, ?_⟩
      · unfold execOp
        simp [e1, Instr.extract, List.getElem?_eq_getElem hlt, hv]
      · rw [List.getD_eq_getElem?_getD, List.getElem?_eq_getElem hc]
        exact hr
    · cases h
  | makeFunc fn fs cs =>
    simp only [dval] at h
    injection h with h; injection h with _ hd; subst hd
    refine ⟨.func fn (fs.toList.map a.eval).toArray (cs.toList.map a.eval).toArray, ?_, ?_⟩
    · unfold execOp
      simp [Instr.makeFunc]
      exact ⟨by apply Array.ext'; simp, by apply Array.ext'; simp⟩
    · simp only [Rep]
      exact ⟨_, _, rfl, repL_map hf fun x hx => hop x (by simp only [Op.operands, Array.mem_append]; exact .inl (by simpa using hx)), repL_map hf fun x hx => hop x (by simp only [Op.operands, Array.mem_append]; exact .inr (by simpa using hx))⟩
  | makeInterface t x =>
    simp only [dval] at h
    injection h with h; injection h with hp hd; subst hp hd
    obtain ⟨k1, k2⟩ := hc
    obtain ⟨d', hu⟩ := Option.isSome_iff_exists.1 k1
    refine ⟨.iface t (a.eval x), ?_, by simp only [Rep]; exact ⟨_, rfl, hf.ev (hop x (by simp [Op.operands]))⟩⟩
    unfold execOp
    unfold ifaceT at k2
    rw [hu] at k2
    cases d' <;> first | (simp [Instr.makeInterface, Sem.run_bind, run_underlying hu]; done) | cases k2
  | nilCheck x =>
    simp only [dval] at h
    have h1 := hf.ev (hop x (by simp [Op.operands]))
    split at h
    · rename_i k off hx
      rw [hx] at h1
      injection h with h; injection h with _ hd; subst hd
      refine ⟨a.eval x, ?_, h1⟩
      simp only [Rep] at h1
      obtain ⟨b, e1, e2⟩ := h1
      unfold execOp
      simp [e2]
    · rename_i cs off hx
      rw [hx] at h1
      injection h with h; injection h with _ hd; subst hd
      refine ⟨a.eval x, ?_, h1⟩
      simp only [Rep] at h1
      obtain ⟨b, p, e1, e2⟩ := h1
      unfold execOp
      simp [e1]
    · rename_i g fs cs hx
      rw [hx] at h1
      injection h with h; injection h with _ hd; subst hd
      refine ⟨a.eval x, ?_, h1⟩
      simp only [Rep] at h1
      obtain ⟨us, vs, e1, e2, e3⟩ := h1
      unfold execOp
      simp [e1]
    · cases h
  | slice t x lo hi mx =>
    cases mx with
    | none => exact dval_slice hf hop t x lo hi rfl h hc
    | some mx => exact dval_slice3 hf hop t x lo hi mx rfl h hc
  | binOp op t x y yt =>
    simp only [dval] at h
    obtain ⟨r, hr, hR⟩ := dbin_sound (fun k hk => by rw [hk]; rfl) (hf.ev (hop x (by simp [Op.operands]))) (hf.ev (hop y (by simp [Op.operands]))) h hc
    refine ⟨r, ?_, hR⟩
    unfold execOp
    simp only
    rw [Sem.run_bind, hr]
    rfl
  | unOp op t x =>
    simp only [dval] at h
    have h1 := hf.ev (hop x (by simp [Op.operands]))
    split at h
    · rename_i u hx
      rw [hx] at h1
      simp only [Rep] at h1
      obtain ⟨r, hr, he⟩ := map_some_eq h
      injection he with _ he
      subst he
      refine ⟨r, ?_, by simp only [Rep]⟩
      unfold execOp
      simp only [h1]
      rw [Sem.run_bind, pureRun_run w hr]
      rfl
    · cases h
  | convert s t x =>
    simp only [dval] at h
    have h1 := hf.ev (hop x (by simp [Op.operands]))
    split at h
    · rename_i u hx
      rw [hx] at h1
      simp only [Rep] at h1
      obtain ⟨r, hr, he⟩ := map_some_eq h
      injection he with _ he
      subst he
      refine ⟨r, ?_, by simp only [Rep]⟩
      unfold execOp
      simp only [h1]
      rw [Sem.run_bind, pureRun_run w hr]
      rfl
    · rename_i own es hx
      rw [hx] at h1
      split at h
      · rename_i e he
        injection h with h
        injection h with hc' hd
        subst hc' hd
        obtain ⟨k1, k2, k3⟩ := hc
        simp only [Rep] at h1
        obtain ⟨A, c, h1, hle, _, _, hE⟩ := h1
        have hlen : es.length = (bytesD es).length := by simp [bytesD]
        have hrd : Reads w w.heap.size 1 A es.length ((bytesD es).map bv) := by
          refine ⟨by rw [List.length_map, ← hlen, Nat.mul_one], fun hp => ?_⟩
          obtain ⟨b, o, z, hA, _, hz⟩ := hE hp
          rw [k3] at hz
          refine ⟨b, o, hA, ?_, fun j u hj => ?_⟩
          · have hp' : 0 < (bytesD es).length := by omega
            have := hz.bytes (List.getElem?_eq_getElem hp')
            exact World.block_lt_of_cell? w _ this
          · rw [List.getElem?_map] at hj
            obtain ⟨u', hu', rfl⟩ := Option.map_eq_some_iff.1 hj
            exact hz.bytes hu'
        refine ⟨.string ⟨(bytesD es).toArray⟩, ?_, by simp only [Rep]⟩
        unfold execOp
        simp only [h1]
        rw [Sem.run_bind, run_string_of_bytes s t e (elT_spec he) (u8T_spec k1) (strT_spec k2) hrd]
        rfl
      · cases h
    · cases h
  | call cl =>
    obtain ⟨callee, args, ats⟩ := cl
    cases callee with
    | builtin b =>
      simp only [dval] at h
      have hr := repL_map hf (l := args.toList) fun x hx => hop x (by simp only [Op.operands, Call.operands, Array.mem_append]; exact .inr (by simpa using hx))
      obtain ⟨v, hv, hR⟩ := dbuiltin_sound hr h hc
      refine ⟨v, ?_, hR⟩
      have e : (args.toList.map a.eval).toArray = args.map a.eval := by apply Array.ext'; simp
      rw [e] at hv
      rw [run_builtin_op]
      exact hv
    | value x => simp [dval] at h
    | invoke r m => simp [dval] at h
  | _ => simp [dval] at h
end
end Go.Proofs.YtogbklnkpjjkoaaGreatDoor
