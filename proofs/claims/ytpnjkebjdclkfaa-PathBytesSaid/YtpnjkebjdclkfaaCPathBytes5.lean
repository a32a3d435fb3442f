/- Texts of a proof, part 5. Conditions: none. -/
import Derived.Test.YtpnjkebjdclkfaaCPathBytes4
set_option linter.unusedVariables false
set_option linter.unusedSimpArgs false
/- Schemas, walked: depths. Conditions: none. -/
namespace Go.Proofs.Ytpnjkebjdclkfaa
open Go.RowKit

set_option maxHeartbeats 1000000 in
set_option maxRecDepth 20000 in
theorem schDepth_calls (k : Nat) : ∀ (s : DSch) (cs : List Value) (w : World), s.depth ≤ k → k ≤ 1000000 → IsSch w (· < w.heap.size) s cs →
    Calls Try.prog 16 #[.agg cs.toArray] w (Gives (.int .i64 s.depth) w) := by
  induction k with
  | zero => intro s cs w h; have := s.depth_pos; omega
  | succ k ih =>
    intro s cs w hk hkk hs
    obtain ⟨Ap, cp, hc, hcp, hmp, hA⟩ := hs.parts_
    have HI := hide ih
    have HA := hide hA
    have HS := hide hs
    have HD := hide s.depth_eq
    have hdp := s.depth_eq
    have HB0 := hide (Blk.new w 25 cs.toArray)
    have HW0 := hide ((Below.refl w.heap.size w).alloc (Nat.le_refl _) (.cells cs.toArray 25))
    have HP := hide (fun p (h : p ∈ s.parts) => DSch.depth_part h)
    clear ih hA hs
    go_enter Try.func16, Try.ntmps16
    go_wp2_with fail
    go_loopw [3, 9] (fun nv iv wr => ∃ (i : Nat), iv = .int .i64 i ∧ i ≤ s.parts.length ∧ nv = .int .i64 (DSch.depths (s.parts.take i)) ∧ Below w.heap.size w wr) (fun _ iv _ => s.parts.length - (intOf iv).toNat)
    case atStart => exact ⟨0, rfl, Nat.zero_le _, rfl, HW0.out⟩
    case round =>
      obtain ⟨i, rfl, hi, rfl, hw⟩ := hrel
      obtain ⟨wo, rfl⟩ : ∃ wo : World, wo = wr := ⟨_, rfl⟩
      have GW := hide hw
      clear hw HB0 HW0
      have hle := DSch.depths_le s.parts i
      by_cases hlt : i < s.parts.length
      · obtain ⟨b, o, rfl, hb, hC⟩ := HA.out (by omega)
        obtain ⟨C, hl3, hr, hpi⟩ := hC i _ (List.getElem?_eq_getElem hlt)
        have HRW : Hid (wo.rangeAt b (o + i * 3) C) := hide fun q v hv => (GW.out.cell (p := ⟨b, o + i * 3 + q, none⟩) hb).trans (hr q v hv)
        have HL3 := hide hl3
        have hone := hpi.one
        have HONE := hide hone
        have HPI := hide hpi
        have HT := hide (DSch.depths_take s.parts i hlt)
        have hpd := HP.out _ (List.getElem_mem hlt)
        clear hC hl3 hr hpi hone
        generalize s.parts[i] = p at *
        generalize DSch.depths (s.parts.take i) = m at *
        have hst := fun (W : World) => run_store_new (P := Try.prog) W 25 [.int .i64 0, .slice none 0 0, .slice none 0 0] C (by rw [HL3.out]; rfl) HONE.out
        go_wp2_with (first
          | (refine wpList_load_mid rfl 25 _ rfl b (o + i * 3) rfl C _ HRW.out rfl rfl (by rw [HL3.out]; kernel_rfl) ?_)
          | (refine wpList_load_blk rfl 25 _ rfl _ rfl _ _ (Blk.new _ _ _) _ rfl rfl (by rw [List.size_toArray, HL3.out]; kernel_rfl) ?_)
          | fail)
        have K6 := hide (GW.out.alloc GW.out.size (.cells C.toArray 25))
        clear HRW
        refine (HI.out p C _ (by omega) (by omega) (HPI.out.more K6.out)).mono ?_
        rintro e w1 ⟨rfl, hb1⟩
        have KW := hide (K6.out.trans (hb1.mono K6.out.size))
        clear hb1
        go_wp2_with fail
        exact ⟨⟨i + 1, by go_num, by omega, by rw [HT.out]; go_num, KW.out⟩, by simp [intOf]; omega⟩
      · have HE : Hid (DSch.depths (s.parts.take i) + 1 = s.depth) := hide (by rw [List.take_of_length_le (by omega), HD.out])
        generalize DSch.depths (s.parts.take i) = m at *
        go_wp2
        go_ret
        exact ⟨ret_eq (by rw [← HE.out]; first | rfl | go_num), GW.out⟩


set_option maxHeartbeats 1000000 in
set_option maxRecDepth 20000 in
theorem refSchDepth_calls (k : Nat) : ∀ (s : DSch) (cs : List Value) (w : World), s.depth ≤ k → k ≤ 1000000 → IsSch w (· < w.heap.size) s cs →
    Calls Try.prog 17 #[.agg cs.toArray] w (Gives (.int .i64 s.depth) w) := by
  induction k with
  | zero => intro s cs w h; have := s.depth_pos; omega
  | succ k ih =>
    intro s cs w hk hkk hs
    obtain ⟨Ap, cp, hc, hcp, hmp, hA⟩ := hs.parts_
    have HI := hide ih
    have HA := hide hA
    have HS := hide hs
    have HD := hide s.depth_eq
    have hdp := s.depth_eq
    have HB0 := hide (Blk.new w 25 cs.toArray)
    have HW0 := hide ((Below.refl w.heap.size w).alloc (Nat.le_refl _) (.cells cs.toArray 25))
    have HP := hide (fun p (h : p ∈ s.parts) => DSch.depth_part h)
    clear ih hA hs
    go_enter Try.func17, Try.ntmps17
    go_wp2_with fail
    go_loopw [3, 4] (fun nv iv wr => ∃ (i : Nat), iv = .int .i64 i ∧ i ≤ s.parts.length ∧ nv = .int .i64 ((DSch.depths (s.parts.take i) : Nat) + 1 : Int) ∧ Blk wr w.heap.size 25 cs.toArray ∧ Below w.heap.size w wr) (fun _ iv _ => s.parts.length - (intOf iv).toNat)
    case atStart => exact ⟨0, rfl, Nat.zero_le _, rfl, HB0.out, HW0.out⟩
    case round =>
      obtain ⟨i, rfl, hi, rfl, hblk, hw⟩ := hrel
      obtain ⟨wo, rfl⟩ : ∃ wo : World, wo = wr := ⟨_, rfl⟩
      have GW := hide hw
      have GB := hide hblk
      clear hw hblk HB0 HW0
      have hle := DSch.depths_le s.parts i
      have cf : wo.cell? ⟨w.heap.size, 2, none⟩ = cs[2]? := by have := GB.out.cell 2; simpa using this
      rw [hc] at cf
      by_cases hlt : i < s.parts.length
      · obtain ⟨b, o, rfl, hb, hC⟩ := HA.out (by omega)
        obtain ⟨C, hl3, hr, hpi⟩ := hC i _ (List.getElem?_eq_getElem hlt)
        have HRW : Hid (wo.rangeAt b (o + i * 3) C) := hide fun q v hv => (GW.out.cell (p := ⟨b, o + i * 3 + q, none⟩) hb).trans (hr q v hv)
        have HL3 := hide hl3
        have HPI := hide hpi
        have HT := hide (DSch.depths_take s.parts i hlt)
        have hpd := HP.out _ (List.getElem_mem hlt)
        clear hC hl3 hr hpi
        generalize s.parts[i] = p at *
        generalize DSch.depths (s.parts.take i) = m at *
        go_wp2_with (first
          | (refine wpList_load_mid rfl 25 _ rfl b (o + i * 3) rfl C _ HRW.out rfl rfl (by rw [HL3.out]; kernel_rfl) ?_)
          | fail)
        refine (HI.out p C _ (by omega) (by omega) (HPI.out.more GW.out)).mono ?_
        rintro e w1 ⟨rfl, hb1⟩
        have KB := hide (GB.out.below hb1 GB.out.lt)
        have KW := hide (GW.out.trans (hb1.mono GW.out.size))
        clear hb1
        by_cases hgt : m < p.depth
        · go_wp2_with fail
          exact ⟨⟨i + 1, by go_num, by omega, by rw [HT.out, Nat.max_eq_right (by omega)], KB.out, KW.out⟩, by simp [intOf]; omega⟩
        · go_wp2_with fail
          exact ⟨⟨i + 1, by go_num, by omega, by rw [HT.out, Nat.max_eq_left (by omega)], KB.out, KW.out⟩, by simp [intOf]; omega⟩
      · have HE : Hid (((DSch.depths (s.parts.take i) : Nat) : Int) + 1 = (s.depth : Int)) := hide (by rw [List.take_of_length_le (by omega), HD.out]; rfl)
        generalize DSch.depths (s.parts.take i) = m at *
        go_wp2
        go_ret
        exact ⟨ret_eq (by rw [← HE.out]; rfl), GW.out⟩

end Go.Proofs.Ytpnjkebjdclkfaa

/- Schemas, walked: whether two are the same. Conditions: none. -/
namespace Go.Proofs.Ytpnjkebjdclkfaa
open Go.RowKit

set_option maxHeartbeats 1000000 in
set_option maxRecDepth 20000 in
theorem schEqualF (K : Nat) (hK : ∀ (x : Array Value) W, (callFunc K x).run Try.prog W = .ok (.enter K x) W) (n m : Nat) (A A2 : Option Addr) (c c2 : Nat) (V V2 : Nat → Value) (p : Nat → Bool) (w : World) (hn : n ≤ 140737488351232) (hm : m ≤ 140737488351232)
    (hA : 0 < n → ∃ b o, A = some ⟨b, o, none⟩ ∧ b < w.heap.size ∧ ∀ i, i < n → ∃ cs : List Value, V i = .agg cs.toArray ∧ cs.length = 3 ∧ (∀ v ∈ cs, v.oneCell' = true) ∧ w.rangeAt b (o + i * 3) cs)
    (hA2 : 0 < m → ∃ b o, A2 = some ⟨b, o, none⟩ ∧ b < w.heap.size ∧ ∀ i, i < m → ∃ cs : List Value, V2 i = .agg cs.toArray ∧ cs.length = 3 ∧ (∀ v ∈ cs, v.oneCell' = true) ∧ w.rangeAt b (o + i * 3) cs)
    (hcall : n = m → ∀ i, i < n → ∀ W, Below w.heap.size w W → Calls Try.prog K #[V i, V2 i] W (Gives (.bool (p i)) W)) :
    Calls Try.prog 62 #[.slice A n c, .slice A2 m c2, .func (.func K) #[] #[]] w (Gives (.bool (decide (n = m) && (List.range n).all p)) w) := by
  have HA := hide hA
  have HA2 := hide hA2
  have HC := hide hcall
  clear hA hA2 hcall
  by_cases hlen : n = m
  · subst hlen
    have hne : ((n : Int) != (n : Int)) = false := by simp
    have HC' := hide (HC.out rfl)
    clear HC
    go_enter Try.func62, Try.ntmps62
    go_wp2_with fail
    go_loopw [17] (fun i wr => ∃ (k : Nat), i = .int .i64 k ∧ k ≤ n ∧ (∀ r, r < k → p r = true) ∧ Below w.heap.size w wr) (fun i _ => n - (intOf i).toNat)
    case atStart => exact ⟨0, rfl, Nat.zero_le _, fun r hr => by omega, Below.refl _ _⟩
    case round =>
      obtain ⟨k, rfl, hk, hno, hw⟩ := hrel
      obtain ⟨wo, rfl⟩ : ∃ wo : World, wo = wr := ⟨_, rfl⟩
      have GW := hide hw
      have GN := hide hno
      clear hw hno
      by_cases hlt : k < n
      · obtain ⟨b, o, rfl, hb, hV⟩ := HA.out (by omega)
        obtain ⟨b2, o2, rfl, hb2, hV2⟩ := HA2.out (by omega)
        have hcall' := HC'.out k hlt
        obtain ⟨cs, hv, hc3, ho1, hr⟩ := hV k hlt
        obtain ⟨ds, hv2, hd3, ho2, hr2⟩ := hV2 k hlt
        have HRW : Hid (∀ W, Below w.heap.size w W → W.rangeAt b (o + k * 3) cs) := hide fun W hW q v hv => (hW.cell (p := ⟨b, o + k * 3 + q, none⟩) hb).trans (hr q v hv)
        have HRW2 : Hid (∀ W, Below w.heap.size w W → W.rangeAt b2 (o2 + k * 3) ds) := hide fun W hW q v hv => (hW.cell (p := ⟨b2, o2 + k * 3 + q, none⟩) hb2).trans (hr2 q v hv)
        have HC3 := hide hc3
        have HD3 := hide hd3
        have hst := fun (W : World) => run_store_new (P := Try.prog) W 25 [.int .i64 0, .slice none 0 0, .slice none 0 0] cs (by rw [hc3]; rfl) ho1
        have hst2 : ∀ (W : World) (ob : Obj), (storeCells ⟨W.heap.size + 1, 0, none⟩ ds).run Try.prog ((W.alloc ob).alloc (.cells ([.int .i64 0, .slice none 0 0, .slice none 0 0] : List Value).toArray 25)) = .ok () ((W.alloc ob).alloc (.cells ds.toArray 25)) := fun W ob => by have := run_store_new (P := Try.prog) (W.alloc ob) 25 [.int .i64 0, .slice none 0 0, .slice none 0 0] ds (by rw [hd3]; rfl) ho2; rwa [World.size_alloc] at this
        have G1 := hide (GW.out.alloc GW.out.size (.cells cs.toArray 25))
        have G2 := hide (G1.out.alloc G1.out.size (.cells ds.toArray 25))
        have HE1 := hide ((Blk.new wo 25 cs.toArray).alloc (.cells ds.toArray 25))
        rw [hv, hv2] at hcall'
        have HCL := hide hcall'
        clear hr hr2 hc3 hd3 hcall' hV hV2 ho1 ho2
        cases hx : p k
        all_goals
          have HX := hide hx
          rw [hx] at HCL
          clear hx
          have hst1 := fun (W : World) => Blk.new2 W (.cells cs.toArray 25) 25 ds.toArray
          go_wp2_with (first
            | (refine wpList_load_mid rfl 25 _ rfl b (o + k * 3) rfl cs _ (HRW.out _ GW.out) rfl rfl (by rw [HC3.out]; kernel_rfl) ?_)
            | (refine wpList_load_mid rfl 25 _ rfl b2 (o2 + k * 3) rfl ds _ (HRW2.out _ G1.out) rfl rfl (by rw [HD3.out]; kernel_rfl) ?_)
            | (refine wpList_load_blk rfl 25 _ rfl wo.heap.size rfl _ cs.toArray HE1.out _ rfl rfl (by rw [List.size_toArray, HC3.out]; kernel_rfl) ?_)
            | (refine wpList_load_blk rfl 25 _ rfl (wo.heap.size + 1) rfl _ ds.toArray (hst1 _) _ rfl rfl (by rw [List.size_toArray, HD3.out]; kernel_rfl) ?_)
            | fail)
          refine (HCL.out _ G2.out).mono ?_
          rintro e w1 ⟨rfl, hb1⟩
          have KW := hide (G2.out.trans (hb1.mono G2.out.size))
          clear hb1
        · go_wp2
          go_ret
          exact ⟨ret_eq (by rw [show (List.range n).all p = false from List.all_eq_false.2 ⟨k, List.mem_range.2 hlt, by rw [HX.out]; simp⟩]; simp), KW.out⟩
        · go_wp2_with fail
          exact ⟨⟨k + 1, by go_num, by omega, fun r hr => by
            by_cases e : r = k
            · rw [e]; exact HX.out
            · exact GN.out r (by omega), KW.out⟩, by simp [intOf]; omega⟩
      · obtain rfl : k = n := by omega
        go_wp2
        go_ret
        exact ⟨ret_eq (by rw [show (List.range k).all p = true from List.all_eq_true.2 fun i hi => GN.out i (List.mem_range.1 hi)]; simp), GW.out⟩
  · have hne : ((n : Int) != (m : Int)) = true := by simp; omega
    have HD : Hid ((decide (n = m) && (List.range n).all p) = false) := hide (by rw [decide_eq_false hlen]; rfl)
    clear hlen
    go_enter Try.func62, Try.ntmps62
    go_wp2
    go_ret
    exact ⟨ret_eq (by rw [HD.out]; rfl), Below.refl _ _⟩


instance : Inhabited DSch := ⟨.mk 0 [] []⟩
theorem schEq_split (a b : DSch) : eqB a b = (decide (a.kind = b.kind) && (decide (a.words = b.words) && eqB a.parts b.parts)) := by
  rw [Bool.eq_iff_iff]
  simp only [Bool.and_eq_true, decide_eq_true_eq, eqB_iff]
  exact DSch.ext_iff' a b

set_option maxHeartbeats 1000000 in
set_option maxRecDepth 20000 in
theorem schSame_calls (k : Nat) : ∀ (a b : DSch) (cs ds : List Value) (w : World), a.depth ≤ k → IsSch w (· < w.heap.size) a cs → IsSch w (· < w.heap.size) b ds →
    Calls Try.prog 18 #[.agg cs.toArray, .agg ds.toArray] w (Gives (.bool (eqB a b)) w) := by
  induction k with
  | zero => intro a b cs ds w h; have := a.depth_pos; omega
  | succ k ih =>
    intro a b cs ds w hk ha hb
    obtain ⟨hk1, hki⟩ := ha.kind_
    obtain ⟨hk2, hki2⟩ := hb.kind_
    obtain ⟨Aw, cw, hw1, hwr, hwz, hwc, hwm⟩ := ha.words_
    obtain ⟨Aw2, cw2, hw2, hwr2, hwz2, hwc2, hwm2⟩ := hb.words_
    obtain ⟨Ap, cp, C, hp1, hpc, hpm, hP, hA⟩ := ha.partsF
    obtain ⟨Ap2, cp2, C2, hp2, hpc2, hpm2, hP2, hA2⟩ := hb.partsF
    have HW0 := hide (((Below.refl w.heap.size w).alloc (Nat.le_refl _) (.cells cs.toArray 25)).alloc (by simp) (.cells ds.toArray 25))
    have hK : ∀ (x : Array Value) W, (callFunc 18 x).run Try.prog W = .ok (.enter 18 x) W := fun _ _ => by kernel_rfl
    have HSP := hide (schEq_split a b)
    have HCW := hide (fun (W : World) (hW : Below w.heap.size w W) => strEqual_calls a.words b.words Aw Aw2 cw cw2 W ((hwr.more hW)) ((hwr2.more hW)) (by omega) (by omega))
    have HCP : Hid (∀ W : World, Below w.heap.size w W → Calls Try.prog 62 #[.slice Ap a.parts.length cp, .slice Ap2 b.parts.length cp2, .func (.func 18) #[] #[]] W (Gives (.bool (eqB a.parts b.parts)) W)) := hide fun W hW => by
      have := schEqualF 18 hK a.parts.length b.parts.length Ap Ap2 cp cp2 (fun i => .agg (C i).toArray) (fun i => .agg (C2 i).toArray) (fun i => eqB (a.parts.getD i default) (b.parts.getD i default)) W (by omega) (by omega)
        (fun h0 => by
          obtain ⟨x, o, e, hx, hc⟩ := hA h0
          exact ⟨x, o, e, Nat.lt_of_lt_of_le hx hW.size, fun i hi => ⟨C i, rfl, (hc i hi).1, (hP i _ (List.getElem?_eq_getElem hi)).one, fun q v hv => (hW.cell (p := ⟨x, o + i * 3 + q, none⟩) hx).trans ((hc i hi).2 q v hv)⟩⟩)
        (fun h0 => by
          obtain ⟨x, o, e, hx, hc⟩ := hA2 h0
          exact ⟨x, o, e, Nat.lt_of_lt_of_le hx hW.size, fun i hi => ⟨C2 i, rfl, (hc i hi).1, (hP2 i _ (List.getElem?_eq_getElem hi)).one, fun q v hv => (hW.cell (p := ⟨x, o + i * 3 + q, none⟩) hx).trans ((hc i hi).2 q v hv)⟩⟩)
        (fun hnm i hi W2 hW2 => by
          have hi2 : i < b.parts.length := by omega
          have e1 : a.parts.getD i default = a.parts[i] := by simp [List.getD, hi]
          have e2 : b.parts.getD i default = b.parts[i] := by simp [List.getD, hi2]
          have hWW := hW.trans (hW2.mono hW.size)
          have hd := DSch.depth_part (List.getElem_mem hi)
          simp only [e1, e2]
          exact ih _ _ _ _ W2 (by omega) ((hP i _ (List.getElem?_eq_getElem hi)).more hWW) ((hP2 i _ (List.getElem?_eq_getElem hi2)).more hWW))
      rwa [eqB_list] at this
    clear ih ha hb hA hA2 hP hP2 hwr hwr2 hwz hwz2 hK
    by_cases h1 : a.kind = b.kind
    · have hkk : (a.kind == b.kind) = true := by simpa using h1
      rw [decide_eq_true h1, Bool.true_and] at HSP
      have H1 := hide h1
      clear h1
      cases h2 : decide (a.words = b.words)
      all_goals
        rw [h2] at HCW HSP
        clear h2
        go_enter Try.func18, Try.ntmps18
        go_wp2_with fail
        refine (HCW.out _ HW0.out).mono ?_
        rintro e w1 ⟨rfl, hb1⟩
        have HB1 := hide (HW0.out.trans (hb1.mono HW0.out.size))
        have HX2 := hide (((Blk.new w 25 cs.toArray).alloc (.cells ds.toArray 25)).below hb1 (by simp; omega))
        have HX3 := hide ((Blk.new2 w (.cells cs.toArray 25) 25 ds.toArray).below hb1 (by simp))
        clear hb1
      · go_wp2
        go_ret
        exact ⟨ret_eq (by rw [HSP.out]; rfl), HB1.out⟩
      · have c2 : w1.cell? ⟨w.heap.size, 2, none⟩ = some (.slice Ap a.parts.length cp) := by rw [HX2.out.cell]; simpa using hp1
        have c3 : w1.cell? ⟨w.heap.size + 1, 2, none⟩ = some (.slice Ap2 b.parts.length cp2) := by rw [HX3.out.cell]; simpa using hp2
        go_wp2_with fail
        refine (HCP.out _ HB1.out).mono ?_
        rintro e w2 ⟨rfl, hb2⟩
        have HB2 := hide (HB1.out.trans (hb2.mono HB1.out.size))
        clear hb2
        generalize eqB a.parts b.parts = x at *
        go_wp2
        go_ret
        exact ⟨ret_eq (by rw [HSP.out]; simp), HB2.out⟩
    · have hkk : (a.kind == b.kind) = false := by simpa using h1
      rw [decide_eq_false h1, Bool.false_and] at HSP
      clear h1
      go_enter Try.func18, Try.ntmps18
      go_wp2
      go_ret
      exact ⟨ret_eq (by rw [HSP.out]; rfl), HW0.out⟩
end Go.Proofs.Ytpnjkebjdclkfaa

/- Schemas, walked: whether one is right. Conditions: none. -/
namespace Go.Proofs.Ytpnjkebjdclkfaa
open Go.RowKit

set_option maxHeartbeats 1000000 in
set_option maxRecDepth 20000 in
theorem schG_index (K : Nat) (cap0 : Value) (hK : ∀ (x : Array Value) W, (callFunc K x).run Try.prog W = .ok (.enter K x) W) (n : Nat) (A : Option Addr) (c : Nat) (V : Nat → Value) (p : Nat → Bool) (w : World) (hn : n ≤ 140737488351232)
    (hA : 0 < n → ∃ b o, A = some ⟨b, o, none⟩ ∧ b < w.heap.size ∧ ∀ i, i < n → ∃ cs : List Value, V i = .agg cs.toArray ∧ cs.length = 3 ∧ w.rangeAt b (o + i * 3) cs)
    (hcall : ∀ i, i < n → ∀ W, Below w.heap.size w W → Calls Try.prog K #[V i, cap0] W (Gives (.bool (p i)) W)) :
    Calls Try.prog 127 #[.slice A n c, .func (.func K) #[] #[cap0]] w (IdxPost p n w) := by
  have HA := hide hA
  have HC := hide hcall
  clear hA hcall
  go_enter Try.func127, Try.ntmps127
  go_wp2_with fail
  go_loopw [8] (fun i wr => ∃ (k : Nat), i = .int .i64 k ∧ k ≤ n ∧ (∀ r, r < k → p r = false) ∧ Below w.heap.size w wr) (fun i _ => n - (intOf i).toNat)
  case atStart => exact ⟨0, rfl, Nat.zero_le _, fun r hr => by omega, Below.refl _ _⟩
  case round =>
    obtain ⟨k, rfl, hk, hno, hw⟩ := hrel
    obtain ⟨wo, rfl⟩ : ∃ wo : World, wo = wr := ⟨_, rfl⟩
    have GW := hide hw
    have GN := hide hno
    clear hw hno
    by_cases hlt : k < n
    · obtain ⟨b, o, rfl, hb, hV⟩ := HA.out (by omega)
      have hcall' := HC.out k hlt
      obtain ⟨cs, hv, hc3, hr⟩ := hV k hlt
      have HRW : Hid (wo.rangeAt b (o + k * 3) cs) := hide fun q v hv => (GW.out.cell (p := ⟨b, o + k * 3 + q, none⟩) hb).trans (hr q v hv)
      have HC3 := hide hc3
      clear hr hc3
      cases hx : p k
      all_goals
        have HX := hide hx
        rw [hx] at hcall'
        clear hx hV
        rw [hv] at hcall'

        have HCL := hide hcall'
        clear hcall'
        go_wp2_with (first | (refine wpList_load_mid rfl 25 _ rfl b (o + k * 3) rfl cs _ HRW.out rfl rfl (by rw [HC3.out]; kernel_rfl) ?_) | fail)
        refine (HCL.out _ GW.out).mono ?_
        rintro e w1 ⟨rfl, hb1⟩
        have KW := hide (GW.out.trans (hb1.mono GW.out.size))
        clear hb1
      · go_wp2_with fail
        exact ⟨⟨k + 1, by go_num, by omega, fun r hr => by
          by_cases e : r = k
          · rw [e]; exact HX.out
          · exact GN.out r (by omega), KW.out⟩, by simp [intOf]; omega⟩
      · go_wp2
        go_ret
        exact ⟨.inl ⟨k, hlt, rfl, HX.out, GN.out⟩, KW.out⟩
    · obtain rfl : k = n := by omega
      go_wp2
      go_ret
      exact ⟨.inr ⟨rfl, GN.out⟩, GW.out⟩

set_option maxHeartbeats 400000 in
theorem schG_contains (K : Nat) (cap0 : Value) (hK : ∀ (x : Array Value) W, (callFunc K x).run Try.prog W = .ok (.enter K x) W) (n : Nat) (A : Option Addr) (c : Nat) (V : Nat → Value) (p : Nat → Bool) (w : World) (hn : n ≤ 140737488351232)
    (hA : 0 < n → ∃ b o, A = some ⟨b, o, none⟩ ∧ b < w.heap.size ∧ ∀ i, i < n → ∃ cs : List Value, V i = .agg cs.toArray ∧ cs.length = 3 ∧ w.rangeAt b (o + i * 3) cs)
    (hcall : ∀ i, i < n → ∀ W, Below w.heap.size w W → Calls Try.prog K #[V i, cap0] W (Gives (.bool (p i)) W)) :
    Calls Try.prog 97 #[.slice A n c, .func (.func K) #[] #[cap0]] w (Gives (.bool ((List.range n).any p)) w) := by
  have HI := hide (schG_index K cap0 hK n A c V p w hn hA hcall)
  clear hA hcall hK
  go_enter Try.func97, Try.ntmps97
  go_wp2_with fail
  refine HI.out.mono ?_
  rintro e w1 ⟨hi, hb⟩
  have HB := hide hb
  clear hb
  rcases hi with ⟨k, hk, rfl, hp, hno⟩ | ⟨rfl, hno⟩
  · have hx : (List.range n).any p = true := List.any_eq_true.2 ⟨k, List.mem_range.2 hk, hp⟩
    have HX := hide hx
    clear hx hp hno
    go_wp2
    go_ret
    exact ⟨ret_eq (by rw [HX.out]; rfl), HB.out⟩
  · have hx : (List.range n).any p = false := List.any_eq_false.2 fun r hr => by simp [hno r (List.mem_range.1 hr)]
    have HX := hide hx
    clear hx hno
    go_wp2
    go_ret
    exact ⟨ret_eq (by rw [HX.out]; rfl), HB.out⟩


/-- Right by itself. -/
def plainS (s : DSch) : Bool :=
  if s.kind = 1 ∨ s.kind = 2 ∨ s.kind = 3 then decide (s.words.length = 0) && decide (s.parts.length = 0)
  else if s.kind = 4 then decide (0 < s.words.length) && (namesB s.words && (unlikeB s.words && decide (s.parts.length = 0)))
  else if s.kind = 5 then namesB s.words && (risingB s.words && decide (s.parts.length = s.words.length))
  else if s.kind = 6 then decide (s.words.length = 0) && decide (s.parts.length = 1)
  else false
def rightS : Nat → DSch → Bool
  | 0, _ => false
  | k + 1, s => plainS s && s.parts.all (rightS k)

set_option maxHeartbeats 2000000 in
set_option maxRecDepth 20000 in
theorem schPlain_calls (s : DSch) (cs : List Value) (w : World) (hs : IsSch w (· < w.heap.size) s cs) :
    Calls Try.prog 96 #[.agg cs.toArray] w (Gives (.bool (plainS s)) w) := by
  obtain ⟨hk1, hki⟩ := hs.kind_
  obtain ⟨Aw, cw, hw1, hwr, hwz, hwc, hwm⟩ := hs.words_
  obtain ⟨Ap, cp, C, hp1, hpc, hpm, hP, hA⟩ := hs.partsF
  have HW0 := hide ((Below.refl w.heap.size w).alloc (Nat.le_refl _) (.cells cs.toArray 25))
  have HX := hide (Blk.new w 25 cs.toArray)
  have HCN := hide (fun (W : World) (hW : Below w.heap.size w W) => names_calls s.words Aw cw W (hwr.more hW) hwz (by omega))
  have HCU := hide (fun (W : World) (hW : Below w.heap.size w W) => unlike_calls s.words Aw cw W (hwr.more hW) (by omega) hwc)
  have HCR := hide (fun (W : World) (hW : Below w.heap.size w W) => rising_calls s.words Aw cw W (hwr.more hW) (by omega) hwc)
  have HSP : Hid (plainS s = _) := hide (by unfold plainS; exact rfl)
  have hkb := i64_wf hki
  clear hs hwr hwz hP hA hki
  generalize plainS s = res at *
  generalize namesB s.words = bn at *
  generalize unlikeB s.words = bu at *
  generalize risingB s.words = br at *
  generalize s.words.length = nw at *
  generalize s.parts.length = np at *
  generalize s.kind = kd at *
  have key : kd = 1 ∨ kd = 2 ∨ kd = 3 ∨ kd = 4 ∨ kd = 5 ∨ kd = 6 ∨ (kd ≠ 1 ∧ kd ≠ 2 ∧ kd ≠ 3 ∧ kd ≠ 4 ∧ kd ≠ 5 ∧ kd ≠ 6) := by omega
  rcases key with rfl | rfl | rfl | rfl | rfl | rfl | ⟨n1, n2, n3, n4, n5, n6⟩
  case inr.inr.inr.inr.inr.inr =>
    have e1 : (kd == 1) = false := by simpa using n1
    have e2 : (kd == 2) = false := by simpa using n2
    have e3 : (kd == 3) = false := by simpa using n3
    have e4 : (kd == 4) = false := by simpa using n4
    have e5 : (kd == 5) = false := by simpa using n5
    have e6 : (kd == 6) = false := by simpa using n6
    have HR : Hid (res = false) := hide (by rw [HSP.out]; simp [n1, n2, n3, n4, n5, n6])
    clear n1 n2 n3 n4 n5 n6 HSP
    go_enter Try.func96, Try.ntmps96
    go_wp2
    go_ret
    exact ⟨ret_eq (by rw [HR.out]; rfl), HW0.out⟩
  case inr.inr.inr.inl =>
    have HR : Hid (res = (decide (0 < nw) && (bn && (bu && decide (np = 0))))) := hide (by rw [HSP.out]; simp)
    clear HSP
    by_cases h0 : 0 < nw
    · rw [decide_eq_true h0, Bool.true_and] at HR
      have h0' : decide ((0 : Int) < (nw : Int)) = true := by simp; omega
      cases bn
      all_goals
        go_enter Try.func96, Try.ntmps96
        go_wp2_with fail
        refine (HCN.out _ HW0.out).mono ?_
        rintro e w1 ⟨rfl, hb1⟩
        have HB1 := hide (HW0.out.trans (hb1.mono HW0.out.size))
        have HX1 := hide (HX.out.below hb1 HX.out.lt)
        clear hb1
      · go_wp2
        go_ret
        exact ⟨ret_eq (by rw [HR.out]; rfl), HB1.out⟩
      · rw [Bool.true_and] at HR
        have c1 : w1.cell? ⟨w.heap.size, 1, none⟩ = some (.slice Aw nw cw) := by rw [HX1.out.cell]; simpa using hw1
        have c2 : w1.cell? ⟨w.heap.size, 2, none⟩ = some (.slice Ap np cp) := by rw [HX1.out.cell]; simpa using hp1
        cases bu
        all_goals
          go_wp2_with fail
          refine (HCU.out _ HB1.out).mono ?_
          rintro e w2 ⟨rfl, rfl⟩
          go_wp2
          go_ret
          exact ⟨ret_eq (by rw [HR.out]; first | rfl | (simp; done) | (simp; omega) | (simp; rw [Bool.eq_iff_iff]; simp; omega) | (rw [Bool.eq_iff_iff]; simp; omega) | (simp; rw [Bool.eq_iff_iff]; simp)), HB1.out⟩
    · rw [decide_eq_false h0, Bool.false_and] at HR
      have h0' : decide ((0 : Int) < (nw : Int)) = false := by simp; omega
      go_enter Try.func96, Try.ntmps96
      go_wp2
      go_ret
      exact ⟨ret_eq (by rw [HR.out]; rfl), HW0.out⟩
  case inr.inr.inr.inr.inl =>
    have HR : Hid (res = (bn && (br && decide (np = nw)))) := hide (by rw [HSP.out]; simp)
    clear HSP
    cases bn
    all_goals
      go_enter Try.func96, Try.ntmps96
      go_wp2_with fail
      refine (HCN.out _ HW0.out).mono ?_
      rintro e w1 ⟨rfl, hb1⟩
      have HB1 := hide (HW0.out.trans (hb1.mono HW0.out.size))
      have HX1 := hide (HX.out.below hb1 HX.out.lt)
      clear hb1
    · go_wp2
      go_ret
      exact ⟨ret_eq (by rw [HR.out]; rfl), HB1.out⟩
    · rw [Bool.true_and] at HR
      have c1 : w1.cell? ⟨w.heap.size, 1, none⟩ = some (.slice Aw nw cw) := by rw [HX1.out.cell]; simpa using hw1
      cases br
      all_goals
        go_wp2_with fail
        refine (HCR.out _ HB1.out).mono ?_
        rintro e w2 ⟨rfl, hb2⟩
        have HB2 := hide (HB1.out.trans (hb2.mono HB1.out.size))
        have HX2 := hide (HX1.out.below hb2 HX1.out.lt)
        clear hb2
        have d1 : w2.cell? ⟨w.heap.size, 1, none⟩ = some (.slice Aw nw cw) := by rw [HX2.out.cell]; simpa using hw1
        have d2 : w2.cell? ⟨w.heap.size, 2, none⟩ = some (.slice Ap np cp) := by rw [HX2.out.cell]; simpa using hp1
        go_wp2
        go_ret
        exact ⟨ret_eq (by rw [HR.out]; first | rfl | (simp; done) | (simp; omega) | (simp; rw [Bool.eq_iff_iff]; simp; omega) | (rw [Bool.eq_iff_iff]; simp; omega) | (simp; rw [Bool.eq_iff_iff]; simp)), HB2.out⟩
  case inr.inr.inr.inr.inr.inl =>
    have HR : Hid (res = (decide (nw = 0) && decide (np = 1))) := hide (by rw [HSP.out]; simp)
    clear HSP
    by_cases h0 : nw = 0
    · have h0' : ((nw : Int) == 0) = true := by simp [h0]
      rw [decide_eq_true h0, Bool.true_and] at HR
      clear h0
      go_enter Try.func96, Try.ntmps96
      go_wp2
      go_ret
      exact ⟨ret_eq (by rw [HR.out]; first | rfl | (simp; done) | (simp; omega) | (simp; rw [Bool.eq_iff_iff]; simp; omega) | (rw [Bool.eq_iff_iff]; simp; omega) | (simp; rw [Bool.eq_iff_iff]; simp)), HW0.out⟩
    · have h0' : ((nw : Int) == 0) = false := by simpa using h0
      rw [decide_eq_false h0, Bool.false_and] at HR
      clear h0
      go_enter Try.func96, Try.ntmps96
      go_wp2
      go_ret
      exact ⟨ret_eq (by rw [HR.out]; first | rfl | (simp; done) | (simp; omega) | (simp; rw [Bool.eq_iff_iff]; simp; omega) | (rw [Bool.eq_iff_iff]; simp; omega) | (simp; rw [Bool.eq_iff_iff]; simp)), HW0.out⟩
  all_goals
    have HR : Hid (res = (decide (nw = 0) && decide (np = 0))) := hide (by rw [HSP.out]; simp)
    clear HSP
    by_cases h0 : nw = 0
    · have h0' : ((nw : Int) == 0) = true := by simp [h0]
      rw [decide_eq_true h0, Bool.true_and] at HR
      clear h0
      go_enter Try.func96, Try.ntmps96
      go_wp2
      go_ret
      exact ⟨ret_eq (by rw [HR.out]; first | rfl | (simp; done) | (simp; omega) | (simp; rw [Bool.eq_iff_iff]; simp; omega) | (rw [Bool.eq_iff_iff]; simp; omega) | (simp; rw [Bool.eq_iff_iff]; simp)), HW0.out⟩
    · have h0' : ((nw : Int) == 0) = false := by simpa using h0
      rw [decide_eq_false h0, Bool.false_and] at HR
      clear h0
      go_enter Try.func96, Try.ntmps96
      go_wp2
      go_ret
      exact ⟨ret_eq (by rw [HR.out]; first | rfl | (simp; done) | (simp; omega) | (simp; rw [Bool.eq_iff_iff]; simp; omega) | (rw [Bool.eq_iff_iff]; simp; omega) | (simp; rw [Bool.eq_iff_iff]; simp)), HW0.out⟩
end Go.Proofs.Ytpnjkebjdclkfaa

/- Schemas, walked: whether one is right, with its parts. Conditions: none. -/
namespace Go.Proofs.Ytpnjkebjdclkfaa
open Go.RowKit

/-- The load of a whole block by a guarded operation that is wanted. -/
theorem wpList_load_blkG {P : Program} {ops : Array Oper} {rest : List Oper} {o : Oper} {a : Act} {w : World} {Q : Exit → Act → World → Prop} (hw : Region.wanted o (yielded ops a.tmps) = true)
    (ty : TypeId) (x : Operand) (ho : o.op = .load ty x) (g : Nat) (hx : a.eval x = .pointer (some ⟨g, 0, none⟩)) (t : TypeId) (cs : List Value) (hb : Blk w g t cs.toArray) (d : TypeDesc)
    (hu : P.underlying ty = some d) (hd : d.isRow = true) (hi : (P.info? ty).map (·.size) = some cs.length) (h : wpList P ops Q rest (a.put o.dst (.agg cs.toArray)) w) : wpList P ops Q (o :: rest) a w :=
  wpList_step fun K hK => by
    simp only [hw, if_true]
    exact wp_load_mid ty x ho g 0 hx cs d (fun j v hv => by rw [Nat.zero_add, hb.cell]; simpa using hv) hu hd hi (hK _ _ h)

theorem all_getD (l : List DSch) (f : DSch → Bool) : ((List.range l.length).any fun i => !f (l.getD i default)) = !l.all f := by
  rw [Bool.eq_iff_iff, List.any_eq_true]
  simp only [Bool.not_eq_true', List.all_eq_false, List.mem_range]
  constructor
  · rintro ⟨i, hi, h⟩
    exact ⟨l.getD i default, by simp [List.getD, hi], by rw [h]; simp⟩
  · rintro ⟨x, hx, h⟩
    obtain ⟨i, hi, rfl⟩ := List.getElem_of_mem hx
    exact ⟨i, hi, by simpa [List.getD, hi] using h⟩

set_option maxHeartbeats 2000000 in
set_option maxRecDepth 20000 in
theorem schRight_calls (k : Nat) : ∀ (s : DSch) (cs : List Value) (w : World), k ≤ 1000 → IsSch w (· < w.heap.size) s cs →
    Calls Try.prog 60 #[.agg cs.toArray, .int .i64 k] w (Gives (.bool (rightS k s)) w) := by
  induction k with
  | zero =>
    intro s cs w hk hs
    go_enter Try.func60, Try.ntmps60
    go_wp2
    go_ret
    exact ⟨ret_eq rfl, ((Below.refl _ _).alloc (Nat.le_refl _) _).alloc (by simp) _⟩
  | succ k ih =>
    intro s cs w hk hs
    obtain ⟨Ap, cp, C, hp1, hpc, hpm, hP, hA⟩ := hs.partsF
    have HW0 := hide (((Below.refl w.heap.size w).alloc (Nat.le_refl _) (.cells cs.toArray 25)).alloc (by simp) (.cells #[.int .i64 ((k : Int) + 1)] 3))
    have HX := hide ((Blk.new w 25 cs.toArray).alloc (.cells #[.int .i64 ((k : Int) + 1)] 3))
    have HY := hide (Blk.new2 w (.cells cs.toArray 25) 3 #[.int .i64 ((k : Int) + 1)])
    have HL := hide (show (Try.prog.info? 25).map (·.size) = some cs.length by rw [hs.length]; kernel_rfl)
    have HCP := hide (fun (W : World) (hW : Below w.heap.size w W) => schPlain_calls s cs W (hs.more hW))
    have HK1 : ∀ (W : World) (p : DSch) (D : List Value) (g : Nat), IsSch W (· < W.heap.size) p D → Blk W g 3 #[.int .i64 ((k : Int) + 1)] → Calls Try.prog 98 #[.agg D.toArray, .pointer (some ⟨g, 0, none⟩)] W (Gives (.bool (!rightS k p)) W) := by
      intro W p D g hp hg
      have hgl := hg.lt
      have B0 := (Below.refl W.heap.size W).alloc (Nat.le_refl _) (.cells D.toArray 25)
      have c0 : (W.alloc (.cells D.toArray 25)).cell? ⟨g, 0, none⟩ = some (.int .i64 ((k : Int) + 1)) := (hg.alloc _).cell 0
      have HI := hide (ih p D _ (by omega) (hp.more B0))
      have HB := hide (Blk.new W 25 D.toArray)
      have HB0 := hide B0
      have HL := hide (show (Try.prog.info? 25).map (·.size) = some D.toArray.size by rw [List.size_toArray, hp.length]; kernel_rfl)
      clear hp hg B0 ih hs hP hA
      go_enter Try.func98, Try.ntmps98
      go_wp2_with (first | (refine wpList_load_blk rfl 25 _ rfl _ rfl _ _ HB.out _ rfl rfl HL.out ?_) | fail)
      refine HI.out.mono ?_
      rintro e w1 ⟨rfl, hb1⟩
      have HB1 := hide (HB0.out.trans (hb1.mono HB0.out.size))
      clear hb1
      go_wp2
      go_ret
      exact ⟨ret_eq rfl, HB1.out⟩
    have HCC : Hid (∀ (W : World) (hW : Below w.heap.size w W) (hg : Blk W (w.heap.size + 1) 3 #[.int .i64 ((k : Int) + 1)]), Calls Try.prog 97 #[.slice Ap s.parts.length cp, .func (.func 98) #[] #[.pointer (some ⟨w.heap.size + 1, 0, none⟩)]] W (Gives (.bool (!s.parts.all (rightS k))) W)) := hide fun W hW hg => by
      have := schG_contains 98 (.pointer (some ⟨w.heap.size + 1, 0, none⟩)) (fun _ _ => by kernel_rfl) s.parts.length Ap cp (fun i => .agg (C i).toArray) (fun i => !rightS k (s.parts.getD i default)) W (by omega)
        (fun h0 => by
          obtain ⟨x, o, e, hx, hc⟩ := hA h0
          exact ⟨x, o, e, Nat.lt_of_lt_of_le hx hW.size, fun i hi => ⟨C i, rfl, (hc i hi).1, fun q v hv => (hW.cell (p := ⟨x, o + i * 3 + q, none⟩) hx).trans ((hc i hi).2 q v hv)⟩⟩)
        (fun i hi W2 hW2 => by
          have e1 : s.parts.getD i default = s.parts[i] := by simp [List.getD, hi]
          rw [e1]
          exact HK1 W2 _ _ _ ((hP i _ (List.getElem?_eq_getElem hi)).more (hW.trans (hW2.mono hW.size))) (hg.below hW2 hg.lt))
      rwa [all_getD] at this
    have HSP : Hid (rightS (k + 1) s = (plainS s && s.parts.all (rightS k))) := hide rfl
    clear ih hs hP hA HK1
    cases hpl : plainS s
    all_goals
      rw [hpl] at HCP HSP
      clear hpl
      go_enter Try.func60, Try.ntmps60
      go_wp2_with (first | (refine wpList_load_blkG (by rfl) 25 _ rfl _ rfl _ cs HX.out _ rfl rfl HL.out ?_) | fail)
      refine (HCP.out _ HW0.out).mono ?_
      rintro e w1 ⟨rfl, hb1⟩
      have HB1 := hide (HW0.out.trans (hb1.mono HW0.out.size))
      have HX1 := hide (HX.out.below hb1 HX.out.lt)
      have HY1 := hide (HY.out.below hb1 HY.out.lt)
      clear hb1
    · go_wp2
      go_ret
      exact ⟨ret_eq (by rw [HSP.out]; rfl), HB1.out⟩
    · rw [Bool.true_and] at HSP
      have c2 : w1.cell? ⟨w.heap.size, 2, none⟩ = some (.slice Ap s.parts.length cp) := by rw [HX1.out.cell]; simpa using hp1
      go_wp2_with fail
      refine (HCC.out _ HB1.out HY1.out).mono ?_
      rintro e w2 ⟨rfl, hb2⟩
      have HB2 := hide (HB1.out.trans (hb2.mono HB1.out.size))
      clear hb2
      generalize s.parts.all (rightS k) = x at *
      go_wp2
      go_ret
      exact ⟨ret_eq (by rw [HSP.out]; first | rfl | (simp; done) | (simp; omega) | (simp; rw [Bool.eq_iff_iff]; simp; omega) | (rw [Bool.eq_iff_iff]; simp; omega) | (simp; rw [Bool.eq_iff_iff]; simp)), HB2.out⟩

set_option maxHeartbeats 400000 in
set_option maxRecDepth 20000 in
theorem schRightP_calls (s : DSch) (cs : List Value) (w : World) (hs : IsSch w (· < w.heap.size) s cs) :
    Calls Try.prog 15 #[.agg cs.toArray] w (Gives (.bool (rightS 5 s)) w) := by
  have HW0 := hide ((Below.refl w.heap.size w).alloc (Nat.le_refl _) (.cells cs.toArray 25))
  have HX := hide (Blk.new w 25 cs.toArray)
  have HL := hide (show (Try.prog.info? 25).map (·.size) = some cs.toArray.size by rw [List.size_toArray, hs.length]; kernel_rfl)
  have HC := hide (schRight_calls 5 s cs _ (by omega) (hs.more HW0.out))
  clear hs
  go_enter Try.func15, Try.ntmps15
  go_wp2_with (first | (refine wpList_load_blk rfl 25 _ rfl _ rfl _ _ HX.out _ rfl rfl HL.out ?_) | fail)
  refine HC.out.mono ?_
  rintro e w1 ⟨rfl, hb1⟩
  have HB1 := hide (HW0.out.trans (hb1.mono HW0.out.size))
  clear hb1
  go_wp2
  go_ret
  exact ⟨ret_eq rfl, HB1.out⟩

def scalarS (k : Int) : Bool := decide (1 ≤ k ∧ k ≤ 4)
set_option maxHeartbeats 400000 in
theorem schScalar_calls (s : DSch) (cs : List Value) (w : World) (hs : IsSch w (· < w.heap.size) s cs) :
    Calls Try.prog 23 #[.agg cs.toArray] w (Gives (.bool (scalarS s.kind)) w) := by
  have HW0 := hide ((Below.refl w.heap.size w).alloc (Nat.le_refl _) (.cells cs.toArray 25))
  obtain ⟨hk1, hki⟩ := hs.kind_
  clear hs
  generalize s.kind = kd at *
  have key : kd < 1 ∨ (1 ≤ kd ∧ kd ≤ 4) ∨ 4 < kd := by omega
  rcases key with h | h | h
  all_goals
    first
      | (have HD : Hid (scalarS kd = true) := hide (decide_eq_true (by omega)); have h' := h.1; have h'' := h.2)
      | (have HD : Hid (scalarS kd = false) := hide (decide_eq_false (by omega)))
    go_enter Try.func23, Try.ntmps23
    go_wp2
    go_ret
    exact ⟨ret_eq (by rw [HD.out]; first | rfl | (simp; done) | (simp; omega) | (simp; rw [Bool.eq_iff_iff]; simp; omega) | (rw [Bool.eq_iff_iff]; simp; omega) | (simp; rw [Bool.eq_iff_iff]; simp)), HW0.out⟩
end Go.Proofs.Ytpnjkebjdclkfaa

/- Values, walked: whether one is right, with its parts. Conditions: none. -/
namespace Go.Proofs.Ytpnjkebjdclkfaa
open Go.RowKit

set_option maxHeartbeats 1000000 in
set_option maxRecDepth 20000 in
theorem valG_index (K : Nat) (cap0 : Value) (hK : ∀ (x : Array Value) W, (callFunc K x).run Try.prog W = .ok (.enter K x) W) (n : Nat) (A : Option Addr) (c : Nat) (V : Nat → Value) (p : Nat → Bool) (w : World) (hn : n ≤ 140737488351232)
    (hA : 0 < n → ∃ b o, A = some ⟨b, o, none⟩ ∧ b < w.heap.size ∧ ∀ i, i < n → ∃ cs : List Value, V i = .agg cs.toArray ∧ cs.length = 6 ∧ w.rangeAt b (o + i * 6) cs)
    (hcall : ∀ i, i < n → ∀ W, Below w.heap.size w W → Calls Try.prog K #[V i, cap0] W (Gives (.bool (p i)) W)) :
    Calls Try.prog 139 #[.slice A n c, .func (.func K) #[] #[cap0]] w (IdxPost p n w) := by
  have HA := hide hA
  have HC := hide hcall
  clear hA hcall
  go_enter Try.func139, Try.ntmps139
  go_wp2_with fail
  go_loopw [8] (fun i wr => ∃ (k : Nat), i = .int .i64 k ∧ k ≤ n ∧ (∀ r, r < k → p r = false) ∧ Below w.heap.size w wr) (fun i _ => n - (intOf i).toNat)
  case atStart => exact ⟨0, rfl, Nat.zero_le _, fun r hr => by omega, Below.refl _ _⟩
  case round =>
    obtain ⟨k, rfl, hk, hno, hw⟩ := hrel
    obtain ⟨wo, rfl⟩ : ∃ wo : World, wo = wr := ⟨_, rfl⟩
    have GW := hide hw
    have GN := hide hno
    clear hw hno
    by_cases hlt : k < n
    · obtain ⟨b, o, rfl, hb, hV⟩ := HA.out (by omega)
      have hcall' := HC.out k hlt
      obtain ⟨cs, hv, hc3, hr⟩ := hV k hlt
      have HRW : Hid (wo.rangeAt b (o + k * 6) cs) := hide fun q v hv => (GW.out.cell (p := ⟨b, o + k * 6 + q, none⟩) hb).trans (hr q v hv)
      have HC3 := hide hc3
      clear hr hc3
      cases hx : p k
      all_goals
        have HX := hide hx
        rw [hx] at hcall'
        clear hx hV
        rw [hv] at hcall'

        have HCL := hide hcall'
        clear hcall'
        go_wp2_with (first | (refine wpList_load_mid rfl 31 _ rfl b (o + k * 6) rfl cs _ HRW.out rfl rfl (by rw [HC3.out]; kernel_rfl) ?_) | fail)
        refine (HCL.out _ GW.out).mono ?_
        rintro e w1 ⟨rfl, hb1⟩
        have KW := hide (GW.out.trans (hb1.mono GW.out.size))
        clear hb1
      · go_wp2_with fail
        exact ⟨⟨k + 1, by go_num, by omega, fun r hr => by
          by_cases e : r = k
          · rw [e]; exact HX.out
          · exact GN.out r (by omega), KW.out⟩, by simp [intOf]; omega⟩
      · go_wp2
        go_ret
        exact ⟨.inl ⟨k, hlt, rfl, HX.out, GN.out⟩, KW.out⟩
    · obtain rfl : k = n := by omega
      go_wp2
      go_ret
      exact ⟨.inr ⟨rfl, GN.out⟩, GW.out⟩

set_option maxHeartbeats 400000 in
theorem valG_contains (K : Nat) (cap0 : Value) (hK : ∀ (x : Array Value) W, (callFunc K x).run Try.prog W = .ok (.enter K x) W) (n : Nat) (A : Option Addr) (c : Nat) (V : Nat → Value) (p : Nat → Bool) (w : World) (hn : n ≤ 140737488351232)
    (hA : 0 < n → ∃ b o, A = some ⟨b, o, none⟩ ∧ b < w.heap.size ∧ ∀ i, i < n → ∃ cs : List Value, V i = .agg cs.toArray ∧ cs.length = 6 ∧ w.rangeAt b (o + i * 6) cs)
    (hcall : ∀ i, i < n → ∀ W, Below w.heap.size w W → Calls Try.prog K #[V i, cap0] W (Gives (.bool (p i)) W)) :
    Calls Try.prog 113 #[.slice A n c, .func (.func K) #[] #[cap0]] w (Gives (.bool ((List.range n).any p)) w) := by
  have HI := hide (valG_index K cap0 hK n A c V p w hn hA hcall)
  clear hA hcall hK
  go_enter Try.func113, Try.ntmps113
  go_wp2_with fail
  refine HI.out.mono ?_
  rintro e w1 ⟨hi, hb⟩
  have HB := hide hb
  clear hb
  rcases hi with ⟨k, hk, rfl, hp, hno⟩ | ⟨rfl, hno⟩
  · have hx : (List.range n).any p = true := List.any_eq_true.2 ⟨k, List.mem_range.2 hk, hp⟩
    have HX := hide hx
    clear hx hp hno
    go_wp2
    go_ret
    exact ⟨ret_eq (by rw [HX.out]; rfl), HB.out⟩
  · have hx : (List.range n).any p = false := List.any_eq_false.2 fun r hr => by simp [hno r (List.mem_range.1 hr)]
    have HX := hide hx
    clear hx hno
    go_wp2
    go_ret
    exact ⟨ret_eq (by rw [HX.out]; rfl), HB.out⟩


instance : Inhabited DVal := ⟨.mk 0 0 [] [] [] []⟩
def rightV : Nat → DVal → Bool
  | 0, _ => false
  | k + 1, s => plainV s && s.parts.all (rightV k)

theorem all_getDV (l : List DVal) (f : DVal → Bool) : ((List.range l.length).any fun i => !f (l.getD i default)) = !l.all f := by
  rw [Bool.eq_iff_iff, List.any_eq_true]
  simp only [Bool.not_eq_true', List.all_eq_false, List.mem_range]
  constructor
  · rintro ⟨i, hi, h⟩
    exact ⟨l.getD i default, by simp [List.getD, hi], by rw [h]; simp⟩
  · rintro ⟨x, hx, h⟩
    obtain ⟨i, hi, rfl⟩ := List.getElem_of_mem hx
    exact ⟨i, hi, by simpa [List.getD, hi] using h⟩

set_option maxHeartbeats 2000000 in
set_option maxRecDepth 20000 in
theorem valRight_calls (k : Nat) : ∀ (s : DVal) (cs : List Value) (w : World), k ≤ 1000 → IsVal w (· < w.heap.size) s cs →
    Calls Try.prog 81 #[.agg cs.toArray, .int .i64 k] w (Gives (.bool (rightV k s)) w) := by
  induction k with
  | zero =>
    intro s cs w hk hs
    go_enter Try.func81, Try.ntmps81
    go_wp2
    go_ret
    exact ⟨ret_eq rfl, ((Below.refl _ _).alloc (Nat.le_refl _) _).alloc (by simp) _⟩
  | succ k ih =>
    intro s cs w hk hs
    obtain ⟨Ap, cp, C, hp1, hpc, hpm, hP, hA⟩ := hs.partsF
    have HW0 := hide (((Below.refl w.heap.size w).alloc (Nat.le_refl _) (.cells cs.toArray 31)).alloc (by simp) (.cells #[.int .i64 ((k : Int) + 1)] 3))
    have HX := hide ((Blk.new w 31 cs.toArray).alloc (.cells #[.int .i64 ((k : Int) + 1)] 3))
    have HY := hide (Blk.new2 w (.cells cs.toArray 31) 3 #[.int .i64 ((k : Int) + 1)])
    have HL := hide (show (Try.prog.info? 31).map (·.size) = some cs.length by rw [hs.length]; kernel_rfl)
    have HCP := hide (fun (W : World) (hW : Below w.heap.size w W) => valPlain_calls s cs W (hs.more hW))
    have HK1 : ∀ (W : World) (p : DVal) (D : List Value) (g : Nat), IsVal W (· < W.heap.size) p D → Blk W g 3 #[.int .i64 ((k : Int) + 1)] → Calls Try.prog 114 #[.agg D.toArray, .pointer (some ⟨g, 0, none⟩)] W (Gives (.bool (!rightV k p)) W) := by
      intro W p D g hp hg
      have hgl := hg.lt
      have B0 := (Below.refl W.heap.size W).alloc (Nat.le_refl _) (.cells D.toArray 31)
      have c0 : (W.alloc (.cells D.toArray 31)).cell? ⟨g, 0, none⟩ = some (.int .i64 ((k : Int) + 1)) := (hg.alloc _).cell 0
      have HI := hide (ih p D _ (by omega) (hp.more B0))
      have HB := hide (Blk.new W 31 D.toArray)
      have HB0 := hide B0
      have HL := hide (show (Try.prog.info? 31).map (·.size) = some D.toArray.size by rw [List.size_toArray, hp.length]; kernel_rfl)
      clear hp hg B0 ih hs hP hA
      go_enter Try.func114, Try.ntmps114
      go_wp2_with (first | (refine wpList_load_blk rfl 31 _ rfl _ rfl _ _ HB.out _ rfl rfl HL.out ?_) | fail)
      refine HI.out.mono ?_
      rintro e w1 ⟨rfl, hb1⟩
      have HB1 := hide (HB0.out.trans (hb1.mono HB0.out.size))
      clear hb1
      go_wp2
      go_ret
      exact ⟨ret_eq rfl, HB1.out⟩
    have HCC : Hid (∀ (W : World) (hW : Below w.heap.size w W) (hg : Blk W (w.heap.size + 1) 3 #[.int .i64 ((k : Int) + 1)]), Calls Try.prog 113 #[.slice Ap s.parts.length cp, .func (.func 114) #[] #[.pointer (some ⟨w.heap.size + 1, 0, none⟩)]] W (Gives (.bool (!s.parts.all (rightV k))) W)) := hide fun W hW hg => by
      have := valG_contains 114 (.pointer (some ⟨w.heap.size + 1, 0, none⟩)) (fun _ _ => by kernel_rfl) s.parts.length Ap cp (fun i => .agg (C i).toArray) (fun i => !rightV k (s.parts.getD i default)) W (by omega)
        (fun h0 => by
          obtain ⟨x, o, e, hx, hc⟩ := hA h0
          exact ⟨x, o, e, Nat.lt_of_lt_of_le hx hW.size, fun i hi => ⟨C i, rfl, (hc i hi).1, fun q v hv => (hW.cell (p := ⟨x, o + i * 6 + q, none⟩) hx).trans ((hc i hi).2 q v hv)⟩⟩)
        (fun i hi W2 hW2 => by
          have e1 : s.parts.getD i default = s.parts[i] := by simp [List.getD, hi]
          rw [e1]
          exact HK1 W2 _ _ _ ((hP i _ (List.getElem?_eq_getElem hi)).more (hW.trans (hW2.mono hW.size))) (hg.below hW2 hg.lt))
      rwa [all_getDV] at this
    have HSP : Hid (rightV (k + 1) s = (plainV s && s.parts.all (rightV k))) := hide rfl
    clear ih hs hP hA HK1
    cases hpl : plainV s
    all_goals
      rw [hpl] at HCP HSP
      clear hpl
      go_enter Try.func81, Try.ntmps81
      go_wp2_with (first | (refine wpList_load_blkG (by rfl) 31 _ rfl _ rfl _ cs HX.out _ rfl rfl HL.out ?_) | fail)
      refine (HCP.out _ HW0.out).mono ?_
      rintro e w1 ⟨rfl, hb1⟩
      have HB1 := hide (HW0.out.trans (hb1.mono HW0.out.size))
      have HX1 := hide (HX.out.below hb1 HX.out.lt)
      have HY1 := hide (HY.out.below hb1 HY.out.lt)
      clear hb1
    · go_wp2
      go_ret
      exact ⟨ret_eq (by rw [HSP.out]; rfl), HB1.out⟩
    · rw [Bool.true_and] at HSP
      have c2 : w1.cell? ⟨w.heap.size, 5, none⟩ = some (.slice Ap s.parts.length cp) := by rw [HX1.out.cell]; simpa using hp1
      go_wp2_with fail
      refine (HCC.out _ HB1.out HY1.out).mono ?_
      rintro e w2 ⟨rfl, hb2⟩
      have HB2 := hide (HB1.out.trans (hb2.mono HB1.out.size))
      clear hb2
      generalize s.parts.all (rightV k) = x at *
      go_wp2
      go_ret
      exact ⟨ret_eq (by rw [HSP.out]; first | rfl | (simp; done) | (simp; omega) | (simp; rw [Bool.eq_iff_iff]; simp; omega) | (rw [Bool.eq_iff_iff]; simp; omega) | (simp; rw [Bool.eq_iff_iff]; simp)), HB2.out⟩

set_option maxHeartbeats 400000 in
set_option maxRecDepth 20000 in
theorem valRightP_calls (s : DVal) (cs : List Value) (w : World) (hs : IsVal w (· < w.heap.size) s cs) :
    Calls Try.prog 44 #[.agg cs.toArray] w (Gives (.bool (rightV 5 s)) w) := by
  have HW0 := hide ((Below.refl w.heap.size w).alloc (Nat.le_refl _) (.cells cs.toArray 31))
  have HX := hide (Blk.new w 31 cs.toArray)
  have HL := hide (show (Try.prog.info? 31).map (·.size) = some cs.toArray.size by rw [List.size_toArray, hs.length]; kernel_rfl)
  have HC := hide (valRight_calls 5 s cs _ (by omega) (hs.more HW0.out))
  clear hs
  go_enter Try.func44, Try.ntmps44
  go_wp2_with (first | (refine wpList_load_blk rfl 31 _ rfl _ rfl _ _ HX.out _ rfl rfl HL.out ?_) | fail)
  refine HC.out.mono ?_
  rintro e w1 ⟨rfl, hb1⟩
  have HB1 := hide (HW0.out.trans (hb1.mono HW0.out.size))
  clear hb1
  go_wp2
  go_ret
  exact ⟨ret_eq rfl, HB1.out⟩


end Go.Proofs.Ytpnjkebjdclkfaa

/- Values, walked: depths. Conditions: none. -/
namespace Go.Proofs.Ytpnjkebjdclkfaa
open Go.RowKit

set_option maxHeartbeats 1000000 in
set_option maxRecDepth 20000 in
theorem valDepth_calls (k : Nat) : ∀ (s : DVal) (cs : List Value) (w : World), s.depth ≤ k → k ≤ 1000000 → IsVal w (· < w.heap.size) s cs →
    Calls Try.prog 45 #[.agg cs.toArray] w (Gives (.int .i64 s.depth) w) := by
  induction k with
  | zero => intro s cs w h; have := s.depth_pos; omega
  | succ k ih =>
    intro s cs w hk hkk hs
    obtain ⟨Ap, cp, hc, hcp, hmp, hA⟩ := hs.parts_
    have HI := hide ih
    have HA := hide hA
    have HS := hide hs
    have HD := hide s.depth_eq
    have hdp := s.depth_eq
    have HB0 := hide (Blk.new w 31 cs.toArray)
    have HW0 := hide ((Below.refl w.heap.size w).alloc (Nat.le_refl _) (.cells cs.toArray 31))
    have HP := hide (fun p (h : p ∈ s.parts) => DVal.depth_part h)
    clear ih hA hs
    go_enter Try.func45, Try.ntmps45
    go_wp2_with fail
    go_loopw [3, 9] (fun nv iv wr => ∃ (i : Nat), iv = .int .i64 i ∧ i ≤ s.parts.length ∧ nv = .int .i64 (DVal.depths (s.parts.take i)) ∧ Below w.heap.size w wr) (fun _ iv _ => s.parts.length - (intOf iv).toNat)
    case atStart => exact ⟨0, rfl, Nat.zero_le _, rfl, HW0.out⟩
    case round =>
      obtain ⟨i, rfl, hi, rfl, hw⟩ := hrel
      obtain ⟨wo, rfl⟩ : ∃ wo : World, wo = wr := ⟨_, rfl⟩
      have GW := hide hw
      clear hw HB0 HW0
      have hle := DVal.depths_le s.parts i
      by_cases hlt : i < s.parts.length
      · obtain ⟨b, o, rfl, hb, hC⟩ := HA.out (by omega)
        obtain ⟨C, hl3, hr, hpi⟩ := hC i _ (List.getElem?_eq_getElem hlt)
        have HRW : Hid (wo.rangeAt b (o + i * 6) C) := hide fun q v hv => (GW.out.cell (p := ⟨b, o + i * 6 + q, none⟩) hb).trans (hr q v hv)
        have HL3 := hide hl3
        have hone := hpi.one
        have HONE := hide hone
        have HPI := hide hpi
        have HT := hide (DVal.depths_take s.parts i hlt)
        have hpd := HP.out _ (List.getElem_mem hlt)
        clear hC hl3 hr hpi hone
        generalize s.parts[i] = p at *
        generalize DVal.depths (s.parts.take i) = m at *
        have hst := fun (W : World) => run_store_new (P := Try.prog) W 31 [.int .i64 0, .int .i64 0, .string ⟨#[]⟩, .slice none 0 0, .slice none 0 0, .slice none 0 0] C (by rw [HL3.out]; rfl) HONE.out
        go_wp2_with (first
          | (refine wpList_load_mid rfl 31 _ rfl b (o + i * 6) rfl C _ HRW.out rfl rfl (by rw [HL3.out]; kernel_rfl) ?_)
          | (refine wpList_load_blk rfl 31 _ rfl _ rfl _ _ (Blk.new _ _ _) _ rfl rfl (by rw [List.size_toArray, HL3.out]; kernel_rfl) ?_)
          | fail)
        have K6 := hide (GW.out.alloc GW.out.size (.cells C.toArray 31))
        clear HRW
        refine (HI.out p C _ (by omega) (by omega) (HPI.out.more K6.out)).mono ?_
        rintro e w1 ⟨rfl, hb1⟩
        have KW := hide (K6.out.trans (hb1.mono K6.out.size))
        clear hb1
        go_wp2_with fail
        exact ⟨⟨i + 1, by go_num, by omega, by rw [HT.out]; go_num, KW.out⟩, by simp [intOf]; omega⟩
      · have HE : Hid (DVal.depths (s.parts.take i) + 1 = s.depth) := hide (by rw [List.take_of_length_le (by omega), HD.out])
        generalize DVal.depths (s.parts.take i) = m at *
        go_wp2
        go_ret
        exact ⟨ret_eq (by rw [← HE.out]; first | rfl | go_num), GW.out⟩


set_option maxHeartbeats 1000000 in
set_option maxRecDepth 20000 in
theorem refValDepth_calls (k : Nat) : ∀ (s : DVal) (cs : List Value) (w : World), s.depth ≤ k → k ≤ 1000000 → IsVal w (· < w.heap.size) s cs →
    Calls Try.prog 46 #[.agg cs.toArray] w (Gives (.int .i64 s.depth) w) := by
  induction k with
  | zero => intro s cs w h; have := s.depth_pos; omega
  | succ k ih =>
    intro s cs w hk hkk hs
    obtain ⟨Ap, cp, hc, hcp, hmp, hA⟩ := hs.parts_
    have HI := hide ih
    have HA := hide hA
    have HS := hide hs
    have HD := hide s.depth_eq
    have hdp := s.depth_eq
    have HB0 := hide (Blk.new w 31 cs.toArray)
    have HW0 := hide ((Below.refl w.heap.size w).alloc (Nat.le_refl _) (.cells cs.toArray 31))
    have HP := hide (fun p (h : p ∈ s.parts) => DVal.depth_part h)
    clear ih hA hs
    go_enter Try.func46, Try.ntmps46
    go_wp2_with fail
    go_loopw [3, 4] (fun nv iv wr => ∃ (i : Nat), iv = .int .i64 i ∧ i ≤ s.parts.length ∧ nv = .int .i64 ((DVal.depths (s.parts.take i) : Nat) + 1 : Int) ∧ Blk wr w.heap.size 31 cs.toArray ∧ Below w.heap.size w wr) (fun _ iv _ => s.parts.length - (intOf iv).toNat)
    case atStart => exact ⟨0, rfl, Nat.zero_le _, rfl, HB0.out, HW0.out⟩
    case round =>
      obtain ⟨i, rfl, hi, rfl, hblk, hw⟩ := hrel
      obtain ⟨wo, rfl⟩ : ∃ wo : World, wo = wr := ⟨_, rfl⟩
      have GW := hide hw
      have GB := hide hblk
      clear hw hblk HB0 HW0
      have hle := DVal.depths_le s.parts i
      have cf : wo.cell? ⟨w.heap.size, 5, none⟩ = cs[5]? := by have := GB.out.cell 5; simpa using this
      rw [hc] at cf
      by_cases hlt : i < s.parts.length
      · obtain ⟨b, o, rfl, hb, hC⟩ := HA.out (by omega)
        obtain ⟨C, hl3, hr, hpi⟩ := hC i _ (List.getElem?_eq_getElem hlt)
        have HRW : Hid (wo.rangeAt b (o + i * 6) C) := hide fun q v hv => (GW.out.cell (p := ⟨b, o + i * 6 + q, none⟩) hb).trans (hr q v hv)
        have HL3 := hide hl3
        have HPI := hide hpi
        have HT := hide (DVal.depths_take s.parts i hlt)
        have hpd := HP.out _ (List.getElem_mem hlt)
        clear hC hl3 hr hpi
        generalize s.parts[i] = p at *
        generalize DVal.depths (s.parts.take i) = m at *
        go_wp2_with (first
          | (refine wpList_load_mid rfl 31 _ rfl b (o + i * 6) rfl C _ HRW.out rfl rfl (by rw [HL3.out]; kernel_rfl) ?_)
          | fail)
        refine (HI.out p C _ (by omega) (by omega) (HPI.out.more GW.out)).mono ?_
        rintro e w1 ⟨rfl, hb1⟩
        have KB := hide (GB.out.below hb1 GB.out.lt)
        have KW := hide (GW.out.trans (hb1.mono GW.out.size))
        clear hb1
        by_cases hgt : m < p.depth
        · go_wp2_with fail
          exact ⟨⟨i + 1, by go_num, by omega, by rw [HT.out, Nat.max_eq_right (by omega)], KB.out, KW.out⟩, by simp [intOf]; omega⟩
        · go_wp2_with fail
          exact ⟨⟨i + 1, by go_num, by omega, by rw [HT.out, Nat.max_eq_left (by omega)], KB.out, KW.out⟩, by simp [intOf]; omega⟩
      · have HE : Hid (((DVal.depths (s.parts.take i) : Nat) : Int) + 1 = (s.depth : Int)) := hide (by rw [List.take_of_length_le (by omega), HD.out]; rfl)
        generalize DVal.depths (s.parts.take i) = m at *
        go_wp2
        go_ret
        exact ⟨ret_eq (by rw [← HE.out]; rfl), GW.out⟩

end Go.Proofs.Ytpnjkebjdclkfaa

/- Values over trees: the document's own 'sound'. Conditions: none. -/
namespace Go.Proofs.Ytpnjkebjdclkfaa
open Go.RowKit
set_option linter.unusedSimpArgs false

/-- What is not there with this kind: a number, a text, names, marks. -/
def bad1 (kd num : Int) (xl nn ni : Nat) : Prop := kd < 1 ∨ 6 < kd ∨ (kd ≠ 1 ∧ kd ≠ 2 ∧ num ≠ 0) ∨ (kd ≠ 3 ∧ kd ≠ 4 ∧ 0 < xl) ∨ (kd ≠ 5 ∧ 0 < nn) ∨ (kd ≠ 6 ∧ 0 < ni)
instance (kd num : Int) (xl nn ni : Nat) : Decidable (bad1 kd num xl nn ni) := by unfold bad1; exact inferInstance
/-- What is too great, or no name, or too many. -/
def bad2 (kd num : Int) (xl nn ni np : Nat) (bn : Bool) : Prop := (kd = 1 ∧ num ≠ 0 ∧ num ≠ 1) ∨ (kd = 3 ∧ 64 < xl) ∨ (kd = 4 ∧ bn = false) ∨ 8 < nn ∨ 12 < ni ∨ np ≠ nn + ni
instance (kd num : Int) (xl nn ni np : Nat) (bn : Bool) : Decidable (bad2 kd num xl nn ni np bn) := by unfold bad2; exact inferInstance
def hereV (v : DVal) : Bool := (!decide (bad1 v.kind v.n v.s.length v.names.length v.ids.length) && !decide (bad2 v.kind v.n v.s.length v.names.length v.ids.length v.parts.length (nameB v.s))) && ((List.range v.names.length).all (riseOk v.names) && (List.range v.ids.length).all (idOk v.ids))
def soundV : Nat → DVal → Bool
  | 0, _ => true
  | k + 1, v => hereV v && v.parts.all (soundV k)
def soundSt (v : DVal) (S : St) : St := S.add (.box 31 [.v (.int .i64 v.kind), .v (.int .i64 v.n), strD v.s, .sl .no (v.names.map strD), .sl .no (v.ids.map u64D), .sl .no (v.parts.map encV)])
theorem refName_d (s : Str) (hs : s.length ≤ maxLen) : DPure Try.prog 87 [.v (sv s)] (.v (.bool (nameB s))) :=
  dpure_of_gives (fun _ _ => by kernel_rfl) fun w η X vs hr => by
    simp only [RepL, Rep] at hr
    obtain ⟨x, xs, rfl, rfl, rfl⟩ := hr
    exact (refName_calls s w hs).mono fun e w' ⟨he, hw⟩ => ⟨he, hw ▸ Below.refl _ _⟩
theorem all_not {l : Nat} {p : Nat → Bool} {i : Nat} (h : i < l) (hp : p i = false) : (List.range l).all p = false := List.all_eq_false.2 ⟨i, List.mem_range.2 h, by simp [hp]⟩
theorem all_of {l : Nat} {p : Nat → Bool} (h : ∀ j, j < l → p j = true) : (List.range l).all p = true := List.all_eq_true.2 fun j hj => h j (List.mem_range.1 hj)
theorem getD_at {α : Type} {l : List α} {i : Nat} {d : α} (h : i < l.length) : l.getD i d = l[i] := by simp [List.getD, h]
theorem leq_not (x y : Str) : (Op.bytesLess x y || x == y) = !sLt y x := by
  have h1 := sLt_iff x y
  have h2 := sLt_iff y x
  rw [show Op.bytesLess x y = sLt x y from rfl, h1, h2, Bool.eq_iff_iff]
  simp only [Bool.or_eq_true, decide_eq_true_eq, beq_iff_eq, Bool.not_eq_true', decide_eq_false_iff_not, List.not_lt]
  constructor
  · rintro (h | h)
    · exact List.le_of_lt h
    · rw [h]; exact List.le_refl y
  · intro h
    by_cases e : x = y
    · exact .inr e
    · exact .inl (Classical.byContradiction fun hn => e (List.le_antisymm h (List.not_lt.1 hn)))
structure LNames (v : DVal) (S : St) (f : Fm) (T : St) (i : Nat) : Prop where
  st : T = soundSt v S
  s1 : f 1 = .loc S.next 0
  s4 : f 4 = .v (.int .i64 i)
  le : i ≤ v.names.length
  ok : ∀ j, j < i → riseOk v.names j = true
def LNamesE (v : DVal) (S : St) (f : Fm) (T : St) : Prop := ∃ i, LNames v S f T i
structure JNames (v : DVal) (S : St) (f : Fm) (T : St) : Prop where
  st : T = soundSt v S
  s1 : f 1 = .loc S.next 0
  ok : (List.range v.names.length).all (riseOk v.names) = true
structure LIds (v : DVal) (S : St) (f : Fm) (T : St) (i : Nat) : Prop where
  st : T = soundSt v S
  s1 : f 1 = .loc S.next 0
  s5 : f 5 = .v (.int .i64 i)
  le : i ≤ v.ids.length
  ok : ∀ j, j < i → idOk v.ids j = true
def LIdsE (v : DVal) (S : St) (f : Fm) (T : St) : Prop := ∃ i, LIds v S f T i
structure LIn (v : DVal) (S : St) (i : Nat) (f : Fm) (T : St) (j : Nat) : Prop where
  st : T = soundSt v S
  s1 : f 1 = .loc S.next 0
  s5 : f 5 = .v (.int .i64 i)
  s6 : f 6 = .v (.int .i64 j)
  le : j ≤ i
  no : ∀ r, r < j → v.ids.getD r 0 ≠ v.ids.getD i 0
def LInE (v : DVal) (S : St) (i : Nat) (f : Fm) (T : St) : Prop := ∃ j, LIn v S i f T j
structure JIds (v : DVal) (S : St) (f : Fm) (T : St) : Prop where
  st : T = soundSt v S
  s1 : f 1 = .loc S.next 0
  ok : (List.range v.ids.length).all (idOk v.ids) = true
structure LParts (v : DVal) (k : Nat) (S : St) (f : Fm) (T : St) (i : Nat) : Prop where
  st : T = soundSt v S
  s1 : f 1 = .loc S.next 0
  s7 : f 7 = .v (.int .i64 i)
  le : i ≤ v.parts.length
  ok : ∀ j (h : j < v.parts.length), j < i → soundV k v.parts[j] = true
def LPartsE (v : DVal) (k : Nat) (S : St) (f : Fm) (T : St) : Prop := ∃ i, LParts v k S f T i
theorem mem_take_iff (l : List Nat) (i : Nat) (x : Nat) (hi : i ≤ l.length) : x ∈ l.take i ↔ ∃ r, r < i ∧ l.getD r 0 = x := by
  rw [List.mem_take_iff_getElem]
  constructor
  · rintro ⟨r, hr, e⟩
    exact ⟨r, by omega, by rw [getD_at (by omega)]; exact e⟩
  · rintro ⟨r, hr, e⟩
    exact ⟨r, by omega, by rw [getD_at (by omega)] at e; exact e⟩
structure Cut2 (v : DVal) (S : St) (f : Fm) (T : St) : Prop where
  st : T = soundSt v S
  s1 : f 1 = .loc S.next 0
  s118 : f 118 = .v (.bool (decide (bad2 v.kind v.n v.s.length v.names.length v.ids.length v.parts.length (nameB v.s))))
structure Cut1 (v : DVal) (S : St) (f : Fm) (T : St) : Prop where
  st : T = soundSt v S
  s1 : f 1 = .loc S.next 0
  s3 : f 3 = .v (.int .i64 v.kind)
  s61 : f 61 = .v (.bool (decide (bad1 v.kind v.n v.s.length v.names.length v.ids.length)))
set_option maxRecDepth 200000 in
set_option maxHeartbeats 8000000 in
theorem refSoundV_d (k : Nat) : ∀ (v : DVal), v.depth ≤ k → okV v → DPure Try.prog 66 [encV v] (.v (.bool (soundV k v))) := by
  induction k with
  | zero => intro v h; have := v.depth_pos; omega
  | succ k ih =>
    intro v hk hok
    refine dpure_of_dwp mixed Try.func66 rfl (fun _ _ => by kernel_rfl) (rs := [.tmp 2]) rfl (by kernel_rfl) trivial (fun S hS => ?_)
    simp only [go_sem, ↓reduceIte, Nat.reduceBEq, Nat.reduceAdd, Nat.reduceLeDiff, Nat.reduceEqDiff, Nat.reduceLT, add_ob, set_ob, encV_eq v]
    refine cut_guard (Cut1 v S) rfl ?_ ?_
    · intro f T h
      obtain rfl := h.st
      cases hb1 : decide (bad1 v.kind v.n v.s.length v.names.length v.ids.length) with
      | true =>
        have hr : soundV (k + 1) v = false := by simp only [soundV, hereV, hb1]; rfl
        simp only [go_sem, ↓reduceIte, Nat.reduceBEq, Nat.reduceAdd, Nat.reduceLeDiff, Nat.reduceEqDiff, Nat.reduceLT, add_ob, set_ob, h.s61, hb1]
        exact ⟨by rw [hr]; rfl, (St.Sub.refl S).add hS _⟩
      | false =>
        have hgood : ¬ bad1 v.kind v.n v.s.length v.names.length v.ids.length := of_decide_eq_false hb1
        simp only [go_sem, ↓reduceIte, Nat.reduceBEq, Nat.reduceAdd, Nat.reduceLeDiff, Nat.reduceEqDiff, Nat.reduceLT, add_ob, set_ob, h.s61, h.s1, h.s3, hb1, soundSt]
        obtain ⟨o1, o2, o3, o4, o5, o6, o7, o8, o9⟩ := (okV_eq v).1 hok
        refine cut_guard (Cut2 v S) rfl ?_ ?_
        · intro f2 T2 h2
          obtain rfl := h2.st
          cases hb2 : decide (bad2 v.kind v.n v.s.length v.names.length v.ids.length v.parts.length (nameB v.s)) with
          | true =>
            have hr : soundV (k + 1) v = false := by simp only [soundV, hereV, hb1, hb2]; rfl
            simp only [go_sem, ↓reduceIte, Nat.reduceBEq, Nat.reduceAdd, Nat.reduceLeDiff, Nat.reduceEqDiff, Nat.reduceLT, add_ob, set_ob, h2.s118, hb2]
            exact ⟨by rw [hr]; rfl, (St.Sub.refl S).add hS _⟩
          | false =>
            have hok2 : ¬ bad2 v.kind v.n v.s.length v.names.length v.ids.length v.parts.length (nameB v.s) := of_decide_eq_false hb2
            simp only [go_sem, ↓reduceIte, Nat.reduceBEq, Nat.reduceAdd, Nat.reduceLeDiff, Nat.reduceEqDiff, Nat.reduceLT, add_ob, set_ob, h2.s118, h2.s1, hb2, soundSt]
            refine loop_cut (JNames v S) ?_ ?_
            · refine dloop_mk (LNamesE v S) (fun f _ => v.names.length - slotN (f 4)) ⟨0, ⟨rfl, by simp only [go_sem, ↓reduceIte, Nat.reduceBEq, Nat.reduceAdd, Nat.reduceLeDiff, Nat.reduceEqDiff, Nat.reduceLT, add_ob, set_ob, h2.s1], by simp only [go_sem, ↓reduceIte, Nat.reduceBEq, Nat.reduceAdd, Nat.reduceLeDiff, Nat.reduceEqDiff, Nat.reduceLT, add_ob, set_ob]; rfl, by omega, fun j hj => by omega⟩⟩ ?_
              rintro g T ⟨i, q⟩
              obtain rfl := q.st
              by_cases hlt : i < v.names.length
              · have b1 : decide ((i : Int) < (v.names.length : Int)) = true := by simp; omega
                have hx := getD_map strD v.names i hlt
                have c1 : (0 : Int) ≤ (i : Int) := by omega
                have c2 : (i : Int) < (v.names.length : Int) := by omega
                simp only [go_sem, ↓reduceIte, Nat.reduceBEq, Nat.reduceAdd, Nat.reduceLeDiff, Nat.reduceEqDiff, Nat.reduceLT, add_ob, set_ob, q.s1, q.s4, b1, soundSt]
                refine ddraw_mk 25 (by kernel_rfl) ?_
                simp only [go_sem, ↓reduceIte, Nat.reduceBEq, Nat.reduceAdd, Nat.reduceLeDiff, Nat.reduceEqDiff, Nat.reduceLT, add_ob, set_ob, q.s1, q.s4, hx, c1, c2]
                refine dqgo_mk (refName_d v.names[i] (o4 _ (List.getElem_mem hlt))) ?_
                have w1 : IntKind.i64.wrap ((i : Int) + 1) = (i : Int) + 1 := IntWalk.i64_in _ ⟨by omega, by omega⟩
                have bad : riseOk v.names i = false → soundV (k + 1) v = false := fun hh => by
                  simp only [soundV, hereV, all_not (p := riseOk v.names) hlt hh, Bool.false_and, Bool.and_false]
                have hri : riseOk v.names i = (nameB v.names[i] && (decide (i = 0) || sLt (v.names.getD (i - 1) []) v.names[i])) := by rw [riseOk, getD_at hlt]
                have next : riseOk v.names i = true → ∀ j, j < i + 1 → riseOk v.names j = true := fun hh j hj => by
                  by_cases e : j = i
                  · rw [e]; exact hh
                  · exact q.ok j (by omega)
                cases hn : nameB v.names[i] with
                | false =>
                  simp only [go_sem, ↓reduceIte, Nat.reduceBEq, Nat.reduceAdd, Nat.reduceLeDiff, Nat.reduceEqDiff, Nat.reduceLT, add_ob, set_ob, q.s1, q.s4, hx, c1, c2, hn]
                  exact ⟨by rw [bad (by rw [hri, hn]; rfl)]; rfl, (St.Sub.refl S).add hS _⟩
                | true =>
                  by_cases hi0 : i = 0
                  · have b3 : decide ((0 : Int) < (i : Int)) = false := by simp [hi0]
                    simp only [go_sem, ↓reduceIte, Nat.reduceBEq, Nat.reduceAdd, Nat.reduceLeDiff, Nat.reduceEqDiff, Nat.reduceLT, add_ob, set_ob, q.s1, q.s4, hx, c1, c2, hn, b3, w1]
                    exact round_end ⟨i + 1, ⟨rfl, by simp only [go_sem, ↓reduceIte, Nat.reduceBEq, Nat.reduceAdd, Nat.reduceLeDiff, Nat.reduceEqDiff, Nat.reduceLT, add_ob, set_ob, q.s1], by simp only [go_sem, ↓reduceIte, Nat.reduceBEq, Nat.reduceAdd, Nat.reduceLeDiff, Nat.reduceEqDiff, Nat.reduceLT, add_ob, set_ob]; rfl, by omega, next (by rw [hri, hn, decide_eq_true hi0]; rfl)⟩⟩ (by simp only [go_sem, ↓reduceIte, Nat.reduceBEq, Nat.reduceAdd, Nat.reduceLeDiff, Nat.reduceEqDiff, Nat.reduceLT, add_ob, set_ob]; omega)
                  · have b3 : decide ((0 : Int) < (i : Int)) = true := by simp; omega
                    have w2 : IntKind.i64.wrap ((i : Int) - 1) = (i : Int) - 1 := IntWalk.i64_in _ ⟨by omega, by omega⟩
                    have n2 : ((i : Int) - 1).toNat = i - 1 := by omega
                    have hx2 := getD_map strD v.names (i - 1) (by omega)
                    have hx3 : v.names.getD (i - 1) [] = v.names[i - 1] := getD_at (by omega)
                    have c3 : (0 : Int) ≤ (i : Int) - 1 := by omega
                    have c4 : (i : Int) - 1 < (v.names.length : Int) := by omega
                    simp only [go_sem, ↓reduceIte, Nat.reduceBEq, Nat.reduceAdd, Nat.reduceLeDiff, Nat.reduceEqDiff, Nat.reduceLT, add_ob, set_ob, q.s1, q.s4, hx, c1, c2, hn, b3, w1, w2, n2, hx2, c3, c4, leq_not]
                    cases hs : sLt v.names[i - 1] v.names[i] with
                    | false =>
                      simp only [go_sem, ↓reduceIte, Nat.reduceBEq, Nat.reduceAdd, Nat.reduceLeDiff, Nat.reduceEqDiff, Nat.reduceLT, add_ob, set_ob, hs]
                      exact ⟨by rw [bad (by rw [hri, hn, hx3, hs, decide_eq_false hi0]; rfl)]; rfl, (St.Sub.refl S).add hS _⟩
                    | true =>
                      simp only [go_sem, ↓reduceIte, Nat.reduceBEq, Nat.reduceAdd, Nat.reduceLeDiff, Nat.reduceEqDiff, Nat.reduceLT, add_ob, set_ob, hs, q.s1, q.s4, w1]
                      exact round_end ⟨i + 1, ⟨rfl, by simp only [go_sem, ↓reduceIte, Nat.reduceBEq, Nat.reduceAdd, Nat.reduceLeDiff, Nat.reduceEqDiff, Nat.reduceLT, add_ob, set_ob, q.s1], by simp only [go_sem, ↓reduceIte, Nat.reduceBEq, Nat.reduceAdd, Nat.reduceLeDiff, Nat.reduceEqDiff, Nat.reduceLT, add_ob, set_ob]; rfl, by omega, next (by rw [hri, hn, hx3, hs, Bool.or_true]; rfl)⟩⟩ (by simp only [go_sem, ↓reduceIte, Nat.reduceBEq, Nat.reduceAdd, Nat.reduceLeDiff, Nat.reduceEqDiff, Nat.reduceLT, add_ob, set_ob]; omega)
              · have b1 : decide ((i : Int) < (v.names.length : Int)) = false := by simp; omega
                simp only [go_sem, ↓reduceIte, Nat.reduceBEq, Nat.reduceAdd, Nat.reduceLeDiff, Nat.reduceEqDiff, Nat.reduceLT, add_ob, set_ob, q.s1, q.s4, b1, soundSt]
                exact ⟨rfl, by simp only [go_sem, ↓reduceIte, Nat.reduceBEq, Nat.reduceAdd, Nat.reduceLeDiff, Nat.reduceEqDiff, Nat.reduceLT, add_ob, set_ob, q.s1], all_of fun j hj => q.ok j (by omega)⟩
            · intro f3 T3 h3
              obtain rfl := h3.st
              simp only [go_sem, ↓reduceIte, Nat.reduceBEq, Nat.reduceAdd, Nat.reduceLeDiff, Nat.reduceEqDiff, Nat.reduceLT, add_ob, set_ob, h3.s1, soundSt]
              refine loop_cut (JIds v S) ?_ ?_
              · refine dloop_mk (LIdsE v S) (fun f _ => v.ids.length - slotN (f 5)) ⟨0, ⟨rfl, by simp only [go_sem, ↓reduceIte, Nat.reduceBEq, Nat.reduceAdd, Nat.reduceLeDiff, Nat.reduceEqDiff, Nat.reduceLT, add_ob, set_ob, h3.s1], by simp only [go_sem, ↓reduceIte, Nat.reduceBEq, Nat.reduceAdd, Nat.reduceLeDiff, Nat.reduceEqDiff, Nat.reduceLT, add_ob, set_ob]; rfl, by omega, fun j hj => by omega⟩⟩ ?_
                rintro g T ⟨i, q⟩
                obtain rfl := q.st
                by_cases hlt : i < v.ids.length
                · have b1 : decide ((i : Int) < (v.ids.length : Int)) = true := by simp; omega
                  have hx := getD_map u64D v.ids i hlt
                  have c1 : (0 : Int) ≤ (i : Int) := by omega
                  have c2 : (i : Int) < (v.ids.length : Int) := by omega
                  have w1 : IntKind.i64.wrap ((i : Int) + 1) = (i : Int) + 1 := IntWalk.i64_in _ ⟨by omega, by omega⟩
                  have bad : idOk v.ids i = false → soundV (k + 1) v = false := fun hh => by
                    simp only [soundV, hereV, all_not (p := idOk v.ids) hlt hh, Bool.false_and, Bool.and_false]
                  simp only [go_sem, ↓reduceIte, Nat.reduceBEq, Nat.reduceAdd, Nat.reduceLeDiff, Nat.reduceEqDiff, Nat.reduceLT, add_ob, set_ob, q.s1, q.s5, b1, soundSt]
                  refine loop_cut (LIn v S i · · i) ?_ ?_
                  · refine dloop_mk (LInE v S i) (fun f _ => i - slotN (f 6)) ⟨0, ⟨rfl, by simp only [go_sem, ↓reduceIte, Nat.reduceBEq, Nat.reduceAdd, Nat.reduceLeDiff, Nat.reduceEqDiff, Nat.reduceLT, add_ob, set_ob, q.s1], by simp only [go_sem, ↓reduceIte, Nat.reduceBEq, Nat.reduceAdd, Nat.reduceLeDiff, Nat.reduceEqDiff, Nat.reduceLT, add_ob, set_ob, q.s5], by simp only [go_sem, ↓reduceIte, Nat.reduceBEq, Nat.reduceAdd, Nat.reduceLeDiff, Nat.reduceEqDiff, Nat.reduceLT, add_ob, set_ob]; rfl, by omega, fun j hj => by omega⟩⟩ ?_
                    rintro g2 T2 ⟨j, p⟩
                    obtain rfl := p.st
                    by_cases hjl : j < i
                    · have b2 : decide ((j : Int) < (i : Int)) = true := by simp; omega
                      have hx2 := getD_map u64D v.ids j (by omega)
                      have c3 : (0 : Int) ≤ (j : Int) := by omega
                      have c4 : (j : Int) < (v.ids.length : Int) := by omega
                      have w2 : IntKind.i64.wrap ((j : Int) + 1) = (j : Int) + 1 := IntWalk.i64_in _ ⟨by omega, by omega⟩
                      simp only [go_sem, ↓reduceIte, Nat.reduceBEq, Nat.reduceAdd, Nat.reduceLeDiff, Nat.reduceEqDiff, Nat.reduceLT, add_ob, set_ob, p.s1, p.s5, p.s6, b2, soundSt]
                      refine ddraw_mk 11 (by kernel_rfl) ?_
                      simp only [go_sem, ↓reduceIte, Nat.reduceBEq, Nat.reduceAdd, Nat.reduceLeDiff, Nat.reduceEqDiff, Nat.reduceLT, add_ob, set_ob, p.s1, p.s5, p.s6, hx, hx2, c1, c2, c3, c4]
                      by_cases he : v.ids[i] = v.ids[j]
                      · have b3 : ((v.ids[i] : Int) == (v.ids[j] : Int)) = true := by simp [he]
                        simp only [go_sem, ↓reduceIte, Nat.reduceBEq, Nat.reduceAdd, Nat.reduceLeDiff, Nat.reduceEqDiff, Nat.reduceLT, add_ob, set_ob, b3]
                        have hm : v.ids.getD i 0 ∈ v.ids.take i := (mem_take_iff _ _ _ (by omega)).2 ⟨j, hjl, by rw [getD_at (by omega), getD_at hlt, he]⟩
                        have hbad : idOk v.ids i = false := by
                          show (!decide (v.ids.getD i 0 = 0) && !decide (v.ids.getD i 0 ∈ v.ids.take i)) = false
                          rw [decide_eq_true hm, Bool.not_true, Bool.and_false]
                        exact ⟨by rw [bad hbad]; rfl, (St.Sub.refl S).add hS _⟩
                      · have b3 : ((v.ids[i] : Int) == (v.ids[j] : Int)) = false := by simp; omega
                        simp only [go_sem, ↓reduceIte, Nat.reduceBEq, Nat.reduceAdd, Nat.reduceLeDiff, Nat.reduceEqDiff, Nat.reduceLT, add_ob, set_ob, b3, p.s6, w2]
                        exact round_end ⟨j + 1, ⟨rfl, by simp only [go_sem, ↓reduceIte, Nat.reduceBEq, Nat.reduceAdd, Nat.reduceLeDiff, Nat.reduceEqDiff, Nat.reduceLT, add_ob, set_ob, p.s1], by simp only [go_sem, ↓reduceIte, Nat.reduceBEq, Nat.reduceAdd, Nat.reduceLeDiff, Nat.reduceEqDiff, Nat.reduceLT, add_ob, set_ob, p.s5], by simp only [go_sem, ↓reduceIte, Nat.reduceBEq, Nat.reduceAdd, Nat.reduceLeDiff, Nat.reduceEqDiff, Nat.reduceLT, add_ob, set_ob]; rfl, by omega, fun r hr => by
                          by_cases e : r = j
                          · subst e; rw [getD_at (by omega), getD_at hlt]; exact fun h => he h.symm
                          · exact p.no r (by omega)⟩⟩ (by simp only [go_sem, ↓reduceIte, Nat.reduceBEq, Nat.reduceAdd, Nat.reduceLeDiff, Nat.reduceEqDiff, Nat.reduceLT, add_ob, set_ob, p.s6]; omega)
                    · have b2 : decide ((j : Int) < (i : Int)) = false := by simp; omega
                      simp only [go_sem, ↓reduceIte, Nat.reduceBEq, Nat.reduceAdd, Nat.reduceLeDiff, Nat.reduceEqDiff, Nat.reduceLT, add_ob, set_ob, p.s1, p.s5, p.s6, b2, soundSt]
                      have : j = i := by have := p.le; omega
                      subst this
                      exact ⟨rfl, by simp only [go_sem, ↓reduceIte, Nat.reduceBEq, Nat.reduceAdd, Nat.reduceLeDiff, Nat.reduceEqDiff, Nat.reduceLT, add_ob, set_ob, p.s1], by simp only [go_sem, ↓reduceIte, Nat.reduceBEq, Nat.reduceAdd, Nat.reduceLeDiff, Nat.reduceEqDiff, Nat.reduceLT, add_ob, set_ob, p.s5], by simp only [go_sem, ↓reduceIte, Nat.reduceBEq, Nat.reduceAdd, Nat.reduceLeDiff, Nat.reduceEqDiff, Nat.reduceLT, add_ob, set_ob, p.s6], Nat.le_refl _, p.no⟩
                  · intro f4 T4 h4
                    obtain rfl := h4.st
                    simp only [go_sem, ↓reduceIte, Nat.reduceBEq, Nat.reduceAdd, Nat.reduceLeDiff, Nat.reduceEqDiff, Nat.reduceLT, add_ob, set_ob, h4.s1, h4.s5, hx, c1, c2, soundSt]
                    by_cases hz : v.ids[i] = 0
                    · have b3 : ((v.ids[i] : Int) == 0) = true := by simp [hz]
                      simp only [go_sem, ↓reduceIte, Nat.reduceBEq, Nat.reduceAdd, Nat.reduceLeDiff, Nat.reduceEqDiff, Nat.reduceLT, add_ob, set_ob, b3, c1, c2, true_and]
                      have hbad : idOk v.ids i = false := by
                        show (!decide (v.ids.getD i 0 = 0) && !decide (v.ids.getD i 0 ∈ v.ids.take i)) = false
                        rw [decide_eq_true (show v.ids.getD i 0 = 0 by rw [getD_at hlt]; exact hz)]; rfl
                      exact ⟨by rw [bad hbad]; rfl, (St.Sub.refl S).add hS _⟩
                    · have b3 : ((v.ids[i] : Int) == 0) = false := by simp; omega
                      simp only [go_sem, ↓reduceIte, Nat.reduceBEq, Nat.reduceAdd, Nat.reduceLeDiff, Nat.reduceEqDiff, Nat.reduceLT, add_ob, set_ob, b3, h4.s5, w1, c1, c2]
                      have hi : idOk v.ids i = true := by
                        have hm : ¬ v.ids.getD i 0 ∈ v.ids.take i := fun hm => by
                          obtain ⟨r, hr, e⟩ := (mem_take_iff _ _ _ (by omega)).1 hm
                          exact h4.no r hr e
                        show (!decide (v.ids.getD i 0 = 0) && !decide (v.ids.getD i 0 ∈ v.ids.take i)) = true
                        rw [decide_eq_false hm, decide_eq_false (show ¬ v.ids.getD i 0 = 0 by rw [getD_at hlt]; exact hz)]; rfl
                      exact round_end ⟨i + 1, ⟨rfl, by simp only [go_sem, ↓reduceIte, Nat.reduceBEq, Nat.reduceAdd, Nat.reduceLeDiff, Nat.reduceEqDiff, Nat.reduceLT, add_ob, set_ob, h4.s1], by simp only [go_sem, ↓reduceIte, Nat.reduceBEq, Nat.reduceAdd, Nat.reduceLeDiff, Nat.reduceEqDiff, Nat.reduceLT, add_ob, set_ob]; rfl, by omega, fun j hj => by
                        by_cases e : j = i
                        · rw [e]; exact hi
                        · exact q.ok j (by omega)⟩⟩ (by simp only [go_sem, ↓reduceIte, Nat.reduceBEq, Nat.reduceAdd, Nat.reduceLeDiff, Nat.reduceEqDiff, Nat.reduceLT, add_ob, set_ob, q.s5]; omega)
                · have b1 : decide ((i : Int) < (v.ids.length : Int)) = false := by simp; omega
                  simp only [go_sem, ↓reduceIte, Nat.reduceBEq, Nat.reduceAdd, Nat.reduceLeDiff, Nat.reduceEqDiff, Nat.reduceLT, add_ob, set_ob, q.s1, q.s5, b1, soundSt]
                  exact ⟨rfl, by simp only [go_sem, ↓reduceIte, Nat.reduceBEq, Nat.reduceAdd, Nat.reduceLeDiff, Nat.reduceEqDiff, Nat.reduceLT, add_ob, set_ob, q.s1], all_of fun j hj => q.ok j (by omega)⟩
              · intro f5 T5 h5
                obtain rfl := h5.st
                simp only [go_sem, ↓reduceIte, Nat.reduceBEq, Nat.reduceAdd, Nat.reduceLeDiff, Nat.reduceEqDiff, Nat.reduceLT, add_ob, set_ob, h5.s1, soundSt]
                have hhere : hereV v = true := by simp only [hereV, hb1, hb2, h3.ok, h5.ok]; rfl
                refine dloop_mk (LPartsE v k S) (fun f _ => v.parts.length - slotN (f 7)) ⟨0, ⟨rfl, by simp only [go_sem, ↓reduceIte, Nat.reduceBEq, Nat.reduceAdd, Nat.reduceLeDiff, Nat.reduceEqDiff, Nat.reduceLT, add_ob, set_ob, h5.s1], by simp only [go_sem, ↓reduceIte, Nat.reduceBEq, Nat.reduceAdd, Nat.reduceLeDiff, Nat.reduceEqDiff, Nat.reduceLT, add_ob, set_ob]; rfl, by omega, fun j _ hj => by omega⟩⟩ ?_
                rintro g T ⟨i, q⟩
                obtain rfl := q.st
                by_cases hlt : i < v.parts.length
                · have b1 : decide ((i : Int) < (v.parts.length : Int)) = true := by simp; omega
                  have hx := getD_map encV v.parts i hlt
                  have c1 : (0 : Int) ≤ (i : Int) := by omega
                  have c2 : (i : Int) < (v.parts.length : Int) := by omega
                  have w1 : IntKind.i64.wrap ((i : Int) + 1) = (i : Int) + 1 := IntWalk.i64_in _ ⟨by omega, by omega⟩
                  simp only [go_sem, ↓reduceIte, Nat.reduceBEq, Nat.reduceAdd, Nat.reduceLeDiff, Nat.reduceEqDiff, Nat.reduceLT, add_ob, set_ob, q.s1, q.s7, b1, hx, c1, c2, soundSt]
                  have hd := DVal.depth_part (List.getElem_mem hlt)
                  refine DCalls.of_pure (ih v.parts[i] (by omega) (o9 _ (List.getElem_mem hlt))) ?_
                  cases hs : soundV k v.parts[i] with
                  | false =>
                    simp only [go_sem, ↓reduceIte, Nat.reduceBEq, Nat.reduceAdd, Nat.reduceLeDiff, Nat.reduceEqDiff, Nat.reduceLT, add_ob, set_ob, hs]
                    refine ⟨?_, (St.Sub.refl S).add hS _⟩
                    rw [show soundV (k + 1) v = false by simp only [soundV, hhere, Bool.true_and]; exact List.all_eq_false.2 ⟨_, List.getElem_mem hlt, by rw [hs]; simp⟩]
                    rfl
                  | true =>
                    simp only [go_sem, ↓reduceIte, Nat.reduceBEq, Nat.reduceAdd, Nat.reduceLeDiff, Nat.reduceEqDiff, Nat.reduceLT, add_ob, set_ob, hs, q.s7, w1]
                    exact round_end ⟨i + 1, ⟨rfl, by simp only [go_sem, ↓reduceIte, Nat.reduceBEq, Nat.reduceAdd, Nat.reduceLeDiff, Nat.reduceEqDiff, Nat.reduceLT, add_ob, set_ob, q.s1], by simp only [go_sem, ↓reduceIte, Nat.reduceBEq, Nat.reduceAdd, Nat.reduceLeDiff, Nat.reduceEqDiff, Nat.reduceLT, add_ob, set_ob]; rfl, by omega, fun j hj hji => by
                      by_cases e : j = i
                      · subst e; exact hs
                      · exact q.ok j hj (by omega)⟩⟩ (by simp only [go_sem, ↓reduceIte, Nat.reduceBEq, Nat.reduceAdd, Nat.reduceLeDiff, Nat.reduceEqDiff, Nat.reduceLT, add_ob, set_ob]; omega)
                · have b1 : decide ((i : Int) < (v.parts.length : Int)) = false := by simp; omega
                  simp only [go_sem, ↓reduceIte, Nat.reduceBEq, Nat.reduceAdd, Nat.reduceLeDiff, Nat.reduceEqDiff, Nat.reduceLT, add_ob, set_ob, q.s1, q.s7, b1, soundSt]
                  refine ⟨?_, (St.Sub.refl S).add hS _⟩
                  rw [show soundV (k + 1) v = true by
                    simp only [soundV, hhere, Bool.true_and]
                    exact List.all_eq_true.2 fun p hp => by
                      obtain ⟨j, hj, rfl⟩ := List.getElem_of_mem hp
                      exact q.ok j hj (by omega)]
                  rfl
        · have hsl : v.s.length ≤ maxLen := o3
          have hwr : IntKind.i64.wrap ((v.names.length : Int) + (v.ids.length : Int)) = (v.names.length : Int) + (v.ids.length : Int) := IntWalk.i64_in _ ⟨by omega, by omega⟩
          repeat' first | (refine DCalls.of_pure (refName_d v.s hsl) ?_; simp only [go_sem, ↓reduceIte, Nat.reduceBEq, Nat.reduceAdd, Nat.reduceLeDiff, Nat.reduceEqDiff, Nat.reduceLT, add_ob, set_ob, h.s1, h.s3, hwr]) | (refine dg_mk (fun hb => ?_) (fun hb => ?_) <;> (simp only [go_sem, ↓reduceIte, Nat.reduceBEq, Nat.reduceAdd, Nat.reduceLeDiff, Nat.reduceEqDiff, Nat.reduceLT, add_ob, set_ob, hb, h.s1, h.s3, hwr]; simp at hb))
          all_goals refine ⟨rfl, by simp only [go_sem, ↓reduceIte, Nat.reduceBEq, Nat.reduceAdd, Nat.reduceLeDiff, Nat.reduceEqDiff, Nat.reduceLT, add_ob, set_ob, h.s1], ?_⟩
          all_goals simp only [go_sem, ↓reduceIte, Nat.reduceBEq, Nat.reduceAdd, Nat.reduceLeDiff, Nat.reduceEqDiff, Nat.reduceLT, add_ob, set_ob]
          all_goals
            congr 2
            rw [Bool.eq_iff_iff]
            simp only [decide_eq_true_eq, Bool.false_eq_true, false_iff, true_iff, bne_iff_ne, Bool.not_eq_true'] at *
            simp only [bad2, ← List.length_eq_zero_iff] at *
            cases hnb : nameB v.s <;> simp only [hnb, Bool.true_eq_false, Bool.false_eq_true, and_true, and_false, false_or, not_true_eq_false, not_false_eq_true] at * <;> first | done | omega
    · repeat' (refine dg_mk (fun hb => ?_) (fun hb => ?_) <;> (simp only [go_sem, ↓reduceIte, Nat.reduceBEq, Nat.reduceAdd, Nat.reduceLeDiff, Nat.reduceEqDiff, Nat.reduceLT, add_ob, set_ob, hb]; simp at hb))
      all_goals refine ⟨rfl, by simp only [go_sem, ↓reduceIte, Nat.reduceBEq, Nat.reduceAdd, Nat.reduceLeDiff, Nat.reduceEqDiff, Nat.reduceLT, add_ob, set_ob], by simp only [go_sem, ↓reduceIte, Nat.reduceBEq, Nat.reduceAdd, Nat.reduceLeDiff, Nat.reduceEqDiff, Nat.reduceLT, add_ob, set_ob], ?_⟩
      all_goals simp only [go_sem, ↓reduceIte, Nat.reduceBEq, Nat.reduceAdd, Nat.reduceLeDiff, Nat.reduceEqDiff, Nat.reduceLT, add_ob, set_ob]
      all_goals
        congr 2
        rw [Bool.eq_iff_iff]
        simp only [decide_eq_true_eq, Bool.false_eq_true, false_iff, true_iff] at *
        simp only [bad1, ← List.length_eq_zero_iff] at *
        omega
end Go.Proofs.Ytpnjkebjdclkfaa

/- Values: the size that is asked of (Great). Conditions: none. -/
namespace Go.Proofs.Ytpnjkebjdclkfaa
open Go.RowKit Go.ChangeShapes Go.WideShapes Go.ChangeAt

/-- How much is left of n. -/
def roomV : Nat → DVal → Int → Int
  | 0, _, _ => -1
  | k + 1, s, n =>
    if 400 < s.s.length then -1
    else s.parts.foldl (fun m p => if 0 ≤ m then roomV k p m else m) (n - 1 - s.names.length - s.ids.length)
theorem foldRoomV_neg (k : Nat) : ∀ (l : List DVal) (m : Int), m < 0 → l.foldl (fun m p => if 0 ≤ m then roomV k p m else m) m = m
  | [], _, _ => rfl
  | p :: l, m, h => by rw [List.foldl_cons, if_neg (by omega)]; exact foldRoomV_neg k l m h
/-- Nothing too great: depth, words' sizes, all hereditarily. -/
def FineV : Nat → DVal → Prop
  | 0, _ => False
  | k + 1, s => s.s.length ≤ 400 ∧ ∀ p ∈ s.parts, FineV k p
theorem roomV_spec : ∀ (k : Nat) (s : DVal) (n : Int), 0 ≤ roomV k s n → roomV k s n = n - s.weight ∧ FineV k s
  | 0, s, n, h => by simp [roomV] at h
  | k + 1, s, n, h => by
    have hwt := DVal.weight_eq s
    unfold roomV at h ⊢
    by_cases hb : 400 < s.s.length
    · rw [if_pos hb] at h; omega
    · rw [if_neg hb] at h ⊢
      have hw : s.s.length ≤ 400 := by omega
      have key : ∀ (l : List DVal) (m : Int), 0 ≤ l.foldl (fun m p => if 0 ≤ m then roomV k p m else m) m →
          l.foldl (fun m p => if 0 ≤ m then roomV k p m else m) m = m - DVal.weights l ∧ ∀ p ∈ l, FineV k p := by
        intro l
        induction l with
        | nil => intro m _; exact ⟨by simp [DVal.weights], fun p hp => by cases hp⟩
        | cons p l ih =>
          intro m hm
          rw [List.foldl_cons] at hm ⊢
          have h0 : 0 ≤ m := by
            rcases Int.lt_or_le m 0 with hx | hx
            · rw [if_neg (by omega), foldRoomV_neg k l m hx] at hm; exact hm
            · exact hx
          rw [if_pos h0] at hm ⊢
          have h1 : 0 ≤ roomV k p m := by
            rcases Int.lt_or_le (roomV k p m) 0 with hx | hx
            · rw [foldRoomV_neg k l _ hx] at hm; exact hm
            · exact hx
          obtain ⟨e1, f1⟩ := roomV_spec k p m h1
          obtain ⟨e2, f2⟩ := ih _ hm
          refine ⟨by rw [e2, e1]; simp only [DVal.weights]; omega, fun q hq => ?_⟩
          rcases List.mem_cons.1 hq with rfl | hq
          · exact f1
          · exact f2 q hq
      obtain ⟨e, f⟩ := key s.parts _ h
      refine ⟨by rw [e]; omega, ?_⟩
      exact ⟨hw, f⟩
theorem roomV_le : ∀ (k : Nat) (s : DVal) (n : Int), -1 ≤ n → roomV k s n ≤ n ∧ (roomV k s n ≤ -1 ∨ 0 ≤ roomV k s n)
  | 0, s, n, h => by simp [roomV]; omega
  | k + 1, s, n, h => by
    unfold roomV
    split
    · omega
    · have key : ∀ (l : List DVal) (m : Int), l.foldl (fun m p => if 0 ≤ m then roomV k p m else m) m ≤ m := by
        intro l
        induction l with
        | nil => intro m; exact Int.le_refl _
        | cons p l ih =>
          intro m
          rw [List.foldl_cons]
          refine Int.le_trans (ih _) ?_
          split
          · exact (roomV_le k p m (by omega)).1
          · exact Int.le_refl _
      have := key s.parts (n - 1 - s.names.length - s.ids.length)
      omega
end Go.Proofs.Ytpnjkebjdclkfaa

/- Values, walked: Great. Conditions: none. -/
namespace Go.Proofs.Ytpnjkebjdclkfaa
open Go.RowKit

theorem info_valB : (Try.prog.info? 31).map (·.size) = some 6 := by kernel_rfl

set_option maxHeartbeats 1000000 in
set_option maxRecDepth 20000 in
theorem roomV_calls (k : Nat) : ∀ (s : DVal) (n : Int) (cs : List Value) (w : World), IsVal w (· < w.heap.size) s cs → k ≤ 1000 → 0 ≤ n → n ≤ 1000 →
    Calls Try.prog 64 #[.agg cs.toArray, .int .i64 n, .int .i64 k] w (fun e w' => -1000000000000000 ≤ roomV k s n ∧ Gives (.int .i64 (roomV k s n)) w e w') := by
  induction k with
  | zero =>
    intro s n cs w hs hk hn hn2
    obtain ⟨An, cn, hw1, _, _, _, hwm⟩ := hs.names_
    obtain ⟨Ai, ci, hi1, _, _, _, him⟩ := hs.ids_
    clear hs
    go_enter Try.func64, Try.ntmps64
    go_wp2
    go_ret
    exact ⟨by simp [roomV], ret_eq rfl, (Below.refl _ _).alloc (Nat.le_refl _) _⟩
  | succ k ih =>
    intro s n cs w hs hk hn hn2
    have HI := hide ih
    clear ih
    obtain ⟨hs1, hsl⟩ := hs.s_
    obtain ⟨An, cn, hw1, _, _, _, hwm⟩ := hs.names_
    obtain ⟨Ai, ci, hi1, _, _, _, him⟩ := hs.ids_
    obtain ⟨Ap, cp, C, hp1, hpc, hpm, hP, hA⟩ := hs.partsF
    have HA := hide hA
    have HP := hide hP
    have HSP : Hid (roomV (k + 1) s n = if 400 < s.s.length then -1 else s.parts.foldl (fun m p => if 0 ≤ m then roomV k p m else m) (n - 1 - s.names.length - s.ids.length)) := hide rfl
    have HK0 := hide (Blk.new w 31 cs.toArray)
    have HW0 := hide ((Below.refl w.heap.size w).alloc (Nat.le_refl _) (.cells cs.toArray 31))
    clear hA hP hs
    have hk1 : (((k + 1 : Nat) : Int) == 0) = false := by simp; omega
    have hk2 : (((k : Int) + 1) == 0) = false := by simp; omega
    have hlow : -1000000000000000 ≤ n - 1 - (s.names.length : Int) - (s.ids.length : Int) := by omega
    have hstart : n - 1 - (s.names.length : Int) - (s.ids.length : Int) ≤ 1000 := by omega
    by_cases hbig : 400 < s.s.length
    · have HB := hide hbig
      generalize s.s = x at *
      go_enter Try.func64, Try.ntmps64
      go_wp2
      go_ret
      exact ⟨by rw [HSP.out, if_pos HB.out]; omega, ret_eq (by rw [HSP.out, if_pos HB.out]; rfl), HW0.out⟩
    · have HE : Hid (roomV (k + 1) s n = s.parts.foldl (fun m p => if 0 ≤ m then roomV k p m else m) (n - 1 - s.names.length - s.ids.length)) := hide (by rw [HSP.out, if_neg hbig])
      clear HSP
      generalize s.s = x at *
      have hbd : ¬ (400 : Int) < (x.length : Int) := by omega
      have hbe : decide ((400 : Int) < (x.length : Int)) = false := decide_eq_false hbd
      go_enter Try.func64, Try.ntmps64
      go_wp2_with fail
      generalize hm0 : n - 1 - (s.names.length : Int) - (s.ids.length : Int) = m0 at *
      clear hm0
      go_loopw [1, 7] (fun nv iv wr => ∃ (i : Nat) (m : Int), nv = .int .i64 m ∧ iv = .int .i64 i ∧ i ≤ s.parts.length ∧ m ≤ 1000 ∧ -1000000000000000 ≤ m ∧ m = (s.parts.take i).foldl (fun m p => if 0 ≤ m then roomV k p m else m) m0 ∧ Blk wr w.heap.size 31 cs.toArray ∧ Below w.heap.size w wr) (fun _ iv _ => s.parts.length - (intOf iv).toNat)
      case atStart => exact ⟨0, m0, rfl, rfl, Nat.zero_le _, hstart, hlow, rfl, HK0.out, HW0.out⟩
      case round =>
        clear HK0 HW0
        obtain ⟨i, m, rfl, rfl, hi, hm1, hm2, hfold, hblk, hbel⟩ := hrel
        have HF := hide hfold
        have GB := hide hblk
        have GW := hide hbel
        clear hfold hblk hbel
        have c2 : wr.cell? ⟨w.heap.size, 5, none⟩ = some (.slice Ap s.parts.length cp) := by rw [GB.out.cell]; simpa using hp1
        by_cases hgo : i < s.parts.length ∧ 0 ≤ m
        · obtain ⟨hlt, h0⟩ := hgo
          obtain ⟨b, o, rfl, hb, hC⟩ := HA.out (by omega)
          obtain ⟨hl3, hr⟩ := hC i hlt
          have hg := List.getElem?_eq_getElem hlt
          have HRW : Hid (wr.rangeAt b (o + i * 6) (C i)) := hide fun q v hv => (GW.out.cell (p := ⟨b, o + i * 6 + q, none⟩) hb).trans (hr q v hv)
          have HL3 := hide hl3
          have HPI := hide ((HP.out i _ hg).more GW.out)
          have HRL := hide (roomV_le k s.parts[i] m (by omega))
          have HFS : Hid ((s.parts.take (i + 1)).foldl (fun m p => if 0 ≤ m then roomV k p m else m) m0 = roomV k s.parts[i] m) := hide (by
            rw [List.take_succ_eq_append_getElem hlt, List.foldl_append, ← HF.out, List.foldl_cons, List.foldl_nil, if_pos h0])
          clear hr hl3 hg hC
          generalize s.parts[i] = p at *
          generalize C i = es at *
          go_wp2_with (first | (refine wpList_load_mid rfl 31 _ rfl b (o + i * 6) rfl es _ HRW.out rfl rfl (by rw [HL3.out]; exact info_valB) ?_) | fail)
          refine (HI.out p m es _ HPI.out (by omega) h0 hm1).mono ?_
          rintro e w1 ⟨hlo, rfl, hb1⟩
          have hrl := HRL.out
          generalize roomV k p m = m1 at *
          go_wp2_with fail
          exact ⟨⟨i + 1, m1, rfl, by go_num, by omega, by omega, by omega, HFS.out.symm, GB.out.below hb1 GB.out.lt, GW.out.trans (hb1.mono GW.out.size)⟩, by simp [intOf]; omega⟩
        · have HX : Hid (roomV (k + 1) s n = m) := hide (by
            rw [HE.out, HF.out]
            rcases Nat.lt_or_ge i s.parts.length with hx | hx
            · have hm : m < 0 := by omega
              have e : s.parts.foldl (fun m p => if 0 ≤ m then roomV k p m else m) m0 = (s.parts.drop i).foldl (fun m p => if 0 ≤ m then roomV k p m else m) m := by
                rw [HF.out, ← List.foldl_append, List.take_append_drop]
              rw [e, foldRoomV_neg k _ _ hm, HF.out]
            · rw [List.take_of_length_le hx])
          clear HF HE
          by_cases hlt : i < s.parts.length
          all_goals
            go_wp2
            go_ret
            exact ⟨by rw [HX.out]; exact hm2, ret_eq (by rw [HX.out]; rfl), GW.out⟩

set_option maxHeartbeats 400000 in
set_option maxRecDepth 20000 in
theorem greatV_calls (s : DVal) (cs : List Value) (w : World) (hs : IsVal w (· < w.heap.size) s cs) :
    Calls Try.prog 24 #[.agg cs.toArray] w (Gives (.bool (decide (roomV 12 s 300 < 0))) w) := by
  have HB := hide (Blk.new w 31 cs.toArray)
  have HW := hide ((Below.refl w.heap.size w).alloc (Nat.le_refl _) (.cells cs.toArray 31))
  have HS := hide (hs.more HW.out)
  have hl := hs.length
  have HC := hide (roomV_calls 12 s 300 cs _ HS.out (by omega) (by omega) (by omega))
  have HL := hide (show (Try.prog.info? 31).map (·.size) = some cs.toArray.size by rw [info_valB]; simp [hl])
  clear hs hl
  go_enter Try.func24, Try.ntmps24
  go_wp2_with (first | (refine wpList_load_blk rfl 31 _ rfl _ rfl _ _ HB.out _ rfl rfl HL.out ?_) | fail)
  refine HC.out.mono ?_
  rintro e w1 ⟨hlo, rfl, hb1⟩
  have HW1 := hide (HW.out.trans (hb1.mono HW.out.size))
  clear hb1
  generalize roomV 12 s 300 = m at *
  go_wp2
  go_ret
  exact ⟨ret_eq rfl, HW1.out⟩
end Go.Proofs.Ytpnjkebjdclkfaa

/- Schemas, walked: the document's own 'right'. Conditions: none. -/
namespace Go.Proofs.Ytpnjkebjdclkfaa
open Go.RowKit

def badHead (kd : Int) (nw : Nat) : Prop := kd < 1 ∨ 6 < kd ∨ 8 < nw ∨ (kd ≠ 4 ∧ kd ≠ 5 ∧ 0 < nw) ∨ (kd = 4 ∧ nw = 0)
instance (kd : Int) (nw : Nat) : Decidable (badHead kd nw) := by unfold badHead; exact inferInstance
def wantS (kd : Int) (nw : Nat) : Nat := if kd = 5 then nw else if kd = 6 then 1 else 0
/-- Two words clash. -/
def clash (kd : Int) (x y : Str) : Bool := decide (x = y) || (decide (kd = 5) && sLt x y)
def wordOk (kd : Int) (l : List Str) (i : Nat) : Bool := nameB (l.getD i []) && (List.range i).all fun j => !clash kd (l.getD i []) (l.getD j [])
def hereS (s : DSch) : Bool := !decide (badHead s.kind s.words.length) && (decide (s.parts.length = wantS s.kind s.words.length) && (List.range s.words.length).all (wordOk s.kind s.words))
def soundS : Nat → DSch → Bool
  | 0, _ => true
  | k + 1, s => hereS s && s.parts.all (soundS k)
def headB (kd : Int) (nw : Nat) : Bool := decide (badHead kd nw)
theorem headB_t {kd : Int} {nw : Nat} (h : badHead kd nw) : headB kd nw = true := decide_eq_true h
theorem headB_f {kd : Int} {nw : Nat} (h : ¬ badHead kd nw) : headB kd nw = false := decide_eq_false h

set_option maxHeartbeats 4000000 in
set_option maxRecDepth 20000 in
theorem refSound_calls (k : Nat) : ∀ (s : DSch) (cs : List Value) (w : World), s.depth ≤ k → IsSch w (· < w.heap.size) s cs →
    Calls Try.prog 59 #[.agg cs.toArray] w (Gives (.bool (soundS k s)) w) := by
  induction k with
  | zero => intro s cs w h; have := s.depth_pos; omega
  | succ k ih =>
    intro s cs w hk hs
    obtain ⟨hk1, hki⟩ := hs.kind_
    obtain ⟨Aw, cw, hw1, hwr, hwz, hwc, hwm⟩ := hs.words_
    obtain ⟨Ap, cp, C, hp1, hpc, hpm, hP, hA⟩ := hs.partsF
    have HW0 := hide ((Below.refl w.heap.size w).alloc (Nat.le_refl _) (.cells cs.toArray 25))
    have HX := hide (Blk.new w 25 cs.toArray)
    have HWR := hide hwr
    have HWZ := hide hwz
    have HPA := hide hA
    have HPP := hide hP
    have HI := hide ih
    have HDP := hide (fun p (h : p ∈ s.parts) => DSch.depth_part h)
    have HSP : Hid (soundS (k + 1) s = ((!headB s.kind s.words.length && (decide (s.parts.length = wantS s.kind s.words.length) && (List.range s.words.length).all (wordOk s.kind s.words))) && s.parts.all (soundS k))) := hide rfl
    have hkb := i64_wf hki
    clear ih hs hwr hwz hP hA hki
    generalize hres : soundS (k + 1) s = res at *
    clear hres
    go_enter Try.func59, Try.ntmps59
    go_upto_region 1 with fail
    go_cut [47] (fun c wx => c = .bool (headB s.kind s.words.length) ∧ wx = w.alloc (.cells cs.toArray 25))
    case first =>
      generalize s.kind = kd at *
      generalize s.words.length = nw at *
      have key : kd < 1 ∨ 6 < kd ∨ (1 ≤ kd ∧ kd ≤ 6 ∧ 8 < nw) ∨ ((kd = 1 ∨ kd = 2 ∨ kd = 3 ∨ kd = 6) ∧ nw = 0) ∨ ((kd = 1 ∨ kd = 2 ∨ kd = 3 ∨ kd = 6) ∧ 0 < nw ∧ nw ≤ 8) ∨ (kd = 4 ∧ nw = 0) ∨ (kd = 4 ∧ 0 < nw ∧ nw ≤ 8) ∨ (kd = 5 ∧ nw ≤ 8) := by omega
      rcases key with h | h | h | h | h | h | h | h
      · have HR : Hid (headB kd nw = true) := hide (headB_t (by unfold badHead; omega))
        go_wp2_with fail
        go_meet
        exact ⟨by rw [HR.out], rfl⟩
      · have HR : Hid (headB kd nw = true) := hide (headB_t (by unfold badHead; omega))
        have l1 : 1 ≤ kd := by omega
        go_wp2_with fail
        go_meet
        exact ⟨by rw [HR.out] <;> (first | rfl | (simp; done) | (simp; omega)), rfl⟩
      · have HR : Hid (headB kd nw = true) := hide (headB_t (by unfold badHead; omega))
        obtain ⟨l1, l6, l8⟩ := h
        go_wp2_with fail
        go_meet
        exact ⟨by rw [HR.out] <;> (first | rfl | (simp; done) | (simp; omega)), rfl⟩
      all_goals
        first
          | (have HR : Hid (headB kd nw = true) := hide (headB_t (by unfold badHead; omega)))
          | (have HR : Hid (headB kd nw = false) := hide (headB_f (by unfold badHead; omega)))
        have l1 : 1 ≤ kd := by omega
        have l6 : kd ≤ 6 := by omega
        have l8 : nw ≤ 8 := by omega
        first
          | (have f4 : (kd != 4) = true := by simp; omega)
          | (have f4 : (kd != 4) = false := by simp; omega)
        first
          | (have e4 : (kd == 4) = true := by simp; omega)
          | (have e4 : (kd == 4) = false := by simp; omega)
        first
          | (have f5 : (kd != 5) = true := by simp; omega)
          | (have f5 : (kd != 5) = false := by simp; omega)
        first
          | (have l0 : 0 < nw := by omega; have z0 : ((nw : Int) == 0) = false := by simp; omega)
          | (have l0 : nw ≤ 0 := by omega; have z0 : ((nw : Int) == 0) = true := by simp; omega)
          | skip
        have HH := hide h
        clear h
        go_wp2_with fail
        all_goals
          go_meet
          have h := HH.out
          exact ⟨by rw [HR.out] <;> (first | rfl | (simp; done) | (simp; omega)), rfl⟩
    case rest =>
      obtain ⟨rfl, rfl⟩ := hcut
      cases hh : headB s.kind s.words.length
      case true =>
        rw [hh] at HSP
        have HR : Hid (res = false) := hide (by rw [HSP.out]; simp)
        clear hh HSP
        go_wp2
        go_ret
        exact ⟨ret_eq (by rw [HR.out]; rfl), HW0.out⟩
      case false =>
        have hgood : ¬ badHead s.kind s.words.length := of_decide_eq_false hh
        rw [hh, Bool.not_false, Bool.true_and] at HSP
        have hn8 : s.words.length ≤ 8 := by unfold badHead at hgood; omega
        have HWANT : Hid (wantS s.kind s.words.length = if s.kind = 5 then s.words.length else if s.kind = 6 then 1 else 0) := hide rfl
        clear hh hgood
        generalize hwn : wantS s.kind s.words.length = want at *
        have hwant8 : want ≤ 8 := by rw [HWANT.out]; split <;> (try split) <;> omega
        clear hwn
        go_upto_if 50 with fail
        go_cut [3] (fun c wx => c = .int .i64 (((if s.kind = 5 then s.words.length else 0 : Nat)) : Int) ∧ wx = w.alloc (.cells cs.toArray 25))
        case first =>
          by_cases h5 : s.kind = 5
          · have e5 : (s.kind == 5) = true := by simp [h5]
            have HH := hide h5
            clear h5
            go_wp2_with fail
            go_meet
            exact ⟨by rw [if_pos HH.out], rfl⟩
          · have e5 : (s.kind == 5) = false := by simpa using h5
            have HH := hide h5
            clear h5
            go_wp2_with fail
            go_meet
            exact ⟨by rw [if_neg HH.out]; rfl, rfl⟩
        case rest =>
          obtain ⟨rfl, rfl⟩ := hcut
          generalize hx5 : (if s.kind = 5 then s.words.length else 0 : Nat) = x5
          have HX5 := hide hx5
          clear hx5
          go_upto_if 56 with fail
          go_cut [3] (fun c wx => c = .int .i64 (want : Int) ∧ wx = w.alloc (.cells cs.toArray 25))
          case first =>
            by_cases h6 : s.kind = 6
            · have e6 : (s.kind == 6) = true := by simp [h6]
              have HH := hide h6
              clear h6
              go_wp2_with fail
              go_meet
              exact ⟨by rw [HWANT.out, if_neg (by rw [HH.out]; decide), if_pos HH.out]; rfl, rfl⟩
            · have e6 : (s.kind == 6) = false := by simpa using h6
              have HH := hide h6
              clear h6
              go_wp2_with fail
              go_meet
              exact ⟨by rw [HWANT.out, ← HX5.out, if_neg HH.out], rfl⟩
          case rest =>
            obtain ⟨rfl, rfl⟩ := hcut
            clear HX5 HWANT
            by_cases hpw : s.parts.length = want
            case neg =>
              have hne : ((s.parts.length : Int) != (want : Int)) = true := by simp; omega
              have HR : Hid (res = false) := hide (by rw [HSP.out, decide_eq_false hpw]; simp)
              clear hpw HSP
              go_wp2
              go_ret
              exact ⟨ret_eq (by rw [HR.out]; rfl), HW0.out⟩
            have hne : ((s.parts.length : Int) != (want : Int)) = false := by simp [hpw]
            rw [decide_eq_true hpw, Bool.true_and] at HSP
            clear hpw
            go_wp2_with fail
            go_loopw [4] (fun i wr => ∃ (n : Nat), i = .int .i64 n ∧ n ≤ s.words.length ∧ (∀ r, r < n → wordOk s.kind s.words r = true) ∧ Blk wr w.heap.size 25 cs.toArray ∧ Below w.heap.size w wr) (fun i _ => s.words.length - (intOf i).toNat)
            case atStart => exact ⟨0, rfl, Nat.zero_le _, fun r hr => by omega, HX.out, HW0.out⟩
            case round =>
              obtain ⟨n, rfl, hn, hok, hblk, hw⟩ := hrel
              have GN := hide hok
              have GB := hide hblk
              have GW := hide hw
              clear hok hblk hw HX HW0 hne
              obtain ⟨wo, rfl⟩ : ∃ wo : World, wo = wr := ⟨_, rfl⟩
              have c1 : wo.cell? ⟨w.heap.size, 1, none⟩ = some (.slice Aw s.words.length cw) := by rw [GB.out.cell]; simpa using hw1
              by_cases hlt : n < s.words.length
              · obtain ⟨x, o, rfl, hx, hcw⟩ := HWR.out.at_ hlt
                have d1 : wo.cell? ⟨x, o + n, none⟩ = some (sv s.words[n]) := (GW.out.cell (p := ⟨x, o + n, none⟩) hx).trans hcw
                have hz := HWZ.out _ (List.getElem_mem hlt)
                have HCN := hide (fun (W : World) => refName_calls s.words[n] W hz)
                have HG := hide (show s.words.getD n [] = s.words[n] by simp [List.getD, hlt])
                have HBAD : Hid (wordOk s.kind s.words n = false → res = false) := hide fun h => by
                  rw [HSP.out, show (List.range s.words.length).all (wordOk s.kind s.words) = false from List.all_eq_false.2 ⟨n, List.mem_range.2 hlt, by rw [h]; simp⟩]
                  rfl
                have HOK : Hid (wordOk s.kind s.words n = (nameB (s.words.getD n []) && (List.range n).all fun j => !clash s.kind (s.words.getD n []) (s.words.getD j []))) := hide rfl
                rw [HG.out] at HOK
                clear hcw hz HG
                generalize hsn : s.words[n] = sn at *
                have HSN := hide hsn
                clear hsn
                cases hnm : nameB sn
                case false =>
                  rw [hnm] at HCN HOK
                  clear hnm
                  go_wp2_with fail
                  refine (HCN.out _).mono ?_
                  rintro e w1 ⟨rfl, rfl⟩
                  go_wp2
                  go_ret
                  exact ⟨ret_eq (by rw [HBAD.out (by rw [HOK.out]; rfl)]; rfl), GW.out⟩
                case true =>
                  rw [hnm, Bool.true_and] at HOK
                  rw [hnm] at HCN
                  clear hnm
                  go_wp2_with fail
                  refine (HCN.out _).mono ?_
                  rintro e w1 ⟨rfl, rfl⟩
                  go_wp2_with fail
                  go_loopw [5] (fun i wr => ∃ (j : Nat), i = .int .i64 j ∧ j ≤ n ∧ (∀ r, r < j → clash s.kind sn (s.words.getD r []) = false) ∧ Blk wr w.heap.size 25 cs.toArray ∧ Below w.heap.size w wr) (fun i _ => n - (intOf i).toNat)
                  case atStart => exact ⟨0, rfl, Nat.zero_le _, fun r hr => by omega, GB.out, GW.out⟩
                  case round =>
                    clear c1 d1 GB GW
                    obtain ⟨j, rfl, hj, hcl, hblk, hw⟩ := hrel
                    have GJ := hide hcl
                    have GB := hide hblk
                    have GW := hide hw
                    clear hcl hblk hw
                    have c0 : wr.cell? ⟨w.heap.size, 0, none⟩ = some (.int .i64 s.kind) := by rw [GB.out.cell]; simpa using hk1
                    have c1 : wr.cell? ⟨w.heap.size, 1, none⟩ = some (.slice (some ⟨x, o, none⟩) s.words.length cw) := by rw [GB.out.cell]; simpa using hw1
                    by_cases hjn : j < n
                    · have hjl : j < s.words.length := by omega
                      obtain ⟨x', o', e', _, hcj⟩ := HWR.out.at_ hjl
                      obtain ⟨rfl, rfl⟩ : x = x' ∧ o = o' := by injection e' with e'; injection e' with e1 e2; exact ⟨e1, e2⟩
                      obtain ⟨x', o', e'', _, hcn⟩ := HWR.out.at_ hlt
                      obtain ⟨rfl, rfl⟩ : x = x' ∧ o = o' := by injection e'' with e'; injection e' with e1 e2; exact ⟨e1, e2⟩
                      rw [HSN.out] at hcn
                      have d1 : wr.cell? ⟨x, o + n, none⟩ = some (sv sn) := (GW.out.cell (p := ⟨x, o + n, none⟩) hx).trans hcn
                      have d2 : wr.cell? ⟨x, o + j, none⟩ = some (sv s.words[j]) := (GW.out.cell (p := ⟨x, o + j, none⟩) hx).trans hcj
                      have HG := hide (show s.words.getD j [] = s.words[j] by simp [List.getD, hjl])
                      have HBJ : Hid (clash s.kind sn (s.words.getD j []) = true → res = false) := hide fun h => HBAD.out (by
                        rw [HOK.out, List.all_eq_false]
                        exact ⟨j, List.mem_range.2 hjn, by rw [h]; simp⟩)
                      rw [HG.out] at HBJ
                      have HCJ : Hid (clash s.kind sn s.words[j] = false → ∀ r, r < j + 1 → clash s.kind sn (s.words.getD r []) = false) := hide fun h r hr => by
                        by_cases e : r = j
                        · rw [e, HG.out]; exact h
                        · exact GJ.out r (by omega)
                      have j1 : (0 : Int) ≤ (n : Int) := by omega
                      have j2 : (n : Int) < (s.words.length : Int) := by omega
                      have j3 : (0 : Int) ≤ (j : Int) := by omega
                      have j4 : (j : Int) < (s.words.length : Int) := by omega
                      clear hcj hcn e' e'' HG
                      generalize s.words[j] = sj at *
                      cases hss : (sn == sj)
                      case true =>
                        have HC : Hid (clash s.kind sn sj = true) := hide (by unfold clash; rw [show sn = sj by simpa using hss]; simp)
                        go_wp2_with fail
                        go_quiet (fail)
                        go_wp2
                        go_ret
                        exact ⟨ret_eq (by rw [HBJ.out HC.out]; rfl), below_drewN GW.out _⟩
                      case false =>
                        have hne : sn ≠ sj := by simpa using hss
                        have HNE := hide hne
                        clear hne
                        by_cases h5 : s.kind = 5
                        · have e5 : (s.kind == 5) = true := by simp [h5]
                          have H5 := hide h5
                          clear h5
                          cases hl : Op.bytesLess sn sj
                          case true =>
                            have HC : Hid (clash s.kind sn sj = true) := hide (by unfold clash; rw [H5.out, show sLt sn sj = true from hl]; simp)
                            go_wp2_with fail
                            go_quiet (fail)
                            go_wp2
                            go_ret
                            exact ⟨ret_eq (by rw [HBJ.out HC.out]; rfl), below_drewN GW.out _⟩
                          case false =>
                            have HC : Hid (clash s.kind sn sj = false) := hide (by unfold clash; rw [show sLt sn sj = false from hl, decide_eq_false HNE.out]; simp)
                            go_wp2_with fail
                            go_quiet (fail)
                            go_wp2_with fail
                            exact ⟨⟨j + 1, by go_num, by omega, HCJ.out HC.out, GB.out.drewN _, below_drewN GW.out _⟩, by simp [intOf]; omega⟩
                        · have e5 : (s.kind == 5) = false := by simpa using h5
                          have HC : Hid (clash s.kind sn sj = false) := hide (by unfold clash; rw [decide_eq_false h5, decide_eq_false HNE.out]; simp)
                          clear h5
                          go_wp2_with fail
                          go_quiet (fail)
                          go_wp2_with fail
                          exact ⟨⟨j + 1, by go_num, by omega, HCJ.out HC.out, GB.out.drewN _, below_drewN GW.out _⟩, by simp [intOf]; omega⟩
                    · obtain rfl : j = n := by omega
                      have HG : Hid (∀ r, r < j + 1 → wordOk s.kind s.words r = true) := hide fun r hr => by
                        by_cases e : r = j
                        · rw [e, HOK.out, List.all_eq_true]
                          exact fun q hq => by rw [GJ.out q (List.mem_range.1 hq)]; rfl
                        · exact GN.out r (by omega)
                      go_wp2_with fail
                      exact ⟨⟨j + 1, by go_num, by omega, HG.out, GB.out, GW.out⟩, by simp [intOf]; omega⟩
              · have HW : Hid (res = s.parts.all (soundS k)) := hide (by
                  rw [HSP.out, show (List.range s.words.length).all (wordOk s.kind s.words) = true from List.all_eq_true.2 fun r hr => GN.out r (by have := List.mem_range.1 hr; omega), Bool.true_and])
                clear HSP GN
                go_wp2_with fail
                go_loopw [6] (fun i wr => ∃ (j : Nat), i = .int .i64 j ∧ j ≤ s.parts.length ∧ (∀ p ∈ s.parts.take j, soundS k p = true) ∧ Blk wr w.heap.size 25 cs.toArray ∧ Below w.heap.size w wr) (fun i _ => s.parts.length - (intOf i).toNat)
                case atStart => exact ⟨0, rfl, Nat.zero_le _, by simp, GB.out, GW.out⟩
                case round =>
                  clear c1 GB GW
                  obtain ⟨j, rfl, hj, hok, hblk, hw⟩ := hrel
                  have GN := hide hok
                  have GB := hide hblk
                  have GW := hide hw
                  clear hok hblk hw
                  have c2 : wr.cell? ⟨w.heap.size, 2, none⟩ = some (.slice Ap s.parts.length cp) := by rw [GB.out.cell]; simpa using hp1
                  by_cases hlt2 : j < s.parts.length
                  · obtain ⟨x, o, rfl, hx, hc⟩ := HPA.out (by omega)
                    obtain ⟨hl3, hr⟩ := hc j hlt2
                    have HRW : Hid (wr.rangeAt x (o + j * 3) (C j)) := hide fun q v hv => (GW.out.cell (p := ⟨x, o + j * 3 + q, none⟩) hx).trans (hr q v hv)
                    have HL3 := hide hl3
                    have HPI := hide ((HPP.out j _ (List.getElem?_eq_getElem hlt2)).more GW.out)
                    have hpd := HDP.out _ (List.getElem_mem hlt2)
                    have HC := hide (HI.out s.parts[j] (C j) wr (by omega) HPI.out)
                    have HB : Hid (soundS k s.parts[j] = false → res = false) := hide fun h => by
                      rw [HW.out, List.all_eq_false]
                      exact ⟨_, List.getElem_mem hlt2, by rw [h]; simp⟩
                    have HT : Hid (soundS k s.parts[j] = true → ∀ p ∈ s.parts.take (j + 1), soundS k p = true) := hide fun h p hp => by
                      rw [List.take_succ_eq_append_getElem hlt2] at hp
                      rcases List.mem_append.1 hp with h1 | h1
                      · exact GN.out p h1
                      · rw [List.mem_singleton.1 h1]; exact h
                    clear hc hr hl3 hpd
                    generalize s.parts[j] = p at *
                    generalize C j = D at *
                    cases hss : soundS k p
                    all_goals
                      have HSS := hide hss
                      rw [hss] at HC
                      clear hss
                      go_wp2_with (first | (refine wpList_load_mid rfl 25 _ rfl x (o + j * 3) rfl D _ HRW.out rfl rfl (by rw [HL3.out]; kernel_rfl) ?_) | fail)
                      refine HC.out.mono ?_
                      rintro e w1 ⟨rfl, hb1⟩
                      have KB := hide (GB.out.below hb1 GB.out.lt)
                      have KW := hide (GW.out.trans (hb1.mono GW.out.size))
                      clear hb1
                    · go_wp2
                      go_ret
                      exact ⟨ret_eq (by rw [HB.out HSS.out]; rfl), KW.out⟩
                    · go_wp2_with fail
                      exact ⟨⟨j + 1, by go_num, by omega, HT.out HSS.out, KB.out, KW.out⟩, by simp [intOf]; omega⟩
                  · have HE : Hid (res = true) := hide (by
                      rw [HW.out, List.all_eq_true]
                      intro p hp
                      exact GN.out p (by rw [List.take_of_length_le (by omega)]; exact hp))
                    go_wp2
                    go_ret
                    exact ⟨ret_eq (by rw [HE.out]; rfl), GW.out⟩
end Go.Proofs.Ytpnjkebjdclkfaa

/- The plain law of the schemas: right by the program and by the document. Conditions: none. -/
namespace Go.Proofs.Ytpnjkebjdclkfaa

theorem sLt_trans {a b c : Str} (h1 : sLt a b = true) (h2 : sLt b c = true) : sLt a c = true := by
  rw [sLt_iff, decide_eq_true_eq] at *
  exact List.lt_trans h1 h2
theorem sLt_irrefl (a : Str) : sLt a a = false := by
  rw [sLt_iff, decide_eq_false_iff_not]
  exact List.lt_irrefl a
theorem sLt_total {a b : Str} (h1 : sLt a b = false) (h2 : a ≠ b) : sLt b a = true := by
  rw [sLt_iff, decide_eq_false_iff_not] at h1
  rw [sLt_iff, decide_eq_true_eq]
  exact Classical.byContradiction fun h => h2 (List.le_antisymm (List.not_lt.1 h) (List.not_lt.1 h1))

/-- unlike each other, pair by pair. -/
theorem unlike_iff (l : List Str) : unlikeB l = true ↔ ∀ i, i < l.length → ∀ j, j < i → l.getD i [] ≠ l.getD j [] := by
  unfold unlikeB
  rw [List.all_eq_true]
  constructor
  · intro h i hi j hj e
    have := h i (List.mem_range.2 hi)
    simp only [Bool.not_eq_true', decide_eq_false_iff_not] at this
    refine this ?_
    rw [e]
    have hjl : j < l.length := by omega
    rw [show l.getD j [] = (l.take i)[j]'(by simp; omega) by simp [List.getD, hjl]]
    exact List.getElem_mem _
  · intro h i hi
    have hi' := List.mem_range.1 hi
    simp only [Bool.not_eq_true', decide_eq_false_iff_not]
    intro hm
    obtain ⟨j, hj, e⟩ := List.getElem_of_mem hm
    have hji : j < i := by simp at hj; omega
    refine h i hi' j hji ?_
    have hjl : j < l.length := by omega
    rw [← e]
    simp [List.getD, hjl]
theorem sorted_iff (l : List Str) : sortedB l = true ↔ ∀ i, i + 1 < l.length → sLt (l.getD (i + 1) []) (l.getD i []) = false := by
  unfold sortedB
  rw [List.all_eq_true]
  constructor
  · intro h i hi
    have := h i (List.mem_range.2 (by omega))
    simpa using this
  · intro h i hi
    have := List.mem_range.1 hi
    simpa using h i (by omega)
/-- Sorted and unlike: each ahead of each later one. -/
theorem rising_iff (l : List Str) : risingB l = true ↔ ∀ i, i < l.length → ∀ j, j < i → l.getD i [] ≠ l.getD j [] ∧ sLt (l.getD i []) (l.getD j []) = false := by
  unfold risingB
  rw [Bool.and_eq_true, unlike_iff, sorted_iff]
  constructor
  · rintro ⟨hs, hu⟩ i hi j hj
    refine ⟨hu i hi j hj, ?_⟩
    have key : ∀ d, ∀ j, j + d + 1 < l.length → sLt (l.getD j []) (l.getD (j + d + 1) []) = true := by
      intro d
      induction d with
      | zero =>
        intro j hj
        exact sLt_total (hs j (by omega)) (hu (j + 1) (by omega) j (by omega))
      | succ d ih =>
        intro j hj
        exact sLt_trans (ih j (by omega)) (sLt_total (hs (j + d + 1) (by omega)) (hu (j + d + 1 + 1) (by omega) (j + d + 1) (by omega)))
    have h1 := key (i - j - 1) j (by omega)
    rw [show j + (i - j - 1) + 1 = i by omega] at h1
    cases h2 : sLt (l.getD i []) (l.getD j [])
    · rfl
    · have := sLt_trans h1 h2
      rw [sLt_irrefl] at this
      cases this
  · intro h
    exact ⟨fun i hi => (h (i + 1) hi i (by omega)).2, fun i hi j hj => (h i hi j hj).1⟩

theorem namesB_iff (l : List Str) : namesB l = true ↔ l.length ≤ 8 ∧ ∀ i, i < l.length → nameB (l.getD i []) = true := by
  unfold namesB
  rw [Bool.and_eq_true, decide_eq_true_eq, List.all_eq_true]
  constructor
  · rintro ⟨h1, h2⟩
    exact ⟨h1, fun i hi => h2 _ (by simp [List.getD, hi])⟩
  · rintro ⟨h1, h2⟩
    refine ⟨h1, fun x hx => ?_⟩
    obtain ⟨i, hi, rfl⟩ := List.getElem_of_mem hx
    have := h2 i hi
    simpa [List.getD, hi] using this
theorem clash_f (kd : Int) (x y : Str) : clash kd x y = false ↔ x ≠ y ∧ (kd = 5 → sLt x y = false) := by
  unfold clash
  by_cases h5 : kd = 5
  · simp [h5]
  · simp [h5]
theorem words_iff (kd : Int) (l : List Str) : (List.range l.length).all (wordOk kd l) = true ↔ (∀ i, i < l.length → nameB (l.getD i []) = true) ∧ ∀ i, i < l.length → ∀ j, j < i → clash kd (l.getD i []) (l.getD j []) = false := by
  rw [List.all_eq_true]
  constructor
  · intro h
    refine ⟨fun i hi => ?_, fun i hi j hj => ?_⟩
    · have := h i (List.mem_range.2 hi)
      unfold wordOk at this
      exact (Bool.and_eq_true _ _ ▸ this).1
    · have := h i (List.mem_range.2 hi)
      unfold wordOk at this
      have h2 := List.all_eq_true.1 (Bool.and_eq_true _ _ ▸ this).2 j (List.mem_range.2 hj)
      simpa using h2
  · rintro ⟨h1, h2⟩ i hi
    have hi' := List.mem_range.1 hi
    unfold wordOk
    rw [h1 i hi', Bool.true_and, List.all_eq_true]
    intro j hj
    rw [h2 i hi' j (List.mem_range.1 hj)]
    rfl
/-- By itself: the program and the document agree. -/
theorem plain_here (s : DSch) : plainS s = hereS s := by
  rw [Bool.eq_iff_iff]
  unfold plainS hereS
  rw [Bool.and_eq_true, Bool.and_eq_true, Bool.not_eq_true', decide_eq_false_iff_not, decide_eq_true_eq, words_iff]
  generalize s.kind = kd
  generalize s.words = l
  generalize s.parts.length = np
  have nil : l.length = 0 → (∀ i, i < l.length → nameB (l.getD i []) = true) ∧ ∀ i, i < l.length → ∀ j, j < i → clash kd (l.getD i []) (l.getD j []) = false := fun h => ⟨fun i hi => by omega, fun i hi => by omega⟩
  by_cases h1 : kd = 1 ∨ kd = 2 ∨ kd = 3
  · rw [if_pos h1]
    simp only [Bool.and_eq_true, decide_eq_true_eq]
    have hw : wantS kd l.length = 0 := by unfold wantS; rw [if_neg (by omega), if_neg (by omega)]
    rw [hw]
    constructor
    · rintro ⟨a, b⟩; exact ⟨by unfold badHead; omega, b, nil a⟩
    · rintro ⟨a, b, _⟩; unfold badHead at a; exact ⟨by omega, b⟩
  · rw [if_neg h1]
    by_cases h4 : kd = 4
    · subst h4
      rw [if_pos rfl]
      simp only [Bool.and_eq_true, decide_eq_true_eq, namesB_iff, unlike_iff]
      have hw : wantS 4 l.length = 0 := by simp [wantS]
      rw [hw]
      constructor
      · rintro ⟨a, ⟨b1, b2⟩, c, d⟩
        exact ⟨by unfold badHead; omega, d, b2, fun i hi j hj => (clash_f _ _ _).2 ⟨c i hi j hj, fun h => by omega⟩⟩
      · rintro ⟨a, b, c, d⟩
        unfold badHead at a
        exact ⟨by omega, ⟨by omega, c⟩, fun i hi j hj => ((clash_f _ _ _).1 (d i hi j hj)).1, b⟩
    · rw [if_neg h4]
      by_cases h5 : kd = 5
      · subst h5
        rw [if_pos rfl]
        simp only [Bool.and_eq_true, decide_eq_true_eq, namesB_iff, rising_iff]
        have hw : wantS 5 l.length = l.length := by simp [wantS]
        rw [hw]
        constructor
        · rintro ⟨⟨b1, b2⟩, c, d⟩
          exact ⟨by unfold badHead; omega, d, b2, fun i hi j hj => (clash_f _ _ _).2 ⟨(c i hi j hj).1, fun _ => (c i hi j hj).2⟩⟩
        · rintro ⟨a, b, c, d⟩
          unfold badHead at a
          exact ⟨⟨by omega, c⟩, fun i hi j hj => ⟨((clash_f _ _ _).1 (d i hi j hj)).1, ((clash_f _ _ _).1 (d i hi j hj)).2 rfl⟩, b⟩
      · rw [if_neg h5]
        by_cases h6 : kd = 6
        · subst h6
          rw [if_pos rfl]
          simp only [Bool.and_eq_true, decide_eq_true_eq]
          have hw : wantS 6 l.length = 1 := by simp [wantS]
          rw [hw]
          constructor
          · rintro ⟨a, b⟩; exact ⟨by unfold badHead; omega, b, nil a⟩
          · rintro ⟨a, b, _⟩; unfold badHead at a; exact ⟨by omega, b⟩
        · rw [if_neg h6]
          constructor
          · intro h; cases h
          · rintro ⟨a, _⟩; unfold badHead at a; omega
theorem depths_all (l : List DSch) (k : Nat) : DSch.depths l ≤ k ↔ ∀ p ∈ l, p.depth ≤ k := by
  induction l with
  | nil => simp [DSch.depths]
  | cons x l ih =>
    simp only [DSch.depths, List.mem_cons, forall_eq_or_imp]
    rw [← ih]; omega
/-- The program's 'right' is the document's. -/
theorem right_sound (k : Nat) : ∀ (s : DSch) (m : Nat), s.depth ≤ m → rightS k s = (decide (s.depth ≤ k) && soundS m s) := by
  induction k with
  | zero => intro s m _; have := s.depth_pos; simp [rightS]; omega
  | succ k ih =>
    intro s m hm
    obtain ⟨m, rfl⟩ : ∃ n, m = n + 1 := ⟨m - 1, by have := s.depth_pos; omega⟩
    have hd := s.depth_eq
    rw [Bool.eq_iff_iff]
    simp only [rightS, soundS, Bool.and_eq_true, decide_eq_true_eq, plain_here, List.all_eq_true]
    have hall := depths_all s.parts
    constructor
    · rintro ⟨h1, h2⟩
      have h3 : ∀ p ∈ s.parts, p.depth ≤ k ∧ soundS m p = true := fun p hp => by
        have := h2 p hp
        rw [ih p m (by have := DSch.depth_part hp; omega)] at this
        simpa using this
      exact ⟨by have := (hall k).2 (fun p hp => (h3 p hp).1); omega, h1, fun p hp => (h3 p hp).2⟩
    · rintro ⟨h0, h1, h2⟩
      refine ⟨h1, fun p hp => ?_⟩
      rw [ih p m (by have := DSch.depth_part hp; omega), h2 p hp, Bool.and_true, decide_eq_true_eq]
      exact (hall k).1 (by omega) p hp
end Go.Proofs.Ytpnjkebjdclkfaa

/- Values: the plain law: the program's 'right' is the document's. Conditions: none. -/
namespace Go.Proofs.Ytpnjkebjdclkfaa
open Go.RowKit
theorem plain_hereV (v : DVal) : plainV v = hereV v := by
  unfold plainV hereV riseV idsB
  have hR0 : v.names.length = 0 → (List.range v.names.length).all (riseOk v.names) = true := fun h => by rw [h]; rfl
  have hI0 : v.ids.length = 0 → (List.range v.ids.length).all (idOk v.ids) = true := fun h => by rw [h]; rfl
  have hs : decide (v.s = []) = decide (v.s.length = 0) := by rw [decide_eq_decide, List.length_eq_zero_iff]
  rw [hs]
  have hR : (List.range v.names.length).all (riseOk v.names) = true ∨ ((List.range v.names.length).all (riseOk v.names) = false ∧ 0 < v.names.length) := by
    cases h : (List.range v.names.length).all (riseOk v.names) with
    | true => exact .inl rfl
    | false => exact .inr ⟨rfl, Nat.pos_of_ne_zero fun e => by rw [hR0 e] at h; cases h⟩
  have hI : (List.range v.ids.length).all (idOk v.ids) = true ∨ ((List.range v.ids.length).all (idOk v.ids) = false ∧ 0 < v.ids.length) := by
    cases h : (List.range v.ids.length).all (idOk v.ids) with
    | true => exact .inl rfl
    | false => exact .inr ⟨rfl, Nat.pos_of_ne_zero fun e => by rw [hI0 e] at h; cases h⟩
  clear hR0 hI0 hs
  generalize (List.range v.names.length).all (riseOk v.names) = R at *
  generalize (List.range v.ids.length).all (idOk v.ids) = J at *
  generalize nameB v.s = bn at *
  generalize v.kind = kd at *
  generalize v.n = n at *
  generalize v.s.length = xl at *
  generalize v.names.length = nn at *
  generalize v.ids.length = ni at *
  generalize v.parts.length = np at *
  have hk : kd = 1 ∨ kd = 2 ∨ kd = 3 ∨ kd = 4 ∨ kd = 5 ∨ kd = 6 ∨ (kd < 1 ∨ 6 < kd) := by omega
  rw [Bool.eq_iff_iff]
  rcases hR with rfl | ⟨rfl, hR⟩ <;> rcases hI with rfl | ⟨rfl, hI⟩ <;> cases bn <;> rcases hk with rfl | rfl | rfl | rfl | rfl | rfl | hk
  all_goals first
    | (simp only [Int.reduceEq, reduceIte, Bool.and_eq_true, decide_eq_true_eq, Bool.not_eq_true', decide_eq_false_iff_not, Bool.false_eq_true, Bool.or_eq_true, and_true, true_and, and_false, false_and, false_iff, iff_false] <;> (try simp only [bad1, bad2, Int.reduceEq, Int.reduceLT, Bool.false_eq_true, Bool.true_eq_false, and_true, and_false, true_and, false_and, false_or, or_false, true_or, or_true, ne_eq, not_true_eq_false, not_false_eq_true]) <;> omega)
    | (rw [if_neg (by omega), if_neg (by omega), if_neg (by omega), if_neg (by omega), if_neg (by omega), if_neg (by omega)]; simp only [Bool.and_eq_true, decide_eq_true_eq, Bool.not_eq_true', decide_eq_false_iff_not, Bool.false_eq_true, Bool.or_eq_true, and_true, true_and, and_false, false_and, false_iff, iff_false] <;> (try simp only [bad1, bad2, Bool.false_eq_true, Bool.true_eq_false, and_true, and_false, true_and, false_and, false_or, or_false, true_or, or_true, ne_eq, not_true_eq_false, not_false_eq_true]) <;> omega)
theorem depthsV_all (l : List DVal) (k : Nat) : DVal.depths l ≤ k ↔ ∀ p ∈ l, p.depth ≤ k := by
  induction l with
  | nil => simp [DVal.depths]
  | cons x l ih =>
    simp only [DVal.depths, List.mem_cons, forall_eq_or_imp]
    rw [← ih]; omega
theorem right_soundV (k : Nat) : ∀ (s : DVal) (m : Nat), s.depth ≤ m → rightV k s = (decide (s.depth ≤ k) && soundV m s) := by
  induction k with
  | zero => intro s m _; have := s.depth_pos; simp [rightV]; omega
  | succ k ih =>
    intro s m hm
    obtain ⟨m, rfl⟩ : ∃ n, m = n + 1 := ⟨m - 1, by have := s.depth_pos; omega⟩
    have hd := s.depth_eq
    rw [Bool.eq_iff_iff]
    simp only [rightV, soundV, Bool.and_eq_true, decide_eq_true_eq, plain_hereV, List.all_eq_true]
    have hall := depthsV_all s.parts
    constructor
    · rintro ⟨h1, h2⟩
      have h3 : ∀ p ∈ s.parts, p.depth ≤ k ∧ soundV m p = true := fun p hp => by
        have := h2 p hp
        rw [ih p m (by have := DVal.depth_part hp; omega)] at this
        simpa using this
      exact ⟨by have := (hall k).2 (fun p hp => (h3 p hp).1); omega, h1, fun p hp => (h3 p hp).2⟩
    · rintro ⟨h0, h1, h2⟩
      refine ⟨h1, fun p hp => ?_⟩
      rw [ih p m (by have := DVal.depth_part hp; omega), h2 p hp, Bool.and_true, decide_eq_true_eq]
      exact (hall k).1 (by omega) p hp
/-- A contract over memory, of a value made anew. -/
theorem dpure_of_new {P : Program} {g : FuncId} {args : List D} {d : DVal} (hent : ∀ vs w, (callFunc g vs).run P w = .ok (.enter g vs) w) (h : ∀ (w : World) (η : Names) (X : Nat → Nat → Prop) (vs : List Value), RepL P w η X args vs → Calls P g vs.toArray w (NewVal d w)) : DPure P g args (encV d) :=
  fun S _ η w vs hM hr => ⟨hent _ _, (h w η _ vs hr).mono fun _ w' ⟨cs, he, hv, hb⟩ => ⟨encV d, _, η, .agg cs.toArray, ⟨rfl, rfl⟩, he, rep_val (F := fun b => w.heap.size ≤ b ∧ b < w'.heap.size) (fun b i hF k o h1 _ => by have := (hM.in_ k b h1).2; omega) hv, goes_below hM hb⟩⟩
theorem arg_val {P : Program} {w : World} {η : Names} {X : Nat → Nat → Prop} {v : DVal} {vs : List Value} (hok : okV v) (h : RepL P w η X [encV v] vs) : ∃ cs : List Value, vs = [.agg cs.toArray] ∧ IsVal w (· < w.heap.size) v cs := by
  simp only [RepL] at h
  obtain ⟨x, xs, rfl, h1, rfl⟩ := h
  obtain ⟨cs, rfl, hv⟩ := val_of_rep v.depth v (Nat.le_refl _) hok h1
  exact ⟨cs, rfl, hv⟩
theorem arg_sch {P : Program} {w : World} {η : Names} {X : Nat → Nat → Prop} {v : DSch} {vs : List Value} (hok : okS v) (h : RepL P w η X [encS v] vs) : ∃ cs : List Value, vs = [.agg cs.toArray] ∧ IsSch w (· < w.heap.size) v cs := by
  simp only [RepL] at h
  obtain ⟨x, xs, rfl, h1, rfl⟩ := h
  obtain ⟨cs, rfl, hv⟩ := sch_of_rep v.depth v (Nat.le_refl _) hok h1
  exact ⟨cs, rfl, hv⟩
/-- A plain answer of one value. -/
theorem dpure_val {P : Program} {g : FuncId} {v : DVal} {r : Value} (hok : okV v) (hent : ∀ vs w, (callFunc g vs).run P w = .ok (.enter g vs) w) (h : ∀ (w : World) (cs : List Value), IsVal w (· < w.heap.size) v cs → Calls P g #[.agg cs.toArray] w (Gives r w)) : DPure P g [encV v] (.v r) :=
  dpure_of_gives hent fun w η X vs hr => by obtain ⟨cs, rfl, hv⟩ := arg_val hok hr; exact h w cs hv
theorem dpure_sch {P : Program} {g : FuncId} {v : DSch} {r : Value} (hok : okS v) (hent : ∀ vs w, (callFunc g vs).run P w = .ok (.enter g vs) w) (h : ∀ (w : World) (cs : List Value), IsSch w (· < w.heap.size) v cs → Calls P g #[.agg cs.toArray] w (Gives r w)) : DPure P g [encS v] (.v r) :=
  dpure_of_gives hent fun w η X vs hr => by obtain ⟨cs, rfl, hv⟩ := arg_sch hok hr; exact h w cs hv
theorem greatV_d (v : DVal) (hok : okV v) : DPure Try.prog 24 [encV v] (.v (.bool (decide (roomV 12 v 300 < 0)))) := dpure_val hok (fun _ _ => by kernel_rfl) fun w cs h => greatV_calls v cs w h
theorem valRight_d (v : DVal) (hok : okV v) : DPure Try.prog 44 [encV v] (.v (.bool (rightV 5 v))) := dpure_val hok (fun _ _ => by kernel_rfl) fun w cs h => valRightP_calls v cs w h
theorem refValDepth_d (v : DVal) (hok : okV v) (hd : v.depth ≤ 1000000) : DPure Try.prog 46 [encV v] (.v (.int .i64 v.depth)) := dpure_val hok (fun _ _ => by kernel_rfl) fun w cs h => refValDepth_calls 1000000 v cs w hd (Nat.le_refl _) h
theorem refValRight_d (v : DVal) (hok : okV v) (hd : v.depth ≤ 1000000) : DPure Try.prog 27 [encV v] (.v (.bool (rightV 5 v))) := by
  have hr := right_soundV 5 v v.depth (Nat.le_refl _)
  refine dpure_of_dwp mixed Try.func27 rfl (fun _ _ => by kernel_rfl) (rs := [.tmp 2]) rfl (by kernel_rfl) trivial (fun S hS => ?_)
  simp only [go_sem, ↓reduceIte, Nat.reduceBEq, Nat.reduceAdd, Nat.reduceLeDiff, Nat.reduceEqDiff, Nat.reduceLT, add_ob, set_ob]
  refine DCalls.of_pure (refValDepth_d v hok hd) ?_
  simp only [go_sem, ↓reduceIte, Nat.reduceBEq, Nat.reduceAdd, Nat.reduceLeDiff, Nat.reduceEqDiff, Nat.reduceLT, add_ob, set_ob]
  by_cases h5 : v.depth ≤ 5
  · have b1 : decide ((v.depth : Int) ≤ 5) = true := by simp; omega
    simp only [go_sem, ↓reduceIte, Nat.reduceBEq, Nat.reduceAdd, Nat.reduceLeDiff, Nat.reduceEqDiff, Nat.reduceLT, add_ob, set_ob, b1]
    refine DCalls.of_pure (refSoundV_d v.depth v (Nat.le_refl _) hok) ?_
    simp only [go_sem, ↓reduceIte, Nat.reduceBEq, Nat.reduceAdd, Nat.reduceLeDiff, Nat.reduceEqDiff, Nat.reduceLT, add_ob, set_ob]
    exact ⟨by rw [hr, decide_eq_true h5]; rfl, (St.Sub.refl S).add hS _⟩
  · have b1 : decide ((v.depth : Int) ≤ 5) = false := by simp; omega
    simp only [go_sem, ↓reduceIte, Nat.reduceBEq, Nat.reduceAdd, Nat.reduceLeDiff, Nat.reduceEqDiff, Nat.reduceLT, add_ob, set_ob, b1]
    exact ⟨by rw [hr, decide_eq_false h5]; rfl, (St.Sub.refl S).add hS _⟩
theorem sne1_2 (n : Nat) : (n + 1 = n + 2) = False := eq_false (by omega)
theorem sne1_3 (n : Nat) : (n + 1 = n + 3) = False := eq_false (by omega)
theorem sne1_4 (n : Nat) : (n + 1 = n + 4) = False := eq_false (by omega)
theorem sne2_1 (n : Nat) : (n + 2 = n + 1) = False := eq_false (by omega)
theorem sne2_3 (n : Nat) : (n + 2 = n + 3) = False := eq_false (by omega)
theorem sne2_4 (n : Nat) : (n + 2 = n + 4) = False := eq_false (by omega)
theorem sne3_1 (n : Nat) : (n + 3 = n + 1) = False := eq_false (by omega)
theorem sne3_2 (n : Nat) : (n + 3 = n + 2) = False := eq_false (by omega)
theorem sne3_4 (n : Nat) : (n + 3 = n + 4) = False := eq_false (by omega)
theorem sne4_1 (n : Nat) : (n + 4 = n + 1) = False := eq_false (by omega)
theorem sne4_2 (n : Nat) : (n + 4 = n + 2) = False := eq_false (by omega)
theorem sne4_3 (n : Nat) : (n + 4 = n + 3) = False := eq_false (by omega)
theorem sne1_0 (n : Nat) : (n + 1 = n) = False := eq_false (by omega)
theorem sne0_1 (n : Nat) : (n = n + 1) = False := eq_false (by omega)
theorem sne2_0 (n : Nat) : (n + 2 = n) = False := eq_false (by omega)
theorem sne0_2 (n : Nat) : (n = n + 2) = False := eq_false (by omega)
theorem sne3_0 (n : Nat) : (n + 3 = n) = False := eq_false (by omega)
theorem sne0_3 (n : Nat) : (n = n + 3) = False := eq_false (by omega)
theorem sne4_0 (n : Nat) : (n + 4 = n) = False := eq_false (by omega)
theorem sne0_4 (n : Nat) : (n = n + 4) = False := eq_false (by omega)
attribute [go_sem] sne1_2 sne1_3 sne1_4 sne2_1 sne2_3 sne2_4 sne3_1 sne3_2 sne3_4 sne4_1 sne4_2 sne4_3 sne1_0 sne0_1 sne2_0 sne0_2 sne3_0 sne0_3 sne4_0 sne0_4
theorem bin_beql {x y : Operand} (a b : Bool) : dbin Try.prog .eql 4 x y (.v (.bool a)) (.v (.bool b)) = some (True, .v (.bool (a == b))) := by
  cases a <;> cases b <;> kernel_rfl
attribute [go_sem] bin_beql
theorem strArg {P : Program} {w : World} {η : Names} {X : Nat → Nat → Prop} {own : Own} {l : List Str} {y : Value} (h : Rep P w η X (.sl own (l.map strD)) y) : ∃ A c, y = .slice A l.length c ∧ l.length ≤ c ∧ RF w (· < w.heap.size) 1 A l.length (l.map sv) := scalars_of_rep sv h
/-- Sound at any depth. -/
def RV (v : DVal) : Prop := ∃ m, v.depth ≤ m ∧ soundV m v = true
def RS (s : DSch) : Prop := ∃ m, s.depth ≤ m ∧ soundS m s = true
theorem RV.part {v p : DVal} (h : RV v) (hp : p ∈ v.parts) : RV p := by
  obtain ⟨m, h1, h2⟩ := h
  obtain ⟨m, rfl⟩ : ∃ n, m = n + 1 := ⟨m - 1, by have := v.depth_pos; omega⟩
  rw [soundV, Bool.and_eq_true] at h2
  exact ⟨m, by have := DVal.depth_part hp; omega, List.all_eq_true.1 h2.2 p hp⟩
theorem RS.part {v p : DSch} (h : RS v) (hp : p ∈ v.parts) : RS p := by
  obtain ⟨m, h1, h2⟩ := h
  obtain ⟨m, rfl⟩ : ∃ n, m = n + 1 := ⟨m - 1, by have := v.depth_pos; omega⟩
  rw [soundS, Bool.and_eq_true] at h2
  exact ⟨m, by have := DSch.depth_part hp; omega, List.all_eq_true.1 h2.2 p hp⟩
theorem RV.here {v : DVal} (h : RV v) : (v.kind ≠ 5 → v.names.length = 0) ∧ (v.kind ≠ 6 → v.ids.length = 0) ∧ v.parts.length = v.names.length + v.ids.length := by
  obtain ⟨m, h1, h2⟩ := h
  obtain ⟨m, rfl⟩ : ∃ n, m = n + 1 := ⟨m - 1, by have := v.depth_pos; omega⟩
  rw [soundV, Bool.and_eq_true, hereV, Bool.and_eq_true, Bool.and_eq_true, Bool.not_eq_true', Bool.not_eq_true', decide_eq_false_iff_not, decide_eq_false_iff_not] at h2
  have h3 := h2.1.1.1
  have h4 := h2.1.1.2
  unfold bad1 at h3
  unfold bad2 at h4
  omega
theorem RS.here {s : DSch} (h : RS s) : (s.kind = 5 → s.parts.length = s.words.length) ∧ (s.kind = 6 → s.parts.length = 1) := by
  obtain ⟨m, h1, h2⟩ := h
  obtain ⟨m, rfl⟩ : ∃ n, m = n + 1 := ⟨m - 1, by have := s.depth_pos; omega⟩
  rw [soundS, Bool.and_eq_true, hereS, Bool.and_eq_true, Bool.and_eq_true, decide_eq_true_eq] at h2
  have h3 := h2.1.2.1
  unfold wantS at h3
  exact ⟨fun h => by rw [if_pos h] at h3; exact h3, fun h => by rw [if_neg (by omega), if_pos h] at h3; exact h3⟩
def headF (v : DVal) (s : DSch) : Bool := decide (v.kind = s.kind) && ((!decide (v.kind = 4) || decide (v.s ∈ s.words)) && (!decide (v.kind = 5) || decide (v.names = s.words)))
def atF (s : DSch) (i : Nat) : Nat := if s.kind = 6 then 0 else i
def fitsV : Nat → DVal → DSch → Bool
  | 0, _, _ => true
  | k + 1, v, s => headF v s && (List.range v.parts.length).all fun i => fitsV k (v.parts.getD i default) (s.parts.getD (atF s i) default)
theorem atF_lt {v : DVal} {s : DSch} (hv : RV v) (hs : RS s) (h : headF v s = true) {i : Nat} (hi : i < v.parts.length) : atF s i < s.parts.length := by
  have h1 := hv.here
  have h2 := hs.here
  rw [headF, Bool.and_eq_true, decide_eq_true_eq, Bool.and_eq_true] at h
  obtain ⟨hk, _, hn⟩ := h
  unfold atF
  by_cases h6 : s.kind = 6
  · rw [if_pos h6, h2.2 h6]; omega
  · rw [if_neg h6]
    by_cases h5 : v.kind = 5
    · rw [h5] at hn
      have : v.names = s.words := by simpa using hn
      rw [h2.1 (by omega), ← this]; omega
    · omega
theorem RV.of_right {v : DVal} (h : rightV 5 v = true) : RV v := ⟨v.depth, Nat.le_refl _, by
  have := right_soundV 5 v v.depth (Nat.le_refl _)
  rw [h] at this
  exact (Bool.and_eq_true _ _ ▸ this.symm).2⟩
theorem i64_0 : I64 0 := WalkArith.wf_i64 (by omega)
theorem zeroV_ok : okV zeroV := by rw [okV_eq]; exact ⟨i64_0, i64_0, by simp [zeroV, DVal.s], by simp [zeroV, DVal.names], by simp [zeroV, DVal.names], by simp [zeroV, DVal.ids], by simp [zeroV, DVal.ids], by simp [zeroV, DVal.parts], by simp [zeroV, DVal.parts]⟩
end Go.Proofs.Ytpnjkebjdclkfaa

/- Values, walked: copies. Conditions: none. -/
namespace Go.Proofs.Ytpnjkebjdclkfaa
open Go.RowKit
set_option linter.unusedSimpArgs false
/-- What is known of the memory at a round's head: the row that grows. -/
def rowOb (S : St) (own : Own) (e : TypeId) (n : Nat) : Nat → Option Ob := fun k => match own with
  | .row g => if k = g then some (.row e n) else S.ob k
  | _ => S.ob k
theorem row_sub {S : St} (hS : S.WF) {e : TypeId} {own : Own} {i n : Nat} (h : (i = 0 ∧ own = .full) ∨ (0 < i ∧ ∃ g, own = .row g ∧ S.next ≤ g ∧ g < n)) (hn : S.next ≤ n) : S.Sub ⟨n, rowOb S own e i⟩ := ⟨hn, fun k o hk => by
  rcases h with ⟨_, rfl⟩ | ⟨_, g, rfl, h1, _⟩
  · exact hk
  · have := hS.lt hk
    show (if k = g then _ else _) = _
    rw [if_neg (by omega)]
    exact hk⟩
theorem closed_slV (l : List DVal) : (D.sl .no (l.map encV)).closed := by
  simp only [D.closed, D.all, Own.all]
  exact ⟨trivial, by rw [← encVs_map]; exact closed_encVs l⟩
theorem row_next {S : St} (hS : S.WF) {e : TypeId} {own : Own} {i n : Nat} (h : (i = 0 ∧ own = .full) ∨ (0 < i ∧ ∃ g, own = .row g ∧ S.next ≤ g ∧ g < n)) (hn : S.next ≤ n) (o1 o2 : Ob) (m : Nat) :
    ∀ k o, rowOb S (.row (n + 1)) e m k = some o → (((St.add ⟨n, rowOb S own e i⟩ o1).set n o2).grow own e m).ob k = some o := fun k o hk => by
  by_cases h1 : k = n + 1
  · subst h1
    simp only [rowOb, if_true] at hk
    rcases h with ⟨_, rfl⟩ | ⟨_, g, rfl, _, _⟩
    · rw [grow_full_ob, set_next, add_next, if_pos rfl, hk]
    · rw [grow_row_ob, set_next, add_next, if_pos rfl, hk]
  · simp only [rowOb, if_neg h1] at hk
    have h2 := hS.lt hk
    rcases h with ⟨_, rfl⟩ | ⟨_, g, rfl, h3, h4⟩
    · rw [grow_full_ob, set_next, add_next, if_neg h1, set_ob, add_ob, if_neg (by omega)]
      show (if k = n then _ else rowOb S .full e i k) = _
      rw [if_neg (by omega)]
      exact hk
    · rw [grow_row_ob, set_next, add_next, if_neg h1, if_neg (by omega), set_ob, add_ob, if_neg (by omega)]
      show (if k = n then _ else rowOb S (.row g) e i k) = _
      rw [if_neg (by omega)]
      show (if k = g then _ else _) = _
      rw [if_neg (by omega)]
      exact hk
structure LC (l : List DVal) (S : St) (f : Fm) (T : St) (i : Nat) (own : Own) : Prop where
  st : T.ob = rowOb S own 31 i
  nx : S.next ≤ T.next
  ow : (i = 0 ∧ own = .full) ∨ (0 < i ∧ ∃ g, own = .row g ∧ S.next ≤ g ∧ g < T.next)
  s1 : f 1 = .fn (.func 43) [] []
  s5 : f 5 = .sl own ((l.take i).map encV)
  s8 : f 8 = .sl .no (l.map encV)
  s9 : f 9 = .v (.int .i64 l.length)
  s10 : f 10 = .v (.int .i64 i)
  le : i ≤ l.length
def LCE (l : List DVal) (S : St) (f : Fm) (T : St) : Prop := ∃ i own, LC l S f T i own
set_option maxRecDepth 200000 in
set_option maxHeartbeats 4000000 in
theorem copyParts_d (l : List DVal) (hl : l.length ≤ 1000000) (h : ∀ p ∈ l, DPure Try.prog 43 [encV p] (encV p)) : DPure Try.prog 80 [.sl .no (l.map encV), .fn (.func 43) [] []] (.sl .no (l.map encV)) := by
  refine dpure_of_dwp mixed Try.func80 rfl (fun _ _ => by kernel_rfl) (rs := [.tmp 4]) rfl (by kernel_rfl) (closed_slV l) (fun S hS => ?_)
  simp only [go_sem, ↓reduceIte, Nat.reduceBEq, Nat.reduceAdd, Nat.reduceLeDiff, Nat.reduceEqDiff, Nat.reduceLT, add_ob, set_ob]
  refine dloop_mk (LCE l S) (fun f _ => l.length - slotN (f 10)) ⟨0, .full, ⟨rfl, Nat.le_refl _, .inl ⟨rfl, rfl⟩, by simp only [go_sem, ↓reduceIte, Nat.reduceBEq, Nat.reduceAdd, Nat.reduceLeDiff, Nat.reduceEqDiff, Nat.reduceLT, add_ob, set_ob], by simp only [go_sem, ↓reduceIte, Nat.reduceBEq, Nat.reduceAdd, Nat.reduceLeDiff, Nat.reduceEqDiff, Nat.reduceLT, add_ob, set_ob], by simp only [go_sem, ↓reduceIte, Nat.reduceBEq, Nat.reduceAdd, Nat.reduceLeDiff, Nat.reduceEqDiff, Nat.reduceLT, add_ob, set_ob], by simp only [go_sem, ↓reduceIte, Nat.reduceBEq, Nat.reduceAdd, Nat.reduceLeDiff, Nat.reduceEqDiff, Nat.reduceLT, add_ob, set_ob], by simp only [go_sem, ↓reduceIte, Nat.reduceBEq, Nat.reduceAdd, Nat.reduceLeDiff, Nat.reduceEqDiff, Nat.reduceLT, add_ob, set_ob]; rfl, by omega⟩⟩ ?_
  rintro g ⟨tn, tob⟩ ⟨i, own, q⟩
  obtain rfl : tob = rowOb S own 31 i := q.st
  have nx : S.next ≤ tn := q.nx
  by_cases hlt : i < l.length
  · have b1 : decide ((i : Int) < (l.length : Int)) = true := by simp; omega
    have hx := getD_map encV l i hlt
    have c1 : (0 : Int) ≤ (i : Int) := by omega
    have c2 : (i : Int) < (l.length : Int) := by omega
    have w1 : IntKind.i64.wrap ((i : Int) + 1) = (i : Int) + 1 := IntWalk.i64_in _ ⟨by omega, by omega⟩
    simp only [go_sem, ↓reduceIte, Nat.reduceBEq, Nat.reduceAdd, Nat.reduceLeDiff, Nat.reduceEqDiff, Nat.reduceLT, add_ob, set_ob, q.s1, q.s5, q.s8, q.s9, q.s10, b1, hx, c1, c2]
    refine DCalls.of_pure (h l[i] (List.getElem_mem hlt)) ?_
    simp only [go_sem, ↓reduceIte, Nat.reduceBEq, Nat.reduceAdd, Nat.reduceLeDiff, Nat.reduceEqDiff, Nat.reduceLT, add_ob, set_ob, q.s1, q.s5, q.s8, q.s9, q.s10, w1]
    refine ⟨⟨by rfl, by omega, fun d hd => by rw [List.mem_singleton] at hd; subst hd; exact ⟨okCell_encV _, cells_encV _⟩⟩, dapp_row ?_⟩
    simp only [go_sem, ↓reduceIte, Nat.reduceBEq, Nat.reduceAdd, Nat.reduceLeDiff, Nat.reduceEqDiff, Nat.reduceLT, add_ob, set_ob, q.s1, q.s5, q.s8, q.s9, q.s10, w1]
    have hlt2 : (l.take i).length = i := by rw [List.length_take]; omega
    have hsub0 : S.Sub ⟨tn, rowOb S own 31 i⟩ := row_sub hS q.ow nx
    refine ⟨rfl, fun d hd => ?_, fun d hd => ?_, ?_, by omega, by omega, ?_⟩
    · obtain ⟨p, _, rfl⟩ := List.mem_map.1 hd; exact cells_encV _
    · rw [List.mem_singleton] at hd; subst hd; exact cells_encV _
    · rcases q.ow with ⟨rfl, rfl⟩ | ⟨h0, g', rfl, hg1, hg2⟩
      · trivial
      · have e2 : (g' : Nat) ≠ tn := by have hg : g' < tn := hg2; omega
        simp only [e2, if_false, rowOb, if_true, hlt2]
    · refine round_back (rowOb S (.row (tn + 1)) 31 (i + 1)) ?_ ⟨i + 1, .row (tn + 1), ⟨rfl, ?_, .inr ⟨by omega, _, rfl, by omega, ?_⟩, by simp only [go_sem, ↓reduceIte, Nat.reduceBEq, Nat.reduceAdd, Nat.reduceLeDiff, Nat.reduceEqDiff, Nat.reduceLT, add_ob, set_ob, q.s1], ?_, by simp only [go_sem, ↓reduceIte, Nat.reduceBEq, Nat.reduceAdd, Nat.reduceLeDiff, Nat.reduceEqDiff, Nat.reduceLT, add_ob, set_ob, q.s8], by simp only [go_sem, ↓reduceIte, Nat.reduceBEq, Nat.reduceAdd, Nat.reduceLeDiff, Nat.reduceEqDiff, Nat.reduceLT, add_ob, set_ob, q.s9], by simp only [go_sem, ↓reduceIte, Nat.reduceBEq, Nat.reduceAdd, Nat.reduceLeDiff, Nat.reduceEqDiff, Nat.reduceLT, add_ob, set_ob]; rfl, by omega⟩⟩ (by simp only [go_sem, ↓reduceIte, Nat.reduceBEq, Nat.reduceAdd, Nat.reduceLeDiff, Nat.reduceEqDiff, Nat.reduceLT, add_ob, set_ob]; omega)
      · rw [hlt2]; exact row_next hS q.ow nx _ _ _
      · show S.next ≤ _
        simp only [grow_next, set_next, add_next]; omega
      · simp only [grow_next, set_next, add_next]; omega
      · simp only [go_sem, ↓reduceIte, Nat.reduceBEq, Nat.reduceAdd, Nat.reduceLeDiff, Nat.reduceEqDiff, Nat.reduceLT, add_ob, set_ob]
        rw [List.take_succ_eq_append_getElem hlt, List.map_append]
        rfl
  · have b1 : decide ((i : Int) < (l.length : Int)) = false := by simp; omega
    simp only [go_sem, ↓reduceIte, Nat.reduceBEq, Nat.reduceAdd, Nat.reduceLeDiff, Nat.reduceEqDiff, Nat.reduceLT, add_ob, set_ob, q.s1, q.s5, q.s8, q.s9, q.s10, b1]
    have hi : i = l.length := by have := q.le; omega
    exact ⟨by rw [hi, List.take_length]; simp only [D.frz, frz_mapV], row_sub hS q.ow nx⟩
theorem partsLen (v : DVal) : v.parts.length ≤ DVal.weights v.parts := by
  have : ∀ l : List DVal, l.length ≤ DVal.weights l := fun l => by
    induction l with
    | nil => exact Nat.zero_le _
    | cons p l ih => simp only [DVal.weights, List.length_cons]; have := p.weight_eq; omega
  exact this _
set_option maxRecDepth 200000 in
set_option maxHeartbeats 4000000 in
theorem copyV_d (k : Nat) : ∀ (v : DVal), v.depth ≤ k → v.weight ≤ 1000000 → DPure Try.prog 43 [encV v] (encV v) := by
  induction k with
  | zero => intro v h; have := v.depth_pos; omega
  | succ k ih =>
    intro v hk hw
    have hwe := v.weight_eq
    have hpl := partsLen v
    have hparts := copyParts_d v.parts (by omega) fun p hp => ih p (by have := DVal.depth_part hp; omega) (by have := DVal.weight_part hp; omega)
    refine dpure_of_dwp mixed Try.func43 rfl (fun _ _ => by kernel_rfl) (rs := [.cell 2 31]) rfl (by kernel_rfl) (closed_encV v) (fun S hS => ?_)
    simp only [go_sem, ↓reduceIte, Nat.reduceBEq, Nat.reduceAdd, Nat.reduceLeDiff, Nat.reduceEqDiff, Nat.reduceLT, add_ob, set_ob, encV_eq v]
    refine ddraw_mk 7 (by kernel_rfl) ?_
    simp only [go_sem, ↓reduceIte, Nat.reduceBEq, Nat.reduceAdd, Nat.reduceLeDiff, Nat.reduceEqDiff, Nat.reduceLT, add_ob, set_ob]
    refine ⟨⟨rfl, (fun d hd => by cases hd), (fun d hd => by obtain ⟨p, _, rfl⟩ := List.mem_map.1 hd; rfl), by omega, by omega⟩, ⟨rfl, (fun d hd => by cases hd), (fun d hd => by obtain ⟨p, _, rfl⟩ := List.mem_map.1 hd; rfl), by omega, by omega⟩, ?_⟩
    refine DCalls.of_pure hparts ?_
    simp only [go_sem, ↓reduceIte, Nat.reduceBEq, Nat.reduceAdd, Nat.reduceLeDiff, Nat.reduceEqDiff, Nat.reduceLT, add_ob, set_ob]
    refine ⟨?_, ?_⟩
    · simp only [D.frz, frzL, frz_strs, frz_u64s, frz_mapV, strD]
    · exact ((((((St.Sub.refl S).add hS _).add hS _).set hS (Nat.le_refl _) _).set hS (Nat.le_refl _) _).set hS (Nat.le_refl _) _).set hS (by omega) _
end Go.Proofs.Ytpnjkebjdclkfaa
