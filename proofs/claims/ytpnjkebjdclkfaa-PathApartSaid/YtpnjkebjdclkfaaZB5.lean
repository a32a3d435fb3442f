/- Texts of a proof, part 5. Conditions: none. -/
import Derived.Test.YtpnjkebjdclkfaaZB4
set_option linter.unusedVariables false
set_option linter.unusedSimpArgs false
/- Schemas, walked: depths. Conditions: none. -/
namespace Go.Proofs.Ytpnjkebjdclkfaa
open Go.RowKit

set_option maxHeartbeats 1000000 in
set_option maxRecDepth 20000 in
theorem schDepth_calls (k : Nat) : ∀ (s : DSch) (cs : List Value) (w : World), s.depth ≤ k → k ≤ 1000000 → IsSch w (· < w.heap.size) s cs →
    Calls Try.prog 16 #[.agg cs.toArray] w (Gives (.int .i64 s.depth) w) := by
  induction k with
  | zero => intro s cs w h; have := s.depth_pos; omega
  | succ k ih =>
    intro s cs w hk hkk hs
    obtain ⟨Ap, cp, hc, hcp, hmp, hA⟩ := hs.parts_
    have HI := hide ih
    have HA := hide hA
    have HS := hide hs
    have HD := hide s.depth_eq
    have hdp := s.depth_eq
    have HB0 := hide (Blk.new w 25 cs.toArray)
    have HW0 := hide ((Below.refl w.heap.size w).alloc (Nat.le_refl _) (.cells cs.toArray 25))
    have HP := hide (fun p (h : p ∈ s.parts) => DSch.depth_part h)
    clear ih hA hs
    go_enter Try.func16, Try.ntmps16
    go_wp2_with fail
    go_loopw [3, 9] (fun nv iv wr => ∃ (i : Nat), iv = .int .i64 i ∧ i ≤ s.parts.length ∧ nv = .int .i64 (DSch.depths (s.parts.take i)) ∧ Below w.heap.size w wr) (fun _ iv _ => s.parts.length - (intOf iv).toNat)
    case atStart => exact ⟨0, rfl, Nat.zero_le _, rfl, HW0.out⟩
    case round =>
      obtain ⟨i, rfl, hi, rfl, hw⟩ := hrel
      obtain ⟨wo, rfl⟩ : ∃ wo : World, wo = wr := ⟨_, rfl⟩
      have GW := hide hw
      clear hw HB0 HW0
      have hle := DSch.depths_le s.parts i
      by_cases hlt : i < s.parts.length
      · obtain ⟨b, o, rfl, hb, hC⟩ := HA.out (by omega)
        obtain ⟨C, hl3, hr, hpi⟩ := hC i _ (List.getElem?_eq_getElem hlt)
        have HRW : Hid (wo.rangeAt b (o + i * 3) C) := hide fun q v hv => (GW.out.cell (p := ⟨b, o + i * 3 + q, none⟩) hb).trans (hr q v hv)
        have HL3 := hide hl3
        have hone := hpi.one
        have HONE := hide hone
        have HPI := hide hpi
        have HT := hide (DSch.depths_take s.parts i hlt)
        have hpd := HP.out _ (List.getElem_mem hlt)
        clear hC hl3 hr hpi hone
        generalize s.parts[i] = p at *
        generalize DSch.depths (s.parts.take i) = m at *
        have hst := fun (W : World) => run_store_new (P := Try.prog) W 25 [.int .i64 0, .slice none 0 0, .slice none 0 0] C (by rw [HL3.out]; rfl) HONE.out
        go_wp2_with (first
          | (refine wpList_load_mid rfl 25 _ rfl b (o + i * 3) rfl C _ HRW.out rfl rfl (by rw [HL3.out]; kernel_rfl) ?_)
          | (refine wpList_load_blk rfl 25 _ rfl _ rfl _ _ (Blk.new _ _ _) _ rfl rfl (by rw [List.size_toArray, HL3.out]; kernel_rfl) ?_)
          | fail)
        have K6 := hide (GW.out.alloc GW.out.size (.cells C.toArray 25))
        clear HRW
        refine (HI.out p C _ (by omega) (by omega) (HPI.out.more K6.out)).mono ?_
        rintro e w1 ⟨rfl, hb1⟩
        have KW := hide (K6.out.trans (hb1.mono K6.out.size))
        clear hb1
        go_wp2_with fail
        exact ⟨⟨i + 1, by go_num, by omega, by rw [HT.out]; go_num, KW.out⟩, by simp [intOf]; omega⟩
      · have HE : Hid (DSch.depths (s.parts.take i) + 1 = s.depth) := hide (by rw [List.take_of_length_le (by omega), HD.out])
        generalize DSch.depths (s.parts.take i) = m at *
        go_wp2
        go_ret
        exact ⟨ret_eq (by rw [← HE.out]; first | rfl | go_num), GW.out⟩


set_option maxHeartbeats 1000000 in
set_option maxRecDepth 20000 in
theorem refSchDepth_calls (k : Nat) : ∀ (s : DSch) (cs : List Value) (w : World), s.depth ≤ k → k ≤ 1000000 → IsSch w (· < w.heap.size) s cs →
    Calls Try.prog 17 #[.agg cs.toArray] w (Gives (.int .i64 s.depth) w) := by
  induction k with
  | zero => intro s cs w h; have := s.depth_pos; omega
  | succ k ih =>
    intro s cs w hk hkk hs
    obtain ⟨Ap, cp, hc, hcp, hmp, hA⟩ := hs.parts_
    have HI := hide ih
    have HA := hide hA
    have HS := hide hs
    have HD := hide s.depth_eq
    have hdp := s.depth_eq
    have HB0 := hide (Blk.new w 25 cs.toArray)
    have HW0 := hide ((Below.refl w.heap.size w).alloc (Nat.le_refl _) (.cells cs.toArray 25))
    have HP := hide (fun p (h : p ∈ s.parts) => DSch.depth_part h)
    clear ih hA hs
    go_enter Try.func17, Try.ntmps17
    go_wp2_with fail
    go_loopw [3, 4] (fun nv iv wr => ∃ (i : Nat), iv = .int .i64 i ∧ i ≤ s.parts.length ∧ nv = .int .i64 ((DSch.depths (s.parts.take i) : Nat) + 1 : Int) ∧ Blk wr w.heap.size 25 cs.toArray ∧ Below w.heap.size w wr) (fun _ iv _ => s.parts.length - (intOf iv).toNat)
    case atStart => exact ⟨0, rfl, Nat.zero_le _, rfl, HB0.out, HW0.out⟩
    case round =>
      obtain ⟨i, rfl, hi, rfl, hblk, hw⟩ := hrel
      obtain ⟨wo, rfl⟩ : ∃ wo : World, wo = wr := ⟨_, rfl⟩
      have GW := hide hw
      have GB := hide hblk
      clear hw hblk HB0 HW0
      have hle := DSch.depths_le s.parts i
      have cf : wo.cell? ⟨w.heap.size, 2, none⟩ = cs[2]? := by have := GB.out.cell 2; simpa using this
      rw [hc] at cf
      by_cases hlt : i < s.parts.length
      · obtain ⟨b, o, rfl, hb, hC⟩ := HA.out (by omega)
        obtain ⟨C, hl3, hr, hpi⟩ := hC i _ (List.getElem?_eq_getElem hlt)
        have HRW : Hid (wo.rangeAt b (o + i * 3) C) := hide fun q v hv => (GW.out.cell (p := ⟨b, o + i * 3 + q, none⟩) hb).trans (hr q v hv)
        have HL3 := hide hl3
        have HPI := hide hpi
        have HT := hide (DSch.depths_take s.parts i hlt)
        have hpd := HP.out _ (List.getElem_mem hlt)
        clear hC hl3 hr hpi
        generalize s.parts[i] = p at *
        generalize DSch.depths (s.parts.take i) = m at *
        go_wp2_with (first
          | (refine wpList_load_mid rfl 25 _ rfl b (o + i * 3) rfl C _ HRW.out rfl rfl (by rw [HL3.out]; kernel_rfl) ?_)
          | fail)
        refine (HI.out p C _ (by omega) (by omega) (HPI.out.more GW.out)).mono ?_
        rintro e w1 ⟨rfl, hb1⟩
        have KB := hide (GB.out.below hb1 GB.out.lt)
        have KW := hide (GW.out.trans (hb1.mono GW.out.size))
        clear hb1
        by_cases hgt : m < p.depth
        · go_wp2_with fail
          exact ⟨⟨i + 1, by go_num, by omega, by rw [HT.out, Nat.max_eq_right (by omega)], KB.out, KW.out⟩, by simp [intOf]; omega⟩
        · go_wp2_with fail
          exact ⟨⟨i + 1, by go_num, by omega, by rw [HT.out, Nat.max_eq_left (by omega)], KB.out, KW.out⟩, by simp [intOf]; omega⟩
      · have HE : Hid (((DSch.depths (s.parts.take i) : Nat) : Int) + 1 = (s.depth : Int)) := hide (by rw [List.take_of_length_le (by omega), HD.out]; rfl)
        generalize DSch.depths (s.parts.take i) = m at *
        go_wp2
        go_ret
        exact ⟨ret_eq (by rw [← HE.out]; rfl), GW.out⟩

end Go.Proofs.Ytpnjkebjdclkfaa

/- Schemas, walked: whether two are the same. Conditions: none. -/
namespace Go.Proofs.Ytpnjkebjdclkfaa
open Go.RowKit

set_option maxHeartbeats 1000000 in
set_option maxRecDepth 20000 in
theorem schEqualF (K : Nat) (hK : ∀ (x : Array Value) W, (callFunc K x).run Try.prog W = .ok (.enter K x) W) (n m : Nat) (A A2 : Option Addr) (c c2 : Nat) (V V2 : Nat → Value) (p : Nat → Bool) (w : World) (hn : n ≤ 140737488351232) (hm : m ≤ 140737488351232)
    (hA : 0 < n → ∃ b o, A = some ⟨b, o, none⟩ ∧ b < w.heap.size ∧ ∀ i, i < n → ∃ cs : List Value, V i = .agg cs.toArray ∧ cs.length = 3 ∧ (∀ v ∈ cs, v.oneCell' = true) ∧ w.rangeAt b (o + i * 3) cs)
    (hA2 : 0 < m → ∃ b o, A2 = some ⟨b, o, none⟩ ∧ b < w.heap.size ∧ ∀ i, i < m → ∃ cs : List Value, V2 i = .agg cs.toArray ∧ cs.length = 3 ∧ (∀ v ∈ cs, v.oneCell' = true) ∧ w.rangeAt b (o + i * 3) cs)
    (hcall : n = m → ∀ i, i < n → ∀ W, Below w.heap.size w W → Calls Try.prog K #[V i, V2 i] W (Gives (.bool (p i)) W)) :
    Calls Try.prog 62 #[.slice A n c, .slice A2 m c2, .func (.func K) #[] #[]] w (Gives (.bool (decide (n = m) && (List.range n).all p)) w) := by
  have HA := hide hA
  have HA2 := hide hA2
  have HC := hide hcall
  clear hA hA2 hcall
  by_cases hlen : n = m
  · subst hlen
    have hne : ((n : Int) != (n : Int)) = false := by simp
    have HC' := hide (HC.out rfl)
    clear HC
    go_enter Try.func62, Try.ntmps62
    go_wp2_with fail
    go_loopw [17] (fun i wr => ∃ (k : Nat), i = .int .i64 k ∧ k ≤ n ∧ (∀ r, r < k → p r = true) ∧ Below w.heap.size w wr) (fun i _ => n - (intOf i).toNat)
    case atStart => exact ⟨0, rfl, Nat.zero_le _, fun r hr => by omega, Below.refl _ _⟩
    case round =>
      obtain ⟨k, rfl, hk, hno, hw⟩ := hrel
      obtain ⟨wo, rfl⟩ : ∃ wo : World, wo = wr := ⟨_, rfl⟩
      have GW := hide hw
      have GN := hide hno
      clear hw hno
      by_cases hlt : k < n
      · obtain ⟨b, o, rfl, hb, hV⟩ := HA.out (by omega)
        obtain ⟨b2, o2, rfl, hb2, hV2⟩ := HA2.out (by omega)
        have hcall' := HC'.out k hlt
        obtain ⟨cs, hv, hc3, ho1, hr⟩ := hV k hlt
        obtain ⟨ds, hv2, hd3, ho2, hr2⟩ := hV2 k hlt
        have HRW : Hid (∀ W, Below w.heap.size w W → W.rangeAt b (o + k * 3) cs) := hide fun W hW q v hv => (hW.cell (p := ⟨b, o + k * 3 + q, none⟩) hb).trans (hr q v hv)
        have HRW2 : Hid (∀ W, Below w.heap.size w W → W.rangeAt b2 (o2 + k * 3) ds) := hide fun W hW q v hv => (hW.cell (p := ⟨b2, o2 + k * 3 + q, none⟩) hb2).trans (hr2 q v hv)
        have HC3 := hide hc3
        have HD3 := hide hd3
        have hst := fun (W : World) => run_store_new (P := Try.prog) W 25 [.int .i64 0, .slice none 0 0, .slice none 0 0] cs (by rw [hc3]; rfl) ho1
        have hst2 : ∀ (W : World) (ob : Obj), (storeCells ⟨W.heap.size + 1, 0, none⟩ ds).run Try.prog ((W.alloc ob).alloc (.cells ([.int .i64 0, .slice none 0 0, .slice none 0 0] : List Value).toArray 25)) = .ok () ((W.alloc ob).alloc (.cells ds.toArray 25)) := fun W ob => by have := run_store_new (P := Try.prog) (W.alloc ob) 25 [.int .i64 0, .slice none 0 0, .slice none 0 0] ds (by rw [hd3]; rfl) ho2; rwa [World.size_alloc] at this
        have G1 := hide (GW.out.alloc GW.out.size (.cells cs.toArray 25))
        have G2 := hide (G1.out.alloc G1.out.size (.cells ds.toArray 25))
        have HE1 := hide ((Blk.new wo 25 cs.toArray).alloc (.cells ds.toArray 25))
        rw [hv, hv2] at hcall'
        have HCL := hide hcall'
        clear hr hr2 hc3 hd3 hcall' hV hV2 ho1 ho2
        cases hx : p k
        all_goals
          have HX := hide hx
          rw [hx] at HCL
          clear hx
          have hst1 := fun (W : World) => Blk.new2 W (.cells cs.toArray 25) 25 ds.toArray
          go_wp2_with (first
            | (refine wpList_load_mid rfl 25 _ rfl b (o + k * 3) rfl cs _ (HRW.out _ GW.out) rfl rfl (by rw [HC3.out]; kernel_rfl) ?_)
            | (refine wpList_load_mid rfl 25 _ rfl b2 (o2 + k * 3) rfl ds _ (HRW2.out _ G1.out) rfl rfl (by rw [HD3.out]; kernel_rfl) ?_)
            | (refine wpList_load_blk rfl 25 _ rfl wo.heap.size rfl _ cs.toArray HE1.out _ rfl rfl (by rw [List.size_toArray, HC3.out]; kernel_rfl) ?_)
            | (refine wpList_load_blk rfl 25 _ rfl (wo.heap.size + 1) rfl _ ds.toArray (hst1 _) _ rfl rfl (by rw [List.size_toArray, HD3.out]; kernel_rfl) ?_)
            | fail)
          refine (HCL.out _ G2.out).mono ?_
          rintro e w1 ⟨rfl, hb1⟩
          have KW := hide (G2.out.trans (hb1.mono G2.out.size))
          clear hb1
        · go_wp2
          go_ret
          exact ⟨ret_eq (by rw [show (List.range n).all p = false from List.all_eq_false.2 ⟨k, List.mem_range.2 hlt, by rw [HX.out]; simp⟩]; simp), KW.out⟩
        · go_wp2_with fail
          exact ⟨⟨k + 1, by go_num, by omega, fun r hr => by
            by_cases e : r = k
            · rw [e]; exact HX.out
            · exact GN.out r (by omega), KW.out⟩, by simp [intOf]; omega⟩
      · obtain rfl : k = n := by omega
        go_wp2
        go_ret
        exact ⟨ret_eq (by rw [show (List.range k).all p = true from List.all_eq_true.2 fun i hi => GN.out i (List.mem_range.1 hi)]; simp), GW.out⟩
  · have hne : ((n : Int) != (m : Int)) = true := by simp; omega
    have HD : Hid ((decide (n = m) && (List.range n).all p) = false) := hide (by rw [decide_eq_false hlen]; rfl)
    clear hlen
    go_enter Try.func62, Try.ntmps62
    go_wp2
    go_ret
    exact ⟨ret_eq (by rw [HD.out]; rfl), Below.refl _ _⟩


instance : Inhabited DSch := ⟨.mk 0 [] []⟩
theorem schEq_split (a b : DSch) : eqB a b = (decide (a.kind = b.kind) && (decide (a.words = b.words) && eqB a.parts b.parts)) := by
  rw [Bool.eq_iff_iff]
  simp only [Bool.and_eq_true, decide_eq_true_eq, eqB_iff]
  exact DSch.ext_iff' a b

set_option maxHeartbeats 1000000 in
set_option maxRecDepth 20000 in
theorem schSame_calls (k : Nat) : ∀ (a b : DSch) (cs ds : List Value) (w : World), a.depth ≤ k → IsSch w (· < w.heap.size) a cs → IsSch w (· < w.heap.size) b ds →
    Calls Try.prog 18 #[.agg cs.toArray, .agg ds.toArray] w (Gives (.bool (eqB a b)) w) := by
  induction k with
  | zero => intro a b cs ds w h; have := a.depth_pos; omega
  | succ k ih =>
    intro a b cs ds w hk ha hb
    obtain ⟨hk1, hki⟩ := ha.kind_
    obtain ⟨hk2, hki2⟩ := hb.kind_
    obtain ⟨Aw, cw, hw1, hwr, hwz, hwc, hwm⟩ := ha.words_
    obtain ⟨Aw2, cw2, hw2, hwr2, hwz2, hwc2, hwm2⟩ := hb.words_
    obtain ⟨Ap, cp, C, hp1, hpc, hpm, hP, hA⟩ := ha.partsF
    obtain ⟨Ap2, cp2, C2, hp2, hpc2, hpm2, hP2, hA2⟩ := hb.partsF
    have HW0 := hide (((Below.refl w.heap.size w).alloc (Nat.le_refl _) (.cells cs.toArray 25)).alloc (by simp) (.cells ds.toArray 25))
    have hK : ∀ (x : Array Value) W, (callFunc 18 x).run Try.prog W = .ok (.enter 18 x) W := fun _ _ => by kernel_rfl
    have HSP := hide (schEq_split a b)
    have HCW := hide (fun (W : World) (hW : Below w.heap.size w W) => strEqual_calls a.words b.words Aw Aw2 cw cw2 W ((hwr.more hW)) ((hwr2.more hW)) (by omega) (by omega))
    have HCP : Hid (∀ W : World, Below w.heap.size w W → Calls Try.prog 62 #[.slice Ap a.parts.length cp, .slice Ap2 b.parts.length cp2, .func (.func 18) #[] #[]] W (Gives (.bool (eqB a.parts b.parts)) W)) := hide fun W hW => by
      have := schEqualF 18 hK a.parts.length b.parts.length Ap Ap2 cp cp2 (fun i => .agg (C i).toArray) (fun i => .agg (C2 i).toArray) (fun i => eqB (a.parts.getD i default) (b.parts.getD i default)) W (by omega) (by omega)
        (fun h0 => by
          obtain ⟨x, o, e, hx, hc⟩ := hA h0
          exact ⟨x, o, e, Nat.lt_of_lt_of_le hx hW.size, fun i hi => ⟨C i, rfl, (hc i hi).1, (hP i _ (List.getElem?_eq_getElem hi)).one, fun q v hv => (hW.cell (p := ⟨x, o + i * 3 + q, none⟩) hx).trans ((hc i hi).2 q v hv)⟩⟩)
        (fun h0 => by
          obtain ⟨x, o, e, hx, hc⟩ := hA2 h0
          exact ⟨x, o, e, Nat.lt_of_lt_of_le hx hW.size, fun i hi => ⟨C2 i, rfl, (hc i hi).1, (hP2 i _ (List.getElem?_eq_getElem hi)).one, fun q v hv => (hW.cell (p := ⟨x, o + i * 3 + q, none⟩) hx).trans ((hc i hi).2 q v hv)⟩⟩)
        (fun hnm i hi W2 hW2 => by
          have hi2 : i < b.parts.length := by omega
          have e1 : a.parts.getD i default = a.parts[i] := by simp [List.getD, hi]
          have e2 : b.parts.getD i default = b.parts[i] := by simp [List.getD, hi2]
          have hWW := hW.trans (hW2.mono hW.size)
          have hd := DSch.depth_part (List.getElem_mem hi)
          simp only [e1, e2]
          exact ih _ _ _ _ W2 (by omega) ((hP i _ (List.getElem?_eq_getElem hi)).more hWW) ((hP2 i _ (List.getElem?_eq_getElem hi2)).more hWW))
      rwa [eqB_list] at this
    clear ih ha hb hA hA2 hP hP2 hwr hwr2 hwz hwz2 hK
    by_cases h1 : a.kind = b.kind
    · have hkk : (a.kind == b.kind) = true := by simpa using h1
      rw [decide_eq_true h1, Bool.true_and] at HSP
      have H1 := hide h1
      clear h1
      cases h2 : decide (a.words = b.words)
      all_goals
        rw [h2] at HCW HSP
        clear h2
        go_enter Try.func18, Try.ntmps18
        go_wp2_with fail
        refine (HCW.out _ HW0.out).mono ?_
        rintro e w1 ⟨rfl, hb1⟩
        have HB1 := hide (HW0.out.trans (hb1.mono HW0.out.size))
        have HX2 := hide (((Blk.new w 25 cs.toArray).alloc (.cells ds.toArray 25)).below hb1 (by simp; omega))
        have HX3 := hide ((Blk.new2 w (.cells cs.toArray 25) 25 ds.toArray).below hb1 (by simp))
        clear hb1
      · go_wp2
        go_ret
        exact ⟨ret_eq (by rw [HSP.out]; rfl), HB1.out⟩
      · have c2 : w1.cell? ⟨w.heap.size, 2, none⟩ = some (.slice Ap a.parts.length cp) := by rw [HX2.out.cell]; simpa using hp1
        have c3 : w1.cell? ⟨w.heap.size + 1, 2, none⟩ = some (.slice Ap2 b.parts.length cp2) := by rw [HX3.out.cell]; simpa using hp2
        go_wp2_with fail
        refine (HCP.out _ HB1.out).mono ?_
        rintro e w2 ⟨rfl, hb2⟩
        have HB2 := hide (HB1.out.trans (hb2.mono HB1.out.size))
        clear hb2
        generalize eqB a.parts b.parts = x at *
        go_wp2
        go_ret
        exact ⟨ret_eq (by rw [HSP.out]; simp), HB2.out⟩
    · have hkk : (a.kind == b.kind) = false := by simpa using h1
      rw [decide_eq_false h1, Bool.false_and] at HSP
      clear h1
      go_enter Try.func18, Try.ntmps18
      go_wp2
      go_ret
      exact ⟨ret_eq (by rw [HSP.out]; rfl), HW0.out⟩
end Go.Proofs.Ytpnjkebjdclkfaa

/- Schemas, walked: whether one is right. Conditions: none. -/
namespace Go.Proofs.Ytpnjkebjdclkfaa
open Go.RowKit

set_option maxHeartbeats 1000000 in
set_option maxRecDepth 20000 in
theorem schG_index (K : Nat) (cap0 : Value) (hK : ∀ (x : Array Value) W, (callFunc K x).run Try.prog W = .ok (.enter K x) W) (n : Nat) (A : Option Addr) (c : Nat) (V : Nat → Value) (p : Nat → Bool) (w : World) (hn : n ≤ 140737488351232)
    (hA : 0 < n → ∃ b o, A = some ⟨b, o, none⟩ ∧ b < w.heap.size ∧ ∀ i, i < n → ∃ cs : List Value, V i = .agg cs.toArray ∧ cs.length = 3 ∧ w.rangeAt b (o + i * 3) cs)
    (hcall : ∀ i, i < n → ∀ W, Below w.heap.size w W → Calls Try.prog K #[V i, cap0] W (Gives (.bool (p i)) W)) :
    Calls Try.prog 127 #[.slice A n c, .func (.func K) #[] #[cap0]] w (IdxPost p n w) := by
  have HA := hide hA
  have HC := hide hcall
  clear hA hcall
  go_enter Try.func127, Try.ntmps127
  go_wp2_with fail
  go_loopw [8] (fun i wr => ∃ (k : Nat), i = .int .i64 k ∧ k ≤ n ∧ (∀ r, r < k → p r = false) ∧ Below w.heap.size w wr) (fun i _ => n - (intOf i).toNat)
  case atStart => exact ⟨0, rfl, Nat.zero_le _, fun r hr => by omega, Below.refl _ _⟩
  case round =>
    obtain ⟨k, rfl, hk, hno, hw⟩ := hrel
    obtain ⟨wo, rfl⟩ : ∃ wo : World, wo = wr := ⟨_, rfl⟩
    have GW := hide hw
    have GN := hide hno
    clear hw hno
    by_cases hlt : k < n
    · obtain ⟨b, o, rfl, hb, hV⟩ := HA.out (by omega)
      have hcall' := HC.out k hlt
      obtain ⟨cs, hv, hc3, hr⟩ := hV k hlt
      have HRW : Hid (wo.rangeAt b (o + k * 3) cs) := hide fun q v hv => (GW.out.cell (p := ⟨b, o + k * 3 + q, none⟩) hb).trans (hr q v hv)
      have HC3 := hide hc3
      clear hr hc3
      cases hx : p k
      all_goals
        have HX := hide hx
        rw [hx] at hcall'
        clear hx hV
        rw [hv] at hcall'

        have HCL := hide hcall'
        clear hcall'
        go_wp2_with (first | (refine wpList_load_mid rfl 25 _ rfl b (o + k * 3) rfl cs _ HRW.out rfl rfl (by rw [HC3.out]; kernel_rfl) ?_) | fail)
        refine (HCL.out _ GW.out).mono ?_
        rintro e w1 ⟨rfl, hb1⟩
        have KW := hide (GW.out.trans (hb1.mono GW.out.size))
        clear hb1
      · go_wp2_with fail
        exact ⟨⟨k + 1, by go_num, by omega, fun r hr => by
          by_cases e : r = k
          · rw [e]; exact HX.out
          · exact GN.out r (by omega), KW.out⟩, by simp [intOf]; omega⟩
      · go_wp2
        go_ret
        exact ⟨.inl ⟨k, hlt, rfl, HX.out, GN.out⟩, KW.out⟩
    · obtain rfl : k = n := by omega
      go_wp2
      go_ret
      exact ⟨.inr ⟨rfl, GN.out⟩, GW.out⟩

set_option maxHeartbeats 400000 in
theorem schG_contains (K : Nat) (cap0 : Value) (hK : ∀ (x : Array Value) W, (callFunc K x).run Try.prog W = .ok (.enter K x) W) (n : Nat) (A : Option Addr) (c : Nat) (V : Nat → Value) (p : Nat → Bool) (w : World) (hn : n ≤ 140737488351232)
    (hA : 0 < n → ∃ b o, A = some ⟨b, o, none⟩ ∧ b < w.heap.size ∧ ∀ i, i < n → ∃ cs : List Value, V i = .agg cs.toArray ∧ cs.length = 3 ∧ w.rangeAt b (o + i * 3) cs)
    (hcall : ∀ i, i < n → ∀ W, Below w.heap.size w W → Calls Try.prog K #[V i, cap0] W (Gives (.bool (p i)) W)) :
    Calls Try.prog 97 #[.slice A n c, .func (.func K) #[] #[cap0]] w (Gives (.bool ((List.range n).any p)) w) := by
  have HI := hide (schG_index K cap0 hK n A c V p w hn hA hcall)
  clear hA hcall hK
  go_enter Try.func97, Try.ntmps97
  go_wp2_with fail
  refine HI.out.mono ?_
  rintro e w1 ⟨hi, hb⟩
  have HB := hide hb
  clear hb
  rcases hi with ⟨k, hk, rfl, hp, hno⟩ | ⟨rfl, hno⟩
  · have hx : (List.range n).any p = true := List.any_eq_true.2 ⟨k, List.mem_range.2 hk, hp⟩
    have HX := hide hx
    clear hx hp hno
    go_wp2
    go_ret
    exact ⟨ret_eq (by rw [HX.out]; rfl), HB.out⟩
  · have hx : (List.range n).any p = false := List.any_eq_false.2 fun r hr => by simp [hno r (List.mem_range.1 hr)]
    have HX := hide hx
    clear hx hno
    go_wp2
    go_ret
    exact ⟨ret_eq (by rw [HX.out]; rfl), HB.out⟩


/-- Right by itself. -/
def plainS (s : DSch) : Bool :=
  if s.kind = 1 ∨ s.kind = 2 ∨ s.kind = 3 then decide (s.words.length = 0) && decide (s.parts.length = 0)
  else if s.kind = 4 then decide (0 < s.words.length) && (namesB s.words && (unlikeB s.words && decide (s.parts.length = 0)))
  else if s.kind = 5 then namesB s.words && (risingB s.words && decide (s.parts.length = s.words.length))
  else if s.kind = 6 then decide (s.words.length = 0) && decide (s.parts.length = 1)
  else false
def rightS : Nat → DSch → Bool
  | 0, _ => false
  | k + 1, s => plainS s && s.parts.all (rightS k)

set_option maxHeartbeats 2000000 in
set_option maxRecDepth 20000 in
theorem schPlain_calls (s : DSch) (cs : List Value) (w : World) (hs : IsSch w (· < w.heap.size) s cs) :
    Calls Try.prog 96 #[.agg cs.toArray] w (Gives (.bool (plainS s)) w) := by
  obtain ⟨hk1, hki⟩ := hs.kind_
  obtain ⟨Aw, cw, hw1, hwr, hwz, hwc, hwm⟩ := hs.words_
  obtain ⟨Ap, cp, C, hp1, hpc, hpm, hP, hA⟩ := hs.partsF
  have HW0 := hide ((Below.refl w.heap.size w).alloc (Nat.le_refl _) (.cells cs.toArray 25))
  have HX := hide (Blk.new w 25 cs.toArray)
  have HCN := hide (fun (W : World) (hW : Below w.heap.size w W) => names_calls s.words Aw cw W (hwr.more hW) hwz (by omega))
  have HCU := hide (fun (W : World) (hW : Below w.heap.size w W) => unlike_calls s.words Aw cw W (hwr.more hW) (by omega) hwc)
  have HCR := hide (fun (W : World) (hW : Below w.heap.size w W) => rising_calls s.words Aw cw W (hwr.more hW) (by omega) hwc)
  have HSP : Hid (plainS s = _) := hide (by unfold plainS; exact rfl)
  have hkb := i64_wf hki
  clear hs hwr hwz hP hA hki
  generalize plainS s = res at *
  generalize namesB s.words = bn at *
  generalize unlikeB s.words = bu at *
  generalize risingB s.words = br at *
  generalize s.words.length = nw at *
  generalize s.parts.length = np at *
  generalize s.kind = kd at *
  have key : kd = 1 ∨ kd = 2 ∨ kd = 3 ∨ kd = 4 ∨ kd = 5 ∨ kd = 6 ∨ (kd ≠ 1 ∧ kd ≠ 2 ∧ kd ≠ 3 ∧ kd ≠ 4 ∧ kd ≠ 5 ∧ kd ≠ 6) := by omega
  rcases key with rfl | rfl | rfl | rfl | rfl | rfl | ⟨n1, n2, n3, n4, n5, n6⟩
  case inr.inr.inr.inr.inr.inr =>
    have e1 : (kd == 1) = false := by simpa using n1
    have e2 : (kd == 2) = false := by simpa using n2
    have e3 : (kd == 3) = false := by simpa using n3
    have e4 : (kd == 4) = false := by simpa using n4
    have e5 : (kd == 5) = false := by simpa using n5
    have e6 : (kd == 6) = false := by simpa using n6
    have HR : Hid (res = false) := hide (by rw [HSP.out]; simp [n1, n2, n3, n4, n5, n6])
    clear n1 n2 n3 n4 n5 n6 HSP
    go_enter Try.func96, Try.ntmps96
    go_wp2
    go_ret
    exact ⟨ret_eq (by rw [HR.out]; rfl), HW0.out⟩
  case inr.inr.inr.inl =>
    have HR : Hid (res = (decide (0 < nw) && (bn && (bu && decide (np = 0))))) := hide (by rw [HSP.out]; simp)
    clear HSP
    by_cases h0 : 0 < nw
    · rw [decide_eq_true h0, Bool.true_and] at HR
      have h0' : decide ((0 : Int) < (nw : Int)) = true := by simp; omega
      cases bn
      all_goals
        go_enter Try.func96, Try.ntmps96
        go_wp2_with fail
        refine (HCN.out _ HW0.out).mono ?_
        rintro e w1 ⟨rfl, hb1⟩
        have HB1 := hide (HW0.out.trans (hb1.mono HW0.out.size))
        have HX1 := hide (HX.out.below hb1 HX.out.lt)
        clear hb1
      · go_wp2
        go_ret
        exact ⟨ret_eq (by rw [HR.out]; rfl), HB1.out⟩
      · rw [Bool.true_and] at HR
        have c1 : w1.cell? ⟨w.heap.size, 1, none⟩ = some (.slice Aw nw cw) := by rw [HX1.out.cell]; simpa using hw1
        have c2 : w1.cell? ⟨w.heap.size, 2, none⟩ = some (.slice Ap np cp) := by rw [HX1.out.cell]; simpa using hp1
        cases bu
        all_goals
          go_wp2_with fail
          refine (HCU.out _ HB1.out).mono ?_
          rintro e w2 ⟨rfl, rfl⟩
          go_wp2
          go_ret
          exact ⟨ret_eq (by rw [HR.out]; first | rfl | (simp; done) | (simp; omega) | (simp; rw [Bool.eq_iff_iff]; simp; omega) | (rw [Bool.eq_iff_iff]; simp; omega) | (simp; rw [Bool.eq_iff_iff]; simp)), HB1.out⟩
    · rw [decide_eq_false h0, Bool.false_and] at HR
      have h0' : decide ((0 : Int) < (nw : Int)) = false := by simp; omega
      go_enter Try.func96, Try.ntmps96
      go_wp2
      go_ret
      exact ⟨ret_eq (by rw [HR.out]; rfl), HW0.out⟩
  case inr.inr.inr.inr.inl =>
    have HR : Hid (res = (bn && (br && decide (np = nw)))) := hide (by rw [HSP.out]; simp)
    clear HSP
    cases bn
    all_goals
      go_enter Try.func96, Try.ntmps96
      go_wp2_with fail
      refine (HCN.out _ HW0.out).mono ?_
      rintro e w1 ⟨rfl, hb1⟩
      have HB1 := hide (HW0.out.trans (hb1.mono HW0.out.size))
      have HX1 := hide (HX.out.below hb1 HX.out.lt)
      clear hb1
    · go_wp2
      go_ret
      exact ⟨ret_eq (by rw [HR.out]; rfl), HB1.out⟩
    · rw [Bool.true_and] at HR
      have c1 : w1.cell? ⟨w.heap.size, 1, none⟩ = some (.slice Aw nw cw) := by rw [HX1.out.cell]; simpa using hw1
      cases br
      all_goals
        go_wp2_with fail
        refine (HCR.out _ HB1.out).mono ?_
        rintro e w2 ⟨rfl, hb2⟩
        have HB2 := hide (HB1.out.trans (hb2.mono HB1.out.size))
        have HX2 := hide (HX1.out.below hb2 HX1.out.lt)
        clear hb2
        have d1 : w2.cell? ⟨w.heap.size, 1, none⟩ = some (.slice Aw nw cw) := by rw [HX2.out.cell]; simpa using hw1
        have d2 : w2.cell? ⟨w.heap.size, 2, none⟩ = some (.slice Ap np cp) := by rw [HX2.out.cell]; simpa using hp1
        go_wp2
        go_ret
        exact ⟨ret_eq (by rw [HR.out]; first | rfl | (simp; done) | (simp; omega) | (simp; rw [Bool.eq_iff_iff]; simp; omega) | (rw [Bool.eq_iff_iff]; simp; omega) | (simp; rw [Bool.eq_iff_iff]; simp)), HB2.out⟩
  case inr.inr.inr.inr.inr.inl =>
    have HR : Hid (res = (decide (nw = 0) && decide (np = 1))) := hide (by rw [HSP.out]; simp)
    clear HSP
    by_cases h0 : nw = 0
    · have h0' : ((nw : Int) == 0) = true := by simp [h0]
      rw [decide_eq_true h0, Bool.true_and] at HR
      clear h0
      go_enter Try.func96, Try.ntmps96
      go_wp2
      go_ret
      exact ⟨ret_eq (by rw [HR.out]; first | rfl | (simp; done) | (simp; omega) | (simp; rw [Bool.eq_iff_iff]; simp; omega) | (rw [Bool.eq_iff_iff]; simp; omega) | (simp; rw [Bool.eq_iff_iff]; simp)), HW0.out⟩
    · have h0' : ((nw : Int) == 0) = false := by simpa using h0
      rw [decide_eq_false h0, Bool.false_and] at HR
      clear h0
      go_enter Try.func96, Try.ntmps96
      go_wp2
      go_ret
      exact ⟨ret_eq (by rw [HR.out]; first | rfl | (simp; done) | (simp; omega) | (simp; rw [Bool.eq_iff_iff]; simp; omega) | (rw [Bool.eq_iff_iff]; simp; omega) | (simp; rw [Bool.eq_iff_iff]; simp)), HW0.out⟩
  all_goals
    have HR : Hid (res = (decide (nw = 0) && decide (np = 0))) := hide (by rw [HSP.out]; simp)
    clear HSP
    by_cases h0 : nw = 0
    · have h0' : ((nw : Int) == 0) = true := by simp [h0]
      rw [decide_eq_true h0, Bool.true_and] at HR
      clear h0
      go_enter Try.func96, Try.ntmps96
      go_wp2
      go_ret
      exact ⟨ret_eq (by rw [HR.out]; first | rfl | (simp; done) | (simp; omega) | (simp; rw [Bool.eq_iff_iff]; simp; omega) | (rw [Bool.eq_iff_iff]; simp; omega) | (simp; rw [Bool.eq_iff_iff]; simp)), HW0.out⟩
    · have h0' : ((nw : Int) == 0) = false := by simpa using h0
      rw [decide_eq_false h0, Bool.false_and] at HR
      clear h0
      go_enter Try.func96, Try.ntmps96
      go_wp2
      go_ret
      exact ⟨ret_eq (by rw [HR.out]; first | rfl | (simp; done) | (simp; omega) | (simp; rw [Bool.eq_iff_iff]; simp; omega) | (rw [Bool.eq_iff_iff]; simp; omega) | (simp; rw [Bool.eq_iff_iff]; simp)), HW0.out⟩
end Go.Proofs.Ytpnjkebjdclkfaa

/- Schemas, walked: whether one is right, with its parts. Conditions: none. -/
namespace Go.Proofs.Ytpnjkebjdclkfaa
open Go.RowKit

/-- The load of a whole block by a guarded operation that is wanted. -/
theorem wpList_load_blkG {P : Program} {ops : Array Oper} {rest : List Oper} {o : Oper} {a : Act} {w : World} {Q : Exit → Act → World → Prop} (hw : Region.wanted o (yielded ops a.tmps) = true)
    (ty : TypeId) (x : Operand) (ho : o.op = .load ty x) (g : Nat) (hx : a.eval x = .pointer (some ⟨g, 0, none⟩)) (t : TypeId) (cs : List Value) (hb : Blk w g t cs.toArray) (d : TypeDesc)
    (hu : P.underlying ty = some d) (hd : d.isRow = true) (hi : (P.info? ty).map (·.size) = some cs.length) (h : wpList P ops Q rest (a.put o.dst (.agg cs.toArray)) w) : wpList P ops Q (o :: rest) a w :=
  wpList_step fun K hK => by
    simp only [hw, if_true]
    exact wp_load_mid ty x ho g 0 hx cs d (fun j v hv => by rw [Nat.zero_add, hb.cell]; simpa using hv) hu hd hi (hK _ _ h)

theorem all_getD (l : List DSch) (f : DSch → Bool) : ((List.range l.length).any fun i => !f (l.getD i default)) = !l.all f := by
  rw [Bool.eq_iff_iff, List.any_eq_true]
  simp only [Bool.not_eq_true', List.all_eq_false, List.mem_range]
  constructor
  · rintro ⟨i, hi, h⟩
    exact ⟨l.getD i default, by simp [List.getD, hi], by rw [h]; simp⟩
  · rintro ⟨x, hx, h⟩
    obtain ⟨i, hi, rfl⟩ := List.getElem_of_mem hx
    exact ⟨i, hi, by simpa [List.getD, hi] using h⟩

set_option maxHeartbeats 2000000 in
set_option maxRecDepth 20000 in
theorem schRight_calls (k : Nat) : ∀ (s : DSch) (cs : List Value) (w : World), k ≤ 1000 → IsSch w (· < w.heap.size) s cs →
    Calls Try.prog 60 #[.agg cs.toArray, .int .i64 k] w (Gives (.bool (rightS k s)) w) := by
  induction k with
  | zero =>
    intro s cs w hk hs
    go_enter Try.func60, Try.ntmps60
    go_wp2
    go_ret
    exact ⟨ret_eq rfl, ((Below.refl _ _).alloc (Nat.le_refl _) _).alloc (by simp) _⟩
  | succ k ih =>
    intro s cs w hk hs
    obtain ⟨Ap, cp, C, hp1, hpc, hpm, hP, hA⟩ := hs.partsF
    have HW0 := hide (((Below.refl w.heap.size w).alloc (Nat.le_refl _) (.cells cs.toArray 25)).alloc (by simp) (.cells #[.int .i64 ((k : Int) + 1)] 3))
    have HX := hide ((Blk.new w 25 cs.toArray).alloc (.cells #[.int .i64 ((k : Int) + 1)] 3))
    have HY := hide (Blk.new2 w (.cells cs.toArray 25) 3 #[.int .i64 ((k : Int) + 1)])
    have HL := hide (show (Try.prog.info? 25).map (·.size) = some cs.length by rw [hs.length]; kernel_rfl)
    have HCP := hide (fun (W : World) (hW : Below w.heap.size w W) => schPlain_calls s cs W (hs.more hW))
    have HK1 : ∀ (W : World) (p : DSch) (D : List Value) (g : Nat), IsSch W (· < W.heap.size) p D → Blk W g 3 #[.int .i64 ((k : Int) + 1)] → Calls Try.prog 98 #[.agg D.toArray, .pointer (some ⟨g, 0, none⟩)] W (Gives (.bool (!rightS k p)) W) := by
      intro W p D g hp hg
      have hgl := hg.lt
      have B0 := (Below.refl W.heap.size W).alloc (Nat.le_refl _) (.cells D.toArray 25)
      have c0 : (W.alloc (.cells D.toArray 25)).cell? ⟨g, 0, none⟩ = some (.int .i64 ((k : Int) + 1)) := (hg.alloc _).cell 0
      have HI := hide (ih p D _ (by omega) (hp.more B0))
      have HB := hide (Blk.new W 25 D.toArray)
      have HB0 := hide B0
      have HL := hide (show (Try.prog.info? 25).map (·.size) = some D.toArray.size by rw [List.size_toArray, hp.length]; kernel_rfl)
      clear hp hg B0 ih hs hP hA
      go_enter Try.func98, Try.ntmps98
      go_wp2_with (first | (refine wpList_load_blk rfl 25 _ rfl _ rfl _ _ HB.out _ rfl rfl HL.out ?_) | fail)
      refine HI.out.mono ?_
      rintro e w1 ⟨rfl, hb1⟩
      have HB1 := hide (HB0.out.trans (hb1.mono HB0.out.size))
      clear hb1
      go_wp2
      go_ret
      exact ⟨ret_eq rfl, HB1.out⟩
    have HCC : Hid (∀ (W : World) (hW : Below w.heap.size w W) (hg : Blk W (w.heap.size + 1) 3 #[.int .i64 ((k : Int) + 1)]), Calls Try.prog 97 #[.slice Ap s.parts.length cp, .func (.func 98) #[] #[.pointer (some ⟨w.heap.size + 1, 0, none⟩)]] W (Gives (.bool (!s.parts.all (rightS k))) W)) := hide fun W hW hg => by
      have := schG_contains 98 (.pointer (some ⟨w.heap.size + 1, 0, none⟩)) (fun _ _ => by kernel_rfl) s.parts.length Ap cp (fun i => .agg (C i).toArray) (fun i => !rightS k (s.parts.getD i default)) W (by omega)
        (fun h0 => by
          obtain ⟨x, o, e, hx, hc⟩ := hA h0
          exact ⟨x, o, e, Nat.lt_of_lt_of_le hx hW.size, fun i hi => ⟨C i, rfl, (hc i hi).1, fun q v hv => (hW.cell (p := ⟨x, o + i * 3 + q, none⟩) hx).trans ((hc i hi).2 q v hv)⟩⟩)
        (fun i hi W2 hW2 => by
          have e1 : s.parts.getD i default = s.parts[i] := by simp [List.getD, hi]
          rw [e1]
          exact HK1 W2 _ _ _ ((hP i _ (List.getElem?_eq_getElem hi)).more (hW.trans (hW2.mono hW.size))) (hg.below hW2 hg.lt))
      rwa [all_getD] at this
    have HSP : Hid (rightS (k + 1) s = (plainS s && s.parts.all (rightS k))) := hide rfl
    clear ih hs hP hA HK1
    cases hpl : plainS s
    all_goals
      rw [hpl] at HCP HSP
      clear hpl
      go_enter Try.func60, Try.ntmps60
      go_wp2_with (first | (refine wpList_load_blkG (by rfl) 25 _ rfl _ rfl _ cs HX.out _ rfl rfl HL.out ?_) | fail)
      refine (HCP.out _ HW0.out).mono ?_
      rintro e w1 ⟨rfl, hb1⟩
      have HB1 := hide (HW0.out.trans (hb1.mono HW0.out.size))
      have HX1 := hide (HX.out.below hb1 HX.out.lt)
      have HY1 := hide (HY.out.below hb1 HY.out.lt)
      clear hb1
    · go_wp2
      go_ret
      exact ⟨ret_eq (by rw [HSP.out]; rfl), HB1.out⟩
    · rw [Bool.true_and] at HSP
      have c2 : w1.cell? ⟨w.heap.size, 2, none⟩ = some (.slice Ap s.parts.length cp) := by rw [HX1.out.cell]; simpa using hp1
      go_wp2_with fail
      refine (HCC.out _ HB1.out HY1.out).mono ?_
      rintro e w2 ⟨rfl, hb2⟩
      have HB2 := hide (HB1.out.trans (hb2.mono HB1.out.size))
      clear hb2
      generalize s.parts.all (rightS k) = x at *
      go_wp2
      go_ret
      exact ⟨ret_eq (by rw [HSP.out]; first | rfl | (simp; done) | (simp; omega) | (simp; rw [Bool.eq_iff_iff]; simp; omega) | (rw [Bool.eq_iff_iff]; simp; omega) | (simp; rw [Bool.eq_iff_iff]; simp)), HB2.out⟩

set_option maxHeartbeats 400000 in
set_option maxRecDepth 20000 in
theorem schRightP_calls (s : DSch) (cs : List Value) (w : World) (hs : IsSch w (· < w.heap.size) s cs) :
    Calls Try.prog 15 #[.agg cs.toArray] w (Gives (.bool (rightS 5 s)) w) := by
  have HW0 := hide ((Below.refl w.heap.size w).alloc (Nat.le_refl _) (.cells cs.toArray 25))
  have HX := hide (Blk.new w 25 cs.toArray)
  have HL := hide (show (Try.prog.info? 25).map (·.size) = some cs.toArray.size by rw [List.size_toArray, hs.length]; kernel_rfl)
  have HC := hide (schRight_calls 5 s cs _ (by omega) (hs.more HW0.out))
  clear hs
  go_enter Try.func15, Try.ntmps15
  go_wp2_with (first | (refine wpList_load_blk rfl 25 _ rfl _ rfl _ _ HX.out _ rfl rfl HL.out ?_) | fail)
  refine HC.out.mono ?_
  rintro e w1 ⟨rfl, hb1⟩
  have HB1 := hide (HW0.out.trans (hb1.mono HW0.out.size))
  clear hb1
  go_wp2
  go_ret
  exact ⟨ret_eq rfl, HB1.out⟩

def scalarS (k : Int) : Bool := decide (1 ≤ k ∧ k ≤ 4)
set_option maxHeartbeats 400000 in
theorem schScalar_calls (s : DSch) (cs : List Value) (w : World) (hs : IsSch w (· < w.heap.size) s cs) :
    Calls Try.prog 23 #[.agg cs.toArray] w (Gives (.bool (scalarS s.kind)) w) := by
  have HW0 := hide ((Below.refl w.heap.size w).alloc (Nat.le_refl _) (.cells cs.toArray 25))
  obtain ⟨hk1, hki⟩ := hs.kind_
  clear hs
  generalize s.kind = kd at *
  have key : kd < 1 ∨ (1 ≤ kd ∧ kd ≤ 4) ∨ 4 < kd := by omega
  rcases key with h | h | h
  all_goals
    first
      | (have HD : Hid (scalarS kd = true) := hide (decide_eq_true (by omega)); have h' := h.1; have h'' := h.2)
      | (have HD : Hid (scalarS kd = false) := hide (decide_eq_false (by omega)))
    go_enter Try.func23, Try.ntmps23
    go_wp2
    go_ret
    exact ⟨ret_eq (by rw [HD.out]; first | rfl | (simp; done) | (simp; omega) | (simp; rw [Bool.eq_iff_iff]; simp; omega) | (rw [Bool.eq_iff_iff]; simp; omega) | (simp; rw [Bool.eq_iff_iff]; simp)), HW0.out⟩
end Go.Proofs.Ytpnjkebjdclkfaa

/- Values, walked: whether one is right, with its parts. Conditions: none. -/
namespace Go.Proofs.Ytpnjkebjdclkfaa
open Go.RowKit

set_option maxHeartbeats 1000000 in
set_option maxRecDepth 20000 in
theorem valG_index (K : Nat) (cap0 : Value) (hK : ∀ (x : Array Value) W, (callFunc K x).run Try.prog W = .ok (.enter K x) W) (n : Nat) (A : Option Addr) (c : Nat) (V : Nat → Value) (p : Nat → Bool) (w : World) (hn : n ≤ 140737488351232)
    (hA : 0 < n → ∃ b o, A = some ⟨b, o, none⟩ ∧ b < w.heap.size ∧ ∀ i, i < n → ∃ cs : List Value, V i = .agg cs.toArray ∧ cs.length = 6 ∧ w.rangeAt b (o + i * 6) cs)
    (hcall : ∀ i, i < n → ∀ W, Below w.heap.size w W → Calls Try.prog K #[V i, cap0] W (Gives (.bool (p i)) W)) :
    Calls Try.prog 139 #[.slice A n c, .func (.func K) #[] #[cap0]] w (IdxPost p n w) := by
  have HA := hide hA
  have HC := hide hcall
  clear hA hcall
  go_enter Try.func139, Try.ntmps139
  go_wp2_with fail
  go_loopw [8] (fun i wr => ∃ (k : Nat), i = .int .i64 k ∧ k ≤ n ∧ (∀ r, r < k → p r = false) ∧ Below w.heap.size w wr) (fun i _ => n - (intOf i).toNat)
  case atStart => exact ⟨0, rfl, Nat.zero_le _, fun r hr => by omega, Below.refl _ _⟩
  case round =>
    obtain ⟨k, rfl, hk, hno, hw⟩ := hrel
    obtain ⟨wo, rfl⟩ : ∃ wo : World, wo = wr := ⟨_, rfl⟩
    have GW := hide hw
    have GN := hide hno
    clear hw hno
    by_cases hlt : k < n
    · obtain ⟨b, o, rfl, hb, hV⟩ := HA.out (by omega)
      have hcall' := HC.out k hlt
      obtain ⟨cs, hv, hc3, hr⟩ := hV k hlt
      have HRW : Hid (wo.rangeAt b (o + k * 6) cs) := hide fun q v hv => (GW.out.cell (p := ⟨b, o + k * 6 + q, none⟩) hb).trans (hr q v hv)
      have HC3 := hide hc3
      clear hr hc3
      cases hx : p k
      all_goals
        have HX := hide hx
        rw [hx] at hcall'
        clear hx hV
        rw [hv] at hcall'

        have HCL := hide hcall'
        clear hcall'
        go_wp2_with (first | (refine wpList_load_mid rfl 31 _ rfl b (o + k * 6) rfl cs _ HRW.out rfl rfl (by rw [HC3.out]; kernel_rfl) ?_) | fail)
        refine (HCL.out _ GW.out).mono ?_
        rintro e w1 ⟨rfl, hb1⟩
        have KW := hide (GW.out.trans (hb1.mono GW.out.size))
        clear hb1
      · go_wp2_with fail
        exact ⟨⟨k + 1, by go_num, by omega, fun r hr => by
          by_cases e : r = k
          · rw [e]; exact HX.out
          · exact GN.out r (by omega), KW.out⟩, by simp [intOf]; omega⟩
      · go_wp2
        go_ret
        exact ⟨.inl ⟨k, hlt, rfl, HX.out, GN.out⟩, KW.out⟩
    · obtain rfl : k = n := by omega
      go_wp2
      go_ret
      exact ⟨.inr ⟨rfl, GN.out⟩, GW.out⟩

set_option maxHeartbeats 400000 in
theorem valG_contains (K : Nat) (cap0 : Value) (hK : ∀ (x : Array Value) W, (callFunc K x).run Try.prog W = .ok (.enter K x) W) (n : Nat) (A : Option Addr) (c : Nat) (V : Nat → Value) (p : Nat → Bool) (w : World) (hn : n ≤ 140737488351232)
    (hA : 0 < n → ∃ b o, A = some ⟨b, o, none⟩ ∧ b < w.heap.size ∧ ∀ i, i < n → ∃ cs : List Value, V i = .agg cs.toArray ∧ cs.length = 6 ∧ w.rangeAt b (o + i * 6) cs)
    (hcall : ∀ i, i < n → ∀ W, Below w.heap.size w W → Calls Try.prog K #[V i, cap0] W (Gives (.bool (p i)) W)) :
    Calls Try.prog 113 #[.slice A n c, .func (.func K) #[] #[cap0]] w (Gives (.bool ((List.range n).any p)) w) := by
  have HI := hide (valG_index K cap0 hK n A c V p w hn hA hcall)
  clear hA hcall hK
  go_enter Try.func113, Try.ntmps113
  go_wp2_with fail
  refine HI.out.mono ?_
  rintro e w1 ⟨hi, hb⟩
  have HB := hide hb
  clear hb
  rcases hi with ⟨k, hk, rfl, hp, hno⟩ | ⟨rfl, hno⟩
  · have hx : (List.range n).any p = true := List.any_eq_true.2 ⟨k, List.mem_range.2 hk, hp⟩
    have HX := hide hx
    clear hx hp hno
    go_wp2
    go_ret
    exact ⟨ret_eq (by rw [HX.out]; rfl), HB.out⟩
  · have hx : (List.range n).any p = false := List.any_eq_false.2 fun r hr => by simp [hno r (List.mem_range.1 hr)]
    have HX := hide hx
    clear hx hno
    go_wp2
    go_ret
    exact ⟨ret_eq (by rw [HX.out]; rfl), HB.out⟩


instance : Inhabited DVal := ⟨.mk 0 0 [] [] [] []⟩
def rightV : Nat → DVal → Bool
  | 0, _ => false
  | k + 1, s => plainV s && s.parts.all (rightV k)

theorem all_getDV (l : List DVal) (f : DVal → Bool) : ((List.range l.length).any fun i => !f (l.getD i default)) = !l.all f := by
  rw [Bool.eq_iff_iff, List.any_eq_true]
  simp only [Bool.not_eq_true', List.all_eq_false, List.mem_range]
  constructor
  · rintro ⟨i, hi, h⟩
    exact ⟨l.getD i default, by simp [List.getD, hi], by rw [h]; simp⟩
  · rintro ⟨x, hx, h⟩
    obtain ⟨i, hi, rfl⟩ := List.getElem_of_mem hx
    exact ⟨i, hi, by simpa [List.getD, hi] using h⟩

set_option maxHeartbeats 2000000 in
set_option maxRecDepth 20000 in
theorem valRight_calls (k : Nat) : ∀ (s : DVal) (cs : List Value) (w : World), k ≤ 1000 → IsVal w (· < w.heap.size) s cs →
    Calls Try.prog 81 #[.agg cs.toArray, .int .i64 k] w (Gives (.bool (rightV k s)) w) := by
  induction k with
  | zero =>
    intro s cs w hk hs
    go_enter Try.func81, Try.ntmps81
    go_wp2
    go_ret
    exact ⟨ret_eq rfl, ((Below.refl _ _).alloc (Nat.le_refl _) _).alloc (by simp) _⟩
  | succ k ih =>
    intro s cs w hk hs
    obtain ⟨Ap, cp, C, hp1, hpc, hpm, hP, hA⟩ := hs.partsF
    have HW0 := hide (((Below.refl w.heap.size w).alloc (Nat.le_refl _) (.cells cs.toArray 31)).alloc (by simp) (.cells #[.int .i64 ((k : Int) + 1)] 3))
    have HX := hide ((Blk.new w 31 cs.toArray).alloc (.cells #[.int .i64 ((k : Int) + 1)] 3))
    have HY := hide (Blk.new2 w (.cells cs.toArray 31) 3 #[.int .i64 ((k : Int) + 1)])
    have HL := hide (show (Try.prog.info? 31).map (·.size) = some cs.length by rw [hs.length]; kernel_rfl)
    have HCP := hide (fun (W : World) (hW : Below w.heap.size w W) => valPlain_calls s cs W (hs.more hW))
    have HK1 : ∀ (W : World) (p : DVal) (D : List Value) (g : Nat), IsVal W (· < W.heap.size) p D → Blk W g 3 #[.int .i64 ((k : Int) + 1)] → Calls Try.prog 114 #[.agg D.toArray, .pointer (some ⟨g, 0, none⟩)] W (Gives (.bool (!rightV k p)) W) := by
      intro W p D g hp hg
      have hgl := hg.lt
      have B0 := (Below.refl W.heap.size W).alloc (Nat.le_refl _) (.cells D.toArray 31)
      have c0 : (W.alloc (.cells D.toArray 31)).cell? ⟨g, 0, none⟩ = some (.int .i64 ((k : Int) + 1)) := (hg.alloc _).cell 0
      have HI := hide (ih p D _ (by omega) (hp.more B0))
      have HB := hide (Blk.new W 31 D.toArray)
      have HB0 := hide B0
      have HL := hide (show (Try.prog.info? 31).map (·.size) = some D.toArray.size by rw [List.size_toArray, hp.length]; kernel_rfl)
      clear hp hg B0 ih hs hP hA
      go_enter Try.func114, Try.ntmps114
      go_wp2_with (first | (refine wpList_load_blk rfl 31 _ rfl _ rfl _ _ HB.out _ rfl rfl HL.out ?_) | fail)
      refine HI.out.mono ?_
      rintro e w1 ⟨rfl, hb1⟩
      have HB1 := hide (HB0.out.trans (hb1.mono HB0.out.size))
      clear hb1
      go_wp2
      go_ret
      exact ⟨ret_eq rfl, HB1.out⟩
    have HCC : Hid (∀ (W : World) (hW : Below w.heap.size w W) (hg : Blk W (w.heap.size + 1) 3 #[.int .i64 ((k : Int) + 1)]), Calls Try.prog 113 #[.slice Ap s.parts.length cp, .func (.func 114) #[] #[.pointer (some ⟨w.heap.size + 1, 0, none⟩)]] W (Gives (.bool (!s.parts.all (rightV k))) W)) := hide fun W hW hg => by
      have := valG_contains 114 (.pointer (some ⟨w.heap.size + 1, 0, none⟩)) (fun _ _ => by kernel_rfl) s.parts.length Ap cp (fun i => .agg (C i).toArray) (fun i => !rightV k (s.parts.getD i default)) W (by omega)
        (fun h0 => by
          obtain ⟨x, o, e, hx, hc⟩ := hA h0
          exact ⟨x, o, e, Nat.lt_of_lt_of_le hx hW.size, fun i hi => ⟨C i, rfl, (hc i hi).1, fun q v hv => (hW.cell (p := ⟨x, o + i * 6 + q, none⟩) hx).trans ((hc i hi).2 q v hv)⟩⟩)
        (fun i hi W2 hW2 => by
          have e1 : s.parts.getD i default = s.parts[i] := by simp [List.getD, hi]
          rw [e1]
          exact HK1 W2 _ _ _ ((hP i _ (List.getElem?_eq_getElem hi)).more (hW.trans (hW2.mono hW.size))) (hg.below hW2 hg.lt))
      rwa [all_getDV] at this
    have HSP : Hid (rightV (k + 1) s = (plainV s && s.parts.all (rightV k))) := hide rfl
    clear ih hs hP hA HK1
    cases hpl : plainV s
    all_goals
      rw [hpl] at HCP HSP
      clear hpl
      go_enter Try.func81, Try.ntmps81
      go_wp2_with (first | (refine wpList_load_blkG (by rfl) 31 _ rfl _ rfl _ cs HX.out _ rfl rfl HL.out ?_) | fail)
      refine (HCP.out _ HW0.out).mono ?_
      rintro e w1 ⟨rfl, hb1⟩
      have HB1 := hide (HW0.out.trans (hb1.mono HW0.out.size))
      have HX1 := hide (HX.out.below hb1 HX.out.lt)
      have HY1 := hide (HY.out.below hb1 HY.out.lt)
      clear hb1
    · go_wp2
      go_ret
      exact ⟨ret_eq (by rw [HSP.out]; rfl), HB1.out⟩
    · rw [Bool.true_and] at HSP
      have c2 : w1.cell? ⟨w.heap.size, 5, none⟩ = some (.slice Ap s.parts.length cp) := by rw [HX1.out.cell]; simpa using hp1
      go_wp2_with fail
      refine (HCC.out _ HB1.out HY1.out).mono ?_
      rintro e w2 ⟨rfl, hb2⟩
      have HB2 := hide (HB1.out.trans (hb2.mono HB1.out.size))
      clear hb2
      generalize s.parts.all (rightV k) = x at *
      go_wp2
      go_ret
      exact ⟨ret_eq (by rw [HSP.out]; first | rfl | (simp; done) | (simp; omega) | (simp; rw [Bool.eq_iff_iff]; simp; omega) | (rw [Bool.eq_iff_iff]; simp; omega) | (simp; rw [Bool.eq_iff_iff]; simp)), HB2.out⟩

set_option maxHeartbeats 400000 in
set_option maxRecDepth 20000 in
theorem valRightP_calls (s : DVal) (cs : List Value) (w : World) (hs : IsVal w (· < w.heap.size) s cs) :
    Calls Try.prog 44 #[.agg cs.toArray] w (Gives (.bool (rightV 5 s)) w) := by
  have HW0 := hide ((Below.refl w.heap.size w).alloc (Nat.le_refl _) (.cells cs.toArray 31))
  have HX := hide (Blk.new w 31 cs.toArray)
  have HL := hide (show (Try.prog.info? 31).map (·.size) = some cs.toArray.size by rw [List.size_toArray, hs.length]; kernel_rfl)
  have HC := hide (valRight_calls 5 s cs _ (by omega) (hs.more HW0.out))
  clear hs
  go_enter Try.func44, Try.ntmps44
  go_wp2_with (first | (refine wpList_load_blk rfl 31 _ rfl _ rfl _ _ HX.out _ rfl rfl HL.out ?_) | fail)
  refine HC.out.mono ?_
  rintro e w1 ⟨rfl, hb1⟩
  have HB1 := hide (HW0.out.trans (hb1.mono HW0.out.size))
  clear hb1
  go_wp2
  go_ret
  exact ⟨ret_eq rfl, HB1.out⟩


end Go.Proofs.Ytpnjkebjdclkfaa

/- Values, walked: depths. Conditions: none. -/
namespace Go.Proofs.Ytpnjkebjdclkfaa
open Go.RowKit

set_option maxHeartbeats 1000000 in
set_option maxRecDepth 20000 in
theorem valDepth_calls (k : Nat) : ∀ (s : DVal) (cs : List Value) (w : World), s.depth ≤ k → k ≤ 1000000 → IsVal w (· < w.heap.size) s cs →
    Calls Try.prog 45 #[.agg cs.toArray] w (Gives (.int .i64 s.depth) w) := by
  induction k with
  | zero => intro s cs w h; have := s.depth_pos; omega
  | succ k ih =>
    intro s cs w hk hkk hs
    obtain ⟨Ap, cp, hc, hcp, hmp, hA⟩ := hs.parts_
    have HI := hide ih
    have HA := hide hA
    have HS := hide hs
    have HD := hide s.depth_eq
    have hdp := s.depth_eq
    have HB0 := hide (Blk.new w 31 cs.toArray)
    have HW0 := hide ((Below.refl w.heap.size w).alloc (Nat.le_refl _) (.cells cs.toArray 31))
    have HP := hide (fun p (h : p ∈ s.parts) => DVal.depth_part h)
    clear ih hA hs
    go_enter Try.func45, Try.ntmps45
    go_wp2_with fail
    go_loopw [3, 9] (fun nv iv wr => ∃ (i : Nat), iv = .int .i64 i ∧ i ≤ s.parts.length ∧ nv = .int .i64 (DVal.depths (s.parts.take i)) ∧ Below w.heap.size w wr) (fun _ iv _ => s.parts.length - (intOf iv).toNat)
    case atStart => exact ⟨0, rfl, Nat.zero_le _, rfl, HW0.out⟩
    case round =>
      obtain ⟨i, rfl, hi, rfl, hw⟩ := hrel
      obtain ⟨wo, rfl⟩ : ∃ wo : World, wo = wr := ⟨_, rfl⟩
      have GW := hide hw
      clear hw HB0 HW0
      have hle := DVal.depths_le s.parts i
      by_cases hlt : i < s.parts.length
      · obtain ⟨b, o, rfl, hb, hC⟩ := HA.out (by omega)
        obtain ⟨C, hl3, hr, hpi⟩ := hC i _ (List.getElem?_eq_getElem hlt)
        have HRW : Hid (wo.rangeAt b (o + i * 6) C) := hide fun q v hv => (GW.out.cell (p := ⟨b, o + i * 6 + q, none⟩) hb).trans (hr q v hv)
        have HL3 := hide hl3
        have hone := hpi.one
        have HONE := hide hone
        have HPI := hide hpi
        have HT := hide (DVal.depths_take s.parts i hlt)
        have hpd := HP.out _ (List.getElem_mem hlt)
        clear hC hl3 hr hpi hone
        generalize s.parts[i] = p at *
        generalize DVal.depths (s.parts.take i) = m at *
        have hst := fun (W : World) => run_store_new (P := Try.prog) W 31 [.int .i64 0, .int .i64 0, .string ⟨#[]⟩, .slice none 0 0, .slice none 0 0, .slice none 0 0] C (by rw [HL3.out]; rfl) HONE.out
        go_wp2_with (first
          | (refine wpList_load_mid rfl 31 _ rfl b (o + i * 6) rfl C _ HRW.out rfl rfl (by rw [HL3.out]; kernel_rfl) ?_)
          | (refine wpList_load_blk rfl 31 _ rfl _ rfl _ _ (Blk.new _ _ _) _ rfl rfl (by rw [List.size_toArray, HL3.out]; kernel_rfl) ?_)
          | fail)
        have K6 := hide (GW.out.alloc GW.out.size (.cells C.toArray 31))
        clear HRW
        refine (HI.out p C _ (by omega) (by omega) (HPI.out.more K6.out)).mono ?_
        rintro e w1 ⟨rfl, hb1⟩
        have KW := hide (K6.out.trans (hb1.mono K6.out.size))
        clear hb1
        go_wp2_with fail
        exact ⟨⟨i + 1, by go_num, by omega, by rw [HT.out]; go_num, KW.out⟩, by simp [intOf]; omega⟩
      · have HE : Hid (DVal.depths (s.parts.take i) + 1 = s.depth) := hide (by rw [List.take_of_length_le (by omega), HD.out])
        generalize DVal.depths (s.parts.take i) = m at *
        go_wp2
        go_ret
        exact ⟨ret_eq (by rw [← HE.out]; first | rfl | go_num), GW.out⟩


set_option maxHeartbeats 1000000 in
set_option maxRecDepth 20000 in
theorem refValDepth_calls (k : Nat) : ∀ (s : DVal) (cs : List Value) (w : World), s.depth ≤ k → k ≤ 1000000 → IsVal w (· < w.heap.size) s cs →
    Calls Try.prog 46 #[.agg cs.toArray] w (Gives (.int .i64 s.depth) w) := by
  induction k with
  | zero => intro s cs w h; have := s.depth_pos; omega
  | succ k ih =>
    intro s cs w hk hkk hs
    obtain ⟨Ap, cp, hc, hcp, hmp, hA⟩ := hs.parts_
    have HI := hide ih
    have HA := hide hA
    have HS := hide hs
    have HD := hide s.depth_eq
    have hdp := s.depth_eq
    have HB0 := hide (Blk.new w 31 cs.toArray)
    have HW0 := hide ((Below.refl w.heap.size w).alloc (Nat.le_refl _) (.cells cs.toArray 31))
    have HP := hide (fun p (h : p ∈ s.parts) => DVal.depth_part h)
    clear ih hA hs
    go_enter Try.func46, Try.ntmps46
    go_wp2_with fail
    go_loopw [3, 4] (fun nv iv wr => ∃ (i : Nat), iv = .int .i64 i ∧ i ≤ s.parts.length ∧ nv = .int .i64 ((DVal.depths (s.parts.take i) : Nat) + 1 : Int) ∧ Blk wr w.heap.size 31 cs.toArray ∧ Below w.heap.size w wr) (fun _ iv _ => s.parts.length - (intOf iv).toNat)
    case atStart => exact ⟨0, rfl, Nat.zero_le _, rfl, HB0.out, HW0.out⟩
    case round =>
      obtain ⟨i, rfl, hi, rfl, hblk, hw⟩ := hrel
      obtain ⟨wo, rfl⟩ : ∃ wo : World, wo = wr := ⟨_, rfl⟩
      have GW := hide hw
      have GB := hide hblk
      clear hw hblk HB0 HW0
      have hle := DVal.depths_le s.parts i
      have cf : wo.cell? ⟨w.heap.size, 5, none⟩ = cs[5]? := by have := GB.out.cell 5; simpa using this
      rw [hc] at cf
      by_cases hlt : i < s.parts.length
      · obtain ⟨b, o, rfl, hb, hC⟩ := HA.out (by omega)
        obtain ⟨C, hl3, hr, hpi⟩ := hC i _ (List.getElem?_eq_getElem hlt)
        have HRW : Hid (wo.rangeAt b (o + i * 6) C) := hide fun q v hv => (GW.out.cell (p := ⟨b, o + i * 6 + q, none⟩) hb).trans (hr q v hv)
        have HL3 := hide hl3
        have HPI := hide hpi
        have HT := hide (DVal.depths_take s.parts i hlt)
        have hpd := HP.out _ (List.getElem_mem hlt)
        clear hC hl3 hr hpi
        generalize s.parts[i] = p at *
        generalize DVal.depths (s.parts.take i) = m at *
        go_wp2_with (first
          | (refine wpList_load_mid rfl 31 _ rfl b (o + i * 6) rfl C _ HRW.out rfl rfl (by rw [HL3.out]; kernel_rfl) ?_)
          | fail)
        refine (HI.out p C _ (by omega) (by omega) (HPI.out.more GW.out)).mono ?_
        rintro e w1 ⟨rfl, hb1⟩
        have KB := hide (GB.out.below hb1 GB.out.lt)
        have KW := hide (GW.out.trans (hb1.mono GW.out.size))
        clear hb1
        by_cases hgt : m < p.depth
        · go_wp2_with fail
          exact ⟨⟨i + 1, by go_num, by omega, by rw [HT.out, Nat.max_eq_right (by omega)], KB.out, KW.out⟩, by simp [intOf]; omega⟩
        · go_wp2_with fail
          exact ⟨⟨i + 1, by go_num, by omega, by rw [HT.out, Nat.max_eq_left (by omega)], KB.out, KW.out⟩, by simp [intOf]; omega⟩
      · have HE : Hid (((DVal.depths (s.parts.take i) : Nat) : Int) + 1 = (s.depth : Int)) := hide (by rw [List.take_of_length_le (by omega), HD.out]; rfl)
        generalize DVal.depths (s.parts.take i) = m at *
        go_wp2
        go_ret
        exact ⟨ret_eq (by rw [← HE.out]; rfl), GW.out⟩

end Go.Proofs.Ytpnjkebjdclkfaa

/- Values over trees: the document's own 'sound'. Conditions: none. -/
namespace Go.Proofs.Ytpnjkebjdclkfaa
open Go.RowKit
set_option linter.unusedSimpArgs false

/-- What is not there with this kind: a number, a text, names, marks. -/
def bad1 (kd num : Int) (xl nn ni : Nat) : Prop := kd < 1 ∨ 6 < kd ∨ (kd ≠ 1 ∧ kd ≠ 2 ∧ num ≠ 0) ∨ (kd ≠ 3 ∧ kd ≠ 4 ∧ 0 < xl) ∨ (kd ≠ 5 ∧ 0 < nn) ∨ (kd ≠ 6 ∧ 0 < ni)
instance (kd num : Int) (xl nn ni : Nat) : Decidable (bad1 kd num xl nn ni) := by unfold bad1; exact inferInstance
/-- What is too great, or no name, or too many. -/
def bad2 (kd num : Int) (xl nn ni np : Nat) (bn : Bool) : Prop := (kd = 1 ∧ num ≠ 0 ∧ num ≠ 1) ∨ (kd = 3 ∧ 64 < xl) ∨ (kd = 4 ∧ bn = false) ∨ 8 < nn ∨ 12 < ni ∨ np ≠ nn + ni
instance (kd num : Int) (xl nn ni np : Nat) (bn : Bool) : Decidable (bad2 kd num xl nn ni np bn) := by unfold bad2; exact inferInstance
def hereV (v : DVal) : Bool := (!decide (bad1 v.kind v.n v.s.length v.names.length v.ids.length) && !decide (bad2 v.kind v.n v.s.length v.names.length v.ids.length v.parts.length (nameB v.s))) && ((List.range v.names.length).all (riseOk v.names) && (List.range v.ids.length).all (idOk v.ids))
def soundV : Nat → DVal → Bool
  | 0, _ => true
  | k + 1, v => hereV v && v.parts.all (soundV k)
def soundSt (v : DVal) (S : St) : St := S.add (.box 31 [.v (.int .i64 v.kind), .v (.int .i64 v.n), strD v.s, .sl .no (v.names.map strD), .sl .no (v.ids.map u64D), .sl .no (v.parts.map encV)])
theorem refName_d (s : Str) (hs : s.length ≤ maxLen) : DPure Try.prog 87 [.v (sv s)] (.v (.bool (nameB s))) :=
  dpure_of_gives (fun _ _ => by kernel_rfl) fun w η X vs hr => by
    simp only [RepL, Rep] at hr
    obtain ⟨x, xs, rfl, rfl, rfl⟩ := hr
    exact (refName_calls s w hs).mono fun e w' ⟨he, hw⟩ => ⟨he, hw ▸ Below.refl _ _⟩
theorem all_not {l : Nat} {p : Nat → Bool} {i : Nat} (h : i < l) (hp : p i = false) : (List.range l).all p = false := List.all_eq_false.2 ⟨i, List.mem_range.2 h, by simp [hp]⟩
theorem all_of {l : Nat} {p : Nat → Bool} (h : ∀ j, j < l → p j = true) : (List.range l).all p = true := List.all_eq_true.2 fun j hj => h j (List.mem_range.1 hj)
theorem getD_at {α : Type} {l : List α} {i : Nat} {d : α} (h : i < l.length) : l.getD i d = l[i] := by simp [List.getD, h]
theorem leq_not (x y : Str) : (Op.bytesLess x y || x == y) = !sLt y x := by
  have h1 := sLt_iff x y
  have h2 := sLt_iff y x
  rw [show Op.bytesLess x y = sLt x y from rfl, h1, h2, Bool.eq_iff_iff]
  simp only [Bool.or_eq_true, decide_eq_true_eq, beq_iff_eq, Bool.not_eq_true', decide_eq_false_iff_not, List.not_lt]
  constructor
  · rintro (h | h)
    · exact List.le_of_lt h
    · rw [h]; exact List.le_refl y
  · intro h
    by_cases e : x = y
    · exact .inr e
    · exact .inl (Classical.byContradiction fun hn => e (List.le_antisymm h (List.not_lt.1 hn)))
structure LNames (v : DVal) (S : St) (f : Fm) (T : St) (i : Nat) : Prop where
  st : T = soundSt v S
  s1 : f 1 = .loc S.next 0
  s4 : f 4 = .v (.int .i64 i)
  le : i ≤ v.names.length
  ok : ∀ j, j < i → riseOk v.names j = true
def LNamesE (v : DVal) (S : St) (f : Fm) (T : St) : Prop := ∃ i, LNames v S f T i
structure JNames (v : DVal) (S : St) (f : Fm) (T : St) : Prop where
  st : T = soundSt v S
  s1 : f 1 = .loc S.next 0
  ok : (List.range v.names.length).all (riseOk v.names) = true
structure LIds (v : DVal) (S : St) (f : Fm) (T : St) (i : Nat) : Prop where
  st : T = soundSt v S
  s1 : f 1 = .loc S.next 0
  s5 : f 5 = .v (.int .i64 i)
  le : i ≤ v.ids.length
  ok : ∀ j, j < i → idOk v.ids j = true
def LIdsE (v : DVal) (S : St) (f : Fm) (T : St) : Prop := ∃ i, LIds v S f T i
structure LIn (v : DVal) (S : St) (i : Nat) (f : Fm) (T : St) (j : Nat) : Prop where
  st : T = soundSt v S
  s1 : f 1 = .loc S.next 0
  s5 : f 5 = .v (.int .i64 i)
  s6 : f 6 = .v (.int .i64 j)
  le : j ≤ i
  no : ∀ r, r < j → v.ids.getD r 0 ≠ v.ids.getD i 0
def LInE (v : DVal) (S : St) (i : Nat) (f : Fm) (T : St) : Prop := ∃ j, LIn v S i f T j
structure JIds (v : DVal) (S : St) (f : Fm) (T : St) : Prop where
  st : T = soundSt v S
  s1 : f 1 = .loc S.next 0
  ok : (List.range v.ids.length).all (idOk v.ids) = true
structure LParts (v : DVal) (k : Nat) (S : St) (f : Fm) (T : St) (i : Nat) : Prop where
  st : T = soundSt v S
  s1 : f 1 = .loc S.next 0
  s7 : f 7 = .v (.int .i64 i)
  le : i ≤ v.parts.length
  ok : ∀ j (h : j < v.parts.length), j < i → soundV k v.parts[j] = true
def LPartsE (v : DVal) (k : Nat) (S : St) (f : Fm) (T : St) : Prop := ∃ i, LParts v k S f T i
theorem mem_take_iff (l : List Nat) (i : Nat) (x : Nat) (hi : i ≤ l.length) : x ∈ l.take i ↔ ∃ r, r < i ∧ l.getD r 0 = x := by
  rw [List.mem_take_iff_getElem]
  constructor
  · rintro ⟨r, hr, e⟩
    exact ⟨r, by omega, by rw [getD_at (by omega)]; exact e⟩
  · rintro ⟨r, hr, e⟩
    exact ⟨r, by omega, by rw [getD_at (by omega)] at e; exact e⟩
structure Cut2 (v : DVal) (S : St) (f : Fm) (T : St) : Prop where
  st : T = soundSt v S
  s1 : f 1 = .loc S.next 0
  s118 : f 118 = .v (.bool (decide (bad2 v.kind v.n v.s.length v.names.length v.ids.length v.parts.length (nameB v.s))))
structure Cut1 (v : DVal) (S : St) (f : Fm) (T : St) : Prop where
  st : T = soundSt v S
  s1 : f 1 = .loc S.next 0
  s3 : f 3 = .v (.int .i64 v.kind)
  s61 : f 61 = .v (.bool (decide (bad1 v.kind v.n v.s.length v.names.length v.ids.length)))
set_option maxRecDepth 200000 in
set_option maxHeartbeats 8000000 in
theorem refSoundV_d (k : Nat) : ∀ (v : DVal), v.depth ≤ k → okV v → DPure Try.prog 66 [encV v] (.v (.bool (soundV k v))) := by
  induction k with
  | zero => intro v h; have := v.depth_pos; omega
  | succ k ih =>
    intro v hk hok
    refine dpure_of_dwp mixed Try.func66 rfl (fun _ _ => by kernel_rfl) (rs := [.tmp 2]) rfl (by kernel_rfl) trivial (fun S hS => ?_)
    simp only [go_sem, ↓reduceIte, Nat.reduceBEq, Nat.reduceAdd, Nat.reduceLeDiff, Nat.reduceEqDiff, Nat.reduceLT, add_ob, set_ob, encV_eq v]
    refine cut_guard (Cut1 v S) rfl ?_ ?_
    · intro f T h
      obtain rfl := h.st
      cases hb1 : decide (bad1 v.kind v.n v.s.length v.names.length v.ids.length) with
      | true =>
        have hr : soundV (k + 1) v = false := by simp only [soundV, hereV, hb1]; rfl
        simp only [go_sem, ↓reduceIte, Nat.reduceBEq, Nat.reduceAdd, Nat.reduceLeDiff, Nat.reduceEqDiff, Nat.reduceLT, add_ob, set_ob, h.s61, hb1]
        exact ⟨by rw [hr]; rfl, (St.Sub.refl S).add hS _⟩
      | false =>
        have hgood : ¬ bad1 v.kind v.n v.s.length v.names.length v.ids.length := of_decide_eq_false hb1
        simp only [go_sem, ↓reduceIte, Nat.reduceBEq, Nat.reduceAdd, Nat.reduceLeDiff, Nat.reduceEqDiff, Nat.reduceLT, add_ob, set_ob, h.s61, h.s1, h.s3, hb1, soundSt]
        obtain ⟨o1, o2, o3, o4, o5, o6, o7, o8, o9⟩ := (okV_eq v).1 hok
        refine cut_guard (Cut2 v S) rfl ?_ ?_
        · intro f2 T2 h2
          obtain rfl := h2.st
          cases hb2 : decide (bad2 v.kind v.n v.s.length v.names.length v.ids.length v.parts.length (nameB v.s)) with
          | true =>
            have hr : soundV (k + 1) v = false := by simp only [soundV, hereV, hb1, hb2]; rfl
            simp only [go_sem, ↓reduceIte, Nat.reduceBEq, Nat.reduceAdd, Nat.reduceLeDiff, Nat.reduceEqDiff, Nat.reduceLT, add_ob, set_ob, h2.s118, hb2]
            exact ⟨by rw [hr]; rfl, (St.Sub.refl S).add hS _⟩
          | false =>
            have hok2 : ¬ bad2 v.kind v.n v.s.length v.names.length v.ids.length v.parts.length (nameB v.s) := of_decide_eq_false hb2
            simp only [go_sem, ↓reduceIte, Nat.reduceBEq, Nat.reduceAdd, Nat.reduceLeDiff, Nat.reduceEqDiff, Nat.reduceLT, add_ob, set_ob, h2.s118, h2.s1, hb2, soundSt]
            refine loop_cut (JNames v S) ?_ ?_
            · refine dloop_mk (LNamesE v S) (fun f _ => v.names.length - slotN (f 4)) ⟨0, ⟨rfl, by simp only [go_sem, ↓reduceIte, Nat.reduceBEq, Nat.reduceAdd, Nat.reduceLeDiff, Nat.reduceEqDiff, Nat.reduceLT, add_ob, set_ob, h2.s1], by simp only [go_sem, ↓reduceIte, Nat.reduceBEq, Nat.reduceAdd, Nat.reduceLeDiff, Nat.reduceEqDiff, Nat.reduceLT, add_ob, set_ob]; rfl, by omega, fun j hj => by omega⟩⟩ ?_
              rintro g T ⟨i, q⟩
              obtain rfl := q.st
              by_cases hlt : i < v.names.length
              · have b1 : decide ((i : Int) < (v.names.length : Int)) = true := by simp; omega
                have hx := getD_map strD v.names i hlt
                have c1 : (0 : Int) ≤ (i : Int) := by omega
                have c2 : (i : Int) < (v.names.length : Int) := by omega
                simp only [go_sem, ↓reduceIte, Nat.reduceBEq, Nat.reduceAdd, Nat.reduceLeDiff, Nat.reduceEqDiff, Nat.reduceLT, add_ob, set_ob, q.s1, q.s4, b1, soundSt]
                refine ddraw_mk 25 (by kernel_rfl) ?_
                simp only [go_sem, ↓reduceIte, Nat.reduceBEq, Nat.reduceAdd, Nat.reduceLeDiff, Nat.reduceEqDiff, Nat.reduceLT, add_ob, set_ob, q.s1, q.s4, hx, c1, c2]
                refine dqgo_mk (refName_d v.names[i] (o4 _ (List.getElem_mem hlt))) ?_
                have w1 : IntKind.i64.wrap ((i : Int) + 1) = (i : Int) + 1 := IntWalk.i64_in _ ⟨by omega, by omega⟩
                have bad : riseOk v.names i = false → soundV (k + 1) v = false := fun hh => by
                  simp only [soundV, hereV, all_not (p := riseOk v.names) hlt hh, Bool.false_and, Bool.and_false]
                have hri : riseOk v.names i = (nameB v.names[i] && (decide (i = 0) || sLt (v.names.getD (i - 1) []) v.names[i])) := by rw [riseOk, getD_at hlt]
                have next : riseOk v.names i = true → ∀ j, j < i + 1 → riseOk v.names j = true := fun hh j hj => by
                  by_cases e : j = i
                  · rw [e]; exact hh
                  · exact q.ok j (by omega)
                cases hn : nameB v.names[i] with
                | false =>
                  simp only [go_sem, ↓reduceIte, Nat.reduceBEq, Nat.reduceAdd, Nat.reduceLeDiff, Nat.reduceEqDiff, Nat.reduceLT, add_ob, set_ob, q.s1, q.s4, hx, c1, c2, hn]
                  exact ⟨by rw [bad (by rw [hri, hn]; rfl)]; rfl, (St.Sub.refl S).add hS _⟩
                | true =>
                  by_cases hi0 : i = 0
                  · have b3 : decide ((0 : Int) < (i : Int)) = false := by simp [hi0]
                    simp only [go_sem, ↓reduceIte, Nat.reduceBEq, Nat.reduceAdd, Nat.reduceLeDiff, Nat.reduceEqDiff, Nat.reduceLT, add_ob, set_ob, q.s1, q.s4, hx, c1, c2, hn, b3, w1]
                    exact round_end ⟨i + 1, ⟨rfl, by simp only [go_sem, ↓reduceIte, Nat.reduceBEq, Nat.reduceAdd, Nat.reduceLeDiff, Nat.reduceEqDiff, Nat.reduceLT, add_ob, set_ob, q.s1], by simp only [go_sem, ↓reduceIte, Nat.reduceBEq, Nat.reduceAdd, Nat.reduceLeDiff, Nat.reduceEqDiff, Nat.reduceLT, add_ob, set_ob]; rfl, by omega, next (by rw [hri, hn, decide_eq_true hi0]; rfl)⟩⟩ (by simp only [go_sem, ↓reduceIte, Nat.reduceBEq, Nat.reduceAdd, Nat.reduceLeDiff, Nat.reduceEqDiff, Nat.reduceLT, add_ob, set_ob]; omega)
                  · have b3 : decide ((0 : Int) < (i : Int)) = true := by simp; omega
                    have w2 : IntKind.i64.wrap ((i : Int) - 1) = (i : Int) - 1 := IntWalk.i64_in _ ⟨by omega, by omega⟩
                    have n2 : ((i : Int) - 1).toNat = i - 1 := by omega
                    have hx2 := getD_map strD v.names (i - 1) (by omega)
                    have hx3 : v.names.getD (i - 1) [] = v.names[i - 1] := getD_at (by omega)
                    have c3 : (0 : Int) ≤ (i : Int) - 1 := by omega
                    have c4 : (i : Int) - 1 < (v.names.length : Int) := by omega
                    simp only [go_sem, ↓reduceIte, Nat.reduceBEq, Nat.reduceAdd, Nat.reduceLeDiff, Nat.reduceEqDiff, Nat.reduceLT, add_ob, set_ob, q.s1, q.s4, hx, c1, c2, hn, b3, w1, w2, n2, hx2, c3, c4, leq_not]
                    cases hs : sLt v.names[i - 1] v.names[i] with
                    | false =>
                      simp only [go_sem, ↓reduceIte, Nat.reduceBEq, Nat.reduceAdd, Nat.reduceLeDiff, Nat.reduceEqDiff, Nat.reduceLT, add_ob, set_ob, hs]
                      exact ⟨by rw [bad (by rw [hri, hn, hx3, hs, decide_eq_false hi0]; rfl)]; rfl, (St.Sub.refl S).add hS _⟩
                    | true =>
                      simp only [go_sem, ↓reduceIte, Nat.reduceBEq, Nat.reduceAdd, Nat.reduceLeDiff, Nat.reduceEqDiff, Nat.reduceLT, add_ob, set_ob, hs, q.s1, q.s4, w1]
                      exact round_end ⟨i + 1, ⟨rfl, by simp only [go_sem, ↓reduceIte, Nat.reduceBEq, Nat.reduceAdd, Nat.reduceLeDiff, Nat.reduceEqDiff, Nat.reduceLT, add_ob, set_ob, q.s1], by simp only [go_sem, ↓reduceIte, Nat.reduceBEq, Nat.reduceAdd, Nat.reduceLeDiff, Nat.reduceEqDiff, Nat.reduceLT, add_ob, set_ob]; rfl, by omega, next (by rw [hri, hn, hx3, hs, Bool.or_true]; rfl)⟩⟩ (by simp only [go_sem, ↓reduceIte, Nat.reduceBEq, Nat.reduceAdd, Nat.reduceLeDiff, Nat.reduceEqDiff, Nat.reduceLT, add_ob, set_ob]; omega)
              · have b1 : decide ((i : Int) < (v.names.length : Int)) = false := by simp; omega
                simp only [go_sem, ↓reduceIte, Nat.reduceBEq, Nat.reduceAdd, Nat.reduceLeDiff, Nat.reduceEqDiff, Nat.reduceLT, add_ob, set_ob, q.s1, q.s4, b1, soundSt]
                exact ⟨rfl, by simp only [go_sem, ↓reduceIte, Nat.reduceBEq, Nat.reduceAdd, Nat.reduceLeDiff, Nat.reduceEqDiff, Nat.reduceLT, add_ob, set_ob, q.s1], all_of fun j hj => q.ok j (by omega)⟩
            · intro f3 T3 h3
              obtain rfl := h3.st
              simp only [go_sem, ↓reduceIte, Nat.reduceBEq, Nat.reduceAdd, Nat.reduceLeDiff, Nat.reduceEqDiff, Nat.reduceLT, add_ob, set_ob, h3.s1, soundSt]
              refine loop_cut (JIds v S) ?_ ?_
              · refine dloop_mk (LIdsE v S) (fun f _ => v.ids.length - slotN (f 5)) ⟨0, ⟨rfl, by simp only [go_sem, ↓reduceIte, Nat.reduceBEq, Nat.reduceAdd, Nat.reduceLeDiff, Nat.reduceEqDiff, Nat.reduceLT, add_ob, set_ob, h3.s1], by simp only [go_sem, ↓reduceIte, Nat.reduceBEq, Nat.reduceAdd, Nat.reduceLeDiff, Nat.reduceEqDiff, Nat.reduceLT, add_ob, set_ob]; rfl, by omega, fun j hj => by omega⟩⟩ ?_
                rintro g T ⟨i, q⟩
                obtain rfl := q.st
                by_cases hlt : i < v.ids.length
                · have b1 : decide ((i : Int) < (v.ids.length : Int)) = true := by simp; omega
                  have hx := getD_map u64D v.ids i hlt
                  have c1 : (0 : Int) ≤ (i : Int) := by omega
                  have c2 : (i : Int) < (v.ids.length : Int) := by omega
                  have w1 : IntKind.i64.wrap ((i : Int) + 1) = (i : Int) + 1 := IntWalk.i64_in _ ⟨by omega, by omega⟩
                  have bad : idOk v.ids i = false → soundV (k + 1) v = false := fun hh => by
                    simp only [soundV, hereV, all_not (p := idOk v.ids) hlt hh, Bool.false_and, Bool.and_false]
                  simp only [go_sem, ↓reduceIte, Nat.reduceBEq, Nat.reduceAdd, Nat.reduceLeDiff, Nat.reduceEqDiff, Nat.reduceLT, add_ob, set_ob, q.s1, q.s5, b1, soundSt]
                  refine loop_cut (LIn v S i · · i) ?_ ?_
                  · refine dloop_mk (LInE v S i) (fun f _ => i - slotN (f 6)) ⟨0, ⟨rfl, by simp only [go_sem, ↓reduceIte, Nat.reduceBEq, Nat.reduceAdd, Nat.reduceLeDiff, Nat.reduceEqDiff, Nat.reduceLT, add_ob, set_ob, q.s1], by simp only [go_sem, ↓reduceIte, Nat.reduceBEq, Nat.reduceAdd, Nat.reduceLeDiff, Nat.reduceEqDiff, Nat.reduceLT, add_ob, set_ob, q.s5], by simp only [go_sem, ↓reduceIte, Nat.reduceBEq, Nat.reduceAdd, Nat.reduceLeDiff, Nat.reduceEqDiff, Nat.reduceLT, add_ob, set_ob]; rfl, by omega, fun j hj => by omega⟩⟩ ?_
                    rintro g2 T2 ⟨j, p⟩
                    obtain rfl := p.st
                    by_cases hjl : j < i
                    · have b2 : decide ((j : Int) < (i : Int)) = true := by simp; omega
                      have hx2 := getD_map u64D v.ids j (by omega)
                      have c3 : (0 : Int) ≤ (j : Int) := by omega
                      have c4 : (j : Int) < (v.ids.length : Int) := by omega
                      have w2 : IntKind.i64.wrap ((j : Int) + 1) = (j : Int) + 1 := IntWalk.i64_in _ ⟨by omega, by omega⟩
                      simp only [go_sem, ↓reduceIte, Nat.reduceBEq, Nat.reduceAdd, Nat.reduceLeDiff, Nat.reduceEqDiff, Nat.reduceLT, add_ob, set_ob, p.s1, p.s5, p.s6, b2, soundSt]
                      refine ddraw_mk 11 (by kernel_rfl) ?_
                      simp only [go_sem, ↓reduceIte, Nat.reduceBEq, Nat.reduceAdd, Nat.reduceLeDiff, Nat.reduceEqDiff, Nat.reduceLT, add_ob, set_ob, p.s1, p.s5, p.s6, hx, hx2, c1, c2, c3, c4]
                      by_cases he : v.ids[i] = v.ids[j]
                      · have b3 : ((v.ids[i] : Int) == (v.ids[j] : Int)) = true := by simp [he]
                        simp only [go_sem, ↓reduceIte, Nat.reduceBEq, Nat.reduceAdd, Nat.reduceLeDiff, Nat.reduceEqDiff, Nat.reduceLT, add_ob, set_ob, b3]
                        have hm : v.ids.getD i 0 ∈ v.ids.take i := (mem_take_iff _ _ _ (by omega)).2 ⟨j, hjl, by rw [getD_at (by omega), getD_at hlt, he]⟩
                        have hbad : idOk v.ids i = false := by
                          show (!decide (v.ids.getD i 0 = 0) && !decide (v.ids.getD i 0 ∈ v.ids.take i)) = false
                          rw [decide_eq_true hm, Bool.not_true, Bool.and_false]
                        exact ⟨by rw [bad hbad]; rfl, (St.Sub.refl S).add hS _⟩
                      · have b3 : ((v.ids[i] : Int) == (v.ids[j] : Int)) = false := by simp; omega
                        simp only [go_sem, ↓reduceIte, Nat.reduceBEq, Nat.reduceAdd, Nat.reduceLeDiff, Nat.reduceEqDiff, Nat.reduceLT, add_ob, set_ob, b3, p.s6, w2]
                        exact round_end ⟨j + 1, ⟨rfl, by simp only [go_sem, ↓reduceIte, Nat.reduceBEq, Nat.reduceAdd, Nat.reduceLeDiff, Nat.reduceEqDiff, Nat.reduceLT, add_ob, set_ob, p.s1], by simp only [go_sem, ↓reduceIte, Nat.reduceBEq, Nat.reduceAdd, Nat.reduceLeDiff, Nat.reduceEqDiff, Nat.reduceLT, add_ob, set_ob, p.s5], by simp only [go_sem, ↓reduceIte, Nat.reduceBEq, Nat.reduceAdd, Nat.reduceLeDiff, Nat.reduceEqDiff, Nat.reduceLT, add_ob, set_ob]; rfl, by omega, fun r hr => by
                          by_cases e : r = j
                          · subst e; rw [getD_at (by omega), getD_at hlt]; exact fun h => he h.symm
                          · exact p.no r (by omega)⟩⟩ (by simp only [go_sem, ↓reduceIte, Nat.reduceBEq, Nat.reduceAdd, Nat.reduceLeDiff, Nat.reduceEqDiff, Nat.reduceLT, add_ob, set_ob, p.s6]; omega)
                    · have b2 : decide ((j : Int) < (i : Int)) = false := by simp; omega
                      simp only [go_sem, ↓reduceIte, Nat.reduceBEq, Nat.reduceAdd, Nat.reduceLeDiff, Nat.reduceEqDiff, Nat.reduceLT, add_ob, set_ob, p.s1, p.s5, p.s6, b2, soundSt]
                      have : j = i := by have := p.le; omega
                      subst this
                      exact ⟨rfl, by simp only [go_sem, ↓reduceIte, Nat.reduceBEq, Nat.reduceAdd, Nat.reduceLeDiff, Nat.reduceEqDiff, Nat.reduceLT, add_ob, set_ob, p.s1], by simp only [go_sem, ↓reduceIte, Nat.reduceBEq, Nat.reduceAdd, Nat.reduceLeDiff, Nat.reduceEqDiff, Nat.reduceLT, add_ob, set_ob, p.s5], by simp only [go_sem, ↓reduceIte, Nat.reduceBEq, Nat.reduceAdd, Nat.reduceLeDiff, Nat.reduceEqDiff, Nat.reduceLT, add_ob, set_ob, p.s6], Nat.le_refl _, p.no⟩
                  · intro f4 T4 h4
                    obtain rfl := h4.st
                    simp only [go_sem, ↓reduceIte, Nat.reduceBEq, Nat.reduceAdd, Nat.reduceLeDiff, Nat.reduceEqDiff, Nat.reduceLT, add_ob, set_ob, h4.s1, h4.s5, hx, c1, c2, soundSt]
                    by_cases hz : v.ids[i] = 0
                    · have b3 : ((v.ids[i] : Int) == 0) = true := by simp [hz]
                      simp only [go_sem, ↓reduceIte, Nat.reduceBEq, Nat.reduceAdd, Nat.reduceLeDiff, Nat.reduceEqDiff, Nat.reduceLT, add_ob, set_ob, b3, c1, c2, true_and]
                      have hbad : idOk v.ids i = false := by
                        show (!decide (v.ids.getD i 0 = 0) && !decide (v.ids.getD i 0 ∈ v.ids.take i)) = false
                        rw [decide_eq_true (show v.ids.getD i 0 = 0 by rw [getD_at hlt]; exact hz)]; rfl
                      exact ⟨by rw [bad hbad]; rfl, (St.Sub.refl S).add hS _⟩
                    · have b3 : ((v.ids[i] : Int) == 0) = false := by simp; omega
                      simp only [go_sem, ↓reduceIte, Nat.reduceBEq, Nat.reduceAdd, Nat.reduceLeDiff, Nat.reduceEqDiff, Nat.reduceLT, add_ob, set_ob, b3, h4.s5, w1, c1, c2]
                      have hi : idOk v.ids i = true := by
                        have hm : ¬ v.ids.getD i 0 ∈ v.ids.take i := fun hm => by
                          obtain ⟨r, hr, e⟩ := (mem_take_iff _ _ _ (by omega)).1 hm
                          exact h4.no r hr e
                        show (!decide (v.ids.getD i 0 = 0) && !decide (v.ids.getD i 0 ∈ v.ids.take i)) = true
                        rw [decide_eq_false hm, decide_eq_false (show ¬ v.ids.getD i 0 = 0 by rw [getD_at hlt]; exact hz)]; rfl
                      exact round_end ⟨i + 1, ⟨rfl, by simp only [go_sem, ↓reduceIte, Nat.reduceBEq, Nat.reduceAdd, Nat.reduceLeDiff, Nat.reduceEqDiff, Nat.reduceLT, add_ob, set_ob, h4.s1], by simp only [go_sem, ↓reduceIte, Nat.reduceBEq, Nat.reduceAdd, Nat.reduceLeDiff, Nat.reduceEqDiff, Nat.reduceLT, add_ob, set_ob]; rfl, by omega, fun j hj => by
                        by_cases e : j = i
                        · rw [e]; exact hi
                        · exact q.ok j (by omega)⟩⟩ (by simp only [go_sem, ↓reduceIte, Nat.reduceBEq, Nat.reduceAdd, Nat.reduceLeDiff, Nat.reduceEqDiff, Nat.reduceLT, add_ob, set_ob, q.s5]; omega)
                · have b1 : decide ((i : Int) < (v.ids.length : Int)) = false := by simp; omega
                  simp only [go_sem, ↓reduceIte, Nat.reduceBEq, Nat.reduceAdd, Nat.reduceLeDiff, Nat.reduceEqDiff, Nat.reduceLT, add_ob, set_ob, q.s1, q.s5, b1, soundSt]
                  exact ⟨rfl, by simp only [go_sem, ↓reduceIte, Nat.reduceBEq, Nat.reduceAdd, Nat.reduceLeDiff, Nat.reduceEqDiff, Nat.reduceLT, add_ob, set_ob, q.s1], all_of fun j hj => q.ok j (by omega)⟩
              · intro f5 T5 h5
                obtain rfl := h5.st
                simp only [go_sem, ↓reduceIte, Nat.reduceBEq, Nat.reduceAdd, Nat.reduceLeDiff, Nat.reduceEqDiff, Nat.reduceLT, add_ob, set_ob, h5.s1, soundSt]
                have hhere : hereV v = true := by simp only [hereV, hb1, hb2, h3.ok, h5.ok]; rfl
                refine dloop_mk (LPartsE v k S) (fun f _ => v.parts.length - slotN (f 7)) ⟨0, ⟨rfl, by simp only [go_sem, ↓reduceIte, Nat.reduceBEq, Nat.reduceAdd, Nat.reduceLeDiff, Nat.reduceEqDiff, Nat.reduceLT, add_ob, set_ob, h5.s1], by simp only [go_sem, ↓reduceIte, Nat.reduceBEq, Nat.reduceAdd, Nat.reduceLeDiff, Nat.reduceEqDiff, Nat.reduceLT, add_ob, set_ob]; rfl, by omega, fun j _ hj => by omega⟩⟩ ?_
                rintro g T ⟨i, q⟩
                obtain rfl := q.st
                by_cases hlt : i < v.parts.length
                · have b1 : decide ((i : Int) < (v.parts.length : Int)) = true := by simp; omega
                  have hx := getD_map encV v.parts i hlt
                  have c1 : (0 : Int) ≤ (i : Int) := by omega
                  have c2 : (i : Int) < (v.parts.length : Int) := by omega
                  have w1 : IntKind.i64.wrap ((i : Int) + 1) = (i : Int) + 1 := IntWalk.i64_in _ ⟨by omega, by omega⟩
                  simp only [go_sem, ↓reduceIte, Nat.reduceBEq, Nat.reduceAdd, Nat.reduceLeDiff, Nat.reduceEqDiff, Nat.reduceLT, add_ob, set_ob, q.s1, q.s7, b1, hx, c1, c2, soundSt]
                  have hd := DVal.depth_part (List.getElem_mem hlt)
                  refine DCalls.of_pure (ih v.parts[i] (by omega) (o9 _ (List.getElem_mem hlt))) ?_
                  cases hs : soundV k v.parts[i] with
                  | false =>
                    simp only [go_sem, ↓reduceIte, Nat.reduceBEq, Nat.reduceAdd, Nat.reduceLeDiff, Nat.reduceEqDiff, Nat.reduceLT, add_ob, set_ob, hs]
                    refine ⟨?_, (St.Sub.refl S).add hS _⟩
                    rw [show soundV (k + 1) v = false by simp only [soundV, hhere, Bool.true_and]; exact List.all_eq_false.2 ⟨_, List.getElem_mem hlt, by rw [hs]; simp⟩]
                    rfl
                  | true =>
                    simp only [go_sem, ↓reduceIte, Nat.reduceBEq, Nat.reduceAdd, Nat.reduceLeDiff, Nat.reduceEqDiff, Nat.reduceLT, add_ob, set_ob, hs, q.s7, w1]
                    exact round_end ⟨i + 1, ⟨rfl, by simp only [go_sem, ↓reduceIte, Nat.reduceBEq, Nat.reduceAdd, Nat.reduceLeDiff, Nat.reduceEqDiff, Nat.reduceLT, add_ob, set_ob, q.s1], by simp only [go_sem, ↓reduceIte, Nat.reduceBEq, Nat.reduceAdd, Nat.reduceLeDiff, Nat.reduceEqDiff, Nat.reduceLT, add_ob, set_ob]; rfl, by omega, fun j hj hji => by
                      by_cases e : j = i
                      · subst e; exact hs
                      · exact q.ok j hj (by omega)⟩⟩ (by simp only [go_sem, ↓reduceIte, Nat.reduceBEq, Nat.reduceAdd, Nat.reduceLeDiff, Nat.reduceEqDiff, Nat.reduceLT, add_ob, set_ob]; omega)
                · have b1 : decide ((i : Int) < (v.parts.length : Int)) = false := by simp; omega
                  simp only [go_sem, ↓reduceIte, Nat.reduceBEq, Nat.reduceAdd, Nat.reduceLeDiff, Nat.reduceEqDiff, Nat.reduceLT, add_ob, set_ob, q.s1, q.s7, b1, soundSt]
                  refine ⟨?_, (St.Sub.refl S).add hS _⟩
                  rw [show soundV (k + 1) v = true by
                    simp only [soundV, hhere, Bool.true_and]
                    exact List.all_eq_true.2 fun p hp => by
                      obtain ⟨j, hj, rfl⟩ := List.getElem_of_mem hp
                      exact q.ok j hj (by omega)]
                  rfl
        · have hsl : v.s.length ≤ maxLen := o3
          have hwr : IntKind.i64.wrap ((v.names.length : Int) + (v.ids.length : Int)) = (v.names.length : Int) + (v.ids.length : Int) := IntWalk.i64_in _ ⟨by omega, by omega⟩
          repeat' first | (refine DCalls.of_pure (refName_d v.s hsl) ?_; simp only [go_sem, ↓reduceIte, Nat.reduceBEq, Nat.reduceAdd, Nat.reduceLeDiff, Nat.reduceEqDiff, Nat.reduceLT, add_ob, set_ob, h.s1, h.s3, hwr]) | (refine dg_mk (fun hb => ?_) (fun hb => ?_) <;> (simp only [go_sem, ↓reduceIte, Nat.reduceBEq, Nat.reduceAdd, Nat.reduceLeDiff, Nat.reduceEqDiff, Nat.reduceLT, add_ob, set_ob, hb, h.s1, h.s3, hwr]; simp at hb))
          all_goals refine ⟨rfl, by simp only [go_sem, ↓reduceIte, Nat.reduceBEq, Nat.reduceAdd, Nat.reduceLeDiff, Nat.reduceEqDiff, Nat.reduceLT, add_ob, set_ob, h.s1], ?_⟩
          all_goals simp only [go_sem, ↓reduceIte, Nat.reduceBEq, Nat.reduceAdd, Nat.reduceLeDiff, Nat.reduceEqDiff, Nat.reduceLT, add_ob, set_ob]
          all_goals
            congr 2
            rw [Bool.eq_iff_iff]
            simp only [decide_eq_true_eq, Bool.false_eq_true, false_iff, true_iff, bne_iff_ne, Bool.not_eq_true'] at *
            simp only [bad2, ← List.length_eq_zero_iff] at *
            cases hnb : nameB v.s <;> simp only [hnb, Bool.true_eq_false, Bool.false_eq_true, and_true, and_false, false_or, not_true_eq_false, not_false_eq_true] at * <;> first | done | omega
    · repeat' (refine dg_mk (fun hb => ?_) (fun hb => ?_) <;> (simp only [go_sem, ↓reduceIte, Nat.reduceBEq, Nat.reduceAdd, Nat.reduceLeDiff, Nat.reduceEqDiff, Nat.reduceLT, add_ob, set_ob, hb]; simp at hb))
      all_goals refine ⟨rfl, by simp only [go_sem, ↓reduceIte, Nat.reduceBEq, Nat.reduceAdd, Nat.reduceLeDiff, Nat.reduceEqDiff, Nat.reduceLT, add_ob, set_ob], by simp only [go_sem, ↓reduceIte, Nat.reduceBEq, Nat.reduceAdd, Nat.reduceLeDiff, Nat.reduceEqDiff, Nat.reduceLT, add_ob, set_ob], ?_⟩
      all_goals simp only [go_sem, ↓reduceIte, Nat.reduceBEq, Nat.reduceAdd, Nat.reduceLeDiff, Nat.reduceEqDiff, Nat.reduceLT, add_ob, set_ob]
      all_goals
        congr 2
        rw [Bool.eq_iff_iff]
        simp only [decide_eq_true_eq, Bool.false_eq_true, false_iff, true_iff] at *
        simp only [bad1, ← List.length_eq_zero_iff] at *
        omega
end Go.Proofs.Ytpnjkebjdclkfaa

/- Values: the size that is asked of (Great). Conditions: none. -/
namespace Go.Proofs.Ytpnjkebjdclkfaa
open Go.RowKit Go.ChangeShapes Go.WideShapes Go.ChangeAt

/-- How much is left of n. -/
def roomV : Nat → DVal → Int → Int
  | 0, _, _ => -1
  | k + 1, s, n =>
    if 400 < s.s.length then -1
    else s.parts.foldl (fun m p => if 0 ≤ m then roomV k p m else m) (n - 1 - s.names.length - s.ids.length)
theorem foldRoomV_neg (k : Nat) : ∀ (l : List DVal) (m : Int), m < 0 → l.foldl (fun m p => if 0 ≤ m then roomV k p m else m) m = m
  | [], _, _ => rfl
  | p :: l, m, h => by rw [List.foldl_cons, if_neg (by omega)]; exact foldRoomV_neg k l m h
/-- Nothing too great: depth, words' sizes, all hereditarily. -/
def FineV : Nat → DVal → Prop
  | 0, _ => False
  | k + 1, s => s.s.length ≤ 400 ∧ ∀ p ∈ s.parts, FineV k p
theorem roomV_spec : ∀ (k : Nat) (s : DVal) (n : Int), 0 ≤ roomV k s n → roomV k s n = n - s.weight ∧ FineV k s
  | 0, s, n, h => by simp [roomV] at h
  | k + 1, s, n, h => by
    have hwt := DVal.weight_eq s
    unfold roomV at h ⊢
    by_cases hb : 400 < s.s.length
    · rw [if_pos hb] at h; omega
    · rw [if_neg hb] at h ⊢
      have hw : s.s.length ≤ 400 := by omega
      have key : ∀ (l : List DVal) (m : Int), 0 ≤ l.foldl (fun m p => if 0 ≤ m then roomV k p m else m) m →
          l.foldl (fun m p => if 0 ≤ m then roomV k p m else m) m = m - DVal.weights l ∧ ∀ p ∈ l, FineV k p := by
        intro l
        induction l with
        | nil => intro m _; exact ⟨by simp [DVal.weights], fun p hp => by cases hp⟩
        | cons p l ih =>
          intro m hm
          rw [List.foldl_cons] at hm ⊢
          have h0 : 0 ≤ m := by
            rcases Int.lt_or_le m 0 with hx | hx
            · rw [if_neg (by omega), foldRoomV_neg k l m hx] at hm; exact hm
            · exact hx
          rw [if_pos h0] at hm ⊢
          have h1 : 0 ≤ roomV k p m := by
            rcases Int.lt_or_le (roomV k p m) 0 with hx | hx
            · rw [foldRoomV_neg k l _ hx] at hm; exact hm
            · exact hx
          obtain ⟨e1, f1⟩ := roomV_spec k p m h1
          obtain ⟨e2, f2⟩ := ih _ hm
          refine ⟨by rw [e2, e1]; simp only [DVal.weights]; omega, fun q hq => ?_⟩
          rcases List.mem_cons.1 hq with rfl | hq
          · exact f1
          · exact f2 q hq
      obtain ⟨e, f⟩ := key s.parts _ h
      refine ⟨by rw [e]; omega, ?_⟩
      exact ⟨hw, f⟩
theorem roomV_le : ∀ (k : Nat) (s : DVal) (n : Int), -1 ≤ n → roomV k s n ≤ n ∧ (roomV k s n ≤ -1 ∨ 0 ≤ roomV k s n)
  | 0, s, n, h => by simp [roomV]; omega
  | k + 1, s, n, h => by
    unfold roomV
    split
    · omega
    · have key : ∀ (l : List DVal) (m : Int), l.foldl (fun m p => if 0 ≤ m then roomV k p m else m) m ≤ m := by
        intro l
        induction l with
        | nil => intro m; exact Int.le_refl _
        | cons p l ih =>
          intro m
          rw [List.foldl_cons]
          refine Int.le_trans (ih _) ?_
          split
          · exact (roomV_le k p m (by omega)).1
          · exact Int.le_refl _
      have := key s.parts (n - 1 - s.names.length - s.ids.length)
      omega
end Go.Proofs.Ytpnjkebjdclkfaa

/- Values, walked: Great. Conditions: none. -/
namespace Go.Proofs.Ytpnjkebjdclkfaa
open Go.RowKit

theorem info_valB : (Try.prog.info? 31).map (·.size) = some 6 := by kernel_rfl

set_option maxHeartbeats 1000000 in
set_option maxRecDepth 20000 in
theorem roomV_calls (k : Nat) : ∀ (s : DVal) (n : Int) (cs : List Value) (w : World), IsVal w (· < w.heap.size) s cs → k ≤ 1000 → 0 ≤ n → n ≤ 1000 →
    Calls Try.prog 64 #[.agg cs.toArray, .int .i64 n, .int .i64 k] w (fun e w' => -1000000000000000 ≤ roomV k s n ∧ Gives (.int .i64 (roomV k s n)) w e w') := by
  induction k with
  | zero =>
    intro s n cs w hs hk hn hn2
    obtain ⟨An, cn, hw1, _, _, _, hwm⟩ := hs.names_
    obtain ⟨Ai, ci, hi1, _, _, _, him⟩ := hs.ids_
    clear hs
    go_enter Try.func64, Try.ntmps64
    go_wp2
    go_ret
    exact ⟨by simp [roomV], ret_eq rfl, (Below.refl _ _).alloc (Nat.le_refl _) _⟩
  | succ k ih =>
    intro s n cs w hs hk hn hn2
    have HI := hide ih
    clear ih
    obtain ⟨hs1, hsl⟩ := hs.s_
    obtain ⟨An, cn, hw1, _, _, _, hwm⟩ := hs.names_
    obtain ⟨Ai, ci, hi1, _, _, _, him⟩ := hs.ids_
    obtain ⟨Ap, cp, C, hp1, hpc, hpm, hP, hA⟩ := hs.partsF
    have HA := hide hA
    have HP := hide hP
    have HSP : Hid (roomV (k + 1) s n = if 400 < s.s.length then -1 else s.parts.foldl (fun m p => if 0 ≤ m then roomV k p m else m) (n - 1 - s.names.length - s.ids.length)) := hide rfl
    have HK0 := hide (Blk.new w 31 cs.toArray)
    have HW0 := hide ((Below.refl w.heap.size w).alloc (Nat.le_refl _) (.cells cs.toArray 31))
    clear hA hP hs
    have hk1 : (((k + 1 : Nat) : Int) == 0) = false := by simp; omega
    have hk2 : (((k : Int) + 1) == 0) = false := by simp; omega
    have hlow : -1000000000000000 ≤ n - 1 - (s.names.length : Int) - (s.ids.length : Int) := by omega
    have hstart : n - 1 - (s.names.length : Int) - (s.ids.length : Int) ≤ 1000 := by omega
    by_cases hbig : 400 < s.s.length
    · have HB := hide hbig
      generalize s.s = x at *
      go_enter Try.func64, Try.ntmps64
      go_wp2
      go_ret
      exact ⟨by rw [HSP.out, if_pos HB.out]; omega, ret_eq (by rw [HSP.out, if_pos HB.out]; rfl), HW0.out⟩
    · have HE : Hid (roomV (k + 1) s n = s.parts.foldl (fun m p => if 0 ≤ m then roomV k p m else m) (n - 1 - s.names.length - s.ids.length)) := hide (by rw [HSP.out, if_neg hbig])
      clear HSP
      generalize s.s = x at *
      have hbd : ¬ (400 : Int) < (x.length : Int) := by omega
      have hbe : decide ((400 : Int) < (x.length : Int)) = false := decide_eq_false hbd
      go_enter Try.func64, Try.ntmps64
      go_wp2_with fail
      generalize hm0 : n - 1 - (s.names.length : Int) - (s.ids.length : Int) = m0 at *
      clear hm0
      go_loopw [1, 7] (fun nv iv wr => ∃ (i : Nat) (m : Int), nv = .int .i64 m ∧ iv = .int .i64 i ∧ i ≤ s.parts.length ∧ m ≤ 1000 ∧ -1000000000000000 ≤ m ∧ m = (s.parts.take i).foldl (fun m p => if 0 ≤ m then roomV k p m else m) m0 ∧ Blk wr w.heap.size 31 cs.toArray ∧ Below w.heap.size w wr) (fun _ iv _ => s.parts.length - (intOf iv).toNat)
      case atStart => exact ⟨0, m0, rfl, rfl, Nat.zero_le _, hstart, hlow, rfl, HK0.out, HW0.out⟩
      case round =>
        clear HK0 HW0
        obtain ⟨i, m, rfl, rfl, hi, hm1, hm2, hfold, hblk, hbel⟩ := hrel
        have HF := hide hfold
        have GB := hide hblk
        have GW := hide hbel
        clear hfold hblk hbel
        have c2 : wr.cell? ⟨w.heap.size, 5, none⟩ = some (.slice Ap s.parts.length cp) := by rw [GB.out.cell]; simpa using hp1
        by_cases hgo : i < s.parts.length ∧ 0 ≤ m
        · obtain ⟨hlt, h0⟩ := hgo
          obtain ⟨b, o, rfl, hb, hC⟩ := HA.out (by omega)
          obtain ⟨hl3, hr⟩ := hC i hlt
          have hg := List.getElem?_eq_getElem hlt
          have HRW : Hid (wr.rangeAt b (o + i * 6) (C i)) := hide fun q v hv => (GW.out.cell (p := ⟨b, o + i * 6 + q, none⟩) hb).trans (hr q v hv)
          have HL3 := hide hl3
          have HPI := hide ((HP.out i _ hg).more GW.out)
          have HRL := hide (roomV_le k s.parts[i] m (by omega))
          have HFS : Hid ((s.parts.take (i + 1)).foldl (fun m p => if 0 ≤ m then roomV k p m else m) m0 = roomV k s.parts[i] m) := hide (by
            rw [List.take_succ_eq_append_getElem hlt, List.foldl_append, ← HF.out, List.foldl_cons, List.foldl_nil, if_pos h0])
          clear hr hl3 hg hC
          generalize s.parts[i] = p at *
          generalize C i = es at *
          go_wp2_with (first | (refine wpList_load_mid rfl 31 _ rfl b (o + i * 6) rfl es _ HRW.out rfl rfl (by rw [HL3.out]; exact info_valB) ?_) | fail)
          refine (HI.out p m es _ HPI.out (by omega) h0 hm1).mono ?_
          rintro e w1 ⟨hlo, rfl, hb1⟩
          have hrl := HRL.out
          generalize roomV k p m = m1 at *
          go_wp2_with fail
          exact ⟨⟨i + 1, m1, rfl, by go_num, by omega, by omega, by omega, HFS.out.symm, GB.out.below hb1 GB.out.lt, GW.out.trans (hb1.mono GW.out.size)⟩, by simp [intOf]; omega⟩
        · have HX : Hid (roomV (k + 1) s n = m) := hide (by
            rw [HE.out, HF.out]
            rcases Nat.lt_or_ge i s.parts.length with hx | hx
            · have hm : m < 0 := by omega
              have e : s.parts.foldl (fun m p => if 0 ≤ m then roomV k p m else m) m0 = (s.parts.drop i).foldl (fun m p => if 0 ≤ m then roomV k p m else m) m := by
                rw [HF.out, ← List.foldl_append, List.take_append_drop]
              rw [e, foldRoomV_neg k _ _ hm, HF.out]
            · rw [List.take_of_length_le hx])
          clear HF HE
          by_cases hlt : i < s.parts.length
          all_goals
            go_wp2
            go_ret
            exact ⟨by rw [HX.out]; exact hm2, ret_eq (by rw [HX.out]; rfl), GW.out⟩

set_option maxHeartbeats 400000 in
set_option maxRecDepth 20000 in
theorem greatV_calls (s : DVal) (cs : List Value) (w : World) (hs : IsVal w (· < w.heap.size) s cs) :
    Calls Try.prog 24 #[.agg cs.toArray] w (Gives (.bool (decide (roomV 12 s 300 < 0))) w) := by
  have HB := hide (Blk.new w 31 cs.toArray)
  have HW := hide ((Below.refl w.heap.size w).alloc (Nat.le_refl _) (.cells cs.toArray 31))
  have HS := hide (hs.more HW.out)
  have hl := hs.length
  have HC := hide (roomV_calls 12 s 300 cs _ HS.out (by omega) (by omega) (by omega))
  have HL := hide (show (Try.prog.info? 31).map (·.size) = some cs.toArray.size by rw [info_valB]; simp [hl])
  clear hs hl
  go_enter Try.func24, Try.ntmps24
  go_wp2_with (first | (refine wpList_load_blk rfl 31 _ rfl _ rfl _ _ HB.out _ rfl rfl HL.out ?_) | fail)
  refine HC.out.mono ?_
  rintro e w1 ⟨hlo, rfl, hb1⟩
  have HW1 := hide (HW.out.trans (hb1.mono HW.out.size))
  clear hb1
  generalize roomV 12 s 300 = m at *
  go_wp2
  go_ret
  exact ⟨ret_eq rfl, HW1.out⟩
end Go.Proofs.Ytpnjkebjdclkfaa

/- A value that is being built: its names and its parts are rows of the call's own. Conditions: none. -/
namespace Go.Proofs.Ytpnjkebjdclkfaa
open Go.RowKit

theorem flat_get {n : Nat} : ∀ {Cs : List (List Value)} {i j : Nat} {C : List Value}, (∀ D ∈ Cs, D.length = n) → Cs[i]? = some C → j < n → Cs.flatten[i * n + j]? = C[j]?
  | [], i, j, C, _, hi, _ => by simp at hi
  | D :: Cs, 0, j, C, hl, hi, hj => by
    have e : D = C := by simpa using hi
    subst e
    have h1 := hl D (by simp)
    rw [List.flatten_cons, List.getElem?_append_left (by omega)]
    simp
  | D :: Cs, i + 1, j, C, hl, hi, hj => by
    have h1 := hl D (by simp)
    have := flat_get (n := n) (Cs := Cs) (i := i) (j := j) (C := C) (fun x hx => hl x (by simp [hx])) (by simpa using hi) hj
    rw [List.flatten_cons, List.getElem?_append_right (by rw [Nat.add_mul]; omega), ← this]
    congr 1
    rw [Nat.add_mul]; omega
theorem flat_length {n : Nat} : ∀ {Cs : List (List Value)}, (∀ D ∈ Cs, D.length = n) → Cs.flatten.length = Cs.length * n
  | [], _ => by simp
  | D :: Cs, hl => by
    have h1 := hl D (by simp)
    have := flat_length (n := n) (Cs := Cs) (fun x hx => hl x (by simp [hx]))
    rw [List.flatten_cons, List.length_append, this, List.length_cons, Nat.add_mul]; omega

theorem Blk.new3 (w : World) (o o2 : Obj) (t : TypeId) (cs : Array Value) : Blk (((w.alloc o).alloc o2).alloc (.cells cs t)) (w.heap.size + 1 + 1) t cs := by simpa using Blk.new ((w.alloc o).alloc o2) t cs
theorem reads_blk {w : World} {g : Nat} {t : TypeId} {size n : Nat} {cs : List Value} (hb : Blk w g t cs.toArray) (hl : cs.length = n * size) : Reads w w.heap.size size (some ⟨g, 0, none⟩) n cs :=
  ⟨hl, fun _ => ⟨g, 0, rfl, hb.lt, fun j u hu => by rw [Nat.zero_add, hb.cell]; simpa using hu⟩⟩
/-- The cells of a row of the call's own. -/
theorem own_cells {w : World} {base : Nat} {e : TypeId} {size n c : Nat} {A : Option Addr} {xs : List Value} (h : w.ownsRow base e size (.slice A n c) n xs) : RF w (fun b => (Value.slice A n c).ownBlock = some b) size A n xs := by
  refine ⟨h.1, fun hn => ?_⟩
  obtain ⟨g, cap, hv, _, hlt⟩ := h.form hn
  have hA : A = some ⟨g, 0, none⟩ := by injection hv
  subst hA
  exact ⟨g, 0, rfl, rfl, fun j u hu => by have := h.cells (g := g) rfl j u hu; rwa [Addr.add_lit] at this⟩
theorem own_cap {w : World} {base : Nat} {e : TypeId} {size n c : Nat} {A : Option Addr} {xs : List Value} (h : w.ownsRow base e size (.slice A n c) n xs) : n ≤ c := by
  rcases h.2 with ⟨hv, h0⟩ | ⟨g, cap, cur, hv, _, _, hnc, _⟩
  · omega
  · have : c = cap := by injection hv
    omega

/-- append onto a row of the call's own, at one operation of a region that draws. -/
theorem step_append_any {P : Program} {ops : Array Oper} {w : World} {o : Oper} {a : Act} {K : Act → World → Prop} {Q : Exit → Act → World → Prop} {E : Prop} (hgd : o.guard = none) (s x : Operand) (t : TypeId)
    (ho : o.op = .call { callee := .builtin .append, args := #[s, x], argTypes := #[t, t] })
    (base : Nat) (e : TypeId) (i : TypeInfo) (z : Value) (size bytes : Nat) (ht : P.underlying t = some (.slice e)) (hi : P.info? e = some i) (hz : i.zero = some z)
    (hsize : i.size = size) (hby : i.bytes = bytes) (hzs : z.cells.size = size) (hsz : 0 < size)
    (v : Value) (n : Nat) (xs : List Value) (hs : a.eval s = v) (hown : w.ownsRow base e size v n xs)
    (B : Nat) (A : Option Addr) (m c : Nat) (news : List Value) (hx : a.eval x = .slice A m c) (hr : Reads w B size A m news) (h1 : ∀ u ∈ news, u.oneCell' = true)
    (h63 : n + m ≤ maxLen) (hbytes : (n + m) * bytes ≤ 140737488355328) (hbase : base ≤ w.heap.size)
    (h : ∀ A' c' w', w'.ownsRow base e size (.slice A' (n + m) c') (n + m) (xs ++ news) → w.grownBy w' v.ownBlock → ((Value.slice A' (n + m) c').ownBlock = v.ownBlock ∨ (Value.slice A' (n + m) c').ownBlock = some w.heap.size) → K (a.put o.dst (.slice A' (n + m) c')) w') :
    if Region.wanted o (yielded ops a.tmps) = true then Oper.wp P o a w K Q else E := by
  have hw : Region.wanted o (yielded ops a.tmps) = true := by simp [Region.wanted, hgd]
  rw [if_pos hw]
  obtain ⟨A', c', w', hrun, h2, h3, h4⟩ := run_append_any (P := P) w base t o.type e i z size bytes ht hi hz hsize hby hzs hsz v n xs hown B A m c news hr h1 h63 hbytes hbase
  unfold Oper.wp execOp
  simp only [ho, resolve, invoke, builtin, Sem.run_bind, Sem.run_pure, Result.andThen_ok, List.map_toArray, List.map_cons, List.map_nil, hs, hx, hrun]
  exact h A' c' w' h2 h3 h4

/-- Where the parts of a value that is being built may lie. -/
def VF (B g : Nat) (N P : Value) (w : World) (b : Nat) : Prop := B ≤ b ∧ b < w.heap.size ∧ N.ownBlock ≠ some b ∧ P.ownBlock ≠ some b ∧ b ≠ g

/-- A value that is being built in variable g. -/
structure VB (w : World) (B g : Nat) (kd n : Int) (s : Str) (names : List Str) (parts : List DVal) (An Ap : Option Addr) (cn cp : Nat) : Prop where
  blk : Blk w g 31 #[.int .i64 kd, .int .i64 n, sv s, .slice An names.length cn, .slice none 0 0, .slice Ap parts.length cp]
  nm : w.ownsRow B 9 1 (.slice An names.length cn) names.length (names.map sv)
  ng : (Value.slice An names.length cn).ownBlock ≠ some g
  pg : (Value.slice Ap parts.length cp).ownBlock ≠ some g
  pn : ∀ b, (Value.slice An names.length cn).ownBlock = some b → (Value.slice Ap parts.length cp).ownBlock ≠ some b
  Bg : B ≤ g
  pt : ∃ Cs : List (List Value), Cs.length = parts.length ∧ (∀ C ∈ Cs, C.length = 6) ∧ (∀ C ∈ Cs, ∀ v ∈ C, v.oneCell' = true) ∧ w.ownsRow B 31 6 (.slice Ap parts.length cp) parts.length Cs.flatten ∧
    ∀ (i : Nat) (p : DVal), parts[i]? = some p → ∃ C, Cs[i]? = some C ∧ IsVal w (VF B g (.slice An names.length cn) (.slice Ap parts.length cp) w) p C

section
variable {w w' : World} {B g : Nat} {kd n : Int} {s : Str} {names : List Str} {parts : List DVal} {An Ap : Option Addr} {cn cp : Nat}
/-- What lay there is as it was: so is the value. -/
theorem VB.keep (h : VB w B g kd n s names parts An Ap cn cp) (hf : Below w.heap.size w w') : VB w' B g kd n s names parts An Ap cn cp := by
  obtain ⟨Cs, h1, h2, h3, h4, h5⟩ := h.pt
  refine ⟨h.blk.below hf h.blk.lt, own_below' h.nm hf, h.ng, h.pg, h.pn, h.Bg, Cs, h1, h2, h3, own_below' h4 hf, fun i p hp => ?_⟩
  obtain ⟨C, hC, hv⟩ := h5 i p hp
  exact ⟨C, hC, (hv.keep fun q hq => hf.cell hq.2.1).mono fun b hb => ⟨hb.1, Nat.lt_of_lt_of_le hb.2.1 hf.size, hb.2.2⟩⟩
/-- What changed lies before its memory: so is the value. -/
theorem VB.keepF {F : Nat → Prop} (h : VB w B g kd n s names parts An Ap cn cp) (hf : Fr F w w') (hF : ∀ b, F b → b < B) : VB w' B g kd n s names parts An Ap cn cp := by
  obtain ⟨Cs, h1, h2, h3, h4, h5⟩ := h.pt
  have hBg := h.Bg
  refine ⟨h.blk.fr hf (fun e => by have := hF _ e; omega), own_fr h.nm hf (fun k hk e => by have := (h.nm.lt k hk).1; have := hF k e; omega), h.ng, h.pg, h.pn, h.Bg, Cs, h1, h2, h3, own_fr h4 hf (fun k hk e => by have := (h4.lt k hk).1; have := hF k e; omega), fun i p hp => ?_⟩
  obtain ⟨C, hC, hv⟩ := h5 i p hp
  exact ⟨C, hC, (hv.keep fun q hq => World.cell?_of_block (hf.block q.block hq.2.1 (fun e => by have := hF _ e; have := hq.1; omega))).mono fun b hb => ⟨hb.1, Nat.lt_of_lt_of_le hb.2.1 hf.size, hb.2.2⟩⟩
/-- The new variable, nothing in it yet. -/
theorem VB.start {W : World} (hB : B ≤ W.heap.size) (hb : Blk W g 31 #[.int .i64 kd, .int .i64 n, sv s, .slice none 0 0, .slice none 0 0, .slice none 0 0]) (hg : B ≤ g) : VB W B g kd n s [] [] none none 0 0 :=
  ⟨hb, World.ownsRow_nil _ _ _ _, by simp [Value.ownBlock], by simp [Value.ownBlock], fun b h => by simp [Value.ownBlock] at h, hg, [], rfl, fun _ h => (by cases h), fun _ h => (by cases h), World.ownsRow_nil _ _ _ _, fun i p hp => by simp at hp⟩
/-- A name more: the row has been appended to, and laid back. -/
theorem VB.name {A' : Option Addr} {c' : Nat} {x : Str} (h : VB w B g kd n s names parts An Ap cn cp) (hown : w'.ownsRow B 9 1 (.slice A' (names.length + 1) c') (names.length + 1) ((names ++ [x]).map sv)) (hgr : w.grownBy w' (Value.slice An names.length cn).ownBlock)
    (hlie : (Value.slice A' (names.length + 1) c').ownBlock = (Value.slice An names.length cn).ownBlock ∨ (Value.slice A' (names.length + 1) c').ownBlock = some w.heap.size) :
    VB (w'.setCell ⟨g, 3, none⟩ (.slice A' (names.length + 1) c')) B g kd n s (names ++ [x]) parts A' Ap c' cp := by
  obtain ⟨Cs, h1, h2, h3, h4, h5⟩ := h.pt
  have hgl := h.blk.lt
  have hA'g : (Value.slice A' (names.length + 1) c').ownBlock ≠ some g := by
    rcases hlie with e | e <;> rw [e]
    · exact h.ng
    · intro e; injection e with e; omega
  have hpA' : ∀ b, (Value.slice A' (names.length + 1) c').ownBlock = some b → (Value.slice Ap parts.length cp).ownBlock ≠ some b := by
    intro b hb
    rcases hlie with e | e
    · exact h.pn b (e ▸ hb)
    · intro hp
      have hlt := (h4.lt b hp).2
      rw [e] at hb
      injection hb with hb
      omega
  have hlen : (names ++ [x]).length = names.length + 1 := by simp
  have hblk := (h.blk.grown hgr (fun e => h.ng e.symm)).set_ 3 (.slice A' (names.length + 1) c')
  have hF : Fr (fun k => k = g) w' (w'.setCell ⟨g, 3, none⟩ (.slice A' (names.length + 1) c')) := (Fr.refl (fun k => k = g) w').setCell (p := ⟨g, 3, none⟩) (.inl rfl) _
  refine ⟨by rw [hlen]; simpa using hblk, ?_, by rw [hlen]; exact hA'g, h.pg, by rw [hlen]; exact hpA', h.Bg, Cs, h1, h2, h3, ?_, fun i p hp => ?_⟩
  · rw [hlen]
    exact own_fr hown hF (fun k hk e => hA'g (by rw [← e]; exact hk))
  · have h40 : w'.ownsRow B 31 6 (.slice Ap parts.length cp) parts.length Cs.flatten := h4.kept hgr (by
      rcases hob : (Value.slice Ap parts.length cp).ownBlock with _ | b
      · exact .inl rfl
      · exact .inr fun e => h.pn b e.symm hob)
    exact own_fr h40 hF (fun k hk e => h.pg (by rw [← e]; exact hk))
  · obtain ⟨C, hC, hv⟩ := h5 i p hp
    refine ⟨C, hC, (hv.keep fun q hq => ?_).mono fun b hb => ⟨hb.1, ?_, ?_, hb.2.2.2.1, hb.2.2.2.2⟩⟩
    · have e1 : (w'.setCell ⟨g, 3, none⟩ (.slice A' (names.length + 1) c')).cell? q = w'.cell? q := World.cell?_of_block (hF.block q.block (Nat.lt_of_lt_of_le hq.2.1 hgr.size) (fun e => hq.2.2.2.2 e))
      rw [e1]
      exact World.cell?_of_block (hgr.block q.block hq.2.1 (fun e => hq.2.2.1 e.symm))
    · simp only [World.setCell, Array.size_modify]
      exact Nat.lt_of_lt_of_le hb.2.1 hgr.size
    · rw [hlen]
      rcases hlie with e | e <;> rw [e]
      · exact hb.2.2.1
      · intro e; injection e with e; have := hb.2.1; omega
/-- A part more: the row has been appended to, and laid back. The part's own memory lies in blocks that are neither row. -/
theorem VB.part {A' : Option Addr} {c' : Nat} {x : DVal} {C : List Value} {Cs : List (List Value)} (h : VB w B g kd n s names parts An Ap cn cp) (h1 : Cs.length = parts.length) (h2 : ∀ D ∈ Cs, D.length = 6) (h3 : ∀ D ∈ Cs, ∀ v ∈ D, v.oneCell' = true)
    (h5 : ∀ (i : Nat) (p : DVal), parts[i]? = some p → ∃ D, Cs[i]? = some D ∧ IsVal w (VF B g (.slice An names.length cn) (.slice Ap parts.length cp) w) p D)
    (hx : IsVal w (VF B g (.slice An names.length cn) (.slice Ap parts.length cp) w) x C)
    (hown : w'.ownsRow B 31 6 (.slice A' (parts.length + 1) c') (parts.length + 1) (Cs.flatten ++ C)) (hgr : w.grownBy w' (Value.slice Ap parts.length cp).ownBlock)
    (hlie : (Value.slice A' (parts.length + 1) c').ownBlock = (Value.slice Ap parts.length cp).ownBlock ∨ (Value.slice A' (parts.length + 1) c').ownBlock = some w.heap.size) :
    VB (w'.setCell ⟨g, 5, none⟩ (.slice A' (parts.length + 1) c')) B g kd n s names (parts ++ [x]) An A' cn c' := by
  have hgl := h.blk.lt
  have hA'g : (Value.slice A' (parts.length + 1) c').ownBlock ≠ some g := by
    rcases hlie with e | e <;> rw [e]
    · exact h.pg
    · intro e; injection e with e; omega
  have hnA' : ∀ b, (Value.slice An names.length cn).ownBlock = some b → (Value.slice A' (parts.length + 1) c').ownBlock ≠ some b := by
    intro b hb
    rcases hlie with e | e <;> rw [e]
    · exact h.pn b hb
    · intro hp
      have hlt := (h.nm.lt b hb).2
      injection hp with hp
      omega
  have hlen : (parts ++ [x]).length = parts.length + 1 := by simp
  have hblk := (h.blk.grown hgr (fun e => h.pg e.symm)).set_ 5 (.slice A' (parts.length + 1) c')
  have hF : Fr (fun k => k = g) w' (w'.setCell ⟨g, 5, none⟩ (.slice A' (parts.length + 1) c')) := (Fr.refl (fun k => k = g) w').setCell (p := ⟨g, 5, none⟩) (.inl rfl) _
  have keepV : ∀ (p : DVal) (D : List Value), IsVal w (VF B g (.slice An names.length cn) (.slice Ap parts.length cp) w) p D → IsVal (w'.setCell ⟨g, 5, none⟩ (.slice A' (parts.length + 1) c')) (VF B g (.slice An names.length cn) (.slice A' (parts.length + 1) c') (w'.setCell ⟨g, 5, none⟩ (.slice A' (parts.length + 1) c'))) p D := by
    intro p D hv
    refine (hv.keep fun q hq => ?_).mono fun b hb => ⟨hb.1, ?_, hb.2.2.1, ?_, hb.2.2.2.2⟩
    · have e1 : (w'.setCell ⟨g, 5, none⟩ (.slice A' (parts.length + 1) c')).cell? q = w'.cell? q := World.cell?_of_block (hF.block q.block (Nat.lt_of_lt_of_le hq.2.1 hgr.size) (fun e => hq.2.2.2.2 e))
      rw [e1]
      exact World.cell?_of_block (hgr.block q.block hq.2.1 (fun e => hq.2.2.2.1 e.symm))
    · simp only [World.setCell, Array.size_modify]
      exact Nat.lt_of_lt_of_le hb.2.1 hgr.size
    · rcases hlie with e | e <;> rw [e]
      · exact hb.2.2.2.1
      · intro e; injection e with e; have := hb.2.1; omega
  refine ⟨by rw [hlen]; simpa using hblk, ?_, h.ng, by rw [hlen]; exact hA'g, by rw [hlen]; exact hnA', h.Bg, Cs ++ [C], by simp [h1], ?_, ?_, ?_, fun i p hp => ?_⟩
  · have h40 := h.nm.kept hgr (by
      rcases hob : (Value.slice An names.length cn).ownBlock with _ | b
      · exact .inl rfl
      · exact .inr fun e => h.pn b hob e.symm)
    exact own_fr h40 hF (fun k hk e => h.ng (by rw [← e]; exact hk))
  · intro D hD
    rcases List.mem_append.1 hD with hD | hD
    · exact h2 D hD
    · rw [List.mem_singleton.1 hD]; exact hx.length
  · intro D hD
    rcases List.mem_append.1 hD with hD | hD
    · exact h3 D hD
    · rw [List.mem_singleton.1 hD]; exact hx.one
  · rw [hlen, List.flatten_append]
    simp only [List.flatten_cons, List.flatten_nil, List.append_nil]
    exact own_fr hown hF (fun k hk e => hA'g (by rw [← e]; exact hk))
  · rw [hlen]
    by_cases hi : i < parts.length
    · rw [List.getElem?_append_left hi] at hp
      obtain ⟨D, hD, hv⟩ := h5 i p hp
      exact ⟨D, by rw [List.getElem?_append_left (by omega)]; exact hD, keepV p D hv⟩
    · have hil : i = parts.length := by
        have := (List.getElem?_eq_some_iff.1 hp).1
        simp at this; omega
      subst hil
      rw [List.getElem?_append_right (Nat.le_refl _)] at hp
      simp at hp
      subst hp
      exact ⟨C, by rw [← h1, List.getElem?_append_right (Nat.le_refl _)]; simp, keepV _ _ hx⟩
/-- What has been built is a value, in memory of the call's own. -/
theorem VB.done (h : VB w B g kd n s names parts An Ap cn cp) (hk : I64 kd) (hn : I64 n) (hs : s.length ≤ maxLen) (hns : ∀ x ∈ names, x.length ≤ maxLen) (hcn : names.length ≤ 140737488351232) (hcp : parts.length ≤ 140737488351232) :
    IsVal w (fun b => B ≤ b ∧ b < w.heap.size) (.mk kd n s names [] parts) [.int .i64 kd, .int .i64 n, sv s, .slice An names.length cn, .slice none 0 0, .slice Ap parts.length cp] := by
  obtain ⟨Cs, h1, h2, h3, h4, h5⟩ := h.pt
  have hrn := own_cells h.nm
  have hrp := own_cells h4
  rcases Nat.eq_zero_or_pos parts.length with h0 | h0
  · have hp0 : parts = [] := List.eq_nil_of_length_eq_zero h0
    subst hp0
    exact .mk (b := 0) (o := 0) (C := fun _ => []) hk hn hs (hrn.mono fun b hb => (h.nm.lt b hb)) hns (own_cap h.nm) hcn RF.nil (fun _ h => by cases h) (Nat.le_refl _) (Nat.zero_le _) (fun h => absurd h (by simp)) (fun i p hp => by simp at hp) (fun i p hp => by simp at hp) (own_cap h4) hcp
  · obtain ⟨b, o, hA, hFb, hc⟩ := hrp.2 h0
    have hFb' := h4.lt b hFb
    refine .mk (b := b) (o := o) (C := fun i => Cs.getD i []) hk hn hs (hrn.mono fun b hb => (h.nm.lt b hb)) hns (own_cap h.nm) hcn RF.nil (fun _ h => by cases h) (Nat.le_refl _) (Nat.zero_le _) (fun _ => ⟨hA, hFb'⟩) (fun i p hp => ?_) (fun i p hp => ?_) (own_cap h4) hcp
    · obtain ⟨C, hC, hv⟩ := h5 i p hp
      rw [show Cs.getD i [] = C by simp [List.getD, hC]]
      refine ⟨hv.length, fun j v hj => ?_⟩
      have hj6 : j < 6 := by rw [← hv.length]; exact (List.getElem?_eq_some_iff.1 hj).1
      have := flat_get h2 hC hj6
      rw [Nat.add_assoc]
      exact hc (i * 6 + j) v (this.trans hj)
    · obtain ⟨C, hC, hv⟩ := h5 i p hp
      rw [show Cs.getD i [] = C by simp [List.getD, hC]]
      exact hv.mono fun b hb => ⟨hb.1, hb.2.1⟩
theorem VB.name' {m : Nat} {A' : Option Addr} {c' : Nat} {x : Str} (h : VB w B g kd n s names parts An Ap cn cp) (hm : names.length = m) (hown : w'.ownsRow B 9 1 (.slice A' (m + 1) c') (m + 1) (names.map sv ++ [sv x])) (hgr : w.grownBy w' (Value.slice An m cn).ownBlock)
    (hlie : (Value.slice A' (m + 1) c').ownBlock = (Value.slice An m cn).ownBlock ∨ (Value.slice A' (m + 1) c').ownBlock = some w.heap.size) :
    VB (w'.setCell ⟨g, 3, none⟩ (.slice A' (m + 1) c')) B g kd n s (names ++ [x]) parts A' Ap c' cp := by
  subst hm
  exact h.name (by rw [List.map_append]; exact hown) hgr hlie
theorem VB.part' {m : Nat} {A' : Option Addr} {c' : Nat} {x : DVal} {C : List Value} {Cs : List (List Value)} (h : VB w B g kd n s names parts An Ap cn cp) (hm : parts.length = m) (h1 : Cs.length = parts.length) (h2 : ∀ D ∈ Cs, D.length = 6) (h3 : ∀ D ∈ Cs, ∀ v ∈ D, v.oneCell' = true)
    (h5 : ∀ (i : Nat) (p : DVal), parts[i]? = some p → ∃ D, Cs[i]? = some D ∧ IsVal w (VF B g (.slice An names.length cn) (.slice Ap parts.length cp) w) p D)
    (hx : IsVal w (VF B g (.slice An names.length cn) (.slice Ap parts.length cp) w) x C)
    (hown : w'.ownsRow B 31 6 (.slice A' (m + 1) c') (m + 1) (Cs.flatten ++ C)) (hgr : w.grownBy w' (Value.slice Ap m cp).ownBlock)
    (hlie : (Value.slice A' (m + 1) c').ownBlock = (Value.slice Ap m cp).ownBlock ∨ (Value.slice A' (m + 1) c').ownBlock = some w.heap.size) :
    VB (w'.setCell ⟨g, 5, none⟩ (.slice A' (m + 1) c')) B g kd n s names (parts ++ [x]) An A' cn c' := by
  subst hm
  exact h.part h1 h2 h3 h5 hx hown hgr hlie
end
end Go.Proofs.Ytpnjkebjdclkfaa

/- Schemas, walked: the default. Conditions: none. -/
namespace Go.Proofs.Ytpnjkebjdclkfaa
open Go.RowKit

/-- A schema whose default there is. -/
def DefOk : Nat → DSch → Prop
  | 0, _ => True
  | k + 1, s => (s.kind = 4 → 0 < s.words.length) ∧ (s.kind = 5 → s.parts.length = s.words.length ∧ ∀ p ∈ s.parts, DefOk k p)
def defV : Nat → DSch → DVal
  | 0, s => .mk s.kind 0 [] [] [] []
  | k + 1, s => .mk s.kind 0 (if s.kind = 4 then s.words.getD 0 [] else []) (if s.kind = 5 then s.words else []) [] (if s.kind = 5 then s.parts.map (defV k) else [])
/-- The call answers value d, made of new memory. -/
def NewVal (d : DVal) (w : World) (e : Ending) (w' : World) : Prop := ∃ cs : List Value, e = .returned (.agg cs.toArray) ∧ IsVal w' (fun b => w.heap.size ≤ b ∧ b < w'.heap.size) d cs ∧ Below w.heap.size w w'
theorem info_str : (Try.prog.info? 9).map (fun i => (i.zero, i.size, i.bytes)) = some (some (sv []), 1, 16) := by kernel_rfl
theorem info_value : (Try.prog.info? 31).map (fun i => (i.zero, i.size, i.bytes)) = some (some (.agg #[.int .i64 0, .int .i64 0, sv [], .slice none 0 0, .slice none 0 0, .slice none 0 0]), 6, 104) := by kernel_rfl
theorem info_val : (Try.prog.info? 31).map (·.size) = some 6 := by kernel_rfl

set_option maxHeartbeats 2000000 in
set_option maxRecDepth 20000 in
theorem schFirst_calls (k : Nat) : ∀ (s : DSch) (cs : List Value) (w : World), s.depth ≤ k → s.weight ≤ 1000000 → DefOk k s → IsSch w (· < w.heap.size) s cs →
    Calls Try.prog 63 #[.agg cs.toArray] w (NewVal (defV k s) w) := by
  induction k with
  | zero => intro s cs w h; have := s.depth_pos; omega
  | succ k ih =>
    intro s cs w hk hwt hok hs
    obtain ⟨hk1, hki⟩ := hs.kind_
    obtain ⟨Aw, cw, hw1, hwr, hwz, hwc, hwm⟩ := hs.words_
    obtain ⟨Ap, cp, C, hp1, hpc, hpm, hP, hA⟩ := hs.partsF
    have HWR := hide hwr
    have HWZ := hide hwz
    have HPA := hide hA
    have HPP := hide hP
    have HI := hide ih
    have HKI := hide hki
    have HDP := hide (fun p (h : p ∈ s.parts) => DSch.depth_part h)
    have HWP := hide (fun p (h : p ∈ s.parts) => DSch.weight_part h)
    have HSP : Hid (defV (k + 1) s = .mk s.kind 0 (if s.kind = 4 then s.words.getD 0 [] else []) (if s.kind = 5 then s.words else []) [] (if s.kind = 5 then s.parts.map (defV k) else [])) := hide rfl
    have hww := s.words_weight
    have hpw := s.parts_weight
    obtain ⟨hok4, hok5⟩ := hok
    generalize hres : defV (k + 1) s = res at *
    clear ih hs hwr hwz hP hA hres
    have HW0 := hide (((Below.refl w.heap.size w).alloc (Nat.le_refl _) (.cells cs.toArray 25)))
    have HX := hide (Blk.new w 25 cs.toArray)
    go_enter Try.func63, Try.ntmps63
    go_upto_region 1 with fail
    go_cut [3] (fun p wx => p = .pointer (some ⟨w.heap.size + 1 + 1, 0, none⟩) ∧ Blk wx w.heap.size 25 cs.toArray ∧ (∃ Z : Array Value, Z.size = 6 ∧ Blk wx (w.heap.size + 1) 31 Z) ∧ Blk wx (w.heap.size + 1 + 1) 31 #[.int .i64 s.kind, .int .i64 0, sv [], .slice none 0 0, .slice none 0 0, .slice none 0 0] ∧ Below w.heap.size w wx)
    case first =>
      go_wp2_with fail
      go_meet
      refine ⟨rfl, (HX.out.alloc _).alloc _, ⟨_, rfl, (Blk.new2 _ _ _ _).alloc _⟩, ?_, (HW0.out.alloc (by simp) _).alloc (by simp; omega) _⟩
      exact Blk.new3 _ _ _ _ _
    case rest =>
      obtain ⟨rfl, h1, ⟨Z, hZ, h2⟩, h3, hw⟩ := hcut
      have G1 := hide h1
      have G2 := hide h2
      have GZ := hide hZ
      have G3 := hide h3
      have GW := hide hw
      clear h1 h2 h3 hw hZ HX HW0
      have c0 : wc.cell? ⟨w.heap.size, 0, none⟩ = some (.int .i64 s.kind) := by rw [G1.out.cell]; simpa using hk1
      have c1 : wc.cell? ⟨w.heap.size, 1, none⟩ = some (.slice Aw s.words.length cw) := by rw [G1.out.cell]; simpa using hw1
      have key : s.kind = 4 ∨ s.kind = 5 ∨ (s.kind ≠ 4 ∧ s.kind ≠ 5) := by omega
      have GV : Hid (VB wc (w.heap.size + 1 + 1) (w.heap.size + 1 + 1) s.kind 0 [] [] [] none none 0 0) := hide (VB.start (by have := G3.out.lt; omega) G3.out (Nat.le_refl _))
      rcases key with h4 | h5 | ⟨n4, n5⟩
      · have hl0 := hok4 h4
        obtain ⟨x, o, rfl, hx, hcw⟩ := HWR.out.at_ hl0
        have e4 : (s.kind == 4) = true := by simp [h4]
        have d1 : wc.cell? ⟨x, o, none⟩ = some (sv s.words[0]) := (GW.out.cell (p := ⟨x, o, none⟩) hx).trans hcw
        have d2 : wc.cell? ⟨w.heap.size + 1 + 1, 2, none⟩ = some (sv []) := G3.out.cell 2
        have d3 := G3.out.frozen 2
        have hz := HWZ.out _ (List.getElem_mem hl0)
        have HZ := hide hz
        have HRS : Hid (res = .mk s.kind 0 s.words[0] [] [] []) := hide (by rw [HSP.out, if_pos h4, if_neg (by omega), if_neg (by omega)]; simp [List.getD, hl0])
        have G3S := hide (G3.out.set_ 2 (sv s.words[0]))
        have G2F := hide (G2.out.far (p := ⟨w.heap.size + 1 + 1, 2, none⟩) (by simp) (sv s.words[0]))
        have GWS := hide (GW.out.setCell (p := ⟨w.heap.size + 1 + 1, 2, none⟩) (by simp; omega) (sv s.words[0]))
        clear hcw hz h4
        generalize s.words[0] = x0 at *
        go_wp2_with (first
          | (refine wpList_load_blk rfl 31 _ rfl _ rfl _ _ (G3S.out) _ rfl rfl info_val ?_)
          | (refine wpList_store_blk rfl 31 _ _ rfl _ rfl #[.int .i64 s.kind, .int .i64 0, sv x0, .slice none 0 0, .slice none 0 0, .slice none 0 0] rfl _ _ (G2F.out) (by rw [GZ.out] <;> rfl) info_val (by simp [Value.oneCell']) ?_; intro wf hbf hff; have HBF := hide hbf; have HFF := hide hff; clear hbf hff)
          | fail)
        refine bodyPost_ret (results_cell_row rfl _ _ (w.heap.size + 1) 31 #[.int .i64 s.kind, .int .i64 0, sv x0, .slice none 0 0, .slice none 0 0, .slice none 0 0] (0, 0) _ rfl HBF.out rfl rfl info_val) rfl ?_
        rw [HRS.out]
        have hv := (VB.start (W := wf) (B := w.heap.size + 1 + 1) (g := w.heap.size + 1 + 1) (kd := s.kind) (n := 0) (s := x0) (by have := HBF.out.lt; omega) (G3S.out.fr HFF.out (by omega)) (Nat.le_refl _)).done HKI.out (WalkArith.wf_i64 (by omega)) HZ.out (fun _ h => by cases h) (by simp) (by simp)
        exact ⟨_, rfl, hv.mono fun b hb => ⟨by omega, hb.2⟩, GWS.out.trans (HFF.out.below GWS.out.size fun x hx h => by omega)⟩
      · obtain ⟨hpl, hdk⟩ := hok5 h5
        have e4 : (s.kind == 4) = false := by simp [h5]
        have e5 : (s.kind == 5) = true := by simp [h5]
        have HRS : Hid (res = .mk s.kind 0 [] s.words [] (s.parts.map (defV k))) := hide (by rw [HSP.out, if_neg (by omega), if_pos h5, if_pos h5])
        have HDK := hide hdk
        have H5 := hide h5
        clear h5 hok4 hok5 hdk HSP
        obtain ⟨i9, hi9, hz9, hs9, hb9⟩ := info_parts info_str
        obtain ⟨i31, hi31, hz31, hs31, hb31⟩ := info_parts info_value
        go_wp2_with fail
        go_loopw [23] (fun i wr => ∃ (j : Nat) (An Av : Option Addr) (cn cv : Nat), i = .int .i64 j ∧ j ≤ s.words.length ∧ VB wr (w.heap.size + 1 + 1) (w.heap.size + 1 + 1) s.kind 0 [] (s.words.take j) ((s.parts.take j).map (defV k)) An Av cn cv ∧ Blk wr w.heap.size 25 cs.toArray ∧ Blk wr (w.heap.size + 1) 31 Z ∧ Below w.heap.size w wr) (fun i _ => s.words.length - (intOf i).toNat)
        case atStart => exact ⟨0, none, none, 0, 0, rfl, Nat.zero_le _, GV.out, G1.out, G2.out, GW.out⟩
        case round =>
          clear c0 c1 G1 G2 G3 GW GV
          obtain ⟨j, An, Av, cn, cv, rfl, hj, hv, h1, h2, hw⟩ := hrel
          have GV := hide hv
          have G1 := hide h1
          have G2 := hide h2
          have GW := hide hw
          clear hv h1 h2 hw
          obtain ⟨wo, rfl⟩ : ∃ wo : World, wo = wr := ⟨_, rfl⟩
          have hlw : (s.words.take j).length = j := by simp; omega
          have hlp : ((s.parts.take j).map (defV k)).length = j := by simp; omega
          by_cases hlt : j < s.words.length
          · have hlt2 : j < s.parts.length := by omega
            obtain ⟨x, o, rfl, hx, hcw⟩ := HWR.out.at_ hlt
            have d1 : wo.cell? ⟨x, o + j, none⟩ = some (sv s.words[j]) := (GW.out.cell (p := ⟨x, o + j, none⟩) hx).trans hcw
            have HT : Hid (s.words.take (j + 1) = s.words.take j ++ [s.words[j]] ∧ (s.parts.take (j + 1)).map (defV k) = (s.parts.take j).map (defV k) ++ [defV k s.parts[j]]) := hide ⟨List.take_succ_eq_append_getElem hlt, by rw [List.take_succ_eq_append_getElem hlt2, List.map_append]; rfl⟩
            have e3 : wo.cell? ⟨w.heap.size + 1 + 1, 3, none⟩ = some (.slice An j cn) := by rw [GV.out.blk.cell]; simp [hlw]
            have HL := hide (And.intro hlw hlp)
            have HVA := hide (GV.out.keep (w' := wo.alloc (.cells #[sv s.words[j]] 9)) ((Below.refl _ _).alloc (Nat.le_refl _) _))
            have HOWN : Hid ((wo.alloc (.cells #[sv s.words[j]] 9)).ownsRow (w.heap.size + 1 + 1) 9 1 (.slice An j cn) j ((s.words.take j).map sv)) := hide (by have := HVA.out.nm; rwa [hlw] at this)
            have hRD := reads_blk (n := 1) (size := 1) (Blk.new wo 9 #[sv s.words[j]]) rfl
            have HRD := hide hRD
            have hg3 := GV.out.blk.lt
            have HXX := hide (And.intro hx hcw)
            clear hcw hlw hlp hRD hx
            generalize hwj : s.words[j] = xj at *
            clear hwj
            go_wp2_with (first
              | (at_builtin; refine wpList_append_any _ rfl _ _ 22 rfl _ 9 i9 (sv []) 1 16 Try.underlying22 hi9 hz9 hs9 hb9 rfl (by decide) _ _ _ (by rfl) HOWN.out _ _ 1 _ _ (by rfl) HRD.out (by simp [Value.oneCell']) (by unfold maxLen; omega) (by omega) (by simp only [World.size_alloc]; omega) ?_; intro Aq cq wq ownq growq lieq; have f3 : wq.frozen? ⟨w.heap.size + 1 + 1, 3, none⟩ = false := (HVA.out.blk.grown growq (fun e => (by have := HVA.out.ng; rw [HL.out.1] at this; exact this e.symm))).frozen 3; have e3' : wq.cell? ⟨w.heap.size + 1 + 1, 3, none⟩ = some (.slice An j cn) := (by rw [(HVA.out.blk.grown growq (fun e => (by have := HVA.out.ng; rw [HL.out.1] at this; exact this e.symm))).cell]; simp [HL.out.1]); have HVN := hide (HVA.out.name' HL.out.1 ownq growq lieq); have HGQ := hide growq; clear ownq growq lieq)
              | fail)
            have HN := hide (HVN.out)
            have FN : Hid (Fr (fun b => w.heap.size + 1 + 1 ≤ b) wo (wq.setCell ⟨w.heap.size + 1 + 1, 3, none⟩ (.slice Aq (j + 1) cq))) := hide ((((Fr.refl _ wo).alloc _).trans ((Fr.of_grown HGQ.out (fun b hb => (by have := (HOWN.out.lt b hb).1; exact .inl this))))).setCell (p := ⟨w.heap.size + 1 + 1, 3, none⟩) (.inl (Nat.le_refl _)) _)
            generalize hwN : wq.setCell ⟨w.heap.size + 1 + 1, 3, none⟩ (.slice Aq (j + 1) cq) = wn at *
            clear hwN f3 e3' HGQ HRD HOWN HVA e3 d1 HXX HVN
            obtain ⟨b, o5, rfl, hb, hC⟩ := HPA.out (by omega)
            obtain ⟨hl3, hr⟩ := hC j hlt2
            have hgn := HN.out.blk.lt
            have HPI := hide (HPP.out j _ (List.getElem?_eq_getElem hlt2))
            have hle7 := HL.out.1
            have hle8 := HL.out.2
            have c0 : wn.cell? ⟨w.heap.size + 1 + 1, 5, none⟩ = some (.slice Av j cv) := by rw [HN.out.blk.cell, hle8]; rfl
            have HFC : Hid (∀ q : Addr, q.block < w.heap.size + 1 + 1 → ∀ W, Fr (fun b => (Value.slice Av j cv).ownBlock = some b) wn W → W.cell? q = wo.cell? q) := hide fun q hq W hW =>
              (hW.cell (p := q) (by omega) (fun e => by have h1 := (HN.out.pt); rw [hle8] at h1; obtain ⟨Cs, _, _, _, p4, _⟩ := h1; have := (p4.lt _ e).1; omega)).trans (FN.out.cell (by have := G2.out.lt; omega) (by omega))
            have HC5 : Hid (∀ W, Fr (fun b => (Value.slice Av j cv).ownBlock = some b) wn W → W.cell? ⟨w.heap.size + 1 + 1, 5, none⟩ = some (.slice Av j cv)) := hide fun W hW =>
              (hW.cell (p := ⟨w.heap.size + 1 + 1, 5, none⟩) hgn (fun e => by have h1 := HN.out.pg; rw [hle8] at h1; exact h1 e)).trans c0
            have HC2 : Hid (∀ W, Fr (fun b => (Value.slice Av j cv).ownBlock = some b) wn W → W.cell? ⟨w.heap.size, 2, none⟩ = some (.slice (some ⟨b, o5, none⟩) s.parts.length cp)) := hide fun W hW =>
              (HFC.out ⟨w.heap.size, 2, none⟩ (by show w.heap.size < _; omega) W hW).trans (by rw [G1.out.cell]; simpa using hp1)
            have HRW : Hid (∀ W, Fr (fun b => (Value.slice Av j cv).ownBlock = some b) wn W → W.rangeAt b (o5 + j * 3) (C j)) := hide fun W hW q v hv =>
              (HFC.out ⟨b, o5 + j * 3 + q, none⟩ (by show b < _; omega) W hW).trans ((GW.out.cell (p := ⟨b, o5 + j * 3 + q, none⟩) hb).trans (hr q v hv))
            have HL3 := hide hl3
            have hdp := HDP.out _ (List.getElem_mem hlt2)
            have hwp := HWP.out _ (List.getElem_mem hlt2)
            have hdf := HDK.out _ (List.getElem_mem hlt2)
            have HDF := hide hdf
            have HWN : Hid (Below w.heap.size w wn) := hide (GW.out.trans (FN.out.below (by have := G2.out.lt; omega) fun x hx h => by omega))
            clear hC hl3 hr c0 hdf
            generalize s.parts[j] = pj at *
            generalize C j = Cj at *
            refine wp_region_held_tail 11 (S := Fr (fun b => (Value.slice Av j cv).ownBlock = some b) wn) (by kernel_rfl) (by kernel_rfl) ((Fr.refl _ _).drew) (fun hHeld => ?_); simp only [List.take_succ_cons, List.take_zero, List.drop_succ_cons, List.drop_zero]
            (refine takeH (i := 0) (v := .pointer (some ⟨w.heap.size + 1 + 1, 5, none⟩)) rfl rfl (by kernel_rfl) (by kernel_rfl) (by kernel_rfl) (fun _ _ _ h => h) (by rfl) (fun wz hSw => by go_simp) hHeld ?_; simp only [Act.put, List.setIfInBounds_toArray, List.set_cons_zero, List.set_cons_succ])
            (refine takeH (i := 1) (v := .slice Av j cv) rfl rfl (by kernel_rfl) (by kernel_rfl) (by kernel_rfl) (fun _ _ _ h => h) (by rfl) (fun wz hSw => by (have hc5 := HC5.out _ hSw; go_simp)) hHeld ?_; simp only [Act.put, List.setIfInBounds_toArray, List.set_cons_zero, List.set_cons_succ])
            (refine takeH (i := 2) (v := .pointer (some ⟨w.heap.size, 2, none⟩)) rfl rfl (by kernel_rfl) (by kernel_rfl) (by kernel_rfl) (fun _ _ _ h => h) (by rfl) (fun wz hSw => by go_simp) hHeld ?_; simp only [Act.put, List.setIfInBounds_toArray, List.set_cons_zero, List.set_cons_succ])
            (refine takeH (i := 3) (v := .slice (some ⟨b, o5, none⟩) s.parts.length cp) rfl rfl (by kernel_rfl) (by kernel_rfl) (by kernel_rfl) (fun _ _ _ h => h) (by rfl) (fun wz hSw => by (have hc5 := HC2.out _ hSw; go_simp)) hHeld ?_; simp only [Act.put, List.setIfInBounds_toArray, List.set_cons_zero, List.set_cons_succ])
            (refine takeH (i := 4) (v := .int .i64 j) rfl rfl (by kernel_rfl) (by kernel_rfl) (by kernel_rfl) (fun _ _ _ h => h) (by rfl) (fun wz hSw => by go_simp) hHeld ?_; simp only [Act.put, List.setIfInBounds_toArray, List.set_cons_zero, List.set_cons_succ])
            (refine takeH (i := 5) (v := .pointer (some ⟨b, o5 + j * 3, none⟩)) rfl rfl (by kernel_rfl) (by kernel_rfl) (by kernel_rfl) (fun _ _ _ h => h) (by rfl) (fun wz hSw => by go_simp) hHeld ?_; simp only [Act.put, List.setIfInBounds_toArray, List.set_cons_zero, List.set_cons_succ])
            (refine takeH (i := 6) (v := .agg (Cj).toArray) rfl rfl (by kernel_rfl) (by kernel_rfl) (by kernel_rfl) (fun _ _ _ h => h) (by rfl) (fun wz hw => load_exec 25 (.tmp 39) rfl (b) (o5 + j * 3) rfl (Cj) _ (HRW.out _ hw) rfl rfl (by rw [HL3.out]; kernel_rfl)) hHeld ?_; simp only [Act.put, List.setIfInBounds_toArray, List.set_cons_zero, List.set_cons_succ])
            refine oneH (i := 7) rfl (by kernel_rfl) (fun K hK => ?_)
            go_simp
            refine (HI.out pj Cj _ (by omega) (by omega) HDF.out (HPI.out.more (HWN.out.trans ((Below.refl wn.heap.size wn).drew.mono HWN.out.size)))).mono ?_
            rintro e w1 ⟨cs1, rfl, hv1, hb1⟩
            have hB1 : Below wn.heap.size wn w1 := (Below.refl wn.heap.size wn).drew.trans hb1
            refine hK.out _ _ (Fr.of_below' hB1 _) (fun hHeld => ?_)
            clear hK K
            have hv1' := hv1.mono (G := fun b => wn.heap.size ≤ b ∧ b < w1.heap.size) fun b hb => hb
            have HV1 := hide hv1'
            have HB1 := hide hB1
            have H1L := hide hv1.length
            have H1O := hide hv1.one
            clear hv1 hv1' hB1 hb1
            refine oneH (i := 8) rfl (by kernel_rfl) (fun K hK => ?_)
            go_simp
            rw [foldl_zip_all _ _ (by rw [H1L.out]; rfl), if_neg (by rw [H1L.out]; decide)]
            go_simp
            have HB2 := hide (HB1.out.alloc HB1.out.size (.cells cs1.toArray 31))
            refine hK.out _ _ (Fr.of_below' HB2.out _) (fun hHeld => ?_)
            clear hK K
            refine oneH (i := 9) rfl (by kernel_rfl) (fun K hK => ?_)
            have V2 := hide (HN.out.keep HB2.out)
            obtain ⟨Cs, p1, p2, p3, p4, p5⟩ := V2.out.pt
            rw [hle8] at p4
            have hRD := reads_blk (n := 1) (size := 6) (Blk.new w1 31 cs1.toArray) (by rw [H1L.out])
            have hs2 := HB2.out.size
            refine step_append_any rfl (.tmp 35) (.tmp 42) 29 rfl (w.heap.size + 1 + 1) 31 i31 (.agg #[.int .i64 0, .int .i64 0, sv [], .slice none 0 0, .slice none 0 0, .slice none 0 0]) 6 104 Try.underlying29 hi31 hz31 hs31 hb31 rfl (by decide) _ j Cs.flatten (by rfl) p4 _ _ 1 1 cs1 (by rfl) hRD H1O.out (by unfold maxLen; omega) (by omega) (by omega) ?_
            intro Aq2 cq2 wq2 ownq growq lieq
            have hx : IsVal (w1.alloc (.cells cs1.toArray 31)) (VF (w.heap.size + 1 + 1) (w.heap.size + 1 + 1) (.slice Aq (List.take j s.words ++ [xj]).length cq) (.slice Av (List.map (defV k) (List.take j s.parts)).length cv) (w1.alloc (.cells cs1.toArray 31))) (defV k pj) cs1 := by
              have q1 := HN.out.nm
              obtain ⟨Ds, _, _, _, q2, _⟩ := HN.out.pt
              refine (HV1.out.keep fun q hq => ((Below.refl w1.heap.size w1).alloc (Nat.le_refl _) (.cells cs1.toArray 31)).cell hq.2).mono fun b hb => ⟨by omega, by simp only [World.size_alloc]; omega, fun e => ?_, fun e => ?_, by omega⟩
              · have := (q1.lt _ e).2; omega
              · have := (q2.lt _ e).2; omega
            have HVN := hide (V2.out.part' hle8 p1 p2 p3 p5 hx ownq growq lieq)
            have hblk := V2.out.blk.grown growq (fun e => by have h1 := V2.out.pg; rw [hle8] at h1; exact h1 e.symm)
            have f5 := hblk.frozen 5
            have e5' : wq2.cell? ⟨w.heap.size + 1 + 1, 5, none⟩ = some (.slice Av j cv) := by rw [hblk.cell, hle8]; rfl
            have HS3 := hide (((Fr.of_below' HB2.out (fun b => (Value.slice Av j cv).ownBlock = some b)).trans (Fr.of_grown growq (fun b hb => .inl hb))))
            have FN2 : Hid (Fr (fun b => w.heap.size + 1 + 1 ≤ b) wo (wq2.setCell ⟨w.heap.size + 1 + 1, 5, none⟩ (.slice Aq2 (j + 1) cq2))) := hide (((FN.out.trans ((Fr.of_below' HB2.out _).trans (Fr.of_grown growq fun b hb => .inl (.inl (p4.lt b hb).1))))).setCell (p := ⟨w.heap.size + 1 + 1, 5, none⟩) (.inl (Nat.le_refl _)) _)
            clear p1 p2 p3 p4 p5 hx ownq growq lieq hblk hRD V2 HB2 HB1 HV1
            refine hK.out _ _ HS3.out (fun hHeld => ?_)
            clear hK K
            simp only [Act.put, List.setIfInBounds_toArray, List.set_cons_zero, List.set_cons_succ]
            (refine takeH (i := 10) (v := .pointer (some ⟨w.heap.size + 1 + 1, 5, none⟩)) rfl rfl (by kernel_rfl) (by kernel_rfl) (by kernel_rfl) (fun _ _ _ h => h) (by rfl) (fun wz hSw => by go_simp) hHeld ?_; simp only [Act.put, List.setIfInBounds_toArray, List.set_cons_zero, List.set_cons_succ])
            refine wpAnyH_done (by kernel_rfl) ?_ _; simp only [Exit.then]
            go_wp2
            exact ⟨⟨j + 1, Aq, Aq2, cq, cq2, by go_num, by omega, by rw [HT.out.1, HT.out.2]; exact HVN.out, G1.out.fr FN2.out (by omega), G2.out.fr FN2.out (by omega), GW.out.trans (FN2.out.below (by have := G2.out.lt; omega) fun x hx h => by omega)⟩, by simp [intOf]; omega⟩
          · obtain rfl : j = s.words.length := by omega
            have HRS2 : Hid (res = .mk s.kind 0 [] (s.words.take s.words.length) [] ((s.parts.take s.words.length).map (defV k))) := hide (by rw [HRS.out, List.take_length, List.take_of_length_le (by omega)])
            have G2F := G2
            have HNS : Hid (∀ x ∈ s.words.take s.words.length, x.length ≤ maxLen) := hide fun x hx => HWZ.out x (List.mem_of_mem_take hx)
            have hsz := GV.out.blk
            generalize s.words.take s.words.length = W at *
            generalize (s.parts.take s.words.length).map (defV k) = PV at *
            have GB := hide hsz
            clear hsz
            go_wp2_with (first
              | (refine wpList_load_blk rfl 31 _ rfl _ rfl _ _ (GB.out) _ rfl rfl info_val ?_)
              | (refine wpList_store_blk rfl 31 _ _ rfl _ rfl #[.int .i64 s.kind, .int .i64 0, sv [], .slice An W.length cn, .slice none 0 0, .slice Av PV.length cv] rfl _ _ (G2F.out) (by rw [GZ.out] <;> rfl) info_val (by simp [Value.oneCell']) ?_; intro wf hbf hff; have HBF := hide hbf; have HFF := hide hff; clear hbf hff)
              | fail)
            refine bodyPost_ret (results_cell_row rfl _ _ (w.heap.size + 1) 31 #[.int .i64 s.kind, .int .i64 0, sv [], .slice An W.length cn, .slice none 0 0, .slice Av PV.length cv] (0, 0) _ rfl HBF.out rfl rfl info_val) rfl ?_
            rw [HRS2.out]
            have hv := (GV.out.keepF (w' := wf) HFF.out (fun b hb => by omega)).done HKI.out (WalkArith.wf_i64 (by omega)) (by simp) HNS.out (by omega) (by omega)
            exact ⟨_, rfl, hv.mono fun b hb => ⟨by omega, hb.2⟩, GW.out.trans (HFF.out.below GW.out.size fun x hx h => by omega)⟩
      · have e4 : (s.kind == 4) = false := by simpa using n4
        have e5 : (s.kind == 5) = false := by simpa using n5
        have HRS : Hid (res = .mk s.kind 0 [] [] [] []) := hide (by rw [HSP.out, if_neg n4, if_neg n5, if_neg n5])
        have G2F := G2
        clear n4 n5
        go_wp2_with (first
          | (refine wpList_load_blk rfl 31 _ rfl _ rfl _ _ (G3.out) _ rfl rfl info_val ?_)
          | (refine wpList_store_blk rfl 31 _ _ rfl _ rfl #[.int .i64 s.kind, .int .i64 0, sv [], .slice none 0 0, .slice none 0 0, .slice none 0 0] rfl _ _ (G2F.out) (by rw [GZ.out] <;> rfl) info_val (by simp [Value.oneCell']) ?_; intro wf hbf hff; have HBF := hide hbf; have HFF := hide hff; clear hbf hff)
          | fail)
        refine bodyPost_ret (results_cell_row rfl _ _ (w.heap.size + 1) 31 #[.int .i64 s.kind, .int .i64 0, sv [], .slice none 0 0, .slice none 0 0, .slice none 0 0] (0, 0) _ rfl HBF.out rfl rfl info_val) rfl ?_
        rw [HRS.out]
        have hv := (VB.start (W := wf) (B := w.heap.size + 1 + 1) (g := w.heap.size + 1 + 1) (kd := s.kind) (n := 0) (s := []) (by have := HFF.out.size; have := G3.out.lt; omega) (G3.out.fr HFF.out (by omega)) (Nat.le_refl _)).done HKI.out (WalkArith.wf_i64 (by omega)) (by simp) (fun _ h => by cases h) (by simp) (by simp)
        exact ⟨_, rfl, hv.mono fun b hb => ⟨by omega, hb.2⟩, GW.out.trans (HFF.out.below GW.out.size fun x hx h => by omega)⟩
end Go.Proofs.Ytpnjkebjdclkfaa
