/- Schemas, walked: whether two are the same. Conditions: none. -/
import Derived.Test.YtpnjkebjdclkfaaSchC
import Derived.Test.YtpnjkebjdclkfaaNameR
namespace Go.Proofs.Ytpnjkebjdclkfaa
open Go.RowKit

set_option maxHeartbeats 1000000 in
set_option maxRecDepth 20000 in
theorem schEqualF (K : Nat) (hK : ∀ (x : Array Value) W, (callFunc K x).run Try.prog W = .ok (.enter K x) W) (n m : Nat) (A A2 : Option Addr) (c c2 : Nat) (V V2 : Nat → Value) (p : Nat → Bool) (w : World) (hn : n ≤ 140737488351232) (hm : m ≤ 140737488351232)
    (hA : 0 < n → ∃ b o, A = some ⟨b, o, none⟩ ∧ b < w.heap.size ∧ ∀ i, i < n → ∃ cs : List Value, V i = .agg cs.toArray ∧ cs.length = 3 ∧ (∀ v ∈ cs, v.oneCell' = true) ∧ w.rangeAt b (o + i * 3) cs)
    (hA2 : 0 < m → ∃ b o, A2 = some ⟨b, o, none⟩ ∧ b < w.heap.size ∧ ∀ i, i < m → ∃ cs : List Value, V2 i = .agg cs.toArray ∧ cs.length = 3 ∧ (∀ v ∈ cs, v.oneCell' = true) ∧ w.rangeAt b (o + i * 3) cs)
    (hcall : n = m → ∀ i, i < n → ∀ W, Below w.heap.size w W → Calls Try.prog K #[V i, V2 i] W (Gives (.bool (p i)) W)) :
    Calls Try.prog 62 #[.slice A n c, .slice A2 m c2, .func (.func K) #[] #[]] w (Gives (.bool (decide (n = m) && (List.range n).all p)) w) := by
  have HA := hide hA
  have HA2 := hide hA2
  have HC := hide hcall
  clear hA hA2 hcall
  by_cases hlen : n = m
  · subst hlen
    have hne : ((n : Int) != (n : Int)) = false := by simp
    have HC' := hide (HC.out rfl)
    clear HC
    go_enter Try.func62, Try.ntmps62
    go_wp2_with fail
    go_loopw [17] (fun i wr => ∃ (k : Nat), i = .int .i64 k ∧ k ≤ n ∧ (∀ r, r < k → p r = true) ∧ Below w.heap.size w wr) (fun i _ => n - (intOf i).toNat)
    case atStart => exact ⟨0, rfl, Nat.zero_le _, fun r hr => by omega, Below.refl _ _⟩
    case round =>
      obtain ⟨k, rfl, hk, hno, hw⟩ := hrel
      obtain ⟨wo, rfl⟩ : ∃ wo : World, wo = wr := ⟨_, rfl⟩
      have GW := hide hw
      have GN := hide hno
      clear hw hno
      by_cases hlt : k < n
      · obtain ⟨b, o, rfl, hb, hV⟩ := HA.out (by omega)
        obtain ⟨b2, o2, rfl, hb2, hV2⟩ := HA2.out (by omega)
        have hcall' := HC'.out k hlt
        obtain ⟨cs, hv, hc3, ho1, hr⟩ := hV k hlt
        obtain ⟨ds, hv2, hd3, ho2, hr2⟩ := hV2 k hlt
        have HRW : Hid (∀ W, Below w.heap.size w W → W.rangeAt b (o + k * 3) cs) := hide fun W hW q v hv => (hW.cell (p := ⟨b, o + k * 3 + q, none⟩) hb).trans (hr q v hv)
        have HRW2 : Hid (∀ W, Below w.heap.size w W → W.rangeAt b2 (o2 + k * 3) ds) := hide fun W hW q v hv => (hW.cell (p := ⟨b2, o2 + k * 3 + q, none⟩) hb2).trans (hr2 q v hv)
        have HC3 := hide hc3
        have HD3 := hide hd3
        have hst := fun (W : World) => run_store_new (P := Try.prog) W 25 [.int .i64 0, .slice none 0 0, .slice none 0 0] cs (by rw [hc3]; rfl) ho1
        have hst2 : ∀ (W : World) (ob : Obj), (storeCells ⟨W.heap.size + 1, 0, none⟩ ds).run Try.prog ((W.alloc ob).alloc (.cells ([.int .i64 0, .slice none 0 0, .slice none 0 0] : List Value).toArray 25)) = .ok () ((W.alloc ob).alloc (.cells ds.toArray 25)) := fun W ob => by have := run_store_new (P := Try.prog) (W.alloc ob) 25 [.int .i64 0, .slice none 0 0, .slice none 0 0] ds (by rw [hd3]; rfl) ho2; rwa [World.size_alloc] at this
        have G1 := hide (GW.out.alloc GW.out.size (.cells cs.toArray 25))
        have G2 := hide (G1.out.alloc G1.out.size (.cells ds.toArray 25))
        have HE1 := hide ((Blk.new wo 25 cs.toArray).alloc (.cells ds.toArray 25))
        rw [hv, hv2] at hcall'
        have HCL := hide hcall'
        clear hr hr2 hc3 hd3 hcall' hV hV2 ho1 ho2
        cases hx : p k
        all_goals
          have HX := hide hx
          rw [hx] at HCL
          clear hx
          have hst1 := fun (W : World) => Blk.new2 W (.cells cs.toArray 25) 25 ds.toArray
          go_wp2_with (first
            | (refine wpList_load_mid rfl 25 _ rfl b (o + k * 3) rfl cs _ (HRW.out _ GW.out) rfl rfl (by rw [HC3.out]; kernel_rfl) ?_)
            | (refine wpList_load_mid rfl 25 _ rfl b2 (o2 + k * 3) rfl ds _ (HRW2.out _ G1.out) rfl rfl (by rw [HD3.out]; kernel_rfl) ?_)
            | (refine wpList_load_blk rfl 25 _ rfl wo.heap.size rfl _ cs.toArray HE1.out _ rfl rfl (by rw [List.size_toArray, HC3.out]; kernel_rfl) ?_)
            | (refine wpList_load_blk rfl 25 _ rfl (wo.heap.size + 1) rfl _ ds.toArray (hst1 _) _ rfl rfl (by rw [List.size_toArray, HD3.out]; kernel_rfl) ?_)
            | fail)
          refine (HCL.out _ G2.out).mono ?_
          rintro e w1 ⟨rfl, hb1⟩
          have KW := hide (G2.out.trans (hb1.mono G2.out.size))
          clear hb1
        · go_wp2
          go_ret
          exact ⟨ret_eq (by rw [show (List.range n).all p = false from List.all_eq_false.2 ⟨k, List.mem_range.2 hlt, by rw [HX.out]; simp⟩]; simp), KW.out⟩
        · go_wp2_with fail
          exact ⟨⟨k + 1, by go_num, by omega, fun r hr => by
            by_cases e : r = k
            · rw [e]; exact HX.out
            · exact GN.out r (by omega), KW.out⟩, by simp [intOf]; omega⟩
      · obtain rfl : k = n := by omega
        go_wp2
        go_ret
        exact ⟨ret_eq (by rw [show (List.range k).all p = true from List.all_eq_true.2 fun i hi => GN.out i (List.mem_range.1 hi)]; simp), GW.out⟩
  · have hne : ((n : Int) != (m : Int)) = true := by simp; omega
    have HD : Hid ((decide (n = m) && (List.range n).all p) = false) := hide (by rw [decide_eq_false hlen]; rfl)
    clear hlen
    go_enter Try.func62, Try.ntmps62
    go_wp2
    go_ret
    exact ⟨ret_eq (by rw [HD.out]; rfl), Below.refl _ _⟩


instance : Inhabited DSch := ⟨.mk 0 [] []⟩
theorem schEq_split (a b : DSch) : eqB a b = (decide (a.kind = b.kind) && (decide (a.words = b.words) && eqB a.parts b.parts)) := by
  rw [Bool.eq_iff_iff]
  simp only [Bool.and_eq_true, decide_eq_true_eq, eqB_iff]
  exact DSch.ext_iff' a b

set_option maxHeartbeats 1000000 in
set_option maxRecDepth 20000 in
theorem schSame_calls (k : Nat) : ∀ (a b : DSch) (cs ds : List Value) (w : World), a.depth ≤ k → IsSch w (· < w.heap.size) a cs → IsSch w (· < w.heap.size) b ds →
    Calls Try.prog 18 #[.agg cs.toArray, .agg ds.toArray] w (Gives (.bool (eqB a b)) w) := by
  induction k with
  | zero => intro a b cs ds w h; have := a.depth_pos; omega
  | succ k ih =>
    intro a b cs ds w hk ha hb
    obtain ⟨hk1, hki⟩ := ha.kind_
    obtain ⟨hk2, hki2⟩ := hb.kind_
    obtain ⟨Aw, cw, hw1, hwr, hwz, hwc, hwm⟩ := ha.words_
    obtain ⟨Aw2, cw2, hw2, hwr2, hwz2, hwc2, hwm2⟩ := hb.words_
    obtain ⟨Ap, cp, C, hp1, hpc, hpm, hP, hA⟩ := ha.partsF
    obtain ⟨Ap2, cp2, C2, hp2, hpc2, hpm2, hP2, hA2⟩ := hb.partsF
    have HW0 := hide (((Below.refl w.heap.size w).alloc (Nat.le_refl _) (.cells cs.toArray 25)).alloc (by simp) (.cells ds.toArray 25))
    have hK : ∀ (x : Array Value) W, (callFunc 18 x).run Try.prog W = .ok (.enter 18 x) W := fun _ _ => by kernel_rfl
    have HSP := hide (schEq_split a b)
    have HCW := hide (fun (W : World) (hW : Below w.heap.size w W) => strEqual_calls a.words b.words Aw Aw2 cw cw2 W ((hwr.more hW)) ((hwr2.more hW)) (by omega) (by omega))
    have HCP : Hid (∀ W : World, Below w.heap.size w W → Calls Try.prog 62 #[.slice Ap a.parts.length cp, .slice Ap2 b.parts.length cp2, .func (.func 18) #[] #[]] W (Gives (.bool (eqB a.parts b.parts)) W)) := hide fun W hW => by
      have := schEqualF 18 hK a.parts.length b.parts.length Ap Ap2 cp cp2 (fun i => .agg (C i).toArray) (fun i => .agg (C2 i).toArray) (fun i => eqB (a.parts.getD i default) (b.parts.getD i default)) W (by omega) (by omega)
        (fun h0 => by
          obtain ⟨x, o, e, hx, hc⟩ := hA h0
          exact ⟨x, o, e, Nat.lt_of_lt_of_le hx hW.size, fun i hi => ⟨C i, rfl, (hc i hi).1, (hP i _ (List.getElem?_eq_getElem hi)).one, fun q v hv => (hW.cell (p := ⟨x, o + i * 3 + q, none⟩) hx).trans ((hc i hi).2 q v hv)⟩⟩)
        (fun h0 => by
          obtain ⟨x, o, e, hx, hc⟩ := hA2 h0
          exact ⟨x, o, e, Nat.lt_of_lt_of_le hx hW.size, fun i hi => ⟨C2 i, rfl, (hc i hi).1, (hP2 i _ (List.getElem?_eq_getElem hi)).one, fun q v hv => (hW.cell (p := ⟨x, o + i * 3 + q, none⟩) hx).trans ((hc i hi).2 q v hv)⟩⟩)
        (fun hnm i hi W2 hW2 => by
          have hi2 : i < b.parts.length := by omega
          have e1 : a.parts.getD i default = a.parts[i] := by simp [List.getD, hi]
          have e2 : b.parts.getD i default = b.parts[i] := by simp [List.getD, hi2]
          have hWW := hW.trans (hW2.mono hW.size)
          have hd := DSch.depth_part (List.getElem_mem hi)
          simp only [e1, e2]
          exact ih _ _ _ _ W2 (by omega) ((hP i _ (List.getElem?_eq_getElem hi)).more hWW) ((hP2 i _ (List.getElem?_eq_getElem hi2)).more hWW))
      rwa [eqB_list] at this
    clear ih ha hb hA hA2 hP hP2 hwr hwr2 hwz hwz2 hK
    by_cases h1 : a.kind = b.kind
    · have hkk : (a.kind == b.kind) = true := by simpa using h1
      rw [decide_eq_true h1, Bool.true_and] at HSP
      have H1 := hide h1
      clear h1
      cases h2 : decide (a.words = b.words)
      all_goals
        rw [h2] at HCW HSP
        clear h2
        go_enter Try.func18, Try.ntmps18
        go_wp2_with fail
        refine (HCW.out _ HW0.out).mono ?_
        rintro e w1 ⟨rfl, hb1⟩
        have HB1 := hide (HW0.out.trans (hb1.mono HW0.out.size))
        have HX2 := hide (((Blk.new w 25 cs.toArray).alloc (.cells ds.toArray 25)).below hb1 (by simp; omega))
        have HX3 := hide ((Blk.new2 w (.cells cs.toArray 25) 25 ds.toArray).below hb1 (by simp))
        clear hb1
      · go_wp2
        go_ret
        exact ⟨ret_eq (by rw [HSP.out]; rfl), HB1.out⟩
      · have c2 : w1.cell? ⟨w.heap.size, 2, none⟩ = some (.slice Ap a.parts.length cp) := by rw [HX2.out.cell]; simpa using hp1
        have c3 : w1.cell? ⟨w.heap.size + 1, 2, none⟩ = some (.slice Ap2 b.parts.length cp2) := by rw [HX3.out.cell]; simpa using hp2
        go_wp2_with fail
        refine (HCP.out _ HB1.out).mono ?_
        rintro e w2 ⟨rfl, hb2⟩
        have HB2 := hide (HB1.out.trans (hb2.mono HB1.out.size))
        clear hb2
        generalize eqB a.parts b.parts = x at *
        go_wp2
        go_ret
        exact ⟨ret_eq (by rw [HSP.out]; simp), HB2.out⟩
    · have hkk : (a.kind == b.kind) = false := by simpa using h1
      rw [decide_eq_false h1, Bool.false_and] at HSP
      clear h1
      go_enter Try.func18, Try.ntmps18
      go_wp2
      go_ret
      exact ⟨ret_eq (by rw [HSP.out]; rfl), HW0.out⟩
end Go.Proofs.Ytpnjkebjdclkfaa
