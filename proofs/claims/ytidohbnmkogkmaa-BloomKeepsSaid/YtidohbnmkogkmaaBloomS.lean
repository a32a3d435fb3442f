/- Contracts of the layer bloom, the fourth text: Union, Within, and the document's Bit. Conditions: none. -/
import Derived.Test.YtidohbnmkogkmaaBloomU
import Derived.Test.YtidohbnmkogkmaaBloomP
import Derived.Test.YtidohbnmkogkmaaRegion
namespace Go.Proofs.Ytidohbnmkogkmaa
open Go.RowKit

def orL (f g : List UInt8) : List UInt8 := List.zipWith (fun a b => a ||| b) f g
theorem orL_length (f g : List UInt8) (h : f.length = g.length) : (orL f g).length = f.length := by simp [orL, h]
theorem or_u8 (a b : UInt8) : bits BinOp.or IntKind.u8 (a.toNat : Int) (b.toNat : Int) = ((a ||| b).toNat : Int) := by
  have e (x : UInt8) : (BitVec.ofInt 8 (x.toNat : Int)).toNat = x.toNat := by
    rw [BitVec.ofInt_natCast, BitVec.toNat_ofNat]; exact Nat.mod_eq_of_lt (UInt8.toNat_lt x)
  show IntKind.u8.wrap ((BitVec.ofInt 8 _ ||| BitVec.ofInt 8 _).toNat : Int) = _
  rw [BitVec.toNat_or, e, e, UInt8.toNat_or]
  have h1 := UInt8.toNat_lt (a ||| b)
  rw [UInt8.toNat_or] at h1
  rw [IntKind.wrap_u8]
  omega
/-- The first k bytes are both, the others the first. -/
def orK (f g : List UInt8) (k : Nat) : List UInt8 := orL (f.take k) (g.take k) ++ f.drop k
theorem orK_length (f g : List UInt8) (k : Nat) (h : f.length = g.length) : (orK f g k).length = f.length := by simp [orK, orL, h]; omega
theorem orK_all (f g : List UInt8) (h : f.length = g.length) : orK f g f.length = orL f g := by simp [orK, List.take_of_length_le (Nat.le_of_eq h.symm)]
theorem orK_succ (f g : List UInt8) (k : Nat) (hf : k < f.length) (hg : k < g.length) : orK f g (k + 1) = (orK f g k).set k (f[k] ||| g[k]) := by
  unfold orK orL
  rw [List.take_succ_eq_append_getElem hf, List.take_succ_eq_append_getElem hg, List.zipWith_append (by simp; omega), List.set_append_right _ _ (by simp; omega)]
  simp [Nat.min_eq_left (Nat.le_of_lt hf), Nat.min_eq_left (Nat.le_of_lt hg)]
  rw [List.drop_eq_getElem_cons hf]
  rfl
theorem orK_get (f g : List UInt8) (k : Nat) (hf : k < f.length) (h : f.length = g.length) : (orK f g k)[k]? = some f[k] := by
  unfold orK
  rw [List.getElem?_append_right (by simp [orL]; omega)]
  simp [orL, Nat.min_eq_left (Nat.le_of_lt hf), ← h, hf]

set_option maxHeartbeats 1000000 in
set_option maxRecDepth 20000 in
theorem union_calls (cs ds : Array Value) (f g : List UInt8) (hcs : cs = FB f) (hds : ds = FB g) (hf : f.length = 64) (hg : g.length = 64) (w : World) :
    Calls Try.prog 18 #[.agg cs, .agg ds] w (Gives (.agg (FB (orL f g))) w) := by
  subst hcs
  have HI := hide (show (Try.prog.info? 26).map (·.size) = some ds.size by rw [hds]; exact fb_info (n := 64) (by kernel_rfl) hg)
  have HL := hide (And.intro hf hg)
  have HD := hide hds
  have H2 := hide (((Blk.new w 26 (FB f)).alloc (.cells ds 26)).alloc (.cells (FB z64) 26))
  have H3 := hide ((Blk.new (w.alloc (.cells (FB f) 26)) 26 ds).alloc (.cells (FB z64) 26))
  have H4 := hide (Blk.new ((w.alloc (.cells (FB f) 26)).alloc (.cells ds 26)) 26 (FB z64))
  simp only [World.size_alloc] at H3 H4
  have HB := hide ((((Below.refl w.heap.size w).alloc (Nat.le_refl _) (.cells (FB f) 26)).alloc (by simp) (.cells ds 26)).alloc (by simp; omega) (.cells (FB z64) 26))
  clear hds hf hg
  go_enter Try.func18, Try.ntmps18
  go_wp2_with (first | (refine wpList_load_blk rfl 26 _ rfl _ rfl _ _ H3.out _ rfl rfl HI.out ?_) | fail)
  go_loopw [8] (fun i wr => ∃ (k : Nat), i = .int .i64 k ∧ k ≤ 64 ∧ Blk wr w.heap.size 26 (FB (orK f g k)) ∧ Blk wr (w.heap.size + 1 + 1) 26 (FB z64) ∧ Below w.heap.size w wr) (fun i _ => 64 - (intOf i).toNat)
  case atStart => exact ⟨0, rfl, Nat.zero_le _, H2.out, H4.out, HB.out⟩
  case round =>
    obtain ⟨k, rfl, hk, hF, hZ, hb⟩ := hrel
    obtain ⟨wo, rfl⟩ : ∃ wo : World, wo = wr := ⟨_, rfl⟩
    have HF := hide hF
    have HZ := hide hZ
    have HB' := hide hb
    clear hF hZ hb H2 H3 H4 HB
    by_cases hlt : k < 64
    · have h1 : k < f.length := by rw [HL.out.1]; exact hlt
      have h2 : k < g.length := by rw [HL.out.2]; exact hlt
      have hx : ds[k]? = some (bv g[k]) := by rw [HD.out]; simp [FB, h2]
      have hix := run_index_plain Try.underlying26 (by kernel_rfl) (by kernel_rfl) hlt hx
      have c1 : wo.cell? ⟨w.heap.size, k, none⟩ = some (bv f[k]) := by rw [HF.out.cell]; simp [FB, orK_get f g k h1 (by rw [HL.out.1, HL.out.2])]
      have c2 := HF.out.frozen k
      have ho := or_u8 f[k] g[k]
      have hs := HF.out.set_ k (bv (f[k] ||| g[k]))
      have hset : (FB (orK f g k)).setIfInBounds k (bv (f[k] ||| g[k])) = FB (orK f g (k + 1)) := by
        rw [orK_succ f g k h1 h2]; simp [FB]
      rw [hset] at hs
      have HS := hide hs
      have hj : (k : Int) < 64 := by omega
      clear hset hs hx
      generalize f[k] ||| g[k] = z at *
      generalize f[k] = x at *
      generalize g[k] = y at *
      go_wp2_with fail
      exact ⟨⟨k + 1, by go_num, by omega, HS.out, HZ.out.far (p := ⟨w.heap.size, k, none⟩) (by simp; omega) _, HB'.out.setCell (p := ⟨w.heap.size, k, none⟩) (Nat.le_refl _) _⟩, by simp [intOf]; omega⟩
    · obtain rfl : k = 64 := by omega
      have hla : (orL f g).length = 64 := by rw [orL_length f g (by rw [HL.out.1, HL.out.2]), HL.out.1]
      have e : orK f g 64 = orL f g := by have := orK_all f g (by rw [HL.out.1, HL.out.2]); rwa [HL.out.1] at this
      rw [e] at HF
      have HLA := hide hla
      clear e hla
      go_wp2_with (first | (refine wpList_load_blk rfl 26 _ rfl _ rfl _ _ (HF.out) _ rfl rfl (fb_info (by kernel_rfl) (HLA.out)) ?_) | (refine wpList_store_blk rfl 26 _ _ rfl _ rfl (FB (orL f g)) rfl _ _ (HZ.out) (by rw [fb_size, fb_size, HLA.out]; rfl) (fb_info (by kernel_rfl) (HLA.out)) (fb_one _) ?_; intro w6 hb6 hf6; have HB6 := hide hb6; have HF6 := hide hf6; clear hb6 hf6) | fail)
      refine bodyPost_ret (results_cell_row rfl _ _ (w.heap.size + 1 + 1) _ (FB (orL f g)) (0, 0) _ rfl (HB6.out) rfl rfl (fb_info (by kernel_rfl) (HLA.out))) rfl ?_
      exact ⟨rfl, HB'.out.trans (HF6.out.below HB'.out.size fun x hx h => by omega)⟩

set_option maxHeartbeats 1000000 in
set_option maxRecDepth 20000 in
theorem within_calls (cs ds : Array Value) (f g : List UInt8) (hcs : cs = FB f) (hds : ds = FB g) (hf : f.length = 64) (hg : g.length = 64) (w : World) :
    Calls Try.prog 21 #[.agg cs, .agg ds] w (Gives (.bool (decide (orL f g = g))) w) := by
  subst hcs hds
  have H2 := hide ((Blk.new w 26 (FB f)).alloc (.cells (FB g) 26))
  have H3 := hide (Blk.new (w.alloc (.cells (FB f) 26)) 26 (FB g))
  rw [World.size_alloc] at H3
  have hu26 := Try.underlying26
  have hif := info_filter f hf
  have hig := info_filter g hg
  have heq := fun W => eql_filter (orL f g) g ((orL_length f g (by rw [hf, hg])).trans hf) hg W
  have HC := hide fun (W : World) => union_calls _ _ f g rfl rfl hf hg W
  have HB := hide (((Below.refl w.heap.size w).alloc (Nat.le_refl _) (.cells (FB f) 26)).alloc (by simp) (.cells (FB g) 26))
  clear hf hg
  go_enter Try.func21, Try.ntmps21
  go_upto_region 1 with fail
  refine wp_region_held_drew (S := fun w' => Below (w.heap.size + 2) ((w.alloc (.cells (FB f) 26)).alloc (.cells (FB g) 26)) w') (by kernel_rfl) (Below.refl _ _).drew (fun hHeld => ?_)
  (refine takeH (i := 0) (v := .agg (f.map bv).toArray) rfl rfl (by kernel_rfl) (by kernel_rfl) (by kernel_rfl) (fun _ _ _ h => h) (by rfl) (fun wz hw => load_exec 26 (.tmp 2) rfl (w.heap.size) (0) rfl (f.map bv) _ ((H2.out.below hw (by omega)).range) hu26 rfl hif) hHeld ?_; simp only [Act.put, List.setIfInBounds_toArray, List.set_cons_zero, List.set_cons_succ])
  (refine takeH (i := 1) (v := .agg (g.map bv).toArray) rfl rfl (by kernel_rfl) (by kernel_rfl) (by kernel_rfl) (fun _ _ _ h => h) (by rfl) (fun wz hw => load_exec 26 (.tmp 3) rfl (w.heap.size + 1) (0) rfl (g.map bv) _ ((H3.out.below hw (by omega)).range) hu26 rfl hig) hHeld ?_; simp only [Act.put, List.setIfInBounds_toArray, List.set_cons_zero, List.set_cons_succ])
  (refine takeH (i := 3) (v := .agg (g.map bv).toArray) rfl rfl (by kernel_rfl) (by kernel_rfl) (by kernel_rfl) (fun _ _ _ h => h) (by rfl) (fun wz hw => load_exec 26 (.tmp 3) rfl (w.heap.size + 1) (0) rfl (g.map bv) _ ((H3.out.below hw (by omega)).range) hu26 rfl hig) hHeld ?_; simp only [Act.put, List.setIfInBounds_toArray, List.set_cons_zero, List.set_cons_succ])
  (refine oneH (i := 2) rfl (by kernel_rfl) (fun K hK => ?_); go_simp; refine (HC.out _).mono ?_; rintro e w1 ⟨rfl, hb1⟩; have hB1 := hHeld.trans (hb1.mono (by simp)); refine hK.out _ _ (hB1) (fun hHeld => ?_); clear hK K)
  (refine oneH (i := 4) rfl (by kernel_rfl) (fun K hK => ?_); go_simp; refine hK.out _ _ (hB1) (fun hHeld => ?_); clear hK K)
  (refine oneH (i := 5) rfl (by kernel_rfl) (fun K hK => ?_); go_simp; refine hK.out _ _ (hB1) (fun hHeld => ?_); clear hK K)
  refine wpAnyH_done (by kernel_rfl) ?_ _
  go_wp2
  go_ret
  exact ⟨ret_eq rfl, HB.out.trans (hB1.mono (by omega))⟩

theorem shr_u8 (x : UInt8) (r : Nat) : (((x.toNat : Int) / (2 : Int) ^ r).tmod 2 == 1) = x.toNat.testBit r := by
  rw [Nat.testBit_eq_decide_div_mod_eq, Bool.eq_iff_iff, beq_iff_eq, decide_eq_true_eq]
  rw [show ((2 : Int) ^ r) = ((2 ^ r : Nat) : Int) by simp, ← Int.natCast_ediv, Int.tmod_eq_emod_of_nonneg (Int.natCast_nonneg _)]
  generalize x.toNat / 2 ^ r = q
  omega

set_option maxHeartbeats 1000000 in
set_option maxRecDepth 20000 in
theorem bit_calls (cs : Array Value) (f : List UInt8) (hcs : cs = FB f) (hf : f.length = 64) (n : Nat) (hn : n < 512) (w : World) :
    Calls Try.prog 19 #[.agg cs, .int .i64 n] w (Gives (.bool (bitOf f n)) w) := by
  subst hcs
  have hq : n / 8 < f.length := by omega
  have c1 : (w.alloc (.cells (FB f) 25)).cell? ⟨w.heap.size, n / 8, none⟩ = some (bv f[n / 8]) := by rw [(Blk.new w 25 (FB f)).cell]; simp [hq]
  have hb : bitOf f n = f[n / 8].toNat.testBit (n % 8) := by simp [bitOf, List.getD, hq]
  rw [hb]
  have hs := hide (shr_u8 f[n / 8] (n % 8))
  have hx := UInt8.toNat_lt f[n / 8]
  generalize f[n / 8] = x at *
  have h1 : ((n : Int) / 8).toNat = n / 8 := by omega
  have h2 : (n : Int) / 8 < 64 := by omega
  clear hb hq
  go_enter Try.func19, Try.ntmps19
  go_wp2_with fail
  go_ret
  exact ⟨ret_eq (by rw [← hs.out]; rfl), (Below.refl _ _).alloc (Nat.le_refl _) _⟩
end Go.Proofs.Ytidohbnmkogkmaa
