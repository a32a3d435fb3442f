/- Contracts of the layer bloom. Conditions: none. -/
import Derived.Test.YtidohbnmkogkmaaArr
import Derived.Test.YtidohbnmkogkmaaProg
namespace Go.Proofs.Ytidohbnmkogkmaa
open Go.RowKit

def b8' (n : Nat) : UInt8 := UInt8.ofNat n
theorem b8'_toNat (n : Nat) (h : n < 256) : (b8' n).toNat = n := by simp [b8']; omega
/-- One of a name's bits. -/
def placeN (h : List UInt8) (i : Nat) : Nat := (256 * (h.getD (2 * i) 0).toNat + (h.getD (2 * i + 1) 0).toNat) % 512
theorem or_i64 (a b : Nat) (ha : a < 256) (hb : b < 256) : bits BinOp.or IntKind.i64 ((a : Int) * 256) (b : Int) = (a : Int) * 256 + b := by
  have h1 : ((a : Int) * 256) = ((a * 256 : Nat) : Int) := by omega
  have e1 : (BitVec.ofInt 64 ((a * 256 : Nat) : Int)).toNat = a * 256 := by
    rw [BitVec.ofInt_natCast, BitVec.toNat_ofNat]; exact Nat.mod_eq_of_lt (by omega)
  have e2 : (BitVec.ofInt 64 (b : Int)).toNat = b := by
    rw [BitVec.ofInt_natCast, BitVec.toNat_ofNat]; exact Nat.mod_eq_of_lt (by omega)
  have hx : a * 256 ||| b = a * 256 + b := by
    have := Nat.two_pow_add_eq_or_of_lt (i := 8) (b := b) (by omega) a
    rw [show 2 ^ 8 * a = a * 256 from by omega] at this
    exact this.symm
  rw [h1]
  show IntKind.i64.wrap ((BitVec.ofInt 64 _ ||| BitVec.ofInt 64 _).toNat : Int) = _
  rw [BitVec.toNat_or, e1, e2, hx, IntKind.wrap_i64]
  omega

set_option maxHeartbeats 400000 in
theorem place_calls (cs : Array Value) (h : List UInt8) (hcs : cs = FB h) (hl : h.length = 32) (i : Nat) (hi : i < 4) (w : World) :
    Calls Try.prog 39 #[.agg cs, .int .i64 i] w (Gives (.int .i64 (placeN h i)) w) := by
  subst hcs
  have hb := Blk.new w 29 (FB h)
  have i1 : 2 * i < h.length := by omega
  have i2 : 2 * i + 1 < h.length := by omega
  have c1 : (w.alloc (.cells (FB h) 29)).cell? ⟨w.heap.size, 2 * i, none⟩ = some (bv (h[2 * i])) := by rw [hb.cell]; simp [i1]
  have c2 : (w.alloc (.cells (FB h) 29)).cell? ⟨w.heap.size, 2 * i + 1, none⟩ = some (bv (h[2 * i + 1])) := by rw [hb.cell]; simp [i2]
  have ho := or_i64 h[2 * i].toNat h[2 * i + 1].toNat (UInt8.toNat_lt _) (UInt8.toNat_lt _)
  have hp : (((h[2 * i].toNat : Int) * 256 + (h[2 * i + 1].toNat : Int)) % 512) = (placeN h i : Int) := by simp [placeN, List.getD, i1, i2]; omega
  have HP := hide hp
  have b1 := UInt8.toNat_lt h[2 * i]
  have b2 := UInt8.toNat_lt h[2 * i + 1]
  have HL := hide hl
  clear hb hl hp
  go_enter Try.func39, Try.ntmps39
  go_wp2_with fail
  go_quiet (fail)
  go_wp2
  go_ret
  exact ⟨ret_eq (int_eq HP.out), below_drewN ((Below.refl _ _).alloc (Nat.le_refl _) _) _⟩

def orBit (x : UInt8) (j : Nat) : UInt8 := b8' (x.toNat ||| 2 ^ j)
/-- A filter with one bit more. -/
def setBit (f : List UInt8) (k : Nat) : List UInt8 := f.set (k / 8) (orBit (f.getD (k / 8) 0) (k % 8))
/-- The first j bits of a name added. -/
def addI (f h : List UInt8) (j : Nat) : List UInt8 := (List.range j).foldl (fun f i => setBit f (placeN h i)) f
def addH (f h : List UInt8) : List UInt8 := addI f h 4
def addL (f : List UInt8) (l : List (List UInt8)) : List UInt8 := l.foldl addH f
theorem setBit_length (f : List UInt8) (k : Nat) : (setBit f k).length = f.length := by simp [setBit]
theorem addI_succ (f h : List UInt8) (j : Nat) : addI f h (j + 1) = setBit (addI f h j) (placeN h j) := by simp [addI, List.range_succ]
theorem addI_length (f h : List UInt8) (j : Nat) : (addI f h j).length = f.length := by
  induction j with
  | zero => rfl
  | succ j ih => rw [addI_succ, setBit_length, ih]
theorem addL_length (f : List UInt8) (l : List (List UInt8)) : (addL f l).length = f.length := by
  induction l generalizing f with
  | nil => rfl
  | cons h l ih => rw [addL, List.foldl_cons]; exact (ih _).trans (addI_length f h 4)
theorem addL_snoc (f : List UInt8) (l : List (List UInt8)) (h : List UInt8) : addL f (l ++ [h]) = addH (addL f l) h := by simp [addL]
theorem wrap_two : ∀ (r : Fin 8), IntKind.u8.wrap ((2 : Int) ^ r.val) = ((2 ^ r.val : Nat) : Int) := by decide +kernel
theorem orBit_val' : ∀ (j : Fin 8) (x : Fin 256), bits BinOp.or IntKind.u8 (x.val : Int) ((2 ^ j.val : Nat) : Int) = ((x.val ||| 2 ^ j.val : Nat) : Int) ∧ x.val ||| 2 ^ j.val < 256 := by decide +kernel
theorem orBit_val (x : UInt8) (j : Nat) (hj : j < 8) : bits BinOp.or IntKind.u8 (x.toNat : Int) ((2 ^ j : Nat) : Int) = ((orBit x j).toNat : Int) := by
  have h := orBit_val' ⟨j, hj⟩ ⟨x.toNat, UInt8.toNat_lt x⟩
  simp only at h
  rw [h.1, orBit, b8'_toNat _ h.2]

/-- A list of names, as it lies in memory. -/
def IsHashes (w : World) (B : Nat) (A : Option Addr) (l : List (List UInt8)) : Prop :=
  (∀ h ∈ l, h.length = 32) ∧ (0 < l.length → ∃ b o, A = some ⟨b, o, none⟩ ∧ b < B ∧ ∀ (i : Nat) (h : List UInt8), l[i]? = some h → w.rangeAt b (o + i * 32) (h.map bv))
theorem IsHashes.below {w w' : World} {B : Nat} {A : Option Addr} {l : List (List UInt8)} (h : IsHashes w B A l) (hb : Below B w w') : IsHashes w' B A l :=
  ⟨h.1, fun h0 => by
    obtain ⟨b, o, e, hlt, hc⟩ := h.2 h0
    exact ⟨b, o, e, hlt, fun i x hx j v hv => (hb.cell (p := ⟨b, o + i * 32 + j, none⟩) hlt).trans (hc i x hx j v hv)⟩⟩

set_option maxHeartbeats 1000000 in
set_option maxRecDepth 20000 in
theorem add_calls (cs : Array Value) (f : List UInt8) (hcs : cs = FB f) (hf : f.length = 64) (l : List (List UInt8)) (A : Option Addr) (c : Nat) (w : World) (hl : IsHashes w w.heap.size A l) (hn : l.length ≤ 140737488351232) :
    Calls Try.prog 11 #[.agg cs, .slice A l.length c] w (Gives (.agg (FB (addL f l))) w) := by
  subst hcs
  have hZ : ∃ hl' : Hid (IsHashes w w.heap.size A l), True := ⟨hide hl, trivial⟩
  obtain ⟨HI, -⟩ := hZ
  clear hl
  go_enter Try.func11, Try.ntmps11
  go_wp2_with fail
  go_loopw [11] (fun i wr => ∃ (k : Nat) (Z : Array Value), i = .int .i64 k ∧ k ≤ l.length ∧ Blk wr w.heap.size 26 (FB (addL f (l.take k))) ∧ Blk wr (w.heap.size + 1) 26 Z ∧ Z.size = 64 ∧ Below w.heap.size w wr) (fun i _ => l.length - (intOf i).toNat)
  case atStart => exact ⟨0, _, rfl, Nat.zero_le _, (Blk.new w _ _).alloc _, by simpa using Blk.new (w.alloc (.cells (FB f) 26)) _ _, rfl, ((Below.refl _ _).alloc (Nat.le_refl _) _).alloc (by simp) _⟩
  case round =>
    obtain ⟨k, Z, rfl, hk, hF, hZ, hZs, hb⟩ := hrel
    obtain ⟨wo, rfl⟩ : ∃ wo : World, wo = wr := ⟨_, rfl⟩
    have HF := hide hF
    have HZ := hide hZ
    have HZs := hide hZs
    have HB := hide hb
    clear hF hZ hZs hb
    by_cases hlt : k < l.length
    · obtain ⟨b, o, rfl, hbl, hf'⟩ := (HI.out.below HB.out).2 (by omega)
      have HR := hide (hf' k _ (List.getElem?_eq_getElem hlt))
      clear hf'
      have HL := hide (HI.out.1 l[k] (List.getElem_mem _))
      go_wp2_with (first
        | (refine wpList_load_mid rfl 29 _ rfl b (o + k * 32) rfl (l[k].map bv) _ HR.out rfl rfl (by rw [List.length_map, HL.out]; kernel_rfl) ?_)
        | (refine wpList_store_blk rfl 29 _ _ rfl _ rfl (FB l[k]) rfl 29 _ (Blk.new _ _ _) (by simp [FB, HL.out]) (by rw [show (FB l[k]).size = 32 from by simp [FB, HL.out]]; kernel_rfl) (by intro v hv; simp only [FB, List.mem_map] at hv; obtain ⟨x, -, rfl⟩ := hv; rfl) ?_
           intro w6 hb6 hf6
           have HB6 := hide hb6
           have HF6 := hide hf6
           clear hb6 hf6)
        | fail)
      have hlo := HZ.out.lt
      have b6 : Below wo.heap.size wo w6 := ((Below.refl _ _).alloc (Nat.le_refl _) _).trans (HF6.out.below (by simp) fun x hx h => by omega)
      have HG2 := hide (HF.out.below b6 HF.out.lt)
      have HG4 := hide (HZ.out.below b6 hlo)
      have HGB := hide (HB.out.trans (b6.mono HB.out.size))
      clear b6 HF6 HF HZ HB
      go_loopw [15] (fun i wr => ∃ (j : Nat), i = .int .i64 j ∧ j ≤ 4 ∧ Blk wr w.heap.size 26 (FB (addI (addL f (l.take k)) l[k] j)) ∧ Blk wr (w.heap.size + 1) 26 Z ∧ Blk wr wo.heap.size 29 (FB l[k]) ∧ Below w.heap.size w wr) (fun i _ => 4 - (intOf i).toNat)
      case atStart => exact ⟨0, rfl, Nat.zero_le _, HG2.out, HG4.out, HB6.out, HGB.out⟩
      case round =>
        obtain ⟨j, rfl, hj, h2, h4, h6, hb⟩ := hrel
        have H2 := hide h2
        have H4 := hide h4
        have H6 := hide h6
        have H8 := hide hb
        clear h2 h4 h6 hb HG2 HG4 HGB HB6
        by_cases hlt4 : j < 4
        · go_wp2_with (first
            | (refine wpList_load_blk rfl 29 _ rfl _ rfl _ _ H6.out _ rfl rfl (by rw [show (FB l[k]).size = 32 from by simp [FB, HL.out]]; kernel_rfl) ?_)
            | fail)
          refine (place_calls _ l[k] rfl HL.out j hlt4 _).mono ?_
          rintro e w7 ⟨rfl, hb7⟩
          have hK : placeN l[k] j < 512 := Nat.mod_lt _ (by omega)
          generalize hKe : placeN l[k] j = K at hK ⊢
          go_wp2_with fail
          have Hd := hide (H2.out.below hb7 H2.out.lt)
          generalize hG : addI (addL f (l.take k)) l[k] j = G at Hd
          have hGl : G.length = 64 := by rw [← hG, addI_length, addL_length, hf]
          have hq : K / 8 < G.length := by omega
          have c1 : w7.cell? ⟨w.heap.size, K / 8, none⟩ = some (bv (G[K / 8])) := by rw [Hd.out.cell]; simp [FB, hq]
          have c2 := Hd.out.frozen (K / 8)
          have q1 : (K : Int) / 8 = ((K / 8 : Nat) : Int) := by omega
          have q2 : (K : Int) % 8 = ((K % 8 : Nat) : Int) := by omega
          have ho := orBit_val G[K / 8] (K % 8) (by omega)
          generalize hqe : K / 8 = q at *
          generalize hre : K % 8 = r at *
          have hr : r < 8 := by omega
          have hq64 : (q : Int) < 64 := by omega
          have q3 : (K : Int).tmod 8 = (r : Int) := by rw [Int.tmod_eq_emod_of_nonneg (by omega)]; exact q2
          have q4 : (K : Int).tdiv 8 = (q : Int) := by rw [Int.tdiv_eq_ediv_of_nonneg (by omega)]; exact q1
          have hs := wrap_two ⟨r, hr⟩
          simp only at hs
          generalize ((2 ^ r : Nat) : Int) = e2 at hs ho
          have hw1 : IntKind.i64.wrap (q : Int) = q := by rw [IntKind.wrap_i64]; omega
          have hw2 : IntKind.i64.wrap (r : Int) = r := by rw [IntKind.wrap_i64]; omega
          refine wp_region_tail 9 (by kernel_rfl) (by kernel_rfl) ?_
          simp only [List.take_succ_cons, List.take_zero, List.drop_succ_cons, List.drop_zero]
          repeat still_step
          refine wpStill_nil ?_
          go_wp2_with fail
          have hD := Hd.out.drew.set_ q (bv (orBit G[q] r))
          have hset : (FB G).setIfInBounds q (bv (orBit G[q] r)) = FB (addI (addL f (l.take k)) l[k] (j + 1)) := by
            rw [addI_succ, hG, hKe, setBit, hqe, hre]
            simp [FB, hq, List.getD]
          rw [hset] at hD
          exact ⟨⟨j + 1, by go_num, by omega, hD, by
            exact ((H4.out.below hb7 H4.out.lt).drew).far (p := ⟨w.heap.size, q, none⟩) (by simp) _, by
            exact ((H6.out.below hb7 H6.out.lt).drew).far (p := ⟨w.heap.size, q, none⟩) (by have := H8.out; show wo.heap.size ≠ w.heap.size; omega) _, by
            exact ((H8.out.trans (hb7.mono H8.out.size)).drew).setCell (p := ⟨w.heap.size, q, none⟩) (Nat.le_refl _) _⟩, by simp [intOf]; omega⟩
        · obtain rfl : j = 4 := by omega
          go_wp2
          exact ⟨⟨k + 1, Z, by go_num, by omega, by rw [List.take_succ_eq_append_getElem hlt, addL_snoc]; exact H2.out, H4.out, HZs.out, H8.out⟩, by simp [intOf]; omega⟩
    · obtain rfl : k = l.length := by omega
      rw [List.take_length] at HF
      go_wp2_with (first
        | (refine wpList_load_blk rfl 26 _ rfl _ rfl _ _ HF.out _ rfl rfl (by rw [show (FB (addL f l)).size = 64 from by simp [FB, addL_length, hf]]; kernel_rfl) ?_)
        | (refine wpList_store_blk rfl 26 _ _ rfl _ rfl (FB (addL f l)) rfl 26 _ HZ.out (by rw [HZs.out]; simp [FB, addL_length, hf]) (by rw [show (FB (addL f l)).size = 64 from by simp [FB, addL_length, hf]]; kernel_rfl) (by intro v hv; simp only [FB, List.mem_map] at hv; obtain ⟨x, -, rfl⟩ := hv; rfl) ?_
           intro w6 hb6 hf6
           have HB6 := hide hb6
           have HF6 := hide hf6
           clear hb6 hf6)
        | fail)
      refine bodyPost_ret (results_cell_row rfl _ _ (w.heap.size + 1) 26 (FB (addL f l)) (0, 0) _ rfl HB6.out rfl rfl (by rw [show (FB (addL f l)).size = 64 from by simp [FB, addL_length, hf]]; kernel_rfl)) rfl ?_
      have hlo := HB.out.size
      exact ⟨rfl, HB.out.trans (HF6.out.below hlo fun x hx h => by omega)⟩
end Go.Proofs.Ytidohbnmkogkmaa
