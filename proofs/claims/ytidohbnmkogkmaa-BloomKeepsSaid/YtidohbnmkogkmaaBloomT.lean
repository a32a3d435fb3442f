/- Contracts of the document's answer of the layer bloom: With. Conditions: none. -/
import Derived.Test.YtidohbnmkogkmaaBloomR
namespace Go.Proofs.Ytidohbnmkogkmaa
open Go.RowKit

/-- The load of an array out of the midst of a block by a guarded operation that is wanted. -/
theorem wpList_load_midg {P : Program} {ops : Array Oper} {rest : List Oper} {o : Oper} {a : Act} {w : World} {Q : Exit → Act → World → Prop} (hw : Region.wanted o (yielded ops a.tmps) = true)
    (ty : TypeId) (x : Operand) (ho : o.op = .load ty x) (b off : Nat) (hx : a.eval x = .pointer (some ⟨b, off, none⟩)) (f : List UInt8) (hb : w.rangeAt b off (f.map bv)) (d : TypeDesc)
    (hu : P.underlying ty = some d) (hd : d.isRow = true) (hi : (P.info? ty).map (·.size) = some (FB f).size) (h : wpList P ops Q rest (a.put o.dst (.agg (FB f))) w) : wpList P ops Q (o :: rest) a w :=
  wpList_step fun K hK => by
    simp only [hw, if_true]
    exact wp_load_mid ty x ho b off hx (f.map bv) d hb hu hd (by rw [hi]; simp [FB]) (hK _ _ h)

set_option maxHeartbeats 1000000 in
set_option maxRecDepth 20000 in
theorem with_calls (cs : Array Value) (f : List UInt8) (hcs : cs = FB f) (hf : f.length = 64) (l : List (List UInt8)) (A : Option Addr) (c : Nat) (w : World) (hl : IsHashes w w.heap.size A l) (hn : l.length ≤ 140737488351232) :
    Calls Try.prog 22 #[.agg cs, .slice A l.length c] w (Gives (.agg (FB (addL f l))) w) := by
  rw [← with_add f l hf]
  subst hcs
  have HI := hide hl
  have HL := hide hf
  have H2 := hide (((Blk.new w 25 (FB f)).alloc (.cells (FB z64) 25)).alloc (.cells (FB z64) 25))
  have H4 := hide ((Blk.new (w.alloc (.cells (FB f) 25)) 25 (FB z64)).alloc (.cells (FB z64) 25))
  have H5 := hide (Blk.new ((w.alloc (.cells (FB f) 25)).alloc (.cells (FB z64) 25)) 25 (FB z64))
  simp only [World.size_alloc] at H4 H5
  have HW := hide ((((Below.refl w.heap.size w).alloc (Nat.le_refl _) (.cells (FB f) 25)).alloc (by simp) (.cells (FB z64) 25)).alloc (by simp; omega) (.cells (FB z64) 25))
  clear hl hf
  go_enter Try.func22, Try.ntmps22
  go_wp2_with fail
  go_loopw [6] (fun i wr => ∃ (n : Nat), i = .int .i64 n ∧ n ≤ 512 ∧ Blk wr w.heap.size 25 (FB f) ∧ Blk wr (w.heap.size + 1) 25 (FB z64) ∧ Blk wr (w.heap.size + 1 + 1) 25 (FB (withN f l n)) ∧ Below w.heap.size w wr) (fun i _ => 512 - (intOf i).toNat)
  case atStart => exact ⟨0, rfl, Nat.zero_le _, H2.out, H4.out, H5.out, HW.out⟩
  case round =>
    obtain ⟨n, rfl, hn5, h2, h4, h5, hw⟩ := hrel
    have G2 := hide h2
    have G4 := hide h4
    have G5 := hide h5
    have GW := hide hw
    clear h2 h4 h5 hw H2 H4 H5 HW
    by_cases hlt : n < 512
    · go_wp2_with (first | (refine wpList_load_blk rfl 25 _ rfl _ rfl _ _ (G2.out) _ rfl rfl (fb_info (by kernel_rfl) (HL.out)) ?_) | fail)
      refine (bit_calls _ f rfl HL.out n hlt _).mono ?_
      rintro e w1 ⟨rfl, hb1⟩
      have K2 := hide (G2.out.below hb1 G2.out.lt)
      have K4 := hide (G4.out.below hb1 G4.out.lt)
      have K5 := hide (G5.out.below hb1 G5.out.lt)
      have KW := hide (GW.out.trans (hb1.mono GW.out.size))
      clear hb1 G2 G4 G5 GW
      go_wp2_with fail
      go_loopw [7, 8] (fun b i wr => ∃ (j : Nat), i = .int .i64 j ∧ j ≤ l.length ∧ b = .bool (bitOf f n || (l.take j).any fun h => namesB h n) ∧ Blk wr w.heap.size 25 (FB f) ∧ Blk wr (w.heap.size + 1) 25 (FB z64) ∧ Blk wr (w.heap.size + 1 + 1) 25 (FB (withN f l n)) ∧ Below w.heap.size w wr) (fun _ i _ => l.length - (intOf i).toNat)
      case atStart => exact ⟨0, rfl, Nat.zero_le _, by simp, K2.out, K4.out, K5.out, KW.out⟩
      case round =>
        obtain ⟨j, rfl, hj, rfl, h2, h4, h5, hw⟩ := hrel
        obtain ⟨wo, rfl⟩ : ∃ wo : World, wo = wr := ⟨_, rfl⟩
        have M2 := hide h2
        have M4 := hide h4
        have M5 := hide h5
        have MW := hide hw
        clear h2 h4 h5 hw K2 K4 K5 KW
        by_cases hjl : j < l.length
        · obtain ⟨b, o, rfl, hbl, hf'⟩ := (HI.out.below MW.out).2 (by omega)
          have HR := hide (hf' j _ (List.getElem?_eq_getElem hjl))
          have HJ := hide (HI.out.1 l[j] (List.getElem_mem _))
          have HT : Hid ((bitOf f n || (l.take (j + 1)).any fun h => namesB h n) = ((bitOf f n || (l.take j).any fun h => namesB h n) || namesB l[j] n)) := by
            rw [List.take_succ_eq_append_getElem hjl, List.any_append, List.any_cons, List.any_nil, Bool.or_false, Bool.or_assoc]; exact rfl
          clear hf'
          generalize (bitOf f n || (l.take j).any fun h => namesB h n) = is at *
          cases is
          · go_wp2_with (first | (refine wpList_load_midg (by rfl) 29 _ rfl b (o + j * 32) rfl l[j] HR.out _ rfl rfl (fb_info (by kernel_rfl) HJ.out) ?_) | fail)
            refine (names_calls _ l[j] rfl HJ.out n _).mono ?_
            rintro e w2 ⟨rfl, hb2⟩
            go_wp2_with fail
            exact ⟨⟨j + 1, by go_num, by omega, by rw [HT.out]; simp, M2.out.below hb2 M2.out.lt, M4.out.below hb2 M4.out.lt, M5.out.below hb2 M5.out.lt, MW.out.trans (hb2.mono MW.out.size)⟩, by simp [intOf]; omega⟩
          · go_wp2_with fail
            exact ⟨⟨j + 1, by go_num, by omega, by rw [HT.out]; rfl, M2.out, M4.out, M5.out, MW.out⟩, by simp [intOf]; omega⟩
        · obtain rfl : j = l.length := by omega
          rw [List.take_length]
          cases his : (bitOf f n || l.any fun h => namesB h n)
          · have HS := hide his
            clear his
            go_wp2_with fail
            exact ⟨⟨n + 1, by go_num, by omega, M2.out, M4.out, by rw [withN_succ, if_neg (by rw [show isB f l n = false from HS.out]; simp)]; exact M5.out, MW.out⟩, by simp [intOf]; omega⟩
          · have hGl := withN_length f l n
            have hbit : ((withN f l n).getD (n / 8) 0).toNat.testBit (n % 8) = false := by
              have := bit_withN f l n n (by omega)
              simpa [bitOf] using this
            have hq : n / 8 < (withN f l n).length := by omega
            have hgd : (withN f l n).getD (n / 8) 0 = (withN f l n)[n / 8] := by simp [List.getD, hq]
            rw [hgd] at hbit
            have hab := add_bit _ (n % 8) (by omega) hbit
            have c1 : wo.cell? ⟨w.heap.size + 1 + 1, n / 8, none⟩ = some (bv (withN f l n)[n / 8]) := by rw [M5.out.cell]; simp [hq]
            have c2 := M5.out.frozen (n / 8)
            have hset : (FB (withN f l n)).setIfInBounds (n / 8) (bv (orBit (withN f l n)[n / 8] (n % 8))) = FB (withN f l (n + 1)) := by
              rw [withN_succ, if_pos (show isB f l n = true from his), setBit, hgd]
              simp [FB]
            have hD := M5.out.drew.set_ (n / 8) (bv (orBit (withN f l n)[n / 8] (n % 8)))
            rw [hset] at hD
            have HD := hide hD
            have x1 := UInt8.toNat_lt (withN f l n)[n / 8]
            clear hset hD hgd hbit his
            generalize orBit (withN f l n)[n / 8] (n % 8) = z at *
            generalize (withN f l n)[n / 8] = x at *
            have q1 : (n : Int) / 8 = ((n / 8 : Nat) : Int) := by omega
            have q2 : (n : Int) % 8 = ((n % 8 : Nat) : Int) := by omega
            have hqn : n / 8 < 64 := by omega
            have hrn : n % 8 < 8 := by omega
            clear hGl hq
            generalize n / 8 = q at *
            generalize n % 8 = r at *
            have hs := wrap_two ⟨r, hrn⟩
            simp only at hs
            generalize ((2 ^ r : Nat) : Int) = e2 at hs hab
            have q3 : (n : Int).tmod 8 = (r : Int) := by rw [Int.tmod_eq_emod_of_nonneg (by omega)]; exact q2
            have q4 : (n : Int).tdiv 8 = (q : Int) := by rw [Int.tdiv_eq_ediv_of_nonneg (by omega)]; exact q1
            have hw1 : IntKind.i64.wrap (q : Int) = q := by rw [IntKind.wrap_i64]; omega
            have hw2 : IntKind.i64.wrap (r : Int) = r := by rw [IntKind.wrap_i64]; omega
            have hq64 : (q : Int) < 64 := by omega
            go_wp2_with fail
            refine wp_region_tail 11 (by kernel_rfl) (by kernel_rfl) ?_
            simp only [List.take_succ_cons, List.take_zero, List.drop_succ_cons, List.drop_zero]
            repeat still_step
            refine wpStill_nil ?_
            go_wp2_with fail
            exact ⟨⟨n + 1, by go_num, by omega, M2.out.drew.far (p := ⟨w.heap.size + 1 + 1, q, none⟩) (by simp; omega) _, M4.out.drew.far (p := ⟨w.heap.size + 1 + 1, q, none⟩) (by simp) _, HD.out, MW.out.drew.setCell (p := ⟨w.heap.size + 1 + 1, q, none⟩) (by simp; omega) _⟩, by simp [intOf]; omega⟩
    · obtain rfl : n = 512 := by omega
      go_wp2_with (first | (refine wpList_load_blk rfl 25 _ rfl _ rfl _ _ (G5.out) _ rfl rfl (fb_info (by kernel_rfl) (withN_length f l 512)) ?_) | (refine wpList_store_blk rfl 25 _ _ rfl _ rfl (FB (withN f l 512)) rfl _ _ (G4.out) (by rw [fb_size, fb_size, withN_length]; rfl) (fb_info (by kernel_rfl) (withN_length f l 512)) (fb_one _) ?_; intro w6 hb6 hf6; have HB6 := hide hb6; have HF6 := hide hf6; clear hb6 hf6) | fail)
      refine bodyPost_ret (results_cell_row rfl _ _ (w.heap.size + 1) _ (FB (withN f l 512)) (0, 0) _ rfl (HB6.out) rfl rfl (fb_info (by kernel_rfl) (withN_length f l 512))) rfl ?_
      exact ⟨rfl, GW.out.trans (HF6.out.below GW.out.size fun x hx h => by omega)⟩
end Go.Proofs.Ytidohbnmkogkmaa
