/- Contracts of the layer bloom: the library's DeleteFunc at names; Lacks; whether two lists of names are the same. Conditions: none. -/
import Derived.Test.YtidohbnmkogkmaaBloomD
namespace Go.Proofs.Ytidohbnmkogkmaa
open Go.RowKit

/-- A row stored into a block. -/
theorem wpList_store_row {P : Program} {ops : Array Oper} {rest : List Oper} {o : Oper} {a : Act} {w : World} {Q : Exit → Act → World → Prop} (hgd : o.guard = none) (ty : TypeId) (x y : Operand) (ho : o.op = .store ty x y) (g off : Nat) (hx : a.eval x = .pointer (some ⟨g, off, none⟩)) (f : List UInt8) (hy : a.eval y = .agg (FB f))
    (t : TypeId) (L : List Value) (hb : Blk w g t L.toArray) (hsz : off + f.length ≤ L.length) (hi : (P.info? ty).map (·.size) = some (FB f).size)
    (h : ∀ w', Blk w' g t (L.take off ++ f.map bv ++ L.drop (off + f.length)).toArray → Fr (fun k => k = g) w w' → wpList P ops Q rest (a.put o.dst undef) w') : wpList P ops Q (o :: rest) a w := by
  refine wpList_store_mid hgd ty x y ho g off (FB f) hx hy (fun j hj => ⟨?_, hb.frozen _⟩) hi (Array.all_eq_true_iff_forall_mem.2 fun v hv => fb_one f v (by simpa using hv)) (h _ ?_ (fr_setCells g _ _ _))
  · have hj' : off + j < L.length := by rw [fb_size] at hj; omega
    rw [hb.cell]; simp [hj']
  · have := blk_setCells g t (f.map bv) off w L hb (by rw [List.length_map]; exact hsz)
    rw [List.length_map] at this
    exact this

/-- The state of the deletion: of the first j, those that stay stand ahead. -/
structure DelRel (p : List UInt8 → Bool) (l : List (List UInt8)) (L0 : List Value) (w : World) (B g j : Nat) (iv jv : Value) (wr : World) : Prop where
  iv_ : iv = .int .i64 (lacksL p (l.take j)).length
  jv_ : jv = .int .i64 j
  le_ : j ≤ l.length
  lt_ : (lacksL p (l.take j)).length < j
  blk : ∃ L : List Value, Blk wr g 29 L.toArray ∧ L.length = L0.length ∧ L.take ((lacksL p (l.take j)).length * 32) = rowsOf (lacksL p (l.take j)) ∧ L.drop (j * 32) = L0.drop (j * 32)
  low : Below B w wr
  up : w.heap.size ≤ wr.heap.size
theorem DelRel.row {p : List UInt8 → Bool} {l : List (List UInt8)} {L0 L : List Value} {j : Nat} {h : List UInt8} {t : TypeId} {w : World} {g : Nat} (hb : Blk w g t L.toArray) (hl : All32 l) (h0 : L0.take (l.length * 32) = rowsOf l) (hd : L.drop (j * 32) = L0.drop (j * 32)) (hj : l[j]? = some h) :
    w.rangeAt g (j * 32) (h.map bv) := fun q v hv => by
  have hjl := (List.getElem?_eq_some_iff.1 hj).1
  have hx32 := hl h (List.mem_of_getElem? hj)
  have hq : q < 32 := by
    have := (List.getElem?_eq_some_iff.1 hv).1
    simpa [hx32] using this
  have h1 := rowsOf_get hl hj hq
  rw [hv, ← h0, List.getElem?_take, if_pos (by omega)] at h1
  have h2 : L[j * 32 + q]? = L0[j * 32 + q]? := by rw [← List.getElem?_drop, hd, List.getElem?_drop]
  rw [hb.cell]
  simpa using h2.trans h1

theorem take_put {α : Type} (L : List α) (r : List α) (i s : Nat) (hi : i + s ≤ L.length) (hr : r.length = s) : (L.take i ++ r ++ L.drop (i + s)).take (i + s) = L.take i ++ r := by
  rw [List.take_append_of_le_length (by simp; omega)]
  exact List.take_of_length_le (by simp; omega)
theorem drop_put {α : Type} (L : List α) (r : List α) (i s k : Nat) (hi : i + s ≤ L.length) (hr : r.length = s) (hk : i + s ≤ k) : (L.take i ++ r ++ L.drop (i + s)).drop k = L.drop k := by
  rw [List.drop_append, List.drop_eq_nil_of_le (by simp; omega), List.nil_append, List.drop_drop]
  congr 1
  simp; omega
theorem len_put {α : Type} (L : List α) (r : List α) (i s : Nat) (hi : i + s ≤ L.length) (hr : r.length = s) : (L.take i ++ r ++ L.drop (i + s)).length = L.length := by simp; omega

/-- A list of names in memory, and nothing below B has turned. -/
def HashesAt (l : List (List UInt8)) (B : Nat) (w : World) (e : Ending) (w' : World) : Prop := ∃ A c, e = .returned (.slice A l.length c) ∧ IsHashes w' w'.heap.size A l ∧ Below B w w' ∧ w.heap.size ≤ w'.heap.size

set_option maxHeartbeats 1000000 in
set_option maxRecDepth 20000 in
theorem deleteFunc_calls (f : List UInt8) (hf : f.length = 64) (l : List (List UInt8)) (A : Option Addr) (c B : Nat) (w : World) (hB : B ≤ w.heap.size) (hown : w.ownsRow B 29 32 (.slice A l.length c) l.length (rowsOf l)) (hl : All32 l) (hn : l.length ≤ 1048576) :
    Calls Try.prog 52 #[.slice A l.length c, hasV f] w (HashesAt (lacksL (hasB f) l) B w) := by
  have HI := hide (IsHashes.of_own hown hl)
  have HL := hide hf
  have HA := hide hl
  have HB0 := hide hB
  have HO := hide hown
  clear hf hl hB
  have hKs : ∀ (x : Array Value) W, (callFunc 23 x).run Try.prog W = .ok (.enter 23 x) W := fun _ _ => by kernel_rfl
  have HK := hide hKs
  clear hKs
  by_cases hall : ∀ x ∈ l, hasB f x = false
  · have HAL := hide hall
    clear hall hown
    go_enter Try.func52, Try.ntmps52
    go_wp2_with fail
    refine (indexFunc_calls f HL.out l A c _ HI.out (by omega)).mono ?_
    rintro e w1 ⟨hi, hb⟩
    rcases hi with ⟨k, hk, _, hp, _⟩ | ⟨rfl, _⟩
    · rw [HAL.out _ (List.getElem_mem _)] at hp; cases hp
    · have HB1 := hide hb
      clear hb
      go_wp2
      go_ret
      have e : lacksL (hasB f) l = l := List.filter_eq_self.2 fun x hx => by simp [HAL.out x hx]
      exact ⟨A, c, by rw [e]; rfl, by rw [e]; exact HI.out.more HB1.out, HB1.out.mono HB0.out, HB1.out.size⟩
  · have hl0 : 0 < l.length := by
      rcases Nat.eq_zero_or_pos l.length with h | h
      · exfalso; exact hall fun x hx => by rw [List.eq_nil_of_length_eq_zero h] at hx; cases hx
      · exact h
    obtain ⟨g, cap, cur, hv, hBg, hblk, hnc, hcm, hcs, hcur⟩ : ∃ g cap cur, Value.slice A l.length c = .slice (some ⟨g, 0, none⟩) l.length cap ∧ B ≤ g ∧ w.heap[g]? = some (.cells cur 29 (0, 0)) ∧ l.length ≤ cap ∧ cap ≤ maxLen ∧ cur.size = cap * 32 ∧ cur.toList.take (l.length * 32) = rowsOf l := by
      rcases hown.2 with ⟨_, h⟩ | h
      · omega
      · exact h
    obtain ⟨rfl, rfl⟩ : A = some ⟨g, 0, none⟩ ∧ c = cap := by injection hv with h1 _ h3; exact ⟨h1, h3⟩
    have HG := hide (show Blk w g 29 cur.toList.toArray by simpa [Blk] using hblk)
    have hLl : cur.toList.length = c * 32 := by simpa using hcs
    generalize cur.toList = L0 at *
    have HX := hide (And.intro hall (And.intro hcur hLl))
    have HBg := hide hBg
    have hgs := HG.out.lt
    clear hall hcur hLl hblk hv hcs hown hBg HO cur
    unfold maxLen at hcm
    go_enter Try.func52, Try.ntmps52
    go_wp2_with fail
    refine (indexFunc_calls f HL.out l _ c _ HI.out (by omega)).mono ?_
    rintro e w1 ⟨hi, hb⟩
    rcases hi with ⟨k, hk, rfl, hp, hr⟩ | ⟨_, hno⟩
    case inr => exact absurd hno HX.out.1
    have hlk : lacksL (hasB f) (l.take (k + 1)) = l.take k := by
      rw [lacks_snoc (hasB f) l k hk, hp, if_pos rfl, List.append_nil]
      refine List.filter_eq_self.2 fun x hx => ?_
      obtain ⟨r, hr', rfl⟩ := List.getElem_of_mem hx
      rw [List.length_take] at hr'
      rw [List.getElem_take, hr r (by omega)]; rfl
    have hR0 : DelRel (hasB f) l L0 w B g (k + 1) (.int .i64 k) (.int .i64 ((k : Int) + 1)) w1 := by
      refine ⟨by rw [hlk, List.length_take, Nat.min_eq_left (by omega)], rfl, by omega, by rw [hlk, List.length_take]; omega, ⟨L0, HG.out.below hb hgs, rfl, ?_, rfl⟩, hb.mono HB0.out, hb.size⟩
      rw [hlk, List.length_take, Nat.min_eq_left (by omega)]
      have := congrArg (List.take (k * 32)) HX.out.2.1
      rw [List.take_take, Nat.min_eq_left (by omega)] at this
      rw [this]
      have e : rowsOf l = rowsOf (l.take k) ++ rowsOf (l.drop k) := by rw [← rowsOf_append, List.take_append_drop]
      have hlen : (rowsOf (l.take k)).length = k * 32 := by rw [rowsOf_length fun x hx => HA.out x (List.mem_of_mem_take hx), List.length_take, Nat.min_eq_left (by omega)]
      rw [e, List.take_append_of_le_length (by omega), List.take_of_length_le (by omega)]
    have HR0 := hide hR0
    clear hp hr hlk hb hR0
    have hk1 : ((k : Int) == -1) = false := by simp
    go_wp2_with fail
    go_loopw [5, 6] (fun iv jv wr => ∃ j : Nat, DelRel (hasB f) l L0 w B g j iv jv wr) (fun _ i _ => l.length - (intOf i).toNat)
    case atStart => exact ⟨k + 1, HR0.out⟩
    case round =>
      clear HR0 hk hk1
      obtain ⟨j, rfl, rfl, hj, hlt0, hblk, hlow, hup⟩ := hrel
      obtain ⟨L, hb, hll, htk, hdr⟩ := hblk
      obtain ⟨wo, rfl⟩ : ∃ wo : World, wo = wr := ⟨_, rfl⟩
      have KB := hide hb
      have KX := hide (And.intro hll (And.intro htk hdr))
      have KL := hide hlow
      have hKu := hup
      have hBw : B ≤ wo.heap.size := Nat.le_trans HB0.out hKu
      clear hb hll htk hdr hlow hup
      by_cases hjl : j < l.length
      · have HJ := hide (HA.out l[j] (List.getElem_mem _))
        have HRW := hide (DelRel.row (p := hasB f) KB.out HA.out HX.out.2.1 KX.out.2.2 (List.getElem?_eq_getElem hjl))
        have HS := hide (lacks_snoc (hasB f) l j hjl)
        have hih := info_hash l[j] HJ.out
        have HLA := hide (lacks_all (p := hasB f) (l := l.take j) fun x hx => HA.out x (List.mem_of_mem_take hx))
        generalize lacksL (hasB f) (l.take j) = M at *
        generalize l[j] = h at *
        go_wp2_with (first
          | (refine wpList_load_mid rfl 29 _ rfl g (j * 32) rfl (h.map bv) _ HRW.out rfl rfl hih ?_)
          | (refine wpList_store_blk rfl 29 _ _ rfl _ rfl (FB (h)) rfl _ _ (Blk.new _ _ _) (by rw [fb_size, HJ.out]; rfl) (fb_info (by kernel_rfl) (HJ.out)) (fb_one _) ?_; intro w6 hb6 hf6; have HB6 := hide hb6; have HF6 := hide hf6; clear hb6 hf6)
          | (refine wpList_load_blk rfl 29 _ rfl _ rfl _ _ (HB6.out) _ rfl rfl (fb_info (by kernel_rfl) (HJ.out)) ?_)
          | fail)
        have q6 : Fr (fun k => k = wo.heap.size) wo w6 := ((Fr.refl (fun k => k = wo.heap.size) wo).alloc _).trans (HF6.out.mono fun _ _ h => .inl h)
        refine (has_calls _ _ f h rfl rfl HL.out HJ.out _).mono ?_
        rintro e w7 ⟨rfl, hb7⟩
        have KB7 := hide ((KB.out.fr q6 (by have := KB.out.lt; omega)).below hb7 (by have := KB.out.lt; have := q6.size; omega))
        have KL7 := hide (KL.out.trans ((q6.below (by omega) (fun x hx h => by omega)).trans (hb7.mono (by have := q6.size; omega))) : Below B w w7)
        have hu7 : w.heap.size ≤ w7.heap.size := by have := q6.size; have := hb7.size; omega
        have H67 := hide (HB6.out.below hb7 HB6.out.lt)
        clear hb7 q6 HB6 HF6 KB HRW
        cases hx : hasB f h
        · have HXX := hide hx
          clear hx
          have hM : M.length < l.length := by omega
          go_wp2_with (first
            | (refine wpList_load_blk rfl 29 _ rfl _ rfl _ _ (H67.out) _ rfl rfl (fb_info (by kernel_rfl) (HJ.out)) ?_)
            | (refine wpList_store_row rfl 29 _ _ rfl g (M.length * 32) rfl h rfl 29 L KB7.out (by rw [HJ.out, KX.out.1, HX.out.2.2]; omega) (fb_info (by kernel_rfl) HJ.out) ?_; intro w8 hb8 hf8; have HB8 := hide hb8; have HF8 := hide hf8; clear hb8 hf8)
            | fail)
          have e1 : lacksL (hasB f) (l.take (j + 1)) = M ++ [h] := by rw [HS.out, HXX.out]; simp
          have hlenL : M.length * 32 + 32 ≤ L.length := by rw [KX.out.1, HX.out.2.2]; omega
          have hb8 := HB8.out
          rw [HJ.out] at hb8
          refine ⟨⟨j + 1, by rw [e1]; simp, by go_num, by omega, by rw [e1]; simp; omega, ⟨_, hb8, by rw [len_put L _ _ _ hlenL (by simp [HJ.out])]; exact KX.out.1, ?_, ?_⟩, KL7.out.trans (HF8.out.below (Nat.le_trans HB0.out hu7) fun x hx h => by have := HBg.out; omega), by have := HF8.out.size; omega⟩, by simp [intOf]; omega⟩
          · rw [e1, List.length_append, List.length_singleton, Nat.add_mul, Nat.one_mul, take_put L _ _ _ hlenL (by simp [HJ.out]), KX.out.2.1, rowsOf_append]
            simp [rowsOf]
          · rw [drop_put L _ _ _ _ hlenL (by simp [HJ.out]) (by omega)]
            have := congrArg (List.drop 32) KX.out.2.2
            rw [List.drop_drop, List.drop_drop] at this
            rwa [show (j + 1) * 32 = j * 32 + 32 by omega]
        · have HXX := hide hx
          clear hx
          go_wp2_with fail
          have e1 : lacksL (hasB f) (l.take (j + 1)) = M := by rw [HS.out, HXX.out]; simp
          refine ⟨⟨j + 1, by rw [e1], by go_num, by omega, by rw [e1]; omega, ⟨L, KB7.out, KX.out.1, by rw [e1]; exact KX.out.2.1, ?_⟩, KL7.out, hu7⟩, by simp [intOf]; omega⟩
          have := congrArg (List.drop 32) KX.out.2.2
          rw [List.drop_drop, List.drop_drop] at this
          rwa [show (j + 1) * 32 = j * 32 + 32 by omega]
      · obtain rfl : j = l.length := by omega
        rw [List.take_length] at KX hlt0
        have HMA := hide (lacks_all (p := hasB f) HA.out)
        rw [List.take_length]
        generalize lacksL (hasB f) l = M at *
        obtain ⟨vs, hvl, hv1, hrun⟩ := run_clear_rows (P := Try.prog) wo 22 29 0 (.agg (FB (List.replicate 32 0))) 32 Try.underlying22 hash_zero rfl (fb_one _) g (M.length * 32) (l.length - M.length) (c - M.length) (by omega)
          (fun q hq => by rw [KB.out.cell]; have hq2 : M.length * 32 + q < L.length := (by rw [KX.out.1, HX.out.2.2]; omega); simp [hq2]) (fun q hq => KB.out.frozen _)
        have hfit : M.length * 32 + vs.length ≤ L.length := by rw [hvl, KX.out.1, HX.out.2.2]; omega
        have HBE := hide (blk_setCells g 29 vs (M.length * 32) wo L KB.out hfit)
        have HFE := hide (fr_setCells g vs (M.length * 32) wo)
        have hML : M.length * 32 ≤ L.length := by omega
        have HML := hide hML
        have hMc : M.length ≤ c := by omega
        have hMl : M.length ≤ l.length := by omega
        clear hfit hML hvl hv1
        go_wp2
        go_ret
        exact ⟨some ⟨g, 0, none⟩, c, ret_eq rfl, IsHashes.of_blk HBE.out HMA.out (by
          rw [List.append_assoc, List.take_append_of_le_length (by rw [List.length_take, Nat.min_eq_left HML.out]; exact Nat.le_refl _), List.take_take, Nat.min_self]
          exact KX.out.2.1), KL.out.trans (HFE.out.below hBw fun x hx h => by have := HBg.out; omega), Nat.le_trans hKu HFE.out.size⟩

/-- append onto a row of the call's own, at one operation of a region that draws. -/
theorem step_append_any {P : Program} {ops : Array Oper} {w : World} {o : Oper} {a : Act} {K : Act → World → Prop} {Q : Exit → Act → World → Prop} {E : Prop} (hgd : o.guard = none) (s x : Operand) (t : TypeId)
    (ho : o.op = .call { callee := .builtin .append, args := #[s, x], argTypes := #[t, t] })
    (base : Nat) (e : TypeId) (i : TypeInfo) (z : Value) (size bytes : Nat) (ht : P.underlying t = some (.slice e)) (hi : P.info? e = some i) (hz : i.zero = some z)
    (hsize : i.size = size) (hby : i.bytes = bytes) (hzs : z.cells.size = size) (hsz : 0 < size)
    (v : Value) (n : Nat) (xs : List Value) (hs : a.eval s = v) (hown : w.ownsRow base e size v n xs)
    (B : Nat) (A : Option Addr) (m c : Nat) (news : List Value) (hx : a.eval x = .slice A m c) (hr : Reads w B size A m news) (h1 : ∀ u ∈ news, u.oneCell' = true)
    (h63 : n + m ≤ maxLen) (hbytes : (n + m) * bytes ≤ 140737488355328) (hbase : base ≤ w.heap.size)
    (h : ∀ A' c' w', w'.ownsRow base e size (.slice A' (n + m) c') (n + m) (xs ++ news) → w.grownBy w' v.ownBlock → ((Value.slice A' (n + m) c').ownBlock = v.ownBlock ∨ (Value.slice A' (n + m) c').ownBlock = some w.heap.size) → K (a.put o.dst (.slice A' (n + m) c')) w') :
    if Region.wanted o (yielded ops a.tmps) = true then Oper.wp P o a w K Q else E := by
  have hw : Region.wanted o (yielded ops a.tmps) = true := by simp [Region.wanted, hgd]
  rw [if_pos hw]
  obtain ⟨A', c', w', hrun, h2, h3, h4⟩ := run_append_any (P := P) w base t o.type e i z size bytes ht hi hz hsize hby hzs hsz v n xs hown B A m c news hr h1 h63 hbytes hbase
  unfold Oper.wp execOp
  simp only [ho, resolve, invoke, builtin, Sem.run_bind, Sem.run_pure, Result.andThen_ok, List.map_toArray, List.map_cons, List.map_nil, hs, hx, hrun]
  exact h A' c' w' h2 h3 h4

set_option maxHeartbeats 1000000 in
set_option maxRecDepth 20000 in
theorem lacks_calls (cs : Array Value) (f : List UInt8) (hcs : cs = FB f) (hf : f.length = 64) (l : List (List UInt8)) (A : Option Addr) (c : Nat) (w : World) (hl : IsHashes w w.heap.size A l) (hn : l.length ≤ 1048576) :
    Calls Try.prog 26 #[.agg cs, .slice A l.length c] w (HashesAt (lacksL (hasB f) l) w.heap.size w) := by
  subst hcs
  have HI := hide hl
  have HL := hide hf
  have H2 := hide (Blk.new w 26 (FB f))
  have HW := hide ((Below.refl w.heap.size w).alloc (Nat.le_refl _) (.cells (FB f) 26))
  have hu26 := Try.underlying26
  have hi26 := info_filter f hf
  clear hl hf
  obtain ⟨i29, hi29, hz29, hs29, hb29⟩ := info_parts info_hashes
  go_enter Try.func26, Try.ntmps26
  go_upto_region 1 with fail
  refine wp_region_held_drew (S := fun w' => Below (w.heap.size + 1) (w.alloc (.cells (FB f) 26)) w') (by kernel_rfl) (Below.refl _ _).drew (fun hHeld => ?_)
  (refine takeH (i := 0) (v := .slice A l.length c) rfl rfl (by kernel_rfl) (by kernel_rfl) (by kernel_rfl) (fun _ _ _ h => h) (by rfl) (fun w hSw => by go_simp) hHeld ?_; simp only [Act.put, List.setIfInBounds_toArray, List.set_cons_zero, List.set_cons_succ])
  (refine takeH (i := 2) (v := .agg (f.map bv).toArray) rfl rfl (by kernel_rfl) (by kernel_rfl) (by kernel_rfl) (fun _ _ _ h => h) (by rfl) (fun wz hw => load_exec 26 (.tmp 2) rfl (w.heap.size) (0) rfl (f.map bv) _ ((H2.out.below hw (by omega)).range) hu26 rfl hi26) hHeld ?_; simp only [Act.put, List.setIfInBounds_toArray, List.set_cons_zero, List.set_cons_succ])
  (refine takeH (i := 3) (v := hasV f) rfl rfl (by kernel_rfl) (by kernel_rfl) (by kernel_rfl) (fun _ _ _ h => h) (by rfl) (fun w hSw => by go_simp) hHeld ?_; simp only [Act.put, List.setIfInBounds_toArray, List.set_cons_zero, List.set_cons_succ])
  (refine oneH (i := 1) rfl (by kernel_rfl) (fun K hK => ?_); refine step_append_any rfl (.const (.slice none 0 0)) (.tmp 5) 22 rfl (w.heap.size + 1) 29 i29 (.agg (FB (List.replicate 32 0))) 32 32 Try.underlying22 hi29 hz29 hs29 hb29 rfl (by decide) _ 0 [] (by rfl) (World.ownsRow_nil _ _ _ _) w.heap.size A l.length c (rowsOf l) (by rfl) (Reads.of_hashes (HI.out.below (HW.out.trans (hHeld.mono (by omega))))) (one_rows _) (by unfold maxLen; omega) (by omega) (by simp) ?_; intro Aq cq wq ownq growq lieq; have hq := hHeld.grown growq (by simp) (by simp [Value.ownBlock]); simp only [Nat.zero_add, List.nil_append] at ownq ⊢; refine hK.out _ _ (hq) (fun hHeld => ?_); clear hK K)
  (refine oneH (i := 4) rfl (by kernel_rfl) (fun K hK => ?_); go_simp; refine (deleteFunc_calls f HL.out l Aq cq (w.heap.size + 1) _ (by have := hq.size; simp at this; omega) ownq HI.out.1 hn).mono ?_; rintro e w1 ⟨A1, c1, rfl, hh1, hb1, hs1⟩; have hb2 := hq.trans hb1; refine hK.out _ _ (hb2) (fun hHeld => ?_); clear hK K)
  (refine oneH (i := 5) rfl (by kernel_rfl) (fun K hK => ?_); go_simp; refine hK.out _ _ (hb2) (fun hHeld => ?_); clear hK K)
  refine wpAnyH_done (by kernel_rfl) ?_ _
  have HB2 := hide (HW.out.trans (hb2.mono (by omega)))
  have HH1 := hide hh1
  clear hb1 hb2 hh1 growq lieq ownq hq hs1
  go_wp2
  go_ret
  exact ⟨A1, c1, rfl, HH1.out, HB2.out, HB2.out.size⟩

theorem neq_hash (f g : List UInt8) (hf : f.length = 32) (hg : g.length = 32) (w : World) : (binOp .neq 29 (.agg (FB f)) (.agg (FB g))).run Try.prog w = .ok (.bool (!decide (f = g))) w :=
  run_neq_bytes w 32 29 5 Try.underlying29 Try.underlying5 (by kernel_rfl) (by kernel_rfl) (by kernel_rfl) f g hf hg

set_option maxHeartbeats 1000000 in
set_option maxRecDepth 20000 in
theorem sameHashes_calls (a b : List (List UInt8)) (A A2 : Option Addr) (c c2 : Nat) (w : World) (ha : IsHashes w w.heap.size A a) (hb : IsHashes w w.heap.size A2 b) (h1 : a.length ≤ 140737488351232) (h2 : b.length ≤ 140737488351232) :
    Calls Try.prog 25 #[.slice A a.length c, .slice A2 b.length c2] w (Gives (.bool (decide (a = b))) w) := by
  have HA := hide ha
  have HB := hide hb
  clear ha hb
  by_cases hlen : a.length = b.length
  · have hne : ((a.length : Int) != (b.length : Int)) = false := by simp [hlen]
    have HLen := hide hlen
    clear hlen
    go_enter Try.func25, Try.ntmps25
    go_wp2_with fail
    go_loopw [5] (fun i wr => ∃ (k : Nat), i = .int .i64 k ∧ k ≤ a.length ∧ a.take k = b.take k ∧ Below w.heap.size w wr) (fun i _ => a.length - (intOf i).toNat)
    case atStart => exact ⟨0, rfl, Nat.zero_le _, by simp, Below.refl _ _⟩
    case round =>
      obtain ⟨k, rfl, hk, heq, hw⟩ := hrel
      have GW := hide hw
      have GE := hide heq
      clear hw heq
      obtain ⟨wo, rfl⟩ : ∃ wo : World, wo = wr := ⟨_, rfl⟩
      by_cases hlt : k < a.length
      · have hlt2 : k < b.length := by rw [← HLen.out]; exact hlt
        obtain ⟨x, o, rfl, hbl, hf'⟩ := (HA.out.below GW.out).2 (by omega)
        obtain ⟨x2, o2, rfl, hbl2, hf2'⟩ := (HB.out.below GW.out).2 (by omega)
        have HR := hide (hf' k _ (List.getElem?_eq_getElem hlt))
        have HR2 := hide (hf2' k _ (List.getElem?_eq_getElem hlt2))
        have HJ := HA.out.1 a[k] (List.getElem_mem _)
        have HJ2 := HB.out.1 b[k] (List.getElem_mem _)
        have hi1 := info_hash a[k] HJ
        have hi2 := info_hash b[k] HJ2
        have hu29 := Try.underlying29
        have heq := fun W => neq_hash a[k] b[k] HJ HJ2 W
        have j1 : (0 : Int) ≤ (k : Int) := by omega
        have j2 : (k : Int) < (a.length : Int) := by omega
        have j3 : (k : Int) < (b.length : Int) := by omega
        have HT : Hid (a[k] = b[k] → a.take (k + 1) = b.take (k + 1)) := hide fun e => by rw [List.take_succ_eq_append_getElem hlt, List.take_succ_eq_append_getElem hlt2, GE.out, e]
        have HD : Hid (a[k] ≠ b[k] → decide (a = b) = false) := hide fun e => by
          rw [decide_eq_false_iff_not]
          rintro rfl
          exact e rfl
        clear hf' hf2' HJ HJ2
        generalize a[k] = ak at *
        generalize b[k] = bk at *
        cases hd : decide (ak = bk)
        all_goals
          have HDD := hide hd
          rw [hd] at heq
          clear hd
          go_wp2_with fail
          refine wp_region_held_drew (S := fun w' => Below wo.heap.size wo w') (by kernel_rfl) (Below.refl _ _).drew (fun hHeld => ?_)
          (refine takeH (i := 0) (v := .slice (some ⟨x, o, none⟩) a.length c) rfl rfl (by kernel_rfl) (by kernel_rfl) (by kernel_rfl) (fun _ _ _ h => h) (by rfl) (fun w hSw => by go_simp) hHeld ?_; simp only [Act.put, List.setIfInBounds_toArray, List.set_cons_zero, List.set_cons_succ])
          (refine takeH (i := 1) (v := .int .i64 k) rfl rfl (by kernel_rfl) (by kernel_rfl) (by kernel_rfl) (fun _ _ _ h => h) (by rfl) (fun w hSw => by go_simp) hHeld ?_; simp only [Act.put, List.setIfInBounds_toArray, List.set_cons_zero, List.set_cons_succ])
          (refine takeH (i := 2) (v := .pointer (some ⟨x, o + k * 32, none⟩)) rfl rfl (by kernel_rfl) (by kernel_rfl) (by kernel_rfl) (fun _ _ _ h => h) (by rfl) (fun w hSw => by go_simp) hHeld ?_; simp only [Act.put, List.setIfInBounds_toArray, List.set_cons_zero, List.set_cons_succ])
          (refine takeH (i := 3) (v := .agg (ak.map bv).toArray) rfl rfl (by kernel_rfl) (by kernel_rfl) (by kernel_rfl) (fun _ _ _ h => h) (by rfl) (fun wz hw => load_exec 29 (.tmp 19) rfl (x) (o + k * 32) rfl (ak.map bv) _ (fun j v hv => (hw.cell (p := ⟨x, o + k * 32 + j, none⟩) (Nat.lt_of_lt_of_le hbl GW.out.size)).trans (HR.out j v hv)) hu29 rfl hi1) hHeld ?_; simp only [Act.put, List.setIfInBounds_toArray, List.set_cons_zero, List.set_cons_succ])
          (refine takeH (i := 4) (v := .slice (some ⟨x2, o2, none⟩) b.length c2) rfl rfl (by kernel_rfl) (by kernel_rfl) (by kernel_rfl) (fun _ _ _ h => h) (by rfl) (fun w hSw => by go_simp) hHeld ?_; simp only [Act.put, List.setIfInBounds_toArray, List.set_cons_zero, List.set_cons_succ])
          (refine takeH (i := 5) (v := .int .i64 k) rfl rfl (by kernel_rfl) (by kernel_rfl) (by kernel_rfl) (fun _ _ _ h => h) (by rfl) (fun w hSw => by go_simp) hHeld ?_; simp only [Act.put, List.setIfInBounds_toArray, List.set_cons_zero, List.set_cons_succ])
          (refine takeH (i := 6) (v := .pointer (some ⟨x2, o2 + k * 32, none⟩)) rfl rfl (by kernel_rfl) (by kernel_rfl) (by kernel_rfl) (fun _ _ _ h => h) (by rfl) (fun w hSw => by go_simp) hHeld ?_; simp only [Act.put, List.setIfInBounds_toArray, List.set_cons_zero, List.set_cons_succ])
          (refine takeH (i := 7) (v := .agg (bk.map bv).toArray) rfl rfl (by kernel_rfl) (by kernel_rfl) (by kernel_rfl) (fun _ _ _ h => h) (by rfl) (fun wz hw => load_exec 29 (.tmp 23) rfl (x2) (o2 + k * 32) rfl (bk.map bv) _ (fun j v hv => (hw.cell (p := ⟨x2, o2 + k * 32 + j, none⟩) (Nat.lt_of_lt_of_le hbl2 GW.out.size)).trans (HR2.out j v hv)) hu29 rfl hi2) hHeld ?_; simp only [Act.put, List.setIfInBounds_toArray, List.set_cons_zero, List.set_cons_succ])
          (refine oneH (i := 8) rfl (by kernel_rfl) (fun K hK => ?_); go_simp; refine hK.out _ _ (hHeld) (fun hHeld => ?_); clear hK K)
          refine wpAnyH_done (by kernel_rfl) ?_ _
          clear hHeld heq
        · go_wp2
          go_ret
          exact ⟨ret_eq (by rw [HD.out (of_decide_eq_false HDD.out)]; rfl), GW.out.drew⟩
        · go_wp2_with fail
          exact ⟨⟨k + 1, by go_num, by omega, HT.out (of_decide_eq_true HDD.out), GW.out.drew⟩, by simp [intOf]; omega⟩
      · obtain rfl : k = a.length := by omega
        have e : a = b := by
          have := GE.out
          rw [List.take_length] at this
          rw [this]
          exact List.take_of_length_le (by rw [← HLen.out]; exact Nat.le_refl _)
        have HE := hide e
        clear e
        go_wp2
        go_ret
        exact ⟨ret_eq (by rw [decide_eq_true HE.out]; rfl), GW.out⟩
  · have hne : ((a.length : Int) != (b.length : Int)) = true := by simp; omega
    have HD : Hid (decide (a = b) = false) := hide (decide_eq_false fun e => hlen (by rw [e]))
    clear hlen
    go_enter Try.func25, Try.ntmps25
    go_wp2
    go_ret
    exact ⟨ret_eq (by rw [HD.out]; rfl), Below.refl _ _⟩
end Go.Proofs.Ytidohbnmkogkmaa
