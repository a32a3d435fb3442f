/- Contracts of the layer bloom: what a filter lacks. Conditions: none. -/
import Derived.Test.YtidohbnmkogkmaaBloomT
import Derived.Lib.SliceRun
namespace Go.Proofs.Ytidohbnmkogkmaa
open Go.RowKit

/-- The cells of a list of names. -/
def rowsOf : List (List UInt8) → List Value
  | [] => []
  | h :: l => h.map bv ++ rowsOf l
abbrev All32 (l : List (List UInt8)) : Prop := ∀ h ∈ l, h.length = 32
theorem rowsOf_length : ∀ {l : List (List UInt8)}, All32 l → (rowsOf l).length = l.length * 32
  | [], _ => rfl
  | h :: l, hl => by
    have h1 := hl h (by simp)
    have h2 := rowsOf_length (l := l) fun x hx => hl x (by simp [hx])
    simp [rowsOf, h1, h2]; omega
theorem rowsOf_append (a b : List (List UInt8)) : rowsOf (a ++ b) = rowsOf a ++ rowsOf b := by
  induction a with
  | nil => rfl
  | cons h a ih => simp [rowsOf, ih]
theorem rowsOf_get : ∀ {l : List (List UInt8)} {i j : Nat} {h : List UInt8}, All32 l → l[i]? = some h → j < 32 → (rowsOf l)[i * 32 + j]? = (h.map bv)[j]?
  | [], i, _, _, _, hi, _ => by simp at hi
  | x :: l, 0, j, h, hl, hi, hj => by
    have e : x = h := by simpa using hi
    subst e
    have h1 := hl x (by simp)
    simp only [rowsOf]
    rw [List.getElem?_append_left (by simp; omega)]
    simp
  | x :: l, i + 1, j, h, hl, hi, hj => by
    have h1 := hl x (by simp)
    simp only [rowsOf]
    rw [List.getElem?_append_right (by simp; omega)]
    have := rowsOf_get (l := l) (i := i) (j := j) (h := h) (fun x hx => hl x (by simp [hx])) (by simpa using hi) hj
    rw [← this]
    congr 1
    simp; omega
theorem one_rows (l : List (List UInt8)) : ∀ v ∈ rowsOf l, v.oneCell' = true := by
  induction l with
  | nil => intro v hv; cases hv
  | cons h l ih =>
    intro v hv
    simp only [rowsOf, List.mem_append, List.mem_map] at hv
    rcases hv with ⟨x, _, rfl⟩ | hv
    · rfl
    · exact ih v hv
/-- The rows of a block that begins with them. -/
theorem IsHashes.of_blk {w : World} {g : Nat} {t : TypeId} {L : List Value} {l : List (List UInt8)} (hb : Blk w g t L.toArray) (hl : All32 l) (h : L.take (l.length * 32) = rowsOf l) : IsHashes w w.heap.size (some ⟨g, 0, none⟩) l :=
  ⟨hl, fun _ => ⟨g, 0, rfl, hb.lt, fun i x hx j v hv => by
    have hi := (List.getElem?_eq_some_iff.1 hx).1
    have hx32 := hl x (List.mem_of_getElem? hx)
    have hj : j < 32 := by
      have := (List.getElem?_eq_some_iff.1 hv).1
      simpa [hx32] using this
    rw [Nat.zero_add, hb.cell]
    have := rowsOf_get hl hx hj
    rw [hv, ← h, List.getElem?_take] at this
    split at this
    · simpa using this
    · cases this⟩⟩
theorem IsHashes.nil (w : World) (B : Nat) (A : Option Addr) : IsHashes w B A [] := ⟨fun _ h => (by cases h), fun h => absurd h (by simp)⟩
theorem IsHashes.of_own {w : World} {base : Nat} {e : TypeId} {A : Option Addr} {c : Nat} {l : List (List UInt8)} (h : w.ownsRow base e 32 (.slice A l.length c) l.length (rowsOf l)) (hl : All32 l) : IsHashes w w.heap.size A l := by
  rcases h.2 with ⟨_, h0⟩ | ⟨g, cap, cur, hv, _, hb, _, _, _, hc⟩
  · have : l = [] := List.eq_nil_of_length_eq_zero h0
    subst this
    exact IsHashes.nil _ _ _
  · have hA : A = some ⟨g, 0, none⟩ := by injection hv
    subst hA
    exact IsHashes.of_blk (L := cur.toList) (t := e) (by simpa [Blk] using hb) hl hc
theorem Reads.of_hashes {w : World} {B : Nat} {A : Option Addr} {l : List (List UInt8)} (h : IsHashes w B A l) : Reads w B 32 A l.length (rowsOf l) := by
  refine ⟨rowsOf_length h.1, fun h0 => ?_⟩
  obtain ⟨b, o, e, hb, hf⟩ := h.2 h0
  refine ⟨b, o, e, hb, fun j u hu => ?_⟩
  have hj : j < l.length * 32 := by rw [← rowsOf_length h.1]; exact (List.getElem?_eq_some_iff.1 hu).1
  have hi : j / 32 < l.length := by omega
  have hx := List.getElem?_eq_getElem hi
  have h1 := rowsOf_get (j := j % 32) h.1 hx (Nat.mod_lt _ (by omega))
  rw [show j / 32 * 32 + j % 32 = j by omega, hu] at h1
  have := hf _ _ hx (j % 32) u h1.symm
  rwa [show o + j / 32 * 32 + j % 32 = o + j by omega] at this
theorem info_hashes : (Try.prog.info? 29).map (fun i => (i.zero, i.size, i.bytes)) = some (some (.agg (FB (List.replicate 32 0))), 32, 32) := by kernel_rfl
theorem hash_zero (w : World) : (zeroValue 29).run Try.prog w = .ok (.agg (FB (List.replicate 32 0))) w := by kernel_rfl

/-- What is lacking, by whether each is there. -/
def lacksL (p : List UInt8 → Bool) (l : List (List UInt8)) : List (List UInt8) := l.filter fun h => !p h
theorem lacks_all {p : List UInt8 → Bool} {l : List (List UInt8)} (h : All32 l) : All32 (lacksL p l) := fun x hx => h x (List.mem_filter.1 hx).1
theorem lacks_snoc (p : List UInt8 → Bool) (l : List (List UInt8)) (k : Nat) (hk : k < l.length) : lacksL p (l.take (k + 1)) = lacksL p (l.take k) ++ if p l[k] then [] else [l[k]] := by
  rw [List.take_succ_eq_append_getElem hk, lacksL, List.filter_append]
  cases h : p l[k] <;> simp [lacksL, h]

set_option maxHeartbeats 1000000 in
set_option maxRecDepth 20000 in
theorem refLacks_calls (cs : Array Value) (f : List UInt8) (hcs : cs = FB f) (hf : f.length = 64) (l : List (List UInt8)) (A : Option Addr) (c : Nat) (w : World) (hl : IsHashes w w.heap.size A l) (hn : l.length ≤ 1048576) :
    Calls Try.prog 27 #[.agg cs, .slice A l.length c] w (NewSlice 29 32 (lacksL (hasR f) l).length (rowsOf (lacksL (hasR f) l)) w) := by
  subst hcs
  have HI := hide hl
  have HL := hide hf
  have H2 := hide (Blk.new w 25 (FB f))
  have HW := hide ((Below.refl w.heap.size w).alloc (Nat.le_refl _) (.cells (FB f) 25))
  clear hl hf
  obtain ⟨i29, hi29, hz29, hs29, hb29⟩ := info_parts info_hashes
  go_enter Try.func27, Try.ntmps27
  go_wp2_with fail
  go_loopw [5, 6] (fun v i wr => ∃ (k : Nat) (A' : Option Addr) (c' : Nat), i = .int .i64 k ∧ k ≤ l.length ∧ v = .slice A' (lacksL (hasR f) (l.take k)).length c' ∧ wr.ownsRow w.heap.size 29 32 (.slice A' (lacksL (hasR f) (l.take k)).length c') (lacksL (hasR f) (l.take k)).length (rowsOf (lacksL (hasR f) (l.take k))) ∧ (∀ b, (Value.slice A' (lacksL (hasR f) (l.take k)).length c').ownBlock = some b → b ≠ w.heap.size) ∧ Blk wr w.heap.size 25 (FB f) ∧ Below w.heap.size w wr) (fun _ i _ => l.length - (intOf i).toNat)
  case atStart => exact ⟨0, none, 0, rfl, Nat.zero_le _, rfl, World.ownsRow_nil _ _ _ _, by simp [Value.ownBlock], H2.out, HW.out⟩
  case round =>
    obtain ⟨k, A', c', rfl, hk, rfl, hown, hne, h2, hw⟩ := hrel
    obtain ⟨wo, rfl⟩ : ∃ wo : World, wo = wr := ⟨_, rfl⟩
    have HO := hide (And.intro hown hne)
    have G2 := hide h2
    have GW := hide hw
    clear hown hne h2 hw H2 HW
    by_cases hlt : k < l.length
    · obtain ⟨b, o, rfl, hbl, hf'⟩ := (HI.out.below GW.out).2 (by omega)
      have HR := hide (hf' k _ (List.getElem?_eq_getElem hlt))
      have HJ := hide (HI.out.1 l[k] (List.getElem_mem _))
      have HS := hide (lacks_snoc (hasR f) l k hlt)
      have hmm : (lacksL (hasR f) (l.take k)).length ≤ l.length := Nat.le_trans (List.length_filter_le _ _) (List.length_take_le' _ _)
      clear hf'
      generalize lacksL (hasR f) (l.take k) = M at *
      have hu25 := Try.underlying25
      have hu29 := Try.underlying29
      have hi25 : (Try.prog.info? 25).map (·.size) = some (f.map bv).length := by rw [List.length_map, HL.out]; kernel_rfl
      have hih := info_hash l[k] HJ.out
      have HS4 : Hid (∀ w', Below wo.heap.size wo w' → w'.rangeAt b (o + k * 32) (l[k].map bv)) := hide fun w' hw j v hv => (hw.cell (p := ⟨b, o + k * 32 + j, none⟩) (Nat.lt_of_lt_of_le hbl GW.out.size)).trans (HR.out j v hv)
      have j1 : (0 : Int) ≤ (k : Int) := by omega
      have j2 : (k : Int) < (l.length : Int) := by omega
      go_wp2_with fail
      refine wp_region_held_drew (S := fun w' => Below wo.heap.size wo w') (by kernel_rfl) (Below.refl _ _).drew (fun hHeld => ?_)
      (refine takeH (i := 0) (v := .agg (f.map bv).toArray) rfl rfl (by kernel_rfl) (by kernel_rfl) (by kernel_rfl) (fun _ _ _ h => h) (by rfl) (fun wz hw => load_exec 25 (.tmp 2) rfl (w.heap.size) (0) rfl (f.map bv) _ ((G2.out.below hw G2.out.lt).range) hu25 rfl hi25) hHeld ?_; simp only [Act.put, List.setIfInBounds_toArray, List.set_cons_zero, List.set_cons_succ])
      (refine takeH (i := 1) (v := .slice (some ⟨b, o, none⟩) l.length c) rfl rfl (by kernel_rfl) (by kernel_rfl) (by kernel_rfl) (fun _ _ _ h => h) (by rfl) (fun w hSw => by go_simp) hHeld ?_; simp only [Act.put, List.setIfInBounds_toArray, List.set_cons_zero, List.set_cons_succ])
      (refine takeH (i := 2) (v := .int .i64 k) rfl rfl (by kernel_rfl) (by kernel_rfl) (by kernel_rfl) (fun _ _ _ h => h) (by rfl) (fun w hSw => by go_simp) hHeld ?_; simp only [Act.put, List.setIfInBounds_toArray, List.set_cons_zero, List.set_cons_succ])
      (refine takeH (i := 3) (v := .pointer (some ⟨b, o + k * 32, none⟩)) rfl rfl (by kernel_rfl) (by kernel_rfl) (by kernel_rfl) (fun _ _ _ h => h) (by rfl) (fun w hSw => by go_simp) hHeld ?_; simp only [Act.put, List.setIfInBounds_toArray, List.set_cons_zero, List.set_cons_succ])
      (refine takeH (i := 4) (v := .agg (l[k].map bv).toArray) rfl rfl (by kernel_rfl) (by kernel_rfl) (by kernel_rfl) (fun _ _ _ h => h) (by rfl) (fun wz hw => load_exec 29 (.tmp 16) rfl (b) (o + k * 32) rfl (l[k].map bv) _ (HS4.out _ hw) hu29 rfl hih) hHeld ?_; simp only [Act.put, List.setIfInBounds_toArray, List.set_cons_zero, List.set_cons_succ])
      (refine oneH (i := 5) rfl (by kernel_rfl) (fun K hK => ?_); go_simp; refine (refHas_calls _ _ f l[k] rfl rfl HL.out HJ.out _).mono ?_; rintro e w1 ⟨rfl, hb1⟩; have hB1 := hHeld.trans (hb1.mono (by simp)); refine hK.out _ _ (hB1) (fun hHeld => ?_); clear hK K)
      (refine oneH (i := 6) rfl (by kernel_rfl) (fun K hK => ?_); go_simp; refine hK.out _ _ (hB1) (fun hHeld => ?_); clear hK K)
      refine wpAnyH_done (by kernel_rfl) ?_ _
      have K2 := hide (G2.out.below hB1 G2.out.lt)
      have KW := hide (GW.out.trans (hB1.mono GW.out.size))
      have KR := hide (HS4.out _ hB1)
      have KO := hide (own_below' HO.out.1 hB1)
      have KN := hide HO.out.2
      clear hB1 HS4 G2 GW HR HO hu25 hu29 hi25
      cases hx : hasR f l[k]
      · have HX := hide hx
        clear hx
        have HJ2 := HJ.out
        have hsm : M.length ≤ 1048576 := by omega
        go_wp2_with (first
          | (refine wpList_load_mid rfl 29 _ rfl b (o + k * 32) rfl (l[k].map bv) _ KR.out rfl rfl hih ?_)
          | (rw [foldl_zip_all _ _ (by rw [List.length_map, HJ2]; rfl)])
          | (at_builtin; refine wpList_append_any _ rfl _ _ 22 rfl _ 29 i29 (.agg (FB (List.replicate 32 0))) 32 32 Try.underlying22 hi29 hz29 hs29 hb29 rfl (by decide) _ _ _ (by rfl) (KO.out.alloc _) _ _ 1 _ _ (by rfl) (Reads.of_hashes (IsHashes.one _ 29 l[k] HJ2)) (one_rows _) (by unfold maxLen; omega) (by omega) (by have := KW.out.size; simp only [World.size_alloc]; omega) ?_; intro Aq cq wq ownq growq lieq; have HQ := hide (And.intro ownq (And.intro growq lieq)); clear ownq growq lieq)
          | fail)
        obtain ⟨ownq, growq, lieq⟩ := HQ.out
        have e1 : lacksL (hasR f) (l.take (k + 1)) = M ++ [l[k]] := by rw [HS.out, HX.out]; simp
        have eb : w.heap.size < w1.heap.size := Nat.lt_of_lt_of_le K2.out.lt (Nat.le_refl _)
        refine ⟨⟨k + 1, Aq, cq, by go_num, by omega, by rw [e1, List.length_append]; rfl, by rw [e1, rowsOf_append, List.length_append]; exact ownq, ?_, (K2.out.alloc _).grown growq (fun e => KN.out _ e.symm rfl), (KW.out.alloc KW.out.size _).grown growq (by simp; have := KW.out.size; omega) (fun b hb => (KO.out.lt b hb).1)⟩, by simp [intOf]; omega⟩
        rw [e1, List.length_append]
        intro b hb
        rcases lieq with e | e
        · exact KN.out b (e ▸ hb)
        · have := e.symm.trans hb
          simp only [World.size_alloc, Option.some.injEq] at this
          omega
      · have HX := hide hx
        clear hx
        go_wp2_with fail
        exact ⟨⟨k + 1, A', c', by go_num, by omega, by rw [HS.out, HX.out]; simp, by rw [HS.out, HX.out]; simpa using KO.out, by rw [HS.out, HX.out]; simpa using KN.out, K2.out, KW.out⟩, by simp [intOf]; omega⟩
    · obtain rfl : k = l.length := by omega
      rw [List.take_length] at HO
      go_wp2
      go_ret
      exact ⟨A', c', ret_eq (by rw [List.take_length]; rfl), HO.out.1, GW.out⟩
end Go.Proofs.Ytidohbnmkogkmaa
