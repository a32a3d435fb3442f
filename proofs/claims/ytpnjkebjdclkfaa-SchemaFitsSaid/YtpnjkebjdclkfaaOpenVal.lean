/- How values that came in read. Conditions: none. -/
import Derived.Test.YtpnjkebjdclkfaaOpenTree
namespace Go.Proofs.Ytpnjkebjdclkfaa
open Go.ChangeShapes Go.WideShapes Go.ChangeAt Go.RowKit Go.Deep Go.Joins
section
variable {H : Type} {enc : TypeId × Value → H} {P : Program} {w : World}
/-- A slice of uint64s. -/
theorem open_u64s {t e : TypeId} {fuel : Nat} {cs : List Value} {x : DataW H × List MemPlace} (ht : P.underlying t = some (.slice e)) (he : P.underlying e = some (.int .u64)) (hc : P.cellsOf e = 1) (hby : P.bytesOf e = 8)
    (h : DataW.trod enc P w 0 (fun _ => true) true fuel t cs = some x) (hs : Sized P t x.1) :
    ∃ (A : Option Addr) (c : Nat) (l : List Nat), cs = [.slice A l.length c] ∧ RF w (· < w.heap.size) 1 A l.length (l.map uv) ∧ (∀ s ∈ l, U64 (s : Int)) ∧ l.length ≤ c ∧ l.length ≤ 140737488351232 := by
  obtain ⟨A, c, l, rfl, hlc, hr, hb⟩ := open_rows_sz (α := Nat) ht hc (by omega) hby (by omega) (fun b o s => U64 (s : Int) ∧ w.cell? ⟨b, o, none⟩ = some (uv s)) (fun fuel cs y b o _ _ hy _ hlen hcell => by
    obtain ⟨n, rfl, _, hw⟩ := DataW.trod_int he hy
    have hw' := hw
    have hn : 0 ≤ n := by have := bounds_u64 hw; omega
    have e : ((n.toNat : Nat) : Int) = n := Int.toNat_of_nonneg hn
    refine ⟨n.toNat, by rw [e]; exact hw', ?_⟩
    show _ = some (Value.int .u64 ((n.toNat : Nat) : Int))
    rw [e]
    exact hcell 0 _ rfl) h hs
  refine ⟨A, c, l, rfl, ⟨by simp, fun h0 => ?_⟩, fun s hsm => ?_, hlc, by omega⟩
  · obtain ⟨b, o, e, hbl, hf⟩ := hr h0
    refine ⟨b, o, e, hbl, fun j u hu => ?_⟩
    rw [List.getElem?_map] at hu
    cases hj : l[j]? with
    | none => rw [hj] at hu; cases hu
    | some s =>
      rw [hj] at hu
      have := (hf j s hj).2
      rw [Nat.mul_one] at this
      rw [this]
      exact hu
  · obtain ⟨i, hi, rfl⟩ := List.getElem_of_mem hsm
    obtain ⟨b, o, _, _, hf⟩ := hr (by omega)
    exact (hf i _ (List.getElem?_eq_getElem hi)).1
theorem trod_struct6 {t : TypeId} {f0 f1 f2 f3 f4 f5 : Field} {fuel : Nat} {cs : List Value} {x : DataW H × List MemPlace} (ht : P.underlying t = some (.struct #[f0, f1, f2, f3, f4, f5])) (h : DataW.trod enc P w 0 (fun _ => true) true fuel t cs = some x) :
    ∃ y0 y1 y2 y3 y4 y5 n, x.1 = .agg [y0.1, y1.1, y2.1, y3.1, y4.1, y5.1] ∧ cs.length = P.cellsOf t ∧ DataW.trod enc P w 0 (fun _ => true) true n f0.type ((cs.drop f0.offset).take (P.cellsOf f0.type)) = some y0 ∧
      DataW.trod enc P w 0 (fun _ => true) true n f1.type ((cs.drop f1.offset).take (P.cellsOf f1.type)) = some y1 ∧ DataW.trod enc P w 0 (fun _ => true) true n f2.type ((cs.drop f2.offset).take (P.cellsOf f2.type)) = some y2 ∧
      DataW.trod enc P w 0 (fun _ => true) true n f3.type ((cs.drop f3.offset).take (P.cellsOf f3.type)) = some y3 ∧ DataW.trod enc P w 0 (fun _ => true) true n f4.type ((cs.drop f4.offset).take (P.cellsOf f4.type)) = some y4 ∧
      DataW.trod enc P w 0 (fun _ => true) true n f5.type ((cs.drop f5.offset).take (P.cellsOf f5.type)) = some y5 := by
  obtain ⟨xs, n, _, rfl, hl, hlen, hf⟩ := DataW.trod_struct ht h
  match xs, hlen with
  | [y0, y1, y2, y3, y4, y5], _ => exact ⟨y0, y1, y2, y3, y4, y5, n, by simp, hl, by simpa using hf 0 f0 rfl, by simpa using hf 1 f1 rfl, by simpa using hf 2 f2 rfl, by simpa using hf 3 f3 rfl, by simpa using hf 4 f4 rfl, by simpa using hf 5 f5 rfl⟩
end
section
variable {H : Type} {enc : TypeId × Value → H} {w : World}
set_option maxRecDepth 20000 in
set_option maxHeartbeats 1000000 in
/-- A value's cells. -/
theorem open_value_trod : ∀ (n fuel : Nat) (cs : List Value) (x : DataW H × List MemPlace), SizeOf.sizeOf x.1 < n → DataW.trod enc Try.prog w 0 (fun _ => true) true fuel 31 cs = some x → Sized Try.prog 31 x.1 → ∃ s, IsVal w (· < w.heap.size) s cs
  | 0, _, _, _, h, _, _ => absurd h (by omega)
  | n + 1, fuel, cs, x, hn, h, hs => by
    obtain ⟨y0, y1, y2, y3, y4, y5, m, hx, hl, g0, g1, g2, g3, g4, g5⟩ := trod_struct6 Try.underlying31 h
    obtain ⟨x1, x2⟩ := x
    simp only at hx
    subst hx
    have k0 : Try.prog.cellsOf 3 = 1 := by kernel_rfl
    have k1 : Try.prog.cellsOf 9 = 1 := by kernel_rfl
    have k2 : Try.prog.cellsOf 22 = 1 := by kernel_rfl
    have k3 : Try.prog.cellsOf 28 = 1 := by kernel_rfl
    have k4 : Try.prog.cellsOf 29 = 1 := by kernel_rfl
    have k5 : Try.prog.cellsOf 31 = 6 := by kernel_rfl
    rw [k5] at hl
    match cs, hl with
    | [x0, x1, x2, x3, x4, x5], _ =>
      simp only [k0, k1, k2, k3, k4] at g0 g1 g2 g3 g4 g5
      obtain ⟨q0, e0, _, w0⟩ := DataW.trod_int Try.underlying3 g0
      obtain ⟨q1, e1, _, w1⟩ := DataW.trod_int Try.underlying3 g1
      obtain ⟨q2, e2, _, w2⟩ := DataW.trod_string Try.underlying9 g2
      obtain ⟨A3, c3, l3, e3, r3, z3, c3l, m3⟩ := open_strings Try.underlying22 Try.underlying9 (by kernel_rfl) (by kernel_rfl) g3 (sized_each Try.underlying31 hs (j := 3) rfl rfl)
      obtain ⟨A4, c4, l4, e4, r4, z4, c4l, m4⟩ := open_u64s Try.underlying28 Try.underlying52 (by kernel_rfl) (by kernel_rfl) g4 (sized_each Try.underlying31 hs (j := 4) rfl rfl)
      have hsz2 : SizeOf.sizeOf y5.1 < SizeOf.sizeOf (DataW.agg [y0.1, y1.1, y2.1, y3.1, y4.1, y5.1]) := by
        have := List.sizeOf_lt_of_mem (show y5.1 ∈ [y0.1, y1.1, y2.1, y3.1, y4.1, y5.1] by simp)
        simp only [DataW.agg.sizeOf_spec]
        omega
      obtain ⟨A2, c2, l2, e5, c2l, r2, m2⟩ := open_rows_sz (α := DVal × List Value) (size := 6) (bytes := 104) Try.underlying29 (by kernel_rfl) (by omega) (by kernel_rfl) (by omega)
        (fun b o d => IsVal w (· < w.heap.size) d.1 d.2 ∧ w.rangeAt b o d.2) (fun fuel' cs' y b o hlt hb hy hsy hlen hcell => by
          obtain ⟨s, hsch⟩ := open_value_trod n fuel' cs' y (by simp only at hn; omega) hy hsy
          exact ⟨(s, cs'), hsch, hcell⟩) g5 (sized_each Try.underlying31 hs (j := 5) rfl rfl)
      simp at e0 e1 e2 e3 e4 e5
      rw [sv_of] at e2
      subst e0 e1 e2 e3 e4 e5
      have w2' : q2.data.toList.length ≤ maxLen := by simpa using w2
      rcases Nat.eq_zero_or_pos l2.length with h0 | h0
      · have : l2 = [] := List.eq_nil_of_length_eq_zero h0
        subst this
        exact ⟨.mk q0 q1 q2.data.toList l3 l4 [], .mk (b := 0) (o := 0) (C := fun _ => []) (i64_of w0) (i64_of w1) w2' r3 z3 c3l m3 r4 z4 c4l m4 (fun h => absurd h (by simp)) (fun i p hp => by simp at hp) (fun i p hp => by simp at hp) (Nat.zero_le _) (Nat.zero_le _)⟩
      · obtain ⟨b, o, e, hb, hf⟩ := r2 h0
        refine ⟨.mk q0 q1 q2.data.toList l3 l4 (l2.map (·.1)), ?_⟩
        have hlen : (l2.map (·.1)).length = l2.length := by simp
        have hget : ∀ (i : Nat) (p : DVal), (l2.map (·.1))[i]? = some p → ∃ C, l2[i]? = some (p, C) := by
          intro i p hp
          rw [List.getElem?_map] at hp
          cases hi : l2[i]? with
          | none => rw [hi] at hp; cases hp
          | some d =>
            rw [hi] at hp
            obtain ⟨d1, d2⟩ := d
            simp at hp
            exact ⟨d2, by rw [hp]⟩
        rw [← hlen]
        refine .mk (b := b) (o := o) (C := fun i => (l2.getD i (.mk 0 0 [] [] [] [], [])).2) (i64_of w0) (i64_of w1) w2' r3 z3 c3l m3 r4 z4 c4l m4 (fun _ => ⟨e, hb⟩) (fun i p hp => ?_) (fun i p hp => ?_) (by rw [hlen]; exact c2l) (by rw [hlen]; omega)
        · obtain ⟨C, hC⟩ := hget i p hp
          have h1 := hf i _ hC
          have e : (l2.getD i (.mk 0 0 [] [] [] [], [])).2 = C := by simp [List.getD, hC]
          rw [e]
          exact ⟨h1.1.length, h1.2⟩
        · obtain ⟨C, hC⟩ := hget i p hp
          have h1 := hf i _ hC
          have e : (l2.getD i (.mk 0 0 [] [] [] [], [])).2 = C := by simp [List.getD, hC]
          rw [e]
          exact h1.1
set_option maxRecDepth 20000 in
theorem open_value {v : Value} {d : DataW H} {p : List MemPlace} {W : World} {base : Nat} (h : DataW.Trod enc Try.prog w 0 (fun _ => true) true 31 v d p) (hs : Sized Try.prog 31 d) (hk : Value.okWide Try.prog W .any base 31 v) :
    ∃ (s : DVal) (cs : List Value), v = .agg cs.toArray ∧ IsVal w (· < w.heap.size) s cs := by
  have : ∃ cs : Array Value, v = .agg cs := by
    simp only [Value.okWide, Try.underlying31] at hk
    obtain ⟨cs, h1, _⟩ := hk
    exact ⟨cs, h1⟩
  obtain ⟨cs, rfl⟩ := this
  obtain ⟨fuel, h⟩ := h
  obtain ⟨s, hs⟩ := open_value_trod _ fuel _ (d, p) (Nat.lt_succ_self _) h hs
  exact ⟨s, cs.toList, by simp, by simpa [Value.cells] using hs⟩
end
end Go.Proofs.Ytpnjkebjdclkfaa
