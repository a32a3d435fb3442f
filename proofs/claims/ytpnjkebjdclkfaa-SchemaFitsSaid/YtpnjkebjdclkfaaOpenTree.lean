/- How schemas that came in read. Conditions: none. -/
import Derived.Test.YtpnjkebjdclkfaaOpenRows
import Derived.Test.YtpnjkebjdclkfaaTree
import Derived.Deep.Strs
import Derived.Test.YtpnjkebjdclkfaaSchB
namespace Go.Proofs.Ytpnjkebjdclkfaa
open Go.ChangeShapes Go.WideShapes Go.ChangeAt Go.RowKit Go.Deep Go.Joins
section
variable {H : Type} {enc : TypeId × Value → H} {P : Program} {w : World}

theorem sv_of (s : ByteArray) : Value.string s = sv s.data.toList := by
  unfold sv strB
  cases s with
  | mk d => simp
/-- The rows of a slice, where the reading of an element is a smaller one. -/
theorem open_rows_sz {α : Type} {t e : TypeId} {size bytes : Nat} (ht : P.underlying t = some (.slice e)) (hc : P.cellsOf e = size) (hs0 : 0 < size) (hby : P.bytesOf e = bytes) (hb0 : 0 < bytes) (R : Nat → Nat → α → Prop)
    {fuel : Nat} {cs : List Value} {x : DataW H × List MemPlace}
    (elem : ∀ (fuel : Nat) (cs : List Value) (y : DataW H × List MemPlace) (b o : Nat), SizeOf.sizeOf y.1 < SizeOf.sizeOf x.1 → b < w.heap.size → DataW.trod enc P w 0 (fun _ => true) true fuel e cs = some y → Sized P e y.1 → cs.length = size → (∀ j u, cs[j]? = some u → w.cell? ⟨b, o + j, none⟩ = some u) → ∃ d, R b o d)
    (h : DataW.trod enc P w 0 (fun _ => true) true fuel t cs = some x) (hs : Sized P t x.1) :
    ∃ (A : Option Addr) (c : Nat) (l : List α), cs = [.slice A l.length c] ∧ l.length ≤ c ∧ IsRows w.heap.size size R A l ∧ c * bytes ≤ 140737488351232 := by
  rcases open_slice ht h with ⟨hcs, rfl⟩ | ⟨a, len, cap, m, n, D, Pl, hcs, _, hl, hm, hmm, rfl, hel⟩
  · exact ⟨none, 0, [], hcs, Nat.le_refl _, fun h => absurd h (by simp), by omega⟩
  · simp only [if_true] at hmm
    subst hmm
    have hb := sized_len ht hs
    rw [hby] at hb
    simp only [List.length_map, List.length_range] at hb
    rw [show len + (m - len) = m by omega] at hb
    rw [hc] at hel
    rcases Nat.eq_zero_or_pos len with h0 | h0
    · subst h0
      exact ⟨some a, m, [], hcs, Nat.zero_le _, fun h => absurd h (by simp), hb⟩
    obtain ⟨b, o, rfl, hbl⟩ : ∃ b o, a = ⟨b, o, none⟩ ∧ b < w.heap.size := by
      obtain ⟨cs', h1, _⟩ := hel 0 (by omega)
      exact plain_of_cells hs0 h1
    have key : ∀ i, i < len → ∃ y : α, R b (o + i * size) y := by
      intro i hi
      obtain ⟨cs', h1, h2⟩ := hel i (by omega)
      obtain ⟨hlen, hcell⟩ := cells_at h1
      have hmem : D i ∈ (List.range len).map D := List.mem_map.2 ⟨i, by simpa using hi, rfl⟩
      have hsz : SizeOf.sizeOf (D i) < SizeOf.sizeOf (DataW.slice ((List.range len).map D) ((List.range (m - len)).map fun j => D (len + j))) := by
        have := List.sizeOf_lt_of_mem hmem
        simp only [DataW.slice.sizeOf_spec]
        omega
      exact elem _ _ _ b (o + i * size) hsz hbl h2 (sized_elem ht hs hmem) hlen hcell
    haveI : Inhabited α := ⟨Classical.choose (key 0 h0)⟩
    obtain ⟨f, hf⟩ := choose_lt key
    have hlen : ((List.range len).map f).length = len := by simp
    refine ⟨some ⟨b, o, none⟩, m, (List.range len).map f, by rw [hlen]; exact hcs, by rw [hlen]; exact hl, fun _ => ⟨b, o, rfl, hbl, fun i d hd => ?_⟩, hb⟩
    have hi : i < len := by
      have := (List.getElem?_eq_some_iff.1 hd).1
      simpa using this
    simp [hi] at hd
    subst hd
    exact hf i hi

/-- A slice of strings. -/
theorem open_strings {t e : TypeId} {fuel : Nat} {cs : List Value} {x : DataW H × List MemPlace} (ht : P.underlying t = some (.slice e)) (he : P.underlying e = some .string) (hc : P.cellsOf e = 1) (hby : P.bytesOf e = 16)
    (h : DataW.trod enc P w 0 (fun _ => true) true fuel t cs = some x) (hs : Sized P t x.1) :
    ∃ (A : Option Addr) (c : Nat) (l : List Str), cs = [.slice A l.length c] ∧ RF w (· < w.heap.size) 1 A l.length (l.map sv) ∧ (∀ s ∈ l, s.length ≤ maxLen) ∧ l.length ≤ c ∧ l.length ≤ 140737488351232 := by
  obtain ⟨A, c, l, rfl, hlc, hr, hb⟩ := open_rows_sz (α := Str) ht hc (by omega) hby (by omega) (fun b o s => s.length ≤ maxLen ∧ w.cell? ⟨b, o, none⟩ = some (sv s)) (fun fuel cs y b o _ _ hy _ hlen hcell => by
    obtain ⟨s, rfl, _, hsz⟩ := DataW.trod_string he hy
    refine ⟨s.data.toList, by simpa using hsz, ?_⟩
    rw [← sv_of]
    exact hcell 0 _ rfl) h hs
  refine ⟨A, c, l, rfl, ⟨by simp, fun h0 => ?_⟩, fun s hsm => ?_, hlc, by omega⟩
  · obtain ⟨b, o, e, hbl, hf⟩ := hr h0
    refine ⟨b, o, e, hbl, fun j u hu => ?_⟩
    rw [List.getElem?_map] at hu
    cases hj : l[j]? with
    | none => rw [hj] at hu; cases hu
    | some s =>
      rw [hj] at hu
      have := (hf j s hj).2
      rw [Nat.mul_one] at this
      rw [this]
      exact hu
  · obtain ⟨i, hi, rfl⟩ := List.getElem_of_mem hsm
    obtain ⟨b, o, _, _, hf⟩ := hr (by omega)
    exact (hf i _ (List.getElem?_eq_getElem hi)).1
theorem i64_of {n : Int} (h : (Lit.int .i64 n).wf = true) : I64 n := by
  have := bounds_i64 h
  first
    | exact this
    | (unfold I64; omega)
    | (unfold I64; exact h)
end
section
variable {H : Type} {enc : TypeId × Value → H} {w : World}
set_option maxRecDepth 20000 in
/-- A schema's cells. -/
theorem open_schema_trod : ∀ (n fuel : Nat) (cs : List Value) (x : DataW H × List MemPlace), SizeOf.sizeOf x.1 < n → DataW.trod enc Try.prog w 0 (fun _ => true) true fuel 25 cs = some x → Sized Try.prog 25 x.1 → ∃ s, IsSch w (· < w.heap.size) s cs
  | 0, _, _, _, h, _, _ => absurd h (by omega)
  | n + 1, fuel, cs, x, hn, h, hs => by
    obtain ⟨y0, y1, y2, m, rfl, hl, g0, g1, g2⟩ := trod_struct3 Try.underlying25 h
    have k0 : Try.prog.cellsOf 3 = 1 := by kernel_rfl
    have k1 : Try.prog.cellsOf 22 = 1 := by kernel_rfl
    have k2 : Try.prog.cellsOf 23 = 1 := by kernel_rfl
    have k3 : Try.prog.cellsOf 25 = 3 := by kernel_rfl
    rw [k3] at hl
    match cs, hl with
    | [x0, x1, x2], _ =>
      simp only [k0, k1, k2] at g0 g1 g2
      obtain ⟨q0, e0, _, w0⟩ := DataW.trod_int Try.underlying3 g0
      obtain ⟨A1, c1, l1, e1, r1, z1, c1l, m1⟩ := open_strings Try.underlying22 Try.underlying9 (by kernel_rfl) (by kernel_rfl) g1 (sized_each Try.underlying25 hs (j := 1) rfl rfl)
      have hsz2 : SizeOf.sizeOf y2.1 < SizeOf.sizeOf (DataW.agg [y0.1, y1.1, y2.1]) := by
        have := List.sizeOf_lt_of_mem (show y2.1 ∈ [y0.1, y1.1, y2.1] by simp)
        simp only [DataW.agg.sizeOf_spec]
        omega
      obtain ⟨A2, c2, l2, e2, c2l, r2, m2⟩ := open_rows_sz (α := DSch × List Value) (size := 3) (bytes := 56) Try.underlying23 (by kernel_rfl) (by omega) (by kernel_rfl) (by omega)
        (fun b o d => IsSch w (· < w.heap.size) d.1 d.2 ∧ w.rangeAt b o d.2) (fun fuel' cs' y b o hlt hb hy hsy hlen hcell => by
          obtain ⟨s, hsch⟩ := open_schema_trod n fuel' cs' y (by simp only at hn; omega) hy hsy
          exact ⟨(s, cs'), hsch, hcell⟩) g2 (sized_each Try.underlying25 hs (j := 2) rfl rfl)
      simp at e0 e1 e2
      subst e0 e1 e2
      rcases Nat.eq_zero_or_pos l2.length with h0 | h0
      · have : l2 = [] := List.eq_nil_of_length_eq_zero h0
        subst this
        exact ⟨.mk q0 l1 [], .mk (b := 0) (o := 0) (C := fun _ => []) (i64_of w0) r1 z1 c1l m1 (fun h => absurd h (by simp)) (fun i p hp => by simp at hp) (fun i p hp => by simp at hp) (Nat.zero_le _) (Nat.zero_le _)⟩
      · obtain ⟨b, o, e, hb, hf⟩ := r2 h0
        refine ⟨.mk q0 l1 (l2.map (·.1)), ?_⟩
        have hlen : (l2.map (·.1)).length = l2.length := by simp
        have hget : ∀ (i : Nat) (p : DSch), (l2.map (·.1))[i]? = some p → ∃ C, l2[i]? = some (p, C) := by
          intro i p hp
          rw [List.getElem?_map] at hp
          cases hi : l2[i]? with
          | none => rw [hi] at hp; cases hp
          | some d =>
            rw [hi] at hp
            obtain ⟨d1, d2⟩ := d
            simp at hp
            exact ⟨d2, by rw [hp]⟩
        rw [← hlen]
        refine .mk (b := b) (o := o) (C := fun i => (l2.getD i (.mk 0 [] [], [])).2) (i64_of w0) r1 z1 c1l m1 (fun _ => ⟨e, hb⟩) (fun i p hp => ?_) (fun i p hp => ?_) (by rw [hlen]; exact c2l) (by rw [hlen]; omega)
        · obtain ⟨C, hC⟩ := hget i p hp
          have h1 := hf i _ hC
          have e : (l2.getD i (.mk 0 [] [], [])).2 = C := by simp [List.getD, hC]
          rw [e]
          exact ⟨h1.1.length, h1.2⟩
        · obtain ⟨C, hC⟩ := hget i p hp
          have h1 := hf i _ hC
          have e : (l2.getD i (.mk 0 [] [], [])).2 = C := by simp [List.getD, hC]
          rw [e]
          exact h1.1
set_option maxRecDepth 20000 in
theorem open_schema {v : Value} {d : DataW H} {p : List MemPlace} {W : World} {base : Nat} (h : DataW.Trod enc Try.prog w 0 (fun _ => true) true 25 v d p) (hs : Sized Try.prog 25 d) (hk : Value.okWide Try.prog W .any base 25 v) :
    ∃ (s : DSch) (cs : List Value), v = .agg cs.toArray ∧ IsSch w (· < w.heap.size) s cs := by
  have : ∃ cs : Array Value, v = .agg cs := by
    simp only [Value.okWide, Try.underlying25] at hk
    obtain ⟨cs, h1, _⟩ := hk
    exact ⟨cs, h1⟩
  obtain ⟨cs, rfl⟩ := this
  obtain ⟨fuel, h⟩ := h
  obtain ⟨s, hs⟩ := open_schema_trod _ fuel _ (d, p) (Nat.lt_succ_self _) h hs
  exact ⟨s, cs.toList, by simp, by simpa [Value.cells] using hs⟩
end
end Go.Proofs.Ytpnjkebjdclkfaa
