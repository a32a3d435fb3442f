/- How slices of anything read that came in: element by element; arrays of bytes; lists of names. Conditions: none. -/
import Derived.Test.YtpnjkebjdclkfaaOpen
import Derived.WideKeyArr2
import Derived.Deep.Slices
namespace Go.Proofs.Ytpnjkebjdclkfaa
open Go.ChangeShapes Go.WideShapes Go.ChangeAt Go.RowKit Go.Deep Go.Joins
section
variable {H : Type} {enc : TypeId × Value → H} {P : Program} {w : World}

/-- The rows of a slice: each reads as R says. -/
def IsRows {α : Type} (B size : Nat) (R : Nat → Nat → α → Prop) (A : Option Addr) (l : List α) : Prop :=
  0 < l.length → ∃ b o, A = some ⟨b, o, none⟩ ∧ b < B ∧ ∀ (i : Nat) (d : α), l[i]? = some d → R b (o + i * size) d

theorem open_rows_trod {α : Type} {t e : TypeId} {size bytes : Nat} (ht : P.underlying t = some (.slice e)) (hc : P.cellsOf e = size) (hs0 : 0 < size) (hby : P.bytesOf e = bytes) (hb0 : 0 < bytes) (R : Nat → Nat → α → Prop)
    (elem : ∀ (fuel : Nat) (cs : List Value) (x : DataW H × List MemPlace) (b o : Nat), b < w.heap.size → DataW.trod enc P w 0 (fun _ => true) true fuel e cs = some x → Sized P e x.1 → cs.length = size → (∀ j u, cs[j]? = some u → w.cell? ⟨b, o + j, none⟩ = some u) → ∃ d, R b o d)
    {fuel : Nat} {cs : List Value} {x : DataW H × List MemPlace} (h : DataW.trod enc P w 0 (fun _ => true) true fuel t cs = some x) (hs : Sized P t x.1) :
    ∃ (A : Option Addr) (c : Nat) (l : List α), cs = [.slice A l.length c] ∧ l.length ≤ c ∧ IsRows w.heap.size size R A l ∧ c * bytes ≤ 140737488351232 := by
  rcases open_slice ht h with ⟨hcs, rfl⟩ | ⟨a, len, cap, m, n, D, Pl, hcs, _, hl, hm, hmm, rfl, hel⟩
  · exact ⟨none, 0, [], hcs, Nat.le_refl _, fun h => absurd h (by simp), by omega⟩
  · simp only [if_true] at hmm
    subst hmm
    have hb := sized_len ht hs
    rw [hby] at hb
    simp only [List.length_map, List.length_range] at hb
    rw [show len + (m - len) = m by omega] at hb
    rw [hc] at hel
    rcases Nat.eq_zero_or_pos len with h0 | h0
    · subst h0
      exact ⟨some a, m, [], hcs, Nat.zero_le _, fun h => absurd h (by simp), hb⟩
    obtain ⟨b, o, rfl, hbl⟩ : ∃ b o, a = ⟨b, o, none⟩ ∧ b < w.heap.size := by
      obtain ⟨cs', h1, _⟩ := hel 0 (by omega)
      exact plain_of_cells hs0 h1
    have key : ∀ i, i < len → ∃ y : α, R b (o + i * size) y := by
      intro i hi
      obtain ⟨cs', h1, h2⟩ := hel i (by omega)
      obtain ⟨hlen, hcell⟩ := cells_at h1
      exact elem _ _ _ b (o + i * size) hbl h2 (sized_elem ht hs (List.mem_map.2 ⟨i, by simpa using hi, rfl⟩)) hlen hcell
    haveI : Inhabited α := ⟨Classical.choose (key 0 h0)⟩
    obtain ⟨f, hf⟩ := choose_lt key
    have hlen : ((List.range len).map f).length = len := by simp
    refine ⟨some ⟨b, o, none⟩, m, (List.range len).map f, by rw [hlen]; exact hcs, by rw [hlen]; exact hl, fun _ => ⟨b, o, rfl, hbl, fun i d hd => ?_⟩, hb⟩
    have hi : i < len := by
      have := (List.getElem?_eq_some_iff.1 hd).1
      simpa using this
    simp [hi] at hd
    subst hd
    exact hf i hi

theorem open_rows {α : Type} {t e : TypeId} {size bytes : Nat} (ht : P.underlying t = some (.slice e)) (hc : P.cellsOf e = size) (hs0 : 0 < size) (hby : P.bytesOf e = bytes) (hb0 : 0 < bytes) (R : Nat → Nat → α → Prop)
    (elem : ∀ (fuel : Nat) (cs : List Value) (x : DataW H × List MemPlace) (b o : Nat), b < w.heap.size → DataW.trod enc P w 0 (fun _ => true) true fuel e cs = some x → Sized P e x.1 → cs.length = size → (∀ j u, cs[j]? = some u → w.cell? ⟨b, o + j, none⟩ = some u) → ∃ d, R b o d)
    {v : Value} {d : DataW H} {p : List MemPlace} {W : World} {base : Nat} (h : DataW.Trod enc P w 0 (fun _ => true) true t v d p) (hs : Sized P t d) (hk : Value.okWide P W .any base t v) :
    ∃ (A : Option Addr) (c : Nat) (l : List α), v = .slice A l.length c ∧ l.length ≤ c ∧ IsRows w.heap.size size R A l ∧ c * bytes ≤ 140737488351232 := by
  obtain ⟨a, n, c, rfl⟩ := okWide_slice ht hk
  obtain ⟨fuel, h⟩ := h
  obtain ⟨A, c', l, hcs, hr⟩ := open_rows_trod ht hc hs0 hby hb0 R elem h hs
  refine ⟨A, c', l, ?_, hr⟩
  simpa [Value.cells] using hcs

/-- An array of bytes. -/
theorem open_u8array {t e : TypeId} {n fuel : Nat} {cs : List Value} {x : DataW H × List MemPlace} (ht : P.underlying t = some (.array n e)) (he : P.underlying e = some (.int .u8)) (hct : P.cellsOf t = n) (hce : P.cellsOf e = 1)
    (h : DataW.trod enc P w 0 (fun _ => true) true fuel t cs = some x) : ∃ l : List UInt8, l.length = n ∧ cs = l.map bv := by
  obtain ⟨xs, m, _, _, hlen, hxs, hel⟩ := DataW.trod_array ht h
  rw [hct] at hlen
  rw [hce] at hel
  refine ⟨(List.range n).map fun i => UInt8.ofNat (match cs[i]? with | some (Value.int _ z) => z.toNat | _ => 0), by simp, ?_⟩
  refine List.ext_getElem (by simp [hlen]) fun i h1 h2 => ?_
  have hi : i < n := by omega
  have h3 := hel i hi
  rw [Nat.mul_one, List.drop_eq_getElem_cons h1, List.take_succ_cons, List.take_zero, List.getElem?_eq_getElem (by omega)] at h3
  obtain ⟨z, hz, _, hw⟩ := DataW.trod_int he h3
  have hz' : cs[i] = .int .u8 z := by simpa using hz
  have hb := bounds_u8 hw
  rw [hz']
  simp only [List.getElem_map, List.getElem_range, List.getElem?_eq_getElem h1, hz']
  refine int_eq ?_
  simp
  omega
theorem open_u8arr {t e : TypeId} {n : Nat} {v : Value} {d : DataW H} {p : List MemPlace} {W : World} {base : Nat} (ht : P.underlying t = some (.array n e)) (he : P.underlying e = some (.int .u8)) (hct : P.cellsOf t = n) (hce : P.cellsOf e = 1)
    (h : DataW.Trod enc P w 0 (fun _ => true) true t v d p) (hk : Value.okWide P W .any base t v) : ∃ l : List UInt8, l.length = n ∧ v = .agg (l.map bv).toArray := by
  have : ∃ cs : Array Value, v = .agg cs := by
    simp only [Value.okWide, ht] at hk
    obtain ⟨cs, h1, _⟩ := hk
    exact ⟨cs, h1⟩
  obtain ⟨cs, rfl⟩ := this
  obtain ⟨fuel, h⟩ := h
  obtain ⟨l, h1, h2⟩ := open_u8array ht he hct hce h
  refine ⟨l, h1, ?_⟩
  have h3 : cs.toList = l.map bv := by simpa [Value.cells] using h2
  rw [← h3]
end
end Go.Proofs.Ytpnjkebjdclkfaa
