/- How a list of fields reads that came in. Conditions: none. -/
import Derived.Test.YtidohbnmkogkmaaOpen
import Derived.Test.YtidohbnmkogkmaaField
namespace Go.Proofs.Ytidohbnmkogkmaa
open Go.ChangeShapes Go.WideShapes Go.ChangeAt Go.RowKit Go.Deep Go.Joins
section
variable {H : Type} {enc : TypeId × Value → H} {w : World}
theorem u64_nat {n : Int} (h : (Lit.int .u64 n).wf = true) : ∃ m : Nat, n = m ∧ IsU64 m := by
  have := bounds_u64 h
  exact ⟨n.toNat, by omega, by unfold IsU64; omega⟩
theorem i64_is {n : Int} (h : (Lit.int .i64 n).wf = true) : IsI64 n := by
  have := bounds_i64 h
  unfold IsI64
  omega

theorem open_fields {v : Value} {d : DataW H} {p : List MemPlace} (h : DataW.Trod enc Try.prog w 0 (fun _ => true) true 31 v d p) (hs : Sized Try.prog 31 d)
    (hk : ∃ a n c, v = .slice a n c) :
    ∃ (A : Option Addr) (c : Nat) (fs : List DField), v = .slice A fs.length c ∧ IsFields w w.heap.size A fs ∧ fs.length ≤ 140737488351232 := by
  obtain ⟨a0, n0, c0, rfl⟩ := hk
  obtain ⟨fuel, h⟩ := h
  rcases open_slice Try.underlying31 h with ⟨hcs, hx⟩ | ⟨a, len, cap, m, n, D, Pl, hcs, _, hl, hm, hmm, hx, hel⟩
  · simp [Value.cells] at hcs
    obtain ⟨rfl, rfl, rfl⟩ := hcs
    exact ⟨none, 0, [], rfl, fun h => absurd h (by simp), by simp⟩
  · simp [Value.cells] at hcs
    obtain ⟨rfl, rfl, rfl⟩ := hcs
    simp at hmm
    subst hmm
    obtain ⟨rfl, rfl⟩ : d = _ ∧ p = _ := by simpa using hx
    have hby : Try.prog.bytesOf 39 = 48 := by kernel_rfl
    have hc4 : Try.prog.cellsOf 39 = 4 := by kernel_rfl
    have hb := sized_len Try.underlying31 hs
    rw [hby] at hb
    simp only [List.length_map, List.length_range] at hb
    rw [hc4] at hel
    rcases Nat.eq_zero_or_pos n0 with h0 | h0
    · subst h0
      exact ⟨_, _, [], rfl, fun h => absurd h (by simp), by simp⟩
    obtain ⟨b, o, rfl, hbl⟩ : ∃ b o, a = ⟨b, o, none⟩ ∧ b < w.heap.size := by
      obtain ⟨cs', h1, _⟩ := hel 0 (by omega)
      exact plain_of_cells (by omega) h1
    have key : ∀ i, i < n0 → ∃ x : DField, IsField w w.heap.size b (o + i * 4) x := by
      intro i hi
      obtain ⟨cs', h1, h2⟩ := hel i (by omega)
      obtain ⟨hlen, hcell⟩ := cells_at h1
      have hsz := sized_elem Try.underlying31 hs (d := D i) (List.mem_map.2 ⟨i, by simpa using hi, rfl⟩)
      match cs', hlen with
      | [x0, x1, x2, x3], _ =>
        obtain ⟨y0, y1, y2, y3, n', hx', _, g0, g1, g2, g3⟩ := trod_struct4 Try.underlying39 h2
        simp only [Prod.mk.injEq] at hx'
        have k1 : Try.prog.cellsOf 3 = 1 := by kernel_rfl
        have k2 : Try.prog.cellsOf 37 = 1 := by kernel_rfl
        have k3 : Try.prog.cellsOf 23 = 1 := by kernel_rfl
        rw [hx'.1] at hsz
        simp only [k1, k2, k3] at g0 g1 g2 g3
        obtain ⟨q0, e0, _, w0⟩ := DataW.trod_int Try.underlying3 g0
        obtain ⟨q1, e1, _, w1⟩ := DataW.trod_int Try.underlying37 g1
        obtain ⟨q3, e3, _, w3⟩ := DataW.trod_int Try.underlying3 g3
        obtain ⟨A, c, l, e2, hr, hlc, hc⟩ := open_bytes Try.underlying23 Try.underlying5 (by kernel_rfl) (by kernel_rfl) g2 (sized_each Try.underlying39 hsz (j := 2) rfl rfl)
        simp at e0 e1 e2 e3
        subst e0 e1 e2 e3
        obtain ⟨q1, rfl, u1⟩ := u64_nat w1
        exact ⟨⟨q0, q1, l, q3⟩, A, c, hcell 0 _ rfl, hcell 1 _ rfl, hcell 2 _ rfl, hcell 3 _ rfl, hr, hlc, by show l.length ≤ _; omega, u1, i64_is w0, i64_is w3⟩
    haveI : Inhabited DField := ⟨⟨0, 0, [], 0⟩⟩
    obtain ⟨f, hf⟩ := choose_lt key
    have hlen : ((List.range n0).map f).length = n0 := by simp
    refine ⟨some ⟨b, o, none⟩, _, (List.range n0).map f, by rw [hlen], fun _ => ⟨b, o, rfl, hbl, fun i d hd => ?_⟩, by rw [hlen]; omega⟩
    have hi : i < n0 := by
      have := (List.getElem?_eq_some_iff.1 hd).1
      simpa using this
    simp [hi] at hd
    subst hd
    exact hf i hi
end
end Go.Proofs.Ytidohbnmkogkmaa
